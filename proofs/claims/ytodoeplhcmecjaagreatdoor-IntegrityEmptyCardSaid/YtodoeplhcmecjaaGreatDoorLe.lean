/- An instance without rows is valid for each valid schema, and one with too few tables is not: a proof over an abstract machine of our own (part Le) -/
import Derived.Test.YtodoeplhcmecjaaGreatDoorLd
import Derived.HandedShaped
import Derived.Handed
set_option linter.all false
namespace Go.Am
variable [T : Tab]
open Go.ChangeShapes Go.WideShapes Go.ChangeAt Go.RowKit
set_option linter.unusedVariables false
/-- Cells that read as data. -/
def crep (R : Rd) : List D → List Value → Prop
  | [], [] => True
  | x :: xs, v :: vs => (x.rep R v ∧ one v = true) ∧ crep R xs vs
  | _, _ => False
theorem crep_rowAt {R : Rd} {C : Nat → Value → Prop} : ∀ {xs : List D} {vs : List Value} (k : Nat), crep R xs vs → (∀ j u, vs[j]? = some u → C (k + j) u) → rowAt R C k xs
  | [], [], _, _, _ => by simp [rowAt]
  | x :: xs, v :: vs, k, h, hc => by
    simp only [crep] at h
    simp only [rowAt]
    exact ⟨⟨v, hc 0 v rfl, h.1.1⟩, crep_rowAt (k + 1) h.2 fun j u hj => by have := hc (j + 1) u (by simpa using hj); rwa [show k + (j + 1) = k + 1 + j by omega] at this⟩
  | [], _ :: _, _, h, _ => h.elim
  | _ :: _, [], _, h, _ => h.elim
section
variable {H : Type} {enc : TypeId × Value → H} {P : Program} {w : World} {base b0 : Nat} {spare : Nat → Bool} {held : Bool} {t e : TypeId} {fuel : Nat} {cs : List Value} {x : DataW H × List MemPlace}
end
/-- Is it a struct of one-cell fields of these types? -/
def structOk (P : Program) (t : TypeId) (tys : List TypeId) : Bool := match P.underlying t with
  | some (.struct fs) => fs.toList.map (·.type) == tys && P.cellsOf t == fs.size && (List.range fs.size).all fun i => match fs[i]? with | some f => f.offset == i && P.cellsOf f.type == 1 | none => true
  | _ => false
theorem crep_3 {R : Rd} {a b c : D} {c0 c1 c2 : Value} {cs : List Value} (hl : cs.length = 3) (e0 : cs[0]? = some c0) (e1 : cs[1]? = some c1) (e2 : cs[2]? = some c2) (r0 : crep R [a] [c0]) (r1 : crep R [b] [c1]) (r2 : crep R [c] [c2]) : crep R [a, b, c] cs := by
  match cs, hl with
  | [x, y, z], _ => simp at e0 e1 e2; subst e0; subst e1; subst e2; exact ⟨r0.1, r1.1, r2.1, trivial⟩
/-- A row that lists a variable, with the world's shape kept. -/
theorem returns_and_shaped {H : Type} {enc : TypeId × Value → H} {a : Assume} {C : Checked} {os : Os} {f : FuncId} {fn : Func} {s : ChangeSpec} {conds : List PathCond} {apart fresh handsOn again : Bool} {X : World → Array Value → Prop}
    (hX : ∀ (w w' : World) (args : Array Value), w.heap = w'.heap → X w args → X w' args)
    (own : ownKnob C.prog.godebug = none) (started : os.Started) (noInit : C.prog.inits.idxOf? f = none) (hfn : C.prog.funcs[f]? = some fn)
    (witness : ∃ (w : World) (tape : Tape) (i : Input), w.os = os ∧ (w.forCall tape i).Shaped C.prog ∧ i.vars = [] ∧ Input.okWide C.prog (w.forCall tape i) .any w.heap.size f i ∧
      ((s.pre enc C.prog fn conds apart (w.forCall tape i).memory i.args ∧ X (w.forCall tape i).memory i.args) ∧ sizedMet enc C.prog fn (OpenSpec.ofChange s) apart (w.forCall tape i).memory i.args) ∧ a.holds C.prog (lone (Frame.enter C.prog f i.args .normal) [] (w.forCall tape i)))
    (contract : ∀ (W : World) (base : Nat) (args : Array Value) (ds gs : List (DataW H)) (before : List MemPlace),
      (∀ (j : Nat) t v, fn.params[j]? = some t → args[j]? = some v → Value.okWide C.prog W .any base t v) →
      DataW.Whole enc C.prog fn.params.toList s.vars apart W args.toList ds gs before → X W args → W.ShapedOpen C.prog →
      Calls C.prog f args W fun e W' => ∃ v, e = .returned v ∧ s.post enc C.prog fn apart fresh handsOn again W args v W') :
    ReturnsInHanded a C os f .any (fun w args => (s.pre enc C.prog fn conds apart w args ∧ X w args) ∧ sizedMet enc C.prog fn (OpenSpec.ofChange s) apart w args) (s.post enc C.prog fn apart fresh handsOn again) := by
  refine returnsInHanded_of_calls own started noInit witness ?_
  intro w tape i _ hsh _ hok hpre hholds
  obtain ⟨_, _, _, fn', hfn', _, _, _, _, hval⟩ := hok
  have e : fn' = fn := Option.some.inj (hfn'.symm.trans hfn)
  subst e
  obtain ⟨⟨⟨ds, gs, before, hw, hc⟩, hx⟩, hz⟩ := hpre
  have hw' := DataW.Whole.of_heap (w' := w.forCall tape i) (by rfl) hw
  refine (contract (w.forCall tape i) w.heap.size i.args ds gs before hval hw' (hX _ _ _ (by rfl) hx) hsh).mono fun e W' ⟨v, he, hp⟩ => ?_
  subst he
  exact ChangeSpec.post_blind hp
end Go.Am
