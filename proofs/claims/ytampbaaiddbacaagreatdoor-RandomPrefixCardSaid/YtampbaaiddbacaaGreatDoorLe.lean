/- Instances made from a tape have few rows, as the tape says: a proof over an abstract machine of our own (part Le) -/
import Derived.Test.YtampbaaiddbacaaGreatDoorLd
import Derived.HandedShaped
import Derived.Handed
set_option linter.all false
namespace Go.Am
variable [T : Tab]
open Go.ChangeShapes Go.WideShapes Go.ChangeAt Go.RowKit
set_option linter.unusedVariables false
/-- Cells that read as data. -/
def crep (R : Rd) : List D → List Value → Prop
  | [], [] => True
  | x :: xs, v :: vs => (x.rep R v ∧ one v = true) ∧ crep R xs vs
  | _, _ => False
theorem crep_rowAt {R : Rd} {C : Nat → Value → Prop} : ∀ {xs : List D} {vs : List Value} (k : Nat), crep R xs vs → (∀ j u, vs[j]? = some u → C (k + j) u) → rowAt R C k xs
  | [], [], _, _, _ => by simp [rowAt]
  | x :: xs, v :: vs, k, h, hc => by
    simp only [crep] at h
    simp only [rowAt]
    exact ⟨⟨v, hc 0 v rfl, h.1.1⟩, crep_rowAt (k + 1) h.2 fun j u hj => by have := hc (j + 1) u (by simpa using hj); rwa [show k + (j + 1) = k + 1 + j by omega] at this⟩
  | [], _ :: _, _, h, _ => h.elim
  | _ :: _, [], _, h, _ => h.elim
section
variable {H : Type} {enc : TypeId × Value → H} {P : Program} {w : World} {base b0 : Nat} {spare : Nat → Bool} {held : Bool} {t e : TypeId} {fuel : Nat} {cs : List Value} {x : DataW H × List MemPlace}
end
/-- Is it a struct of one-cell fields of these types? -/
def structOk (P : Program) (t : TypeId) (tys : List TypeId) : Bool := match P.underlying t with
  | some (.struct fs) => fs.toList.map (·.type) == tys && P.cellsOf t == fs.size && (List.range fs.size).all fun i => match fs[i]? with | some f => f.offset == i && P.cellsOf f.type == 1 | none => true
  | _ => false
theorem crep_3 {R : Rd} {a b c : D} {c0 c1 c2 : Value} {cs : List Value} (hl : cs.length = 3) (e0 : cs[0]? = some c0) (e1 : cs[1]? = some c1) (e2 : cs[2]? = some c2) (r0 : crep R [a] [c0]) (r1 : crep R [b] [c1]) (r2 : crep R [c] [c2]) : crep R [a, b, c] cs := by
  match cs, hl with
  | [x, y, z], _ => simp at e0 e1 e2; subst e0; subst e1; subst e2; exact ⟨r0.1, r1.1, r2.1, trivial⟩
/-- A row that lists a variable, with the world's shape kept. -/
theorem returns_and_shaped {H : Type} {enc : TypeId × Value → H} {a : Assume} {C : Checked} {os : Os} {f : FuncId} {fn : Func} {s : ChangeSpec} {conds : List PathCond} {apart fresh handsOn again : Bool} {X : World → Array Value → Prop}
    (hX : ∀ (w w' : World) (args : Array Value), w.heap = w'.heap → X w args → X w' args)
    (own : ownKnob C.prog.godebug = none) (started : os.Started) (noInit : C.prog.inits.idxOf? f = none) (hfn : C.prog.funcs[f]? = some fn)
    (witness : ∃ (w : World) (tape : Tape) (i : Input), w.os = os ∧ (w.forCall tape i).Shaped C.prog ∧ i.vars = [] ∧ Input.okWide C.prog (w.forCall tape i) .any w.heap.size f i ∧
      ((s.pre enc C.prog fn conds apart (w.forCall tape i).memory i.args ∧ X (w.forCall tape i).memory i.args) ∧ sizedMet enc C.prog fn (OpenSpec.ofChange s) apart (w.forCall tape i).memory i.args) ∧ a.holds C.prog (lone (Frame.enter C.prog f i.args .normal) [] (w.forCall tape i)))
    (contract : ∀ (W : World) (base : Nat) (args : Array Value) (ds gs : List (DataW H)) (before : List MemPlace),
      (∀ (j : Nat) t v, fn.params[j]? = some t → args[j]? = some v → Value.okWide C.prog W .any base t v) →
      DataW.Whole enc C.prog fn.params.toList s.vars apart W args.toList ds gs before → X W args → W.ShapedOpen C.prog →
      Calls C.prog f args W fun e W' => ∃ v, e = .returned v ∧ s.post enc C.prog fn apart fresh handsOn again W args v W') :
    ReturnsInHanded a C os f .any (fun w args => (s.pre enc C.prog fn conds apart w args ∧ X w args) ∧ sizedMet enc C.prog fn (OpenSpec.ofChange s) apart w args) (s.post enc C.prog fn apart fresh handsOn again) := by
  refine returnsInHanded_of_calls own started noInit witness ?_
  intro w tape i _ hsh _ hok hpre hholds
  obtain ⟨_, _, _, fn', hfn', _, _, _, _, hval⟩ := hok
  have e : fn' = fn := Option.some.inj (hfn'.symm.trans hfn)
  subst e
  obtain ⟨⟨⟨ds, gs, before, hw, hc⟩, hx⟩, hz⟩ := hpre
  have hw' := DataW.Whole.of_heap (w' := w.forCall tape i) (by rfl) hw
  refine (contract (w.forCall tape i) w.heap.size i.args ds gs before hval hw' (hX _ _ _ (by rfl) hx) hsh).mono fun e W' ⟨v, he, hp⟩ => ?_
  subst he
  exact ChangeSpec.post_blind hp
end Go.Am
namespace Go.Am
variable [T : Tab]
set_option linter.unusedVariables false
theorem rowsAt_single {R : Rd} {C : Nat → Value → Prop} : ∀ (xs : List D) (k : Nat), (∀ j x, xs[j]? = some x → ∃ u, C (k + j) u ∧ x.rep R u) → rowsAt R C 1 k (xs.map fun x => [x])
  | [], _, _ => trivial
  | x :: xs, k, h => by
    refine ⟨rfl, ⟨h 0 x rfl, trivial⟩, rowsAt_single xs (k + 1) fun j y hy => ?_⟩
    have := h (j + 1) y (by simpa using hy)
    rwa [show k + (j + 1) = k + 1 + j by omega] at this
/-- A variable's cells, read as a slice, where the variable is forgotten. -/
theorem Rel.vsOut {cx : Cx} {β : Nat → Option (Option Nat)} {h : Nat → Option Ob} {w : World} (r : Rel cx β h w) (dom : Nat → Bool) (hc : ∀ o ob, dom o = true → h o = some ob → ob.closed dom = true)
    (hent : ∀ o, 1000 ≤ o → (h o).isSome = true → dom o = true) {q n : Nat} {xs : List D} (hq : h q = some (.var (xs.map .d))) (hd : dom q = false) (hn : n = xs.length) {v : Value}
    (hv : (A.vs q n).rep (envOf cx.Xo β h w) v) :
    (D.sl 1 (xs.map fun x => [x])).rep (envOf cx.Xo (fun o => if dom o then β o else none) (fun o => if dom o then h o else none) w).R v := by
  obtain ⟨_, S⟩ := r.drop dom hc hent
  simp only [A.rep] at hv
  obtain ⟨b, cs, hb, hh, rfl⟩ := hv
  have hob := r.obj q _ _ hq hb
  simp only [Ob.rep] at hob
  obtain ⟨b', c, el, e1, g2, g3, g4⟩ := hob
  cases e1
  simp only [D.rep]
  refine ⟨_, n, by rw [List.length_map, hn], by rw [List.length_map, hn]; exact Nat.le_refl _, fun e => (by cases e), fun a' ha => ?_⟩
  cases ha
  refine ⟨fun _ => rfl, rowsAt_single xs 0 fun j x hx => ?_⟩
  have hx2 : (xs.map A.d)[j]? = some (.d x) := by rw [List.getElem?_map, hx]; rfl
  obtain ⟨u, hu1, hu2⟩ := repL_get _ _ j _ g3 hx2
  simp only [A.rep] at hu2
  refine ⟨u, ⟨r.out q b _ hb, ?_, ?_⟩, D.rep_mono S.R _ _ hu2⟩
  · rintro ⟨o, ob, h1, h2, h3⟩
    by_cases hdo : dom o = true
    · simp only [hdo, if_true] at h1 h2
      have := r.inj o q b h2 hb
      rw [this, hd] at hdo
      cases hdo
    · simp [hdo] at h1
  · simp only [World.cell?, g2, Nat.zero_add]
    simpa using hu1
/-- A cell of a variable is said more exactly: with its value in sight. -/
theorem Rel.recellV {cx : Cx} {β : Nat → Option (Option Nat)} {h : Nat → Option Ob} {w : World} (r : Rel cx β h w) {o i b0 : Nat} {cs : List A} {a c : A} {v0 : Value} (ho : h o = some (.var cs)) (hi : cs[i]? = some c) (hb : β o = some (some b0)) (hv0 : w.cell? ⟨b0, i, none⟩ = some v0)
    (hac : a.rep (envOf cx.Xo β h w) v0) : Rel cx β (put h o (some (.var (cs.set i a)))) w ∧ (envOf cx.Xo β h w).Le (envOf cx.Xo β (put h o (some (.var (cs.set i a)))) w) := by
  refine r.step (Ev.refl _ _) (fun k => ?_) (fun k x hk => ?_) (fun _ _ h => .inl h) r.inj (fun b j hX => ?_) (fun k x bo h1 h2 => ?_)
  · by_cases hk : k = o
    · subst hk; rw [r.dom k, ho]; simp
    · rw [put_ne _ _ hk, r.dom k]
  · by_cases hk' : k = o
    · subst hk'
      rw [ho] at hk
      cases hk
      exact ⟨_, by simp; rfl, by simp [Ob.grow]⟩
    · exact ⟨x, by rw [put_ne _ _ hk', hk], Ob.grow_refl _ _⟩
  · obtain ⟨k, x, h1, h2, h3⟩ := hX
    by_cases hk : k = o
    · subst hk
      exact .inl ⟨k, _, ho, h2, trivial⟩
    · rw [put_ne _ _ hk] at h1; exact .inl ⟨k, x, h1, h2, h3⟩
  · by_cases hk : k = o
    · subst hk
      simp at h1
      subst h1
      refine .inr fun L => ?_
      have := r.obj k _ _ ho h2
      simp only [Ob.rep] at this ⊢
      obtain ⟨b, c', el, g1, g2, g3, g4⟩ := this
      obtain ⟨v, hv, hc⟩ := repL_get cs c'.toList i c g3 hi
      have hbb : b = b0 := by rw [hb] at h2; rw [g1] at h2; simpa using h2.symm
      subst hbb
      have hvv : v = v0 := by
        simp only [World.cell?, g2] at hv0
        rw [Array.getElem?_toList] at hv
        have hv0 : c'[i]? = some v0 := by simpa using hv0
        rw [hv] at hv0; exact Option.some.inj hv0
      subst hvv
      exact ⟨b, c', el, g1, g2, repL_le L _ _ (repL_set _ _ _ _ _ g3 hv hac), g4⟩
    · rw [put_ne _ _ hk] at h1
      exact .inl ⟨h1, h2, fun _ _ => rfl⟩
/-- Slots and objects are kept, the others forgotten; the one cell of p is a slice over a variable that is forgotten: data from now on. -/
theorem Weak.keepVsCell {t : Nat → A} {l : List (Nat × Ob)} {σ : SL} (p : Nat) {q n : Nat} {xs : List D} (hp : lookO l p = some (.var [.vs q n])) (hq : lookO l q = some (.var (xs.map .d))) (hdp : inO σ.o p = true) (hd : inO σ.o q = false) (hn : n = xs.length)
    (ht : keepT t (inO σ.o) σ.t) (ho : keepO (fun o => if o = p then some (.var [.d (.sl 1 (xs.map fun x => [x]))]) else lookO l o) (inO σ.o) σ.o) (hin : keepIn (inO σ.o) l) : Weak ⟨t, lookO l⟩ σ.st := by
  intro cx N a w ⟨β, h1, h2, h3, h4⟩
  simp only at h1 h2
  obtain ⟨r1, L1⟩ := h1.recell (o := p) (i := 0) (a := .any) hp rfl (fun v _ => by simp [A.rep])
  have hne : q ≠ p := fun e => by rw [e, hdp] at hd; cases hd
  have hsp := keepO_spec σ.o ho
  have hcl : ∀ o ob, inO σ.o o = true → (put (lookO l) p (some (.var ([A.vs q n].set 0 .any)))) o = some ob → ob.closed (inO σ.o) = true := fun o ob hdo hob => by
    by_cases e : o = p
    · subst e
      rw [put_same] at hob
      cases hob
      rfl
    · rw [put_ne _ _ e] at hob
      have hdo' := hdo
      unfold inO at hdo'
      obtain ⟨ob', hob'⟩ := Option.isSome_iff_exists.1 hdo'
      obtain ⟨g1, g2⟩ := hsp o ob' hob'
      simp only [if_neg e] at g1
      rw [hob] at g1
      cases g1
      exact g2
  have hent : ∀ o, 1000 ≤ o → ((put (lookO l) p (some (.var ([A.vs q n].set 0 .any)))) o).isSome = true → inO σ.o o = true := fun o h5 h6 => by
    by_cases e : o = p
    · rw [e]; exact hdp
    · rw [put_ne _ _ e] at h6
      exact keepIn_spec l hin o h5 h6
  obtain ⟨r2, S2⟩ := r1.drop (inO σ.o) hcl hent
  have hobj : ∃ b v, β p = some (some b) ∧ w.cell? ⟨b, 0, none⟩ = some v ∧ (A.vs q n).rep (envOf cx.Xo β (lookO l) w) v := by
    have hdm := h1.dom p
    rw [hp] at hdm
    obtain ⟨bo, hbo⟩ := Option.isSome_iff_exists.1 (by simpa using hdm)
    have := h1.obj p _ _ hp hbo
    simp only [Ob.rep] at this
    obtain ⟨b, c', el, g1, g2, g3, g4⟩ := this
    obtain ⟨v, hv, hc⟩ := repL_get [A.vs q n] c'.toList 0 _ g3 rfl
    refine ⟨b, v, by rw [hbo, g1], ?_, hc⟩
    simp only [World.cell?, g2]
    simpa using hv
  obtain ⟨b, v, hb, hcell, hv⟩ := hobj
  have hx := r1.vsOut (inO σ.o) hcl hent (q := q) (n := n) (xs := xs) (by rw [put_ne _ _ hne]; exact hq) hd hn (A.rep_le L1 _ _ hv)
  obtain ⟨r3, L3⟩ := r2.recellV (o := p) (i := 0) (b0 := b) (v0 := v) (a := .d (.sl 1 (xs.map fun x => [x]))) (by simp only [hdp, if_true]; rw [put_same]) rfl (by simp only [hdp, if_true]; exact hb) hcell (by simpa only [A.rep] using hx)
  have he : put (fun o => if inO σ.o o = true then (put (lookO l) p (some (.var ([A.vs q n].set 0 .any)))) o else none) p (some (.var (([A.vs q n].set 0 A.any).set 0 (.d (.sl 1 (xs.map fun x => [x])))))) = lookO σ.o := by
    funext o
    by_cases e : o = p
    · subst e
      rw [put_same]
      unfold inO at hdp
      obtain ⟨ob', hob'⟩ := Option.isSome_iff_exists.1 hdp
      have := (hsp o ob' hob').1
      simp only [if_true] at this
      rw [hob', ← this]; rfl
    · rw [put_ne _ _ e, put_ne _ _ e]
      cases hl : lookO σ.o o with
      | none => simp [inO, hl]
      | some ob =>
        have := (hsp o ob hl).1
        simp only [if_neg e] at this
        simp [inO, hl, this]
  rw [he] at r3 L3
  refine ⟨_, r3, fun j => ?_, h3, h4⟩
  show (lookT σ.t j).rep _ _
  rcases keepT_spec σ.t ht j with g | ⟨g, hc⟩
  · rw [g]; simp [A.rep]
  · rw [g]; exact A.rep_le L3 _ _ (A.rep_sub S2 _ _ hc (A.rep_le L1 _ _ (h2 j)))
/-- Behind a loop the state may be weakened. -/
theorem loopx_weak {P : Program} {c : Code} {K : Exit → SL → Prop} {σ : SL} (h : loopx P c (fun e σ => ∃ σ' : SL, Weak σ.st σ'.st ∧ K e σ') σ) : loopx P c K σ := by
  intro cx N hc a w rel
  refine wp_mono (h cx N hc a w rel) fun e a' w' hp => ?_
  obtain ⟨σ1, r1, σ2, hw, k2⟩ := hp
  exact ⟨σ2, hw cx N a' w' r1, k2⟩
end Go.Am
namespace Go.Am
variable [T : Tab]
set_option linter.unusedVariables false
/-- All memory, as data. -/
def Rall (w : World) : Rd := (envOf (fun _ _ => False) (fun _ => none) (fun _ => none) w).R
theorem Rall_of {cx : Cx} {β : Nat → Option (Option Nat)} {h : Nat → Option Ob} {w : World} : ∀ b i v, (envOf cx.Xo β h w).R b i v → Rall w b i v :=
  fun b i v hr => ⟨fun q => q, fun ⟨o, ob, h1, _⟩ => (by cases h1), hr.2.2⟩
theorem Rall_cell {w : World} {b i : Nat} {v : Value} (h : w.cell? ⟨b, i, none⟩ = some v) : Rall w b i v := ⟨fun q => q, fun ⟨o, ob, h1, _⟩ => (by cases h1), h⟩
/-- What a value looks like, where all memory is data. -/
def Seen (h : Nat → Option Ob) (a : A) (x : D) : Prop := ∀ (cx : Cx) (β : Nat → Option (Option Nat)) (w : World) (v : Value), Rel cx β h w → a.rep (envOf cx.Xo β h w) v → x.rep (Rall w) v
theorem seen_d (h : Nat → Option Ob) (x : D) : Seen h (.d x) x := fun cx β w v rel hv => D.rep_mono Rall_of x v (by simpa only [A.rep] using hv)
theorem seen_vec {h : Nat → Option Ob} {o n e wd fz : Nat} {rows : List (List D)} (ho : h o = some (.vec e wd rows fz)) (hn : n = rows.length) : Seen h (.vec o n) (.sl wd rows) := by
  intro cx β w v rel hv
  rcases vec_live ho hn hv with ⟨hb, rfl⟩ | ⟨b, cap, hb, rfl, hcap, _, _⟩
  · have hd := rel.obj _ _ _ ho hb
    simp only [Ob.rep] at hd
    obtain ⟨_, _, hd | ⟨_, _, hd, _⟩⟩ := hd
    · have : rows = [] := hd.2
      subst this
      exact nil_rep _ _
    · cases hd
  · have hd := rel.obj _ _ _ ho hb
    simp only [Ob.rep] at hd
    obtain ⟨_, _, hd | ⟨b', c, hd, g4, g5, _⟩⟩ := hd
    · cases hd.1
    · cases hd
      simp only [D.rep]
      refine ⟨_, cap, by rw [hn], by omega, fun q => (by cases q), fun a' ha => ?_⟩
      cases ha
      exact ⟨fun _ => rfl, rowsAt_mono Rall_of (fun i u hu => Rall_cell (by simp only [World.cell?, g4]; simpa using hu)) _ _ _ g5⟩
theorem seen_vs {h : Nat → Option Ob} {q n : Nat} {cs : List A} {xs : List D} (hq : h q = some (.var cs)) (hn : n = xs.length) (hl : cs.length = xs.length) (hc : ∀ (j : Nat) (c : A) (x : D), cs[j]? = some c → xs[j]? = some x → Seen h c x) :
    Seen h (.vs q n) (.sl 1 (xs.map fun x => [x])) := by
  intro cx β w v rel hv
  simp only [A.rep] at hv
  obtain ⟨b, cs', hb, hh, rfl⟩ := hv
  have hd := rel.obj q _ _ hq hb
  simp only [Ob.rep] at hd
  obtain ⟨b', c, el, e1, g2, g3, g4⟩ := hd
  cases e1
  simp only [D.rep]
  refine ⟨_, n, by rw [List.length_map, hn], by rw [List.length_map, hn]; exact Nat.le_refl _, fun e => (by cases e), fun a' ha => ?_⟩
  cases ha
  refine ⟨fun _ => rfl, rowsAt_single xs 0 fun j x hx => ?_⟩
  have hj : j < cs.length := by rw [hl]; exact (List.getElem?_eq_some_iff.1 hx).1
  obtain ⟨u, hu1, hu2⟩ := repL_get _ _ j _ g3 (List.getElem?_eq_getElem hj)
  refine ⟨u, Rall_cell ?_, hc j _ x (List.getElem?_eq_getElem hj) hx cx β w u rel hu2⟩
  simp only [World.cell?, g2, Nat.zero_add]
  simpa using hu1
def SeenL (h : Nat → Option Ob) (as xs : List A) : Prop := ∀ (cx : Cx) (β : Nat → Option (Option Nat)) (w : World) (vs : List Value), Rel cx β h w → repL (envOf cx.Xo β h w) as vs → repL (envOf (fun _ _ => False) (fun _ => none) (fun _ => none) w) xs vs
theorem seenL_nil (h : Nat → Option Ob) : SeenL h [] [] := fun _ _ _ _ _ hv => by simpa [repL] using hv
theorem seenL_d {h : Nat → Option Ob} {a : A} {x : D} {as xs : List A} (h1 : Seen h a x) (h2 : SeenL h as xs) : SeenL h (a :: as) (.d x :: xs) := by
  intro cx β w vs rel hv
  simp only [repL] at hv ⊢
  obtain ⟨u, us, e, g1, g2⟩ := hv
  exact ⟨u, us, e, by simp only [A.rep]; exact h1 cx β w u rel g1, h2 cx β w us rel g2⟩
theorem seenL_agg {h : Nat → Option Ob} {cs ys as xs : List A} (h1 : SeenL h cs ys) (h2 : SeenL h as xs) : SeenL h (.agg cs :: as) (.agg ys :: xs) := by
  intro cx β w vs rel hv
  simp only [repL, A.rep] at hv ⊢
  obtain ⟨u, us, e, ⟨vs', e2, g1, g3⟩, g2⟩ := hv
  exact ⟨u, us, e, ⟨vs', e2, h1 cx β w vs' rel g1, g3⟩, h2 cx β w us rel g2⟩
/-- A call that changes nothing. -/
theorem FnCall.pure {P : Program} {f : FuncId} {as xs : List A} {h : Nat → Option Ob} {r : Value} (rd : List Nat) (ac : ACall P f xs [] (.d (.lit r)) []) (hz : ∀ h2, (∀ i ∈ rd, h2 i = h i) → SeenL h2 as xs) : FnCall P f as h ⟨True, .d (.lit r), [], rd⟩ where
  fn := ac.fn
  keyed := by simp [Keyed]
  calls := fun h2 hr2 cx β w vs rel hvs => by
    have hx := hz h2 hr2 cx β w vs rel hvs
    have e0 : lookO [] = fun _ => none := by funext o; rfl
    have hX0 : ∀ b i, ¬ Xh (fun _ => none) (lookO []) b i := by rintro b i ⟨o, ob, h1, _⟩; simp [lookO] at h1
    have relc : Rel ⟨w, fun _ _ => False, Xh (fun _ => none) (lookO []), fun _ => none, lookO []⟩ (fun _ => none) (lookO []) w := by
      refine ⟨fun o => (by simp [lookO]), fun o ob bo h1 _ => (by simp [lookO] at h1), fun o o' b h1 _ => (by cases h1), fun o b i h1 => (by cases h1), fun b i h1 => False.elim h1, Ev.refl _ _, fun b i h1 => (hX0 b i h1).elim, fun o ob h1 => (by simp [lookO] at h1), fun o h1 => (by simp [lookO] at h1), fun g row hg => ?_, fun g hg => ?_, rel.tsz⟩
      · have := rel.tab g row hg
        rw [e0]
        exact rowAt_mono Rall_of (Rall_of g) row 0 this
      · rw [e0]
        exact (rel.gi g hg).imp fun _ => Rall_of _ _ _
    refine Calls.mono (ac.calls (fun _ _ => False) (fun _ => none) w vs relc (by rw [e0]; exact hx)) fun en w' hen => ?_
    obtain ⟨v, β', rfl, R', hres⟩ := hen
    have evw : Ev (fun _ _ => False) w w' := by
      have := R'.ev
      exact Ev.mono this fun b i _ q => hX0 b i q
    obtain ⟨r1, L1⟩ := rel.step (β' := β) (h' := h2) (w' := w') (Ev.mono evw fun _ _ _ q => False.elim q) rel.dom (fun o ob ho => ⟨ob, ho, Ob.grow_refl _ _⟩) (fun o b hb => .inl hb) rel.inj (fun b i q => .inl q)
      (fun o ob bo h1 h3 => .inl ⟨h1, h3, fun b hb => evw.same (rel.lt (hb ▸ h3)) fun _ q => q⟩)
    refine ⟨v, β, rfl, by simpa [upds] using r1, by simpa [upds] using L1, ?_⟩
    simpa only [A.rep, D.rep] using hres
section
variable {P : Program} {tt : Types} {ops : Array Oper} {dr : Bool} {rest : List Oper} {log : List Foot} {K : SL → Prop}
theorem callx_seen {f : FuncId} {as caps xs : List A} {d : Option Nat} {t : List (Nat × A)} {o : List (Nat × Ob)} {r : Value} (rd : List Nat) (ac : ACall P f xs [] (.d (.lit r)) []) (hz : ∀ h2, (∀ i ∈ rd, h2 i = lookO o i) → SeenL h2 (as ++ caps) xs)
    (h : effx P tt ops dr (some ⟨True, .d (.lit r), [], rd⟩) d rest log K ⟨t, o⟩) : callx P tt ops dr (.clo f caps) as d rest log K ⟨t, o⟩ :=
  callx_fn (FnCall.pure rd ac hz) rfl h
end
end Go.Am
namespace Go.Am
variable [T : Tab]
/-- An aggregate. -/
structure Agg where
  fn : Int
  arg : Ex
instance : Inhabited Agg := ⟨⟨0, default⟩⟩
/-- A query. -/
inductive Qr where
  | mk (op : Int) (table : ByteArray) (kind : Int) (all : Bool) (cond : Ex) (exprs : List Ex) (aggs : List Agg) (types : List Int) (rows : List (List Val)) (kids : List Qr)
def q0 : Qr := .mk 0 ByteArray.empty 0 false default [] [] [] [] []
instance : Inhabited Qr := ⟨q0⟩
namespace Qr
def op : Qr → Int | .mk a _ _ _ _ _ _ _ _ _ => a
def table : Qr → ByteArray | .mk _ a _ _ _ _ _ _ _ _ => a
def kind : Qr → Int | .mk _ _ a _ _ _ _ _ _ _ => a
def all : Qr → Bool | .mk _ _ _ a _ _ _ _ _ _ => a
def cond : Qr → Ex | .mk _ _ _ _ a _ _ _ _ _ => a
def exprs : Qr → List Ex | .mk _ _ _ _ _ a _ _ _ _ => a
def aggs : Qr → List Agg | .mk _ _ _ _ _ _ a _ _ _ => a
def types : Qr → List Int | .mk _ _ _ _ _ _ _ a _ _ => a
def rows : Qr → List (List Val) | .mk _ _ _ _ _ _ _ _ a _ => a
def kids : Qr → List Qr | .mk _ _ _ _ _ _ _ _ _ a => a
end Qr
end Go.Am
