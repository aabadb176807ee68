/- Whatever the two tapes and the factor are, the law of tapes says true and leaves its arguments as they were; there are no conditions. (part Lb) -/
import Derived.Test.YtcpaofpnabiggaaLa
import Derived.Scope
set_option linter.all false

namespace Go.Am

structure St where
  t : Nat → A
  o : Nat → Option Ob

def evS (s : St) : Operand → A
  | .tmp k => s.t k
  | .const v => ofConst v
  | .global _ => .any
  | .func f => .clo f []

/-- A frame's slots and objects, in the world. -/
def RelT (cx : Cx) (N : Nat) (s : St) (a : Act) (w : World) : Prop :=
  ∃ β, Rel cx β s.o w ∧ (∀ k, (s.t k).rep (envOf cx.Xo β s.o w) (a.tmps.getD k undef)) ∧ a.tmps.size = N ∧ a.defers = []

def putD (dst : Option Nat) (v : A) (t : Nat → A) : Nat → A := match dst with | none => t | some k => put t k v

/-- An operation is sound, and looks at nothing but its operands and the objects in e.rd. -/
structure Step (P : Program) (o : Oper) (ev : Operand → A) (h : Nat → Option Ob) (e : Eff) : Prop where
  sound : ∀ (ev2 : Operand → A) (h2 : Nat → Option Ob), (∀ x ∈ o.op.operands, ev2 x = ev x) → (∀ i ∈ e.rd, h2 i = h i) → ∀ (cx : Cx) (β : Nat → Option (Option Nat)) (w : World) (a : Act), Rel cx β h2 w → (∀ x, (ev2 x).rep (envOf cx.Xo β h2 w) (a.eval x)) →
    ∀ (K : Act → World → Prop) (Q : Exit → Act → World → Prop), (∀ β' w' r, Rel cx β' (upds h2 e.upd) w' → (envOf cx.Xo β h2 w).Le (envOf cx.Xo β' (upds h2 e.upd) w') → e.res.rep (envOf cx.Xo β' (upds h2 e.upd) w') r → K (a.put o.dst r) w') → o.wp P a w K Q
  keyed : Keyed e.upd e.rd

theorem Step.of_eff {P : Program} {tt : Types} (T : tt.ok P) {o : Oper} {ev : Operand → A} {h : Nat → Option Ob} {e : Eff} (he : eff tt o ev h = some e) (hs : e.side) : Step P o ev h e where
  sound := fun ev2 h2 h1 h3 cx β w a rel hev K Q hK => by
    have he2 : eff tt o ev2 h2 = some e := by rw [eff_operands h1]; exact (eff_keyed he h2 h3).1
    obtain ⟨β', w', nx, r, g1, g2, g3, g4, g5⟩ := eff_ok T rel he2 hs hev
    unfold Oper.wp
    rw [g1]
    rcases g2 with rfl | ⟨rfl, rfl⟩
    · exact hK β' w' r g3 g4 g5
    · exact hK β' w' undef g3 g4 g5
  keyed := (eff_keyed he h (fun _ _ => rfl)).2

theorem Step.congr {P : Program} {o : Oper} {ev ev2 : Operand → A} {h h2 : Nat → Option Ob} {e : Eff} (s : Step P o ev h e) (h1 : ∀ x ∈ o.op.operands, ev2 x = ev x) (h3 : ∀ i ∈ e.rd, h2 i = h i) : Step P o ev2 h2 e where
  sound := fun ev3 h4 g1 g3 => s.sound ev3 h4 (fun x hx => (g1 x hx).trans (h1 x hx)) (fun i hi => (g3 i hi).trans (h3 i hi))
  keyed := s.keyed

/-- The slot of a guard. -/
def gslot (ops : Array Oper) (j : Nat) : Option Nat := (ops[j]?).bind (·.dst)

structure Foot where
  rd : List Nat
  wr : List Nat

/-- One operation of a region, or its being passed over. -/
inductive AStep (P : Program) (ops : Array Oper) (o : Oper) (s : St) : St → Foot → Prop
  | run (e : Eff) (hg : ∀ j want, o.guard = some (j, want) → ∃ k, gslot ops j = some k ∧ s.t k = .d (.lit (.bool want))) (he : Step P o (evS s) s.o e) :
      AStep P ops o s ⟨putD o.dst e.res s.t, upds s.o e.upd⟩ ⟨e.rd, e.upd.map (·.1)⟩
  | skip (j : Nat) (want : Bool) (k : Nat) (hg : o.guard = some (j, want)) (hk : gslot ops j = some k) (hs : s.t k = .d (.lit (.bool (!want)))) : AStep P ops o s ⟨putD o.dst .any s.t, s.o⟩ ⟨[], []⟩

def disj (a b : List Nat) : Bool := a.all fun x => !b.contains x
theorem disj_spec {a b : List Nat} (h : disj a b = true) : ∀ x ∈ a, x ∉ b := by
  intro x hx
  have := List.all_eq_true.1 h x hx
  simpa using this

theorem upds_not {h : Nat → Option Ob} : ∀ (l : List (Nat × Ob)) (i : Nat), i ∉ l.map (·.1) → upds h l i = h i
  | [], _, _ => rfl
  | (o, ob) :: l, i, hi => by
    simp only [List.map_cons, List.mem_cons, not_or] at hi
    simp only [upds]
    rw [upds_not l i hi.2, put_ne _ _ hi.1]

theorem upds_mem {h h2 : Nat → Option Ob} : ∀ (l : List (Nat × Ob)) (i : Nat), i ∈ l.map (·.1) → upds h l i = upds h2 l i
  | [], _, hi => by simp at hi
  | (o, ob) :: l, i, hi => by
    simp only [upds]
    by_cases h1 : i ∈ l.map (·.1)
    · exact upds_mem l i h1
    · rw [upds_not l i h1, upds_not l i h1]
      simp only [List.map_cons, List.mem_cons] at hi
      have : i = o := hi.resolve_right h1
      subst this
      simp

theorem upds_comm {h : Nat → Option Ob} {l m : List (Nat × Ob)} (hd : ∀ x ∈ l.map (·.1), x ∉ m.map (·.1)) : upds (upds h l) m = upds (upds h m) l := by
  funext i
  by_cases h1 : i ∈ l.map (·.1)
  · rw [upds_not m i (hd i h1), upds_mem (h2 := upds h m) l i h1]
  · rw [upds_not l i h1]
    by_cases h2 : i ∈ m.map (·.1)
    · exact upds_mem m i h2
    · rw [upds_not m i h2, upds_not m i h2, upds_not l i h1]

theorem putD_comm {d1 d2 : Option Nat} {u v : A} {t : Nat → A} (h : ∀ d, d1 = some d → d2 ≠ some d) : putD d2 v (putD d1 u t) = putD d1 u (putD d2 v t) := by
  cases d1 <;> cases d2 <;> simp only [putD]
  rename_i a b
  have hne : a ≠ b := fun e => h a rfl (by rw [e])
  funext k
  by_cases h1 : k = a
  · subst h1; rw [put_ne _ _ hne, put_same, put_same]
  · by_cases h2 : k = b
    · subst h2; rw [put_same, put_ne _ _ h1, put_same]
    · rw [put_ne _ _ h2, put_ne _ _ h1, put_ne _ _ h1, put_ne _ _ h2]

theorem putD_other {d : Option Nat} {v : A} {t : Nat → A} {k : Nat} (h : d ≠ some k) : putD d v t k = t k := by
  cases d with
  | none => rfl
  | some x => exact put_ne _ _ (fun e => h (by rw [e]))

theorem evS_putD {s : St} {d : Option Nat} {v : A} {h : Nat → Option Ob} {ops : Array Oper} {o : Oper} (hd : ∀ x, d = some x → x ∉ o.looksAt ops) : ∀ x ∈ o.op.operands, evS ⟨putD d v s.t, h⟩ x = evS s x := by
  intro x hx
  cases x with
  | tmp k =>
    simp only [evS]
    refine putD_other fun e => hd k e ?_
    exact List.mem_append_left _ (List.mem_filterMap.2 ⟨.tmp k, by simpa using hx, rfl⟩)
  | _ => rfl

theorem guard_putD {s : St} {d : Option Nat} {v : A} {ops : Array Oper} {o : Oper} (hd : ∀ x, d = some x → x ∉ o.looksAt ops) {j k : Nat} {want : Bool} (hg : o.guard = some (j, want)) (hk : gslot ops j = some k) : putD d v s.t k = s.t k := by
  refine putD_other fun e => hd k e ?_
  refine List.mem_append_right _ ?_
  rw [hg]
  simp only
  unfold gslot at hk
  rw [hk]
  simp

theorem evS_o {s : St} {h : Nat → Option Ob} : evS ⟨s.t, h⟩ = evS s := by funext x; cases x <;> rfl

/-- Two operations that do not meet may change places. -/
theorem AStep.comm {P : Program} {ops : Array Oper} {o1 o2 : Oper} {s s1 s2 : St} {F1 F2 : Foot} (h1 : AStep P ops o1 s s1 F1) (h2 : AStep P ops o2 s1 s2 F2) (hap : o1.apart ops o2 = true) (d1 : disj F1.wr F2.rd = true) (d2 : disj F2.wr F1.rd = true) :
    ∃ s1', AStep P ops o2 s s1' F2 ∧ AStep P ops o1 s1' s2 F1 := by
  obtain ⟨a1, a2, a3⟩ := Oper.apart_spec hap
  have d1' := disj_spec d1
  have d2' := disj_spec d2
  cases h1 with
  | run e1 hg1 he1 =>
    cases h2 with
    | run e2 hg2 he2 =>
      have hw : ∀ x ∈ e1.upd.map (·.1), x ∉ e2.upd.map (·.1) := fun x hx hx2 => by
        obtain ⟨p, hp, rfl⟩ := List.mem_map.1 hx2
        exact d1' _ hx (he2.keyed p hp)
      refine ⟨⟨putD o2.dst e2.res s.t, upds s.o e2.upd⟩, ?_, ?_⟩
      · refine .run e2 (fun j want hj => ?_) ?_
        · obtain ⟨k, g1, g2⟩ := hg2 j want hj
          exact ⟨k, g1, by rw [← g2]; exact (guard_putD a1 hj g1).symm⟩
        · exact he2.congr (fun x hx => (evS_putD a1 x hx).symm) (fun i hi => (upds_not _ _ fun hx => d1' i hx hi).symm)
      · have := AStep.run (P := P) (ops := ops) (o := o1) (s := ⟨putD o2.dst e2.res s.t, upds s.o e2.upd⟩) e1 (fun j want hj => by
            obtain ⟨k, g1, g2⟩ := hg1 j want hj
            exact ⟨k, g1, by rw [← g2]; exact guard_putD a3 hj g1⟩)
          (he1.congr (fun x hx => evS_putD a3 x hx) (fun i hi => upds_not _ _ fun hx => d2' i hx hi))
        simp only at this
        rw [putD_comm (d1 := o2.dst) (d2 := o1.dst) (fun d hd hd2 => a2 d hd2 hd), ← upds_comm hw] at this
        exact this
    | skip j want k hg hk hs =>
      refine ⟨⟨putD o2.dst .any s.t, s.o⟩, ?_, ?_⟩
      · exact .skip j want k hg hk (by rw [← hs]; exact (guard_putD a1 hg hk).symm)
      · have := AStep.run (P := P) (ops := ops) (o := o1) (s := ⟨putD o2.dst .any s.t, s.o⟩) e1 (fun j want hj => by
            obtain ⟨k, g1, g2⟩ := hg1 j want hj
            exact ⟨k, g1, by rw [← g2]; exact guard_putD a3 hj g1⟩)
          (he1.congr (fun x hx => evS_putD a3 x hx) (fun i hi => rfl))
        simp only at this
        rw [putD_comm (d1 := o2.dst) (d2 := o1.dst) (fun d hd hd2 => a2 d hd2 hd)] at this
        exact this
  | skip j want k hg hk hs =>
    cases h2 with
    | run e2 hg2 he2 =>
      refine ⟨⟨putD o2.dst e2.res s.t, upds s.o e2.upd⟩, ?_, ?_⟩
      · refine .run e2 (fun j want hj => ?_) ?_
        · obtain ⟨k, g1, g2⟩ := hg2 j want hj
          exact ⟨k, g1, by rw [← g2]; exact (guard_putD a1 hj g1).symm⟩
        · exact he2.congr (fun x hx => (evS_putD a1 x hx).symm) (fun i hi => rfl)
      · have := AStep.skip (P := P) (ops := ops) (o := o1) (s := ⟨putD o2.dst e2.res s.t, upds s.o e2.upd⟩) j want k hg hk (by rw [← hs]; exact guard_putD a3 hg hk)
        simp only at this
        rw [putD_comm (d1 := o2.dst) (d2 := o1.dst) (fun d hd hd2 => a2 d hd2 hd)] at this
        exact this
    | skip j2 want2 k2 hg2 hk2 hs2 =>
      refine ⟨⟨putD o2.dst .any s.t, s.o⟩, ?_, ?_⟩
      · exact .skip j2 want2 k2 hg2 hk2 (by rw [← hs2]; exact (guard_putD a1 hg2 hk2).symm)
      · have := AStep.skip (P := P) (ops := ops) (o := o1) (s := ⟨putD o2.dst .any s.t, s.o⟩) j want k hg hk (by rw [← hs]; exact guard_putD a3 hg hk)
        simp only at this
        rw [putD_comm (d1 := o2.dst) (d2 := o1.dst) (fun d hd hd2 => a2 d hd2 hd)] at this
        exact this

/-- A list of operations carried out one after the other; F: what each one meets. -/
inductive Runs (P : Program) (ops : Array Oper) (F : Nat → Foot) : List Nat → St → St → Prop
  | nil (s : St) : Runs P ops F [] s s
  | cons {i : Nat} {o : Oper} {l : List Nat} {s s1 s2 : St} (ho : ops[i]? = some o) (h : AStep P ops o s s1 (F i)) (r : Runs P ops F l s1 s2) : Runs P ops F (i :: l) s s2

def Indep (ops : Array Oper) (F : Nat → Foot) (j i : Nat) : Prop :=
  ∀ oj oi, ops[j]? = some oj → ops[i]? = some oi → oj.apart ops oi = true ∧ disj (F j).wr (F i).rd = true ∧ disj (F i).wr (F j).rd = true

theorem Runs.front {P : Program} {ops : Array Oper} {F : Nat → Foot} {i : Nat} {l2 : List Nat} : ∀ (l1 : List Nat) {s s2 : St}, Runs P ops F (l1 ++ i :: l2) s s2 → (∀ j ∈ l1, Indep ops F j i) → Runs P ops F (i :: (l1 ++ l2)) s s2
  | [], s, s2, r, _ => r
  | j :: l1, s, s2, r, hi => by
    cases r with
    | cons ho h r =>
      have r' := Runs.front l1 r (fun k hk => hi k (by simp [hk]))
      cases r' with
      | cons ho2 h2 r2 =>
        obtain ⟨g1, g2, g3⟩ := hi j (by simp) _ _ ho ho2
        obtain ⟨s1', k1, k2⟩ := AStep.comm h h2 g1 g2 g3
        exact .cons ho2 k1 (.cons ho k2 r2)

/-- One operation, in the world. -/
theorem AStep.wpOp {P : Program} {ops : Array Oper} {cx : Cx} {N : Nat} {i : Nat} {o : Oper} {s s' : St} {F : Foot} (ho : ops[i]? = some o) (h : AStep P ops o s s' F) (hN : ∀ d, o.dst = some d → d < N) {a : Act} {w : World} (rel : RelT cx N s a w)
    {K : Act → World → Prop} {Q : Exit → Act → World → Prop} (hK : ∀ a' w', RelT cx N s' a' w' → K a' w') : Go.wpOp P ops Q i K a w := by
  obtain ⟨β, r1, r2, r3, r4⟩ := rel
  have hev : ∀ x, (evS s x).rep (envOf cx.Xo β s.o w) (a.eval x) := by
    intro x
    cases x with
    | tmp k => exact r2 k
    | const v => exact ofConst_rep _ v
    | global g => simp [evS, A.rep]
    | func f => simp only [evS, A.rep, Act.eval]; exact ⟨[], rfl, by simp [repL]⟩
  have hput : ∀ {v : A} {r : Value} {β' : Nat → Option (Option Nat)} {h' : Nat → Option Ob} {w' : World}, Rel cx β' h' w' → (envOf cx.Xo β s.o w).Le (envOf cx.Xo β' h' w') → v.rep (envOf cx.Xo β' h' w') r →
      RelT cx N ⟨putD o.dst v s.t, h'⟩ (a.put o.dst r) w' := by
    intro v r β' h' w' g1 g2 g3
    refine ⟨β', g1, fun k => ?_, ?_, ?_⟩
    · cases hd : o.dst with
      | none => simp only [putD, Act.put]; exact A.rep_le g2 _ _ (r2 k)
      | some d =>
        have hdN := hN d hd
        simp only [putD, Act.put]
        by_cases hk : k = d
        · subst hk
          rw [put_same]
          have : (a.tmps.setIfInBounds k r).getD k undef = r := by simp [Array.getD, r3, hdN]
          rw [this]
          exact g3
        · rw [put_ne _ _ hk]
          have : (a.tmps.setIfInBounds d r).getD k undef = a.tmps.getD k undef := by
            simp only [Array.getD_eq_getD_getElem?]
            rw [Array.getElem?_setIfInBounds_ne (Ne.symm hk)]
          rw [this]
          exact A.rep_le g2 _ _ (r2 k)
    · cases o.dst <;> simp [Act.put, r3]
    · cases o.dst <;> simp [Act.put, r4]
  have hguard : ∀ j k b, gslot ops j = some k → s.t k = .d (.lit (.bool b)) → yielded ops a.tmps j = some b := by
    intro j k b hk hb
    have h1 := r2 k
    rw [hb] at h1
    simp only [A.rep, D.rep] at h1
    unfold yielded
    unfold gslot at hk
    rw [hk]
    simp only [Option.bind_some]
    have h2 : a.tmps.getD k undef = .bool b := h1.1
    rw [Array.getD_eq_getD_getElem?] at h2
    cases hg : a.tmps[k]? with
    | none => rw [hg] at h2; simp [undef] at h2
    | some v => rw [hg] at h2; simp at h2; simp [h2]
  unfold Go.wpOp
  simp only [ho]
  cases h with
  | run e hg he =>
    have hw : Region.wanted o (yielded ops a.tmps) = true := by
      unfold Region.wanted
      split
      · rfl
      · rename_i j want hj
        obtain ⟨k, k1, k2⟩ := hg j want hj
        simp [hguard j k want k1 k2]
    simp only [hw, if_true]
    refine .inl ?_
    exact he.sound (evS s) s.o (fun _ _ => rfl) (fun _ _ => rfl) cx β w a r1 hev K Q fun β' w' r g1 g2 g3 => hK _ _ (hput g1 g2 g3)
  | skip j want k hg hk hs =>
    have hw : Region.wanted o (yielded ops a.tmps) = false := by
      unfold Region.wanted
      rw [hg]
      simp [hguard j k (!want) hk hs]
    simp only [hw, Bool.false_eq_true, if_false]
    exact hK _ _ (hput r1 (Env.Le.refl _) (by simp [A.rep]))

/-- Operations in the order of the text. -/
theorem Runs.wpOps {P : Program} {ops : Array Oper} {F : Nat → Foot} {cx : Cx} {N : Nat} {Q : Exit → Act → World → Prop} : ∀ {l : List Nat} {s s' : St}, Runs P ops F l s s' → (∀ (i : Nat) (o : Oper) (d : Nat), ops[i]? = some o → o.dst = some d → d < N) → ∀ {a : Act} {w : World}, RelT cx N s a w →
    (∀ a' w', RelT cx N s' a' w' → Q .normal a' w') → Go.wpOps P ops Q l a w := by
  intro l s s' r
  induction r with
  | nil s => intro _ a w rel hQ; simp only [Go.wpOps]; exact hQ a w rel
  | cons ho h r ih =>
    intro hN a w rel hQ
    rw [wpOps_cons]
    exact h.wpOp ho (fun d hd => hN _ _ d ho hd) rel fun a' w' rel' => ih hN rel' hQ

/-- Operation j comes before operation i, in so many steps at most. -/
def bef (ops : Array Oper) : Nat → Nat → Nat → Bool
  | 0, _, _ => false
  | f + 1, j, i => match ops[i]? with
    | none => false
    | some o => o.after.any fun e => Region.binds .any e && (e.on == j || bef ops f j e.on)
/-- What was carried out came after all that it had to come after. -/
def ClosedL (ops : Array Oper) (listed : Array Bool) : Prop := ∀ (i : Nat) (o : Oper), ops[i]? = some o → listed.getD i false = true → ∀ e ∈ o.after, Region.binds .any e = true → listed.getD e.on false = true
theorem bef_listed {ops : Array Oper} {listed : Array Bool} (hc : ClosedL ops listed) {j : Nat} : ∀ (f i : Nat), (∀ o, ops[i]? = some o → ∀ e ∈ o.after, Region.binds .any e = true → listed.getD e.on false = true) → bef ops f j i = true → listed.getD j false = true
  | 0, _, _, h => by simp [bef] at h
  | f + 1, i, hi, h => by
    unfold bef at h
    split at h
    · cases h
    · rename_i o ho
      obtain ⟨e, he, hb⟩ := Array.any_eq_true'.1 h
      simp only [Bool.and_eq_true, Bool.or_eq_true, beq_iff_eq] at hb
      obtain ⟨hb1, hb2⟩ := hb
      have hl := hi o ho e he hb1
      rcases hb2 with rfl | hb2
      · exact hl
      · exact bef_listed hc f e.on (fun o' ho' => hc e.on o' ho' hl) hb2

/-- Operations in whatever order. 'listed': those that have been carried out; l: the others. -/
theorem Runs.wpAny {P : Program} {ops : Array Oper} {F : Nat → Foot} {cx : Cx} {N : Nat} {Q : Exit → Act → World → Prop} (hN : ∀ (i : Nat) (o : Oper) (d : Nat), ops[i]? = some o → o.dst = some d → d < N)
    (hback : ∀ (i : Nat) (o : Oper), ops[i]? = some o → ∀ e ∈ o.after, Region.binds .any e = true → e.on < i)
    (hind : ∀ (j i : Nat) (o : Oper), j < i → ops[i]? = some o → (∃ f, bef ops f j i = true) ∨ Indep ops F j i) :
    ∀ (fuel : Nat) (listed : Array Bool) (l : List Nat) {s s' : St} {a : Act} {w : World}, ClosedL ops listed → l.length = fuel → listed.size = ops.size → l.Pairwise (· < ·) → (∀ i, i ∈ l ↔ (listed.getD i true = false ∧ i < ops.size)) → Runs P ops F l s s' → RelT cx N s a w →
      (∀ a' w', RelT cx N s' a' w' → Q .normal a' w') → Go.wpAny P .any ops Q fuel listed a w := by
  intro fuel
  have rdy : ∀ (listed : Array Bool) (l : List Nat), (∀ i, i ∈ l ↔ (listed.getD i true = false ∧ i < ops.size)) → ∀ i ∈ Region.ready .any ops listed, i ∈ l ∧ ∃ o, ops[i]? = some o ∧ ∀ e ∈ o.after, Region.binds .any e = true → listed.getD e.on false = true := by
    intro listed l hl i hi
    obtain ⟨h1, o, h2, h3⟩ := mem_ready.1 hi
    exact ⟨(hl i).2 ⟨h1, (Array.getElem?_eq_some_iff.1 h2).1⟩, o, h2, h3⟩
  induction fuel with
  | zero =>
    intro listed l s s' a w hcl hlen hsz hp hl r rel hQ
    have : l = [] := List.eq_nil_of_length_eq_zero hlen
    subst this
    refine ⟨?_, ?_⟩
    · cases hr : Region.ready .any ops listed with
      | nil => rfl
      | cons i _ => exact absurd (rdy listed [] hl i (by rw [hr]; simp)).1 (by simp)
    · cases r
      exact hQ a w rel
  | succ fuel ih =>
    intro listed l s s' a w hcl hlen hsz hp hl r rel hQ
    refine ⟨fun hr => ?_, fun i hi => ?_⟩
    · exfalso
      cases l with
      | nil => simp at hlen
      | cons m l =>
        have hm := (hl m).1 (by simp)
        obtain ⟨o, ho⟩ : ∃ o, ops[m]? = some o := ⟨ops[m], Array.getElem?_eq_getElem hm.2⟩
        have : m ∈ Region.ready .any ops listed := by
          refine mem_ready.2 ⟨hm.1, o, ho, fun e he hb => ?_⟩
          have hlt := hback m o ho e he hb
          have hnot : e.on ∉ m :: l := by
            intro hmem
            rcases List.mem_cons.1 hmem with h | h
            · omega
            · have := List.rel_of_pairwise_cons hp h
              omega
          have := fun h => hnot ((hl e.on).2 ⟨h, by omega⟩)
          have hin : e.on < listed.size := by omega
          simp only [Array.getD, hin, dite_true] at this ⊢
          simpa using this
        rw [hr] at this
        cases this
    · obtain ⟨him, o, ho, hafter⟩ := rdy listed l hl i hi
      obtain ⟨l1, l2, rfl⟩ := List.append_of_mem him
      have hpw := List.pairwise_append.1 hp
      have hpc := List.pairwise_cons.1 hpw.2.1
      have hlt1 : ∀ j ∈ l1, j < i := fun j hj => hpw.2.2 j hj i (by simp)
      have r' := Runs.front l1 r (fun j hj => by
        rcases hind j i o (hlt1 j hj) ho with ⟨f, hbf⟩ | h
        · exfalso
          have h1 := bef_listed hcl f i (fun o' ho' => by rw [ho] at ho'; cases ho'; exact hafter) hbf
          have h2 := (hl j).1 (by simp [hj])
          have hin : j < listed.size := by omega
          simp only [Array.getD, hin, dite_true] at h1 h2
          rw [h1] at h2
          exact absurd h2.1 (by simp)
        · exact h)
      cases r' with
      | cons ho2 h2 r2 =>
        refine h2.wpOp ho2 (fun d hd => hN i _ d ho2 hd) rel fun a' w' rel' => ?_
        have hmono : ∀ k, listed.getD k false = true → (listed.setIfInBounds i true).getD k false = true := by
          intro k hk
          simp only [Array.getD_eq_getD_getElem?] at hk ⊢
          by_cases hki : i = k
          · subst hki
            have hin : i < listed.size := by have := (hl i).1 him; omega
            simp [Array.getElem?_setIfInBounds_self_of_lt hin]
          · rw [Array.getElem?_setIfInBounds_ne hki]; exact hk
        refine ih (listed.setIfInBounds i true) (l1 ++ l2) (fun k ok hk hlk e he hb => hmono _ ?_) ?_ (by simpa using hsz) ?_ ?_ r2 rel' hQ
        · by_cases hki : i = k
          · subst hki
            rw [ho] at hk; cases hk
            exact hafter e he hb
          · refine hcl k ok hk ?_ e he hb
            simp only [Array.getD_eq_getD_getElem?] at hlk ⊢
            rwa [Array.getElem?_setIfInBounds_ne hki] at hlk
        · simp at hlen ⊢; omega
        · refine List.pairwise_append.2 ⟨hpw.1, hpc.2, fun x hx y hy => ?_⟩
          exact hpw.2.2 x hx y (by simp [hy])
        · intro k
          have hk := hl k
          by_cases hki : k = i
          · subst hki
            have hin : k < listed.size := by have := (hl k).1 him; omega
            constructor
            · intro h
              exfalso
              rcases List.mem_append.1 h with h | h
              · have := hlt1 k h; omega
              · have := hpc.1 k h; omega
            · intro h
              simp [Array.getD, hin] at h
          · have hne : (listed.setIfInBounds i true).getD k true = listed.getD k true := by
              simp only [Array.getD_eq_getD_getElem?]
              rw [Array.getElem?_setIfInBounds_ne (Ne.symm hki)]
            rw [hne, ← hk]
            simp [hki]
end Go.Am

namespace Go.Am

def lookT : List (Nat × A) → Nat → A
  | [], _ => .any
  | (j, v) :: l, k => if j = k then v else lookT l k
def lookO : List (Nat × Ob) → Nat → Option Ob
  | [], _ => none
  | (j, v) :: l, k => if j = k then some v else lookO l k

structure SL where
  t : List (Nat × A)
  o : List (Nat × Ob)
def SL.st (σ : SL) : St := ⟨lookT σ.t, lookO σ.o⟩

theorem lookT_put (l : List (Nat × A)) (k : Nat) (v : A) : put (lookT l) k v = lookT ((k, v) :: l) := by
  funext j
  simp only [put, lookT]
  by_cases h : j = k
  · simp [h]
  · simp [h, Ne.symm h]
theorem lookO_put (l : List (Nat × Ob)) (k : Nat) (v : Ob) : put (lookO l) k (some v) = lookO ((k, v) :: l) := by
  funext j
  simp only [put, lookO]
  by_cases h : j = k
  · simp [h]
  · simp [h, Ne.symm h]

def updO : List (Nat × Ob) → List (Nat × Ob) → List (Nat × Ob)
  | l, [] => l
  | l, p :: u => updO (p :: l) u
theorem lookO_upd : ∀ (u l : List (Nat × Ob)), upds (lookO l) u = lookO (updO l u)
  | [], l => rfl
  | (o, ob) :: u, l => by simp only [upds, updO, lookO_put]; exact lookO_upd u _

def setT (d : Option Nat) (v : A) (l : List (Nat × A)) : List (Nat × A) := match d with | none => l | some k => (k, v) :: l
theorem lookT_set (d : Option Nat) (v : A) (l : List (Nat × A)) : putD d v (lookT l) = lookT (setT d v l) := by
  cases d with
  | none => rfl
  | some k => exact lookT_put l k v

def evL (σ : SL) : Operand → A
  | .tmp k => lookT σ.t k
  | .const v => ofConst v
  | .global _ => .any
  | .func f => .clo f []
theorem evL_eq (σ : SL) : evL σ = evS σ.st := by funext x; cases x <;> rfl

def drawOk (ops : Array Oper) (F : List Foot) : Bool :=
  (List.range ops.size).all fun i => match ops[i]? with
    | none => true
    | some o => (o.after.all fun e => !Region.binds .any e || decide (e.on < i)) && (List.range i).all fun j => (match ops[j]? with
      | none => true
      | some p => p.apart ops o && disj (F.getD j ⟨[], []⟩).wr (F.getD i ⟨[], []⟩).rd && disj (F.getD i ⟨[], []⟩).wr (F.getD j ⟨[], []⟩).rd) || bef ops 1 j i || bef ops 2 j i || bef ops 3 j i || bef ops 5 j i

/-- Function f, called with these, does what e says; it looks at the objects in e.rd alone. -/
structure FnCall (P : Program) (f : FuncId) (as : List A) (h : Nat → Option Ob) (e : Eff) : Prop where
  fn : ∃ fn, P.funcs[f]? = some fn ∧ (fn.name == "runtime.NumGoroutine") = false ∧ fn.body.isSome = true
  calls : ∀ (h2 : Nat → Option Ob), (∀ i ∈ e.rd, h2 i = h i) → ∀ (cx : Cx) (β : Nat → Option (Option Nat)) (w : World) (vs : List Value), Rel cx β h2 w → repL (envOf cx.Xo β h2 w) as vs →
    Calls P f vs.toArray w fun en w' => ∃ v β', en = .returned v ∧ Rel cx β' (upds h2 e.upd) w' ∧ (envOf cx.Xo β h2 w).Le (envOf cx.Xo β' (upds h2 e.upd) w') ∧ e.res.rep (envOf cx.Xo β' (upds h2 e.upd) w') v
  keyed : Keyed e.upd e.rd

def callOf : Op → Option (Operand × List Operand)
  | .call ⟨.value f, args, _⟩ => some (f, args.toList)
  | _ => none

inductive GK where
  | free
  | known (k : Nat) (want b : Bool)
  | bad

def gk (ops : Array Oper) (σ : SL) : Option (Nat × Bool) → GK
  | none => .free
  | some (j, want) => match gslot ops j with
    | some k => match lookT σ.t k with
      | .d (.lit (.bool b)) => .known k want b
      | _ => .bad
    | none => .bad

/-- Both ways of a test. -/
def bcase (b : Bool) (p q : Prop) : Prop := (b = true → p) ∧ (b = false → q)

def SL.setB (σ : SL) (k : Nat) (b : Bool) : SL := ⟨(k, .d (.lit (.bool b))) :: σ.t, σ.o⟩
def SL.step (σ : SL) (dst : Option Nat) (e : Eff) : SL := ⟨setT dst e.res σ.t, updO σ.o e.upd⟩
def Eff.foot (e : Eff) : Foot := ⟨e.rd, e.upd.map (·.1)⟩

def rgn (P : Program) (tt : Types) (ops : Array Oper) (dr : Bool) : List Oper → List Foot → (SL → Prop) → SL → Prop
  | [], log, K, σ => (dr = true → drawOk ops log.reverse = true) ∧ K σ
  | o :: rest, log, K, σ =>
    let opx (σ : SL) : Prop := match callOf o.op with
      | some (f, args) => match evL σ f with
        | .clo f caps => ∃ e, FnCall P f (args.map (evL σ) ++ caps) (lookO σ.o) e ∧ rgn P tt ops dr rest (e.foot :: log) K (σ.step o.dst e)
        | _ => False
      | none => match eff tt o (evL σ) (lookO σ.o) with
        | some e => e.side ∧ rgn P tt ops dr rest (e.foot :: log) K (σ.step o.dst e)
        | none => False
    let skipx (σ : SL) : Prop := rgn P tt ops dr rest (⟨[], []⟩ :: log) K ⟨setT o.dst .any σ.t, σ.o⟩
    match gk ops σ o.guard with
    | .free => opx σ
    | .known k want b => bcase b (if want then opx (σ.setB k true) else skipx (σ.setB k true)) (if want then skipx (σ.setB k false) else opx (σ.setB k false))
    | .bad => False

def effx (P : Program) (tt : Types) (ops : Array Oper) (dr : Bool) (e : Option Eff) (dst : Option Nat) (rest : List Oper) (log : List Foot) (K : SL → Prop) (σ : SL) : Prop :=
  match e with
  | some e => e.side ∧ rgn P tt ops dr rest (e.foot :: log) K (σ.step dst e)
  | none => False
def callx (P : Program) (tt : Types) (ops : Array Oper) (dr : Bool) (f : A) (as : List A) (dst : Option Nat) (rest : List Oper) (log : List Foot) (K : SL → Prop) (σ : SL) : Prop :=
  match f with
  | .clo f caps => ∃ e, FnCall P f (as ++ caps) (lookO σ.o) e ∧ rgn P tt ops dr rest (e.foot :: log) K (σ.step dst e)
  | _ => False
def opx (P : Program) (tt : Types) (ops : Array Oper) (dr : Bool) (c : Option (Operand × List Operand)) (o : Oper) (rest : List Oper) (log : List Foot) (K : SL → Prop) (σ : SL) : Prop :=
  match c with
  | some (f, args) => callx P tt ops dr (evL σ f) (args.map (evL σ)) o.dst rest log K σ
  | none => effx P tt ops dr (eff tt o (evL σ) (lookO σ.o)) o.dst rest log K σ
def gsel (P : Program) (tt : Types) (ops : Array Oper) (dr : Bool) (g : GK) (o : Oper) (rest : List Oper) (log : List Foot) (K : SL → Prop) (σ : SL) : Prop :=
  match g with
  | .free => opx P tt ops dr (callOf o.op) o rest log K σ
  | .known k want b => bcase b (if want then opx P tt ops dr (callOf o.op) o rest log K (σ.setB k true) else rgn P tt ops dr rest (⟨[], []⟩ :: log) K ⟨setT o.dst .any (σ.setB k true).t, σ.o⟩)
      (if want then rgn P tt ops dr rest (⟨[], []⟩ :: log) K ⟨setT o.dst .any (σ.setB k false).t, σ.o⟩ else opx P tt ops dr (callOf o.op) o rest log K (σ.setB k false))
  | .bad => False

theorem rgn_cons (P : Program) (tt : Types) (ops : Array Oper) (dr : Bool) (o : Oper) (rest : List Oper) (log : List Foot) (K : SL → Prop) (σ : SL) :
    rgn P tt ops dr (o :: rest) log K σ = gsel P tt ops dr (gk ops σ o.guard) o rest log K σ := by
  rw [rgn]
  unfold gsel opx callx effx SL.setB
  rfl

theorem callOf_some {op : Op} {f : Operand} {args : List Operand} (h : callOf op = some (f, args)) : ∃ ats, op = .call ⟨.value f, args.toArray, ats⟩ := by
  unfold callOf at h
  split at h
  · rename_i f' args' ats
    simp only [Option.some.injEq, Prod.mk.injEq] at h
    obtain ⟨rfl, rfl⟩ := h
    exact ⟨ats, by simp⟩
  · cases h

/-- A call's step. -/
theorem Step.of_call {P : Program} {o : Oper} {ev : Operand → A} {h : Nat → Option Ob} {e : Eff} {fo : Operand} {args : List Operand} {f : Nat} {caps : List A} (ho : callOf o.op = some (fo, args)) (hf : ev fo = .clo f caps)
    (hc : FnCall P f (args.map ev ++ caps) h e) : Step P o ev h e where
  sound := fun ev2 h2 h1 h3 cx β w a rel hev K Q hK => by
    obtain ⟨ats, hop⟩ := callOf_some ho
    have hfo : ev2 fo = .clo f caps := by rw [← hf]; exact h1 fo (by rw [hop]; simp [Op.operands, Call.operands])
    have hargs : args.map ev2 = args.map ev := List.map_congr_left fun x hx => h1 x (by rw [hop]; simp [Op.operands, Call.operands, hx])
    have hv := hev fo
    rw [hfo] at hv
    simp only [A.rep] at hv
    obtain ⟨vs, hv1, hv2⟩ := hv
    have hr : repL (envOf cx.Xo β h2 w) (args.map ev ++ caps) (args.map a.eval ++ vs) := by
      rw [← hargs]
      exact repL_append _ _ _ _ (repL_map hev args) hv2
    have hcalls := hc.calls h2 h3 cx β w _ rel hr
    obtain ⟨fn, g1, g2, g3⟩ := hc.fn
    have g4 : fn.body ≠ none := by intro hb; simp [hb] at g3
    have g5 : fn.name ≠ "runtime.NumGoroutine" := by simpa using g2
    unfold Oper.wp
    have hrun : (execOp a.eval o).run P w = .ok (.enter f (args.map a.eval ++ vs).toArray) w := by
      obtain ⟨dst, op, ty, pos, af, g⟩ := o
      simp only at hop
      subst hop
      simp [execOp, resolve, Deferred.ofValue, hv1, invoke, callFunc, g1, g5, g4]
    rw [hrun]
    refine Calls.mono hcalls fun en w' hen => ?_
    obtain ⟨v, β', rfl, k1, k2, k3⟩ := hen
    exact hK β' w' v k1 k2 k3
  keyed := hc.keyed

theorem SL.step_st (σ : SL) (dst : Option Nat) (e : Eff) : (σ.step dst e).st = ⟨putD dst e.res σ.st.t, upds σ.st.o e.upd⟩ := by
  simp only [SL.st, SL.step, lookT_set, lookO_upd]

theorem SL.setB_st {σ : SL} {k : Nat} {b : Bool} (h : lookT σ.t k = .d (.lit (.bool b))) : (σ.setB k b).st = σ.st := by
  simp only [SL.st, SL.setB]
  congr 1
  funext j
  simp only [lookT]
  by_cases hj : k = j
  · subst hj; simp [h]
  · simp [hj]

theorem gk_known {ops : Array Oper} {σ : SL} {g : Option (Nat × Bool)} {k : Nat} {want b : Bool} (h : gk ops σ g = .known k want b) : ∃ j, g = some (j, want) ∧ gslot ops j = some k ∧ lookT σ.t k = .d (.lit (.bool b)) := by
  unfold gk at h
  split at h
  · cases h
  · rename_i j w
    split at h
    · rename_i k' hk
      split at h
      · rename_i b' hb
        cases h
        exact ⟨j, rfl, hk, hb⟩
      · cases h
    · cases h

theorem gk_free {ops : Array Oper} {σ : SL} {g : Option (Nat × Bool)} (h : gk ops σ g = .free) : g = none := by
  unfold gk at h
  split at h
  · rfl
  · split at h
    · split at h <;> cases h
    · cases h

/-- An operation that the evaluation lets by is a step. -/
theorem opx_step {P : Program} {tt : Types} (T : tt.ok P) {ops : Array Oper} {dr : Bool} {o : Oper} {rest : List Oper} {log : List Foot} {K : SL → Prop} {σ : SL} (h : opx P tt ops dr (callOf o.op) o rest log K σ) :
    ∃ e, Step P o (evS σ.st) σ.st.o e ∧ rgn P tt ops dr rest (e.foot :: log) K (σ.step o.dst e) := by
  unfold opx at h
  split at h
  · rename_i f args hc
    unfold callx at h
    split at h
    · rename_i f' caps hf
      obtain ⟨e, h1, h2⟩ := h
      rw [evL_eq] at hf h1
      exact ⟨e, Step.of_call hc hf h1, h2⟩
    · exact h.elim
  · unfold effx at h
    split at h
    · rename_i e he
      rw [evL_eq] at he
      exact ⟨e, Step.of_eff T he h.1, h.2⟩
    · exact h.elim

theorem rgn_runs {P : Program} {tt : Types} (T : tt.ok P) {ops : Array Oper} {dr : Bool} {K : SL → Prop} : ∀ (rest : List Oper) (n : Nat) (log : List Foot) (σ : SL), rgn P tt ops dr rest log K σ → rest = ops.toList.drop n → n ≤ ops.size → log.length = n →
    ∃ (F : List Foot) (σ' : SL), F.length = ops.size ∧ F.take n = log.reverse ∧ Runs P ops (fun i => F.getD i ⟨[], []⟩) (List.range' n (ops.size - n)) σ.st σ'.st ∧ (dr = true → drawOk ops F = true) ∧ K σ'
  | [], n, log, σ, h, hr, hn, hl => by
    have hlen : ops.size ≤ n := by
      have := congrArg List.length hr
      simp at this
      omega
    have hn' : n = ops.size := by omega
    subst hn'
    rw [rgn] at h
    refine ⟨log.reverse, σ, by simp [hl], by rw [List.take_of_length_le (by simp [hl])], ?_, h.1, h.2⟩
    simp
    exact .nil _
  | o :: rest, n, log, σ, h, hr, hn, hl => by
    have hlt : n < ops.size := by
      rcases Nat.lt_or_ge n ops.size with q | q
      · exact q
      · rw [List.drop_eq_nil_of_le (by simpa using q)] at hr
        cases hr
    have hcons := List.drop_eq_getElem_cons (l := ops.toList) (i := n) (by simpa using hlt)
    rw [← hr] at hcons
    injection hcons with ho hrest
    have hop : ops[n]? = some o := by rw [Array.getElem?_eq_getElem hlt, ho]; simp
    have hrange : List.range' n (ops.size - n) = n :: List.range' (n + 1) (ops.size - (n + 1)) := by
      rw [show ops.size - n = (ops.size - (n + 1)) + 1 from by omega, List.range'_succ]
    rw [rgn_cons] at h
    -- one step, and the rest
    have next : ∀ (σ1 : SL) (ft : Foot), AStep P ops o σ.st σ1.st ft → rgn P tt ops dr rest (ft :: log) K σ1 →
        ∃ (F : List Foot) (σ' : SL), F.length = ops.size ∧ F.take n = log.reverse ∧ Runs P ops (fun i => F.getD i ⟨[], []⟩) (List.range' n (ops.size - n)) σ.st σ'.st ∧ (dr = true → drawOk ops F = true) ∧ K σ' := by
      intro σ1 ft hst hrg
      obtain ⟨F, σ', f1, f2, f3, f4, f5⟩ := rgn_runs T rest (n + 1) (ft :: log) σ1 hrg (by rw [hrest]) (by omega) (by simp [hl])
      have hF : F[n]? = some ft := by
        have h1 : (F.take (n + 1))[n]? = F[n]? := by rw [List.getElem?_take, if_pos (by omega)]
        rw [← h1, f2, List.reverse_cons, List.getElem?_append_right (by simp [hl])]
        simp [hl]
      refine ⟨F, σ', f1, ?_, ?_, f4, f5⟩
      · have hh : (log.reverse ++ [ft]).take n = log.reverse := List.take_left' (by simp [hl])
        have := congrArg (List.take n) f2
        rw [List.take_take, Nat.min_eq_left (by omega), List.reverse_cons, hh] at this
        exact this
      · rw [hrange]
        refine .cons hop ?_ f3
        have : F.getD n ⟨[], []⟩ = ft := by rw [List.getD_eq_getElem?_getD, hF]; rfl
        rw [this]
        exact hst
    unfold gsel at h
    split at h
    · rename_i hg
      obtain ⟨e, h1, h2⟩ := opx_step T h
      refine next _ _ ?_ h2
      rw [SL.step_st]
      exact .run e (fun j want hj => by rw [gk_free hg] at hj; cases hj) h1
    · rename_i k want b hg
      obtain ⟨j, g1, g2, g3⟩ := gk_known hg
      have hset := SL.setB_st g3
      have hrun : opx P tt ops dr (callOf o.op) o rest log K (σ.setB k b) → b = want → ∃ (F : List Foot) (σ' : SL), F.length = ops.size ∧ F.take n = log.reverse ∧ Runs P ops (fun i => F.getD i ⟨[], []⟩) (List.range' n (ops.size - n)) σ.st σ'.st ∧ (dr = true → drawOk ops F = true) ∧ K σ' := fun h hb => by
        obtain ⟨e, h1, h2⟩ := opx_step T h
        refine next _ _ ?_ h2
        rw [SL.step_st]
        rw [hset] at h1 ⊢
        exact .run e (fun j' want' hj => by
          rw [g1] at hj
          cases hj
          exact ⟨k, g2, by rw [← hb]; exact g3⟩) h1
      have hskip : rgn P tt ops dr rest (⟨[], []⟩ :: log) K ⟨setT o.dst .any (σ.setB k b).t, σ.o⟩ → (b = !want) → ∃ (F : List Foot) (σ' : SL), F.length = ops.size ∧ F.take n = log.reverse ∧ Runs P ops (fun i => F.getD i ⟨[], []⟩) (List.range' n (ops.size - n)) σ.st σ'.st ∧ (dr = true → drawOk ops F = true) ∧ K σ' := fun h hb => by
        refine next _ _ ?_ h
        have : (⟨setT o.dst .any (σ.setB k b).t, σ.o⟩ : SL).st = ⟨putD o.dst .any σ.st.t, σ.st.o⟩ := by
          have h1 : lookT (σ.setB k b).t = lookT σ.t := congrArg St.t hset
          simp only [SL.st, ← lookT_set, h1]
        rw [this]
        exact .skip j want k g1 g2 (by rw [← hb]; exact g3)
      cases b <;> cases want
      · exact hrun (by simpa using h.2 rfl) rfl
      · exact hskip (by simpa using h.2 rfl) rfl
      · exact hskip (by simpa using h.1 rfl) rfl
      · exact hrun (by simpa using h.1 rfl) rfl
    · exact h.elim
end Go.Am

namespace Go.Am

def PostK (cx : Cx) (N : Nat) (K : Exit → SL → Prop) (e : Exit) (a : Act) (w : World) : Prop := ∃ σ' : SL, RelT cx N σ'.st a w ∧ K e σ'

def opsOk (N : Nat) (ops : Array Oper) : Bool := ops.all fun o => match o.dst with | none => true | some d => decide (d < N)

def cOk (N : Nat) : Code → Bool
  | .seq a b => cOk N a && cOk N b
  | .cond _ a b => cOk N a && cOk N b
  | .block _ c => cOk N c
  | .loop c => cOk N c
  | .scope c => cOk N c
  | .region _ ops _ => opsOk N ops
  | _ => true

theorem opsOk_spec {N : Nat} {ops : Array Oper} (h : opsOk N ops = true) : ∀ (i : Nat) (o : Oper) (d : Nat), ops[i]? = some o → o.dst = some d → d < N := by
  intro i o d hi hd
  have := Array.all_eq_true_iff_forall_mem.1 h o (Array.mem_of_getElem? hi)
  rw [hd] at this
  simpa using this

def condx (c : A) (p q : Prop) : Prop := match c with
  | .d (.lit (.bool b)) => bcase b p q
  | _ => False

def loopx (P : Program) (c : Code) (K : Exit → SL → Prop) (σ : SL) : Prop :=
  ∀ (cx : Cx) (N : Nat), cOk N c = true → ∀ (a : Act) (w : World), RelT cx N σ.st a w → (Code.loop c).wp P (PostK cx N K) a w

def blkK (id : Nat) (K : Exit → SL → Prop) : Exit → SL → Prop
  | .exit i, σ => if i = id then K .normal σ else K (.exit i) σ
  | e, σ => K e σ
def scoK (K : Exit → SL → Prop) : Exit → SL → Prop
  | .goto _, _ => False
  | e, σ => K e σ

def ev (P : Program) (tt : Types) : Code → (Exit → SL → Prop) → SL → Prop
  | .skip, K, σ => K .normal σ
  | .label _, K, σ => K .normal σ
  | .ret, K, σ => K .ret σ
  | .exit id, K, σ => K (.exit id) σ
  | .seq a b, K, σ => ev P tt a (fun e σ => match e with | .normal => ev P tt b K σ | e => K e σ) σ
  | .cond c x y, K, σ => condx (evL σ c) (ev P tt x K σ) (ev P tt y K σ)
  | .block id c, K, σ => ev P tt c (blkK id K) σ
  | .scope c, K, σ => ev P tt c (scoK K) σ
  | .region _ ops dr, K, σ => rgn P tt ops dr ops.toList [] (K .normal) σ
  | .loop c, K, σ => loopx P c K σ
  | _, _, _ => False

def seqK (P : Program) (tt : Types) (b : Code) (K : Exit → SL → Prop) : Exit → SL → Prop
  | .normal, σ => ev P tt b K σ
  | e, σ => K e σ

section
variable (P : Program) (tt : Types) (K : Exit → SL → Prop) (σ : SL)
theorem ev_skip : ev P tt .skip K σ = K .normal σ := rfl
theorem ev_label (l : Nat) : ev P tt (.label l) K σ = K .normal σ := rfl
theorem ev_ret : ev P tt .ret K σ = K .ret σ := rfl
theorem ev_exit (id : Nat) : ev P tt (.exit id) K σ = K (.exit id) σ := rfl
theorem ev_seq (a b : Code) : ev P tt (.seq a b) K σ = ev P tt a (seqK P tt b K) σ := by
  rw [ev]
  congr 1
  funext e σ'
  cases e <;> rfl
theorem ev_cond (c : Operand) (x y : Code) : ev P tt (.cond c x y) K σ = condx (evL σ c) (ev P tt x K σ) (ev P tt y K σ) := rfl
theorem ev_block (id : Nat) (c : Code) : ev P tt (.block id c) K σ = ev P tt c (blkK id K) σ := rfl
theorem ev_scope (c : Code) : ev P tt (.scope c) K σ = ev P tt c (scoK K) σ := rfl
theorem ev_region (id : Nat) (ops : Array Oper) (dr : Bool) : ev P tt (.region id ops dr) K σ = rgn P tt ops dr ops.toList [] (K .normal) σ := rfl
theorem ev_loop (c : Code) : ev P tt (.loop c) K σ = loopx P c K σ := rfl
theorem seqK_normal (b : Code) : seqK P tt b K .normal σ = ev P tt b K σ := rfl
theorem seqK_ret (b : Code) : seqK P tt b K .ret σ = K .ret σ := rfl
theorem seqK_exit (b : Code) (i : Nat) : seqK P tt b K (.exit i) σ = K (.exit i) σ := rfl
theorem blkK_normal (id : Nat) : blkK id K .normal σ = K .normal σ := rfl
theorem blkK_ret (id : Nat) : blkK id K .ret σ = K .ret σ := rfl
theorem blkK_exit (id i : Nat) : blkK id K (.exit i) σ = if i = id then K .normal σ else K (.exit i) σ := rfl
theorem scoK_normal : scoK K .normal σ = K .normal σ := rfl
theorem scoK_ret : scoK K .ret σ = K .ret σ := rfl
theorem scoK_exit (i : Nat) : scoK K (.exit i) σ = K (.exit i) σ := rfl
end

theorem RelT.drew {cx : Cx} {N : Nat} {s : St} {a : Act} {w : World} (h : RelT cx N s a w) : RelT cx N s a w.drew := by
  obtain ⟨β, h1, h2, h3, h4⟩ := h
  obtain ⟨r1, L1⟩ := h1.drew
  exact ⟨β, r1, fun k => A.rep_le L1 _ _ (h2 k), h3, h4⟩

theorem drawOk_spec {ops : Array Oper} {F : List Foot} (h : drawOk ops F = true) :
    (∀ (i : Nat) (o : Oper), ops[i]? = some o → ∀ e ∈ o.after, Region.binds .any e = true → e.on < i) ∧
    ∀ (j i : Nat) (o : Oper), j < i → ops[i]? = some o → (∃ f, bef ops f j i = true) ∨ Indep ops (fun i => F.getD i ⟨[], []⟩) j i := by
  have key : ∀ (i : Nat) (o : Oper), ops[i]? = some o → (∀ e ∈ o.after, Region.binds .any e = true → e.on < i) ∧ ∀ j, j < i → (∃ f, bef ops f j i = true) ∨ Indep ops (fun i => F.getD i ⟨[], []⟩) j i := by
    intro i o ho
    have hi : i < ops.size := (Array.getElem?_eq_some_iff.1 ho).1
    have h1 := List.all_eq_true.1 h i (List.mem_range.2 hi)
    simp only [ho, Bool.and_eq_true] at h1
    refine ⟨fun e he hb => ?_, fun j hj => ?_⟩
    · have := Array.all_eq_true_iff_forall_mem.1 h1.1 e he
      simpa [hb] using this
    · have h2 := List.all_eq_true.1 h1.2 j (List.mem_range.2 hj)
      simp only [Bool.or_eq_true] at h2
      rcases h2 with (((h2 | h2) | h2) | h2) | h2
      · right
        intro oj oi hoj hoi
        rw [ho] at hoi
        cases hoi
        simp only [hoj, Bool.and_eq_true] at h2
        exact ⟨h2.1.1, h2.1.2, h2.2⟩
      · exact .inl ⟨_, h2⟩
      · exact .inl ⟨_, h2⟩
      · exact .inl ⟨_, h2⟩
      · exact .inl ⟨_, h2⟩
  exact ⟨fun i o ho => (key i o ho).1, fun j i o hj ho => (key i o ho).2 j hj⟩

theorem rgn_wp {P : Program} {tt : Types} (hm : P.follows .mixedOrders = true) (T : tt.ok P) {id : Nat} {ops : Array Oper} {dr : Bool} {K : SL → Prop} {σ : SL} (h : rgn P tt ops dr ops.toList [] K σ) {cx : Cx} {N : Nat} (hN : opsOk N ops = true) {a : Act} {w : World} (rel : RelT cx N σ.st a w)
    {Q : Exit → Act → World → Prop} (hQ : ∀ (σ' : SL) a' w', RelT cx N σ'.st a' w' → K σ' → Q .normal a' w') : (Code.region id ops dr).wp P Q a w := by
  obtain ⟨F, σ', f1, f2, f3, f4, f5⟩ := rgn_runs T ops.toList 0 [] σ h rfl (Nat.zero_le _) rfl
  rw [Nat.sub_zero, ← List.range_eq_range'] at f3
  cases dr with
  | false => exact wp_region (f3.wpOps (opsOk_spec hN) rel fun a' w' r => hQ σ' a' w' r f5)
  | true =>
    obtain ⟨d1, d2⟩ := drawOk_spec (f4 rfl)
    refine wp_region_any hm (Runs.wpAny (opsOk_spec hN) d1 d2 ops.size _ (List.range ops.size) (fun i o _ hi => by simp [Array.getD] at hi) (by simp) (by simp) List.pairwise_lt_range (fun i => ?_) f3 rel.drew fun a' w' r => hQ σ' a' w' r f5)
    simp only [List.mem_range]
    constructor
    · intro hi
      exact ⟨by simp [Array.getD, hi], hi⟩
    · exact fun hi => hi.2

/-- The evaluation is sound. -/
theorem ev_ok {P : Program} {tt : Types} (hm : P.follows .mixedOrders = true) (T : tt.ok P) {cx : Cx} {N : Nat} : ∀ (c : Code) (K : Exit → SL → Prop) (σ : SL), ev P tt c K σ → cOk N c = true → ∀ (a : Act) (w : World), RelT cx N σ.st a w → c.wp P (PostK cx N K) a w
  | .skip, K, σ, h, _, a, w, rel => wp_skip ⟨σ, rel, h⟩
  | .label l, K, σ, h, _, a, w, rel => wp_label ⟨σ, rel, h⟩
  | .ret, K, σ, h, _, a, w, rel => wp_ret ⟨σ, rel, h⟩
  | .exit id, K, σ, h, _, a, w, rel => wp_exit ⟨σ, rel, h⟩
  | .seq x y, K, σ, h, hc, a, w, rel => by
    rw [ev_seq] at h
    simp only [cOk, Bool.and_eq_true] at hc
    refine wp_seq (wp_mono (ev_ok hm T x _ σ h hc.1 a w rel) fun e a' w' hp => ?_)
    obtain ⟨σ', r', k'⟩ := hp
    cases e with
    | normal => exact ev_ok hm T y K σ' k' hc.2 a' w' r'
    | _ => exact ⟨σ', r', k'⟩
  | .cond c x y, K, σ, h, hc, a, w, rel => by
    rw [ev_cond] at h
    simp only [cOk, Bool.and_eq_true] at hc
    unfold condx at h
    split at h
    · rename_i b hb
      have hev : a.eval c = .bool b := by
        obtain ⟨β, h1, h2, h3, h4⟩ := rel
        have hrep : (evL σ c).rep (envOf cx.Xo β σ.st.o w) (a.eval c) := by
          rw [evL_eq]
          cases c with
          | tmp k => exact h2 k
          | const v => exact ofConst_rep _ v
          | global g => simp [evS, A.rep]
          | func f => simp only [evS, A.rep, Act.eval]; exact ⟨[], rfl, by simp [repL]⟩
        rw [hb] at hrep
        simp only [A.rep, D.rep] at hrep
        exact hrep.1
      exact wp_cond_split hev (fun hb' => ev_ok hm T x K σ (h.1 hb') hc.1 a w rel) (fun hb' => ev_ok hm T y K σ (h.2 hb') hc.2 a w rel)
    · exact h.elim
  | .block id c, K, σ, h, hc, a, w, rel => by
    rw [ev_block] at h
    simp only [cOk] at hc
    refine wp_block (wp_mono (ev_ok hm T c _ σ h hc a w rel) fun e a' w' hp => ?_)
    obtain ⟨σ', r', k'⟩ := hp
    cases e with
    | exit i =>
      simp only [blkK] at k'
      simp only [Exit.inBlock]
      split
      · rename_i hi; simp only [hi, if_true] at k'; exact ⟨σ', r', k'⟩
      · rename_i hi; simp only [hi, if_false] at k'; exact ⟨σ', r', k'⟩
    | _ => exact ⟨σ', r', k'⟩
  | .scope c, K, σ, h, hc, a, w, rel => by
    rw [ev_scope] at h
    simp only [cOk] at hc
    refine wp_scope_straight (wp_mono (ev_ok hm T c _ σ h hc a w rel) fun e a' w' hp => ?_)
    obtain ⟨σ', r', k'⟩ := hp
    cases e with
    | goto l => exact k'.elim
    | _ => exact ⟨σ', r', k'⟩
  | .region id ops dr, K, σ, h, hc, a, w, rel => by
    rw [ev_region] at h
    exact rgn_wp hm T h hc rel fun σ' a' w' r k => ⟨σ', r, k⟩
  | .loop c, K, σ, h, hc, a, w, rel => h cx N hc a w rel
  | .rangeFunc .., _, _, h, _, _, _, _ => h.elim
  | .goto _, _, _, h, _, _, _, _ => h.elim
  | .refuse _, _, _, h, _, _, _, _ => h.elim

/-- What holds of s holds of s'. -/
def Weak (s s' : St) : Prop := ∀ (cx : Cx) (N : Nat) (a : Act) (w : World), RelT cx N s a w → RelT cx N s' a w
theorem Weak.refl (s : St) : Weak s s := fun _ _ _ _ h => h
theorem Weak.trans {a b c : St} (h1 : Weak a b) (h2 : Weak b c) : Weak a c := fun cx N x w h => h2 cx N x w (h1 cx N x w h)

def loopK {α : Type} (I : α → SL) (m : α → Nat) (x : α) (K : Exit → SL → Prop) : Exit → SL → Prop
  | .normal, σ => ∃ y, m y < m x ∧ Weak σ.st (I y).st
  | e, σ => K e σ
theorem loopK_normal {α : Type} (I : α → SL) (m : α → Nat) (x : α) (K : Exit → SL → Prop) (σ : SL) : loopK I m x K .normal σ = ∃ y, m y < m x ∧ Weak σ.st (I y).st := rfl
theorem loopK_ret {α : Type} (I : α → SL) (m : α → Nat) (x : α) (K : Exit → SL → Prop) (σ : SL) : loopK I m x K .ret σ = K .ret σ := rfl
theorem loopK_exit {α : Type} (I : α → SL) (m : α → Nat) (x : α) (K : Exit → SL → Prop) (σ : SL) (i : Nat) : loopK I m x K (.exit i) σ = K (.exit i) σ := rfl

theorem exists_least (p : Nat → Prop) : ∀ n, p n → ∃ n, p n ∧ ∀ m, p m → n ≤ m := by
  intro n
  induction n using Nat.strongRecOn with
  | _ n ih =>
    intro hn
    by_cases h : ∃ m, m < n ∧ p m
    · obtain ⟨m, h1, h2⟩ := h
      exact ih m h1 h2
    · exact ⟨n, hn, fun m hm => by
        rcases Nat.lt_or_ge m n with q | q
        · exact absurd ⟨m, q, hm⟩ h
        · exact q⟩

open Classical in
noncomputable def least (p : Nat → Prop) : Nat := if h : ∃ n, p n ∧ ∀ m, p m → n ≤ m then Classical.choose h else 0
theorem least_spec {p : Nat → Prop} {n : Nat} (h : p n) : p (least p) ∧ ∀ m, p m → least p ≤ m := by
  have hex := exists_least p n h
  unfold least
  rw [dif_pos hex]
  exact Classical.choose_spec hex

/-- A loop, by states that are met at its head: I x, for all x of a type; m x goes down. -/
theorem loop_intro {P : Program} {tt : Types} (hm : P.follows .mixedOrders = true) (T : tt.ok P) {c : Code} {K : Exit → SL → Prop} {σ : SL} {α : Type} (I : α → SL) (m : α → Nat) (x : α) (h0 : Weak σ.st (I x).st) (h : ∀ x, ev P tt c (loopK I m x K) (I x)) :
    loopx P c K σ := by
  intro cx N hc a w rel
  have hrel : ∀ {a : Act} {w : World}, (∃ x, RelT cx N (I x).st a w) → ∃ x, m x = least (fun n => ∃ x, m x = n ∧ RelT cx N (I x).st a w) ∧ RelT cx N (I x).st a w := by
    intro a w ⟨x, hx⟩
    exact (least_spec (p := fun n => ∃ x, m x = n ∧ RelT cx N (I x).st a w) ⟨x, rfl, hx⟩).1
  refine wp_loop (fun a w => ∃ x, RelT cx N (I x).st a w) (fun a w => least (fun n => ∃ x, m x = n ∧ RelT cx N (I x).st a w)) ⟨x, h0 cx N a w rel⟩ fun a w hI => ?_
  obtain ⟨x, hx1, hx2⟩ := hrel hI
  refine wp_mono (ev_ok hm T c _ _ (h x) hc a w hx2) fun e a' w' hp => ?_
  obtain ⟨σ', r', k'⟩ := hp
  cases e with
  | normal =>
    obtain ⟨y, hy1, hy2⟩ := k'
    have hr := hy2 cx N a' w' r'
    refine ⟨⟨y, hr⟩, ?_⟩
    have := (least_spec (p := fun n => ∃ x, m x = n ∧ RelT cx N (I x).st a' w') ⟨y, rfl, hr⟩).2 (m y) ⟨y, rfl, hr⟩
    rw [← hx1]
    omega
  | _ => exact ⟨σ', r', k'⟩
end Go.Am

namespace Go.Am

mutual
/-- All objects that a value names are among these. -/
def A.closed (dom : Nat → Bool) : A → Bool
  | .any | .d _ | .snil | .csl _ _ => true
  | .ptr o _ => dom o
  | .vec o _ => dom o
  | .vptr o _ _ _ => dom o
  | .clo _ caps => closedL dom caps
  | .agg cs => closedL dom cs
  | .tup vs => closedL dom vs
def closedL (dom : Nat → Bool) : List A → Bool
  | [] => true
  | a :: as => a.closed dom && closedL dom as
end
def Ob.closed (dom : Nat → Bool) : Ob → Bool
  | .var cs => closedL dom cs
  | .vec .. => true

/-- E' knows the objects of a part of E, as E does. -/
structure Env.Sub (dom : Nat → Bool) (E E' : Env) : Prop where
  R : ∀ b i v, E.R b i v → E'.R b i v
  h : ∀ o, dom o = true → E'.h o = E.h o ∧ E'.β o = E.β o
  sz : ∀ b n, E.sz b n → E'.sz b n

mutual
theorem A.rep_sub {dom : Nat → Bool} {E E' : Env} (L : E.Sub dom E') : ∀ (a : A) (v : Value), a.closed dom = true → a.rep E v → a.rep E' v
  | .any, _, _, _ => by simp [A.rep]
  | .d x, v, _, h => by
    simp only [A.rep] at h ⊢
    exact D.rep_mono L.R x v h
  | .snil, v, _, h => by simpa [A.rep] using h
  | .ptr o off, v, hc, h => by
    simp only [A.closed] at hc
    obtain ⟨h1, h2⟩ := L.h o hc
    simp only [A.rep, h1, h2] at h ⊢
    exact h
  | .vec o n, v, hc, h => by
    simp only [A.closed] at hc
    obtain ⟨h1, h2⟩ := L.h o hc
    simp only [A.rep, h1, h2] at h ⊢
    obtain ⟨e, wd, rows, fz, g1, g2, g3, g4⟩ := h
    refine ⟨e, wd, rows, fz, g1, g2, g3, fun hn => ?_⟩
    rcases g4 hn with g | ⟨b, cap, g5, g6, g7, g8, g9⟩
    · exact .inl g
    · exact .inr ⟨b, cap, g5, g6, g7, g8, L.sz _ _ g9⟩
  | .vptr o n i off, v, hc, h => by
    simp only [A.closed] at hc
    obtain ⟨h1, h2⟩ := L.h o hc
    simp only [A.rep, h1, h2] at h ⊢
    exact h
  | .csl wd rows, v, _, h => by
    simp only [A.rep] at h ⊢
    obtain ⟨a, h1, h2, h3⟩ := h
    exact ⟨a, h1, h2, fun a' ha => ⟨(h3 a' ha).1, rowsAt_mono L.R (L.R a'.block) _ _ _ (h3 a' ha).2⟩⟩
  | .clo f caps, v, hc, h => by
    simp only [A.closed] at hc
    simp only [A.rep] at h ⊢
    obtain ⟨vs, h1, h2⟩ := h
    exact ⟨vs, h1, repL_sub L caps vs hc h2⟩
  | .agg cs, v, hc, h => by
    simp only [A.closed] at hc
    simp only [A.rep] at h ⊢
    obtain ⟨vs, h1, h2, h3⟩ := h
    exact ⟨vs, h1, repL_sub L cs vs hc h2, h3⟩
  | .tup as, v, hc, h => by
    simp only [A.closed] at hc
    simp only [A.rep] at h ⊢
    obtain ⟨vs, h1, h2⟩ := h
    exact ⟨vs, h1, repL_sub L as vs hc h2⟩
theorem repL_sub {dom : Nat → Bool} {E E' : Env} (L : E.Sub dom E') : ∀ (as : List A) (vs : List Value), closedL dom as = true → repL E as vs → repL E' as vs
  | [], vs, _, h => by simpa [repL] using h
  | a :: as, vs, hc, h => by
    simp only [closedL, Bool.and_eq_true] at hc
    simp only [repL] at h ⊢
    obtain ⟨u, us, h1, h2, h3⟩ := h
    exact ⟨u, us, h1, A.rep_sub L a u hc.1 h2, repL_sub L as us hc.2 h3⟩
end

/-- Objects are forgotten. -/
theorem Rel.drop {cx : Cx} {β : Nat → Option (Option Nat)} {h : Nat → Option Ob} {w : World} (r : Rel cx β h w) (dom : Nat → Bool) (hc : ∀ o ob, dom o = true → h o = some ob → ob.closed dom = true) (hent : ∀ o, 1000 ≤ o → (h o).isSome = true → dom o = true) :
    Rel cx (fun o => if dom o then β o else none) (fun o => if dom o then h o else none) w ∧
      (envOf cx.Xo β h w).Sub dom (envOf cx.Xo (fun o => if dom o then β o else none) (fun o => if dom o then h o else none) w) := by
  have hX : ∀ b i, Xh (fun o => if dom o then β o else none) (fun o => if dom o then h o else none) b i → Xh β h b i := by
    rintro b i ⟨o, ob, h1, h2, h3⟩
    by_cases hd : dom o = true
    · simp only [hd, if_true] at h1 h2; exact ⟨o, ob, h1, h2, h3⟩
    · simp [hd] at h1
  have S : (envOf cx.Xo β h w).Sub dom (envOf cx.Xo (fun o => if dom o then β o else none) (fun o => if dom o then h o else none) w) :=
    ⟨fun b i v hr => ⟨hr.1, fun q => hr.2.1 (hX b i q), hr.2.2⟩, fun o hd => by simp [envOf, hd], fun _ _ h => h⟩
  refine ⟨⟨fun o => ?_, fun o ob bo h1 h2 => ?_, fun o o' b h1 h2 => ?_, fun o b i h1 => ?_, r.bnd, r.ev, fun b i q => r.own b i (hX b i q), fun o ob h1 => ?_, r.big⟩, S⟩
  · by_cases hd : dom o = true
    · simp only [hd, if_true]; exact r.dom o
    · simp [hd]
  · by_cases hd : dom o = true
    · simp only [hd, if_true] at h1 h2
      have := r.obj o ob bo h1 h2
      have hcl := hc o ob hd h1
      cases ob with
      | var cs =>
        simp only [Ob.rep] at this ⊢
        obtain ⟨b, c, el, g1, g2, g3, g4⟩ := this
        exact ⟨b, c, el, g1, g2, repL_sub S _ _ hcl g3, g4⟩
      | vec e wd rows fz =>
        simp only [Ob.rep] at this ⊢
        obtain ⟨g1, g2, g3⟩ := this
        refine ⟨g1, g2, ?_⟩
        rcases g3 with g3 | ⟨b, c, g3, g4, g5, g6⟩
        · exact .inl g3
        · exact .inr ⟨b, c, g3, g4, rowsAt_mono S.R (fun _ _ h => h) _ _ _ g5, g6⟩
    · simp [hd] at h1
  · by_cases hd : dom o = true <;> by_cases hd' : dom o' = true
    · simp only [hd, hd', if_true] at h1 h2; exact r.inj o o' b h1 h2
    · simp [hd'] at h2
    · simp [hd] at h1
    · simp [hd] at h1
  · by_cases hd : dom o = true
    · simp only [hd, if_true] at h1; exact r.out o b i h1
    · simp [hd] at h1
  · obtain ⟨ob', g1, g2⟩ := r.ent o ob h1
    have hd := hent o (r.big o (by rw [h1]; rfl)) (by rw [g1]; rfl)
    exact ⟨ob', by simp only [hd, if_true]; exact g1, by simp only [hd, if_true]; exact g2⟩

def inO (ol : List (Nat × Ob)) (o : Nat) : Bool := (lookO ol o).isSome

def keepT (t : Nat → A) (dom : Nat → Bool) : List (Nat × A) → Prop
  | [] => True
  | (k, v) :: l => (t k = v ∧ v.closed dom = true) ∧ keepT t dom l
def keepO (o : Nat → Option Ob) (dom : Nat → Bool) : List (Nat × Ob) → Prop
  | [] => True
  | (k, v) :: l => (o k = some v ∧ v.closed dom = true) ∧ keepO o dom l

theorem keepT_spec {t : Nat → A} {dom : Nat → Bool} : ∀ (l : List (Nat × A)), keepT t dom l → ∀ k, lookT l k = .any ∨ (lookT l k = t k ∧ (t k).closed dom = true)
  | [], _, k => .inl rfl
  | (j, v) :: l, h, k => by
    simp only [keepT] at h
    obtain ⟨⟨rfl, h2⟩, h3⟩ := h
    simp only [lookT]
    by_cases hj : j = k
    · subst hj; simp only [if_true]; exact .inr ⟨trivial, h2⟩
    · simp only [hj, if_false]; exact keepT_spec l h3 k
theorem keepO_spec {o : Nat → Option Ob} {dom : Nat → Bool} : ∀ (l : List (Nat × Ob)), keepO o dom l → ∀ k ob, lookO l k = some ob → o k = some ob ∧ ob.closed dom = true
  | [], _, k, ob, h => by simp [lookO] at h
  | (j, v) :: l, h, k, ob, hk => by
    simp only [keepO] at h
    obtain ⟨⟨h1, h2⟩, h3⟩ := h
    simp only [lookO] at hk
    by_cases hj : j = k
    · subst hj; simp only [if_true, Option.some.injEq] at hk; subst hk; exact ⟨h1, h2⟩
    · simp only [hj, if_false] at hk; exact keepO_spec l h3 k ob hk

/-- The objects that came in are kept. -/
def keepIn (dom : Nat → Bool) : List (Nat × Ob) → Prop
  | [] => True
  | (k, _) :: l => (k < 1000 ∨ dom k = true) ∧ keepIn dom l
theorem keepIn_spec {dom : Nat → Bool} : ∀ (l : List (Nat × Ob)), keepIn dom l → ∀ o, 1000 ≤ o → (lookO l o).isSome = true → dom o = true
  | [], _, o, _, h => by simp [lookO] at h
  | (k, v) :: l, hk, o, ho, h => by
    simp only [keepIn] at hk
    simp only [lookO] at h
    by_cases hko : k = o
    · subst hko; exact hk.1.resolve_left (by omega)
    · simp only [hko, if_false] at h; exact keepIn_spec l hk.2 o ho h

/-- Some slots and objects are kept, the others forgotten. -/
theorem Weak.keep {t : Nat → A} {l : List (Nat × Ob)} {σ : SL} (ht : keepT t (inO σ.o) σ.t) (ho : keepO (lookO l) (inO σ.o) σ.o) (hin : keepIn (inO σ.o) l) : Weak ⟨t, lookO l⟩ σ.st := by
  intro cx N a w ⟨β, h1, h2, h3, h4⟩
  obtain ⟨r1, S1⟩ := h1.drop (inO σ.o) (fun o ob hd hob => by
    unfold inO at hd
    obtain ⟨ob', hob'⟩ := Option.isSome_iff_exists.1 hd
    obtain ⟨g1, g2⟩ := keepO_spec σ.o ho o ob' hob'
    have hob2 : lookO l o = some ob := hob
    rw [hob2] at g1
    cases g1
    exact g2) (keepIn_spec l hin)
  have he : (fun o => if inO σ.o o then lookO l o else none) = lookO σ.o := by
    funext o
    unfold inO
    cases hl : lookO σ.o o with
    | none => simp
    | some ob => simp; exact (keepO_spec σ.o ho o ob hl).1
  rw [he] at r1 S1
  refine ⟨_, r1, fun k => ?_, h3, h4⟩
  show (lookT σ.t k).rep _ _
  rcases keepT_spec σ.t ht k with q | ⟨q, hc⟩
  · rw [q]; simp [A.rep]
  · rw [q]; exact A.rep_sub S1 _ _ hc (h2 k)

/-- A slot's slice is shut. -/
theorem Weak.shutT {s : St} {k wd : Nat} {f : Frz} (hf : frz s.o wd (s.t k) = some f) (hs : f.side) : Weak s ⟨put s.t k (.d f.x), upds s.o f.upd⟩ := by
  intro cx N a w ⟨β, h1, h2, h3, h4⟩
  obtain ⟨r1, L1, x1⟩ := frz_ok h1 hf hs (h2 k)
  refine ⟨β, r1, fun j => ?_, h3, h4⟩
  by_cases hj : j = k
  · subst hj; simp only [put_same]; simpa [A.rep] using x1
  · simp only [put_ne _ _ hj]; exact A.rep_le L1 _ _ (h2 j)

/-- A slot's nil slice is an object from now on. -/
theorem Weak.nil {s : St} (k o e wd : Nat) (hk : s.t k = .snil) (ho : s.o o = none) : Weak s ⟨put s.t k (.vec o 0), put s.o o (some (.vec e wd [] 0))⟩ := by
  intro cx N a w ⟨β, h1, h2, h3, h4⟩
  obtain ⟨r1, L1⟩ := h1.nil o e wd ho
  refine ⟨_, r1, fun j => ?_, h3, h4⟩
  by_cases hj : j = k
  · subst hj
    have := h2 j
    rw [hk] at this
    simp only [A.rep] at this
    simp only [put_same]
    simp only [A.rep, envOf]
    exact ⟨e, wd, [], 0, by simp, by simp, by rw [this]; rfl, fun _ => .inl ⟨by simp, this⟩⟩
  · simp only [put_ne _ _ hj]; exact A.rep_le L1 _ _ (h2 j)

theorem repL_set {E : Env} : ∀ (cs : List A) (vs : List Value) (i : Nat) (a : A) (v : Value), repL E cs vs → vs[i]? = some v → a.rep E v → repL E (cs.set i a) vs
  | [], vs, i, a, v, h, _, _ => by simpa using h
  | c :: cs, vs, 0, a, v, h, hv, ha => by
    simp only [repL] at h
    obtain ⟨u, us, rfl, h2, h3⟩ := h
    simp at hv
    subst hv
    simp only [List.set_cons_zero, repL]
    exact ⟨u, us, rfl, ha, h3⟩
  | c :: cs, vs, i + 1, a, v, h, hv, ha => by
    simp only [repL] at h
    obtain ⟨u, us, rfl, h2, h3⟩ := h
    simp only [List.set_cons_succ, repL]
    exact ⟨u, us, rfl, h2, repL_set cs us i a v h3 (by simpa using hv) ha⟩

/-- What is known of a cell of a variable is changed to something that is so as well. -/
theorem Rel.recell {cx : Cx} {β : Nat → Option (Option Nat)} {h : Nat → Option Ob} {w : World} (r : Rel cx β h w) {o i : Nat} {cs : List A} {a c : A} (ho : h o = some (.var cs)) (hi : cs[i]? = some c)
    (hac : ∀ v, c.rep (envOf cx.Xo β h w) v → a.rep (envOf cx.Xo β h w) v) : Rel cx β (put h o (some (.var (cs.set i a)))) w ∧ (envOf cx.Xo β h w).Le (envOf cx.Xo β (put h o (some (.var (cs.set i a)))) w) := by
  refine r.step (Ev.refl _ _) (fun k => ?_) (fun k x hk => ?_) (fun _ _ h => .inl h) r.inj (fun b j hX => ?_) (fun k x bo h1 h2 => ?_)
  · by_cases hk : k = o
    · subst hk; rw [r.dom k, ho]; simp
    · rw [put_ne _ _ hk, r.dom k]
  · by_cases hk' : k = o
    · subst hk'
      rw [ho] at hk
      cases hk
      exact ⟨_, by simp; rfl, by simp [Ob.grow]⟩
    · exact ⟨x, by rw [put_ne _ _ hk', hk], Ob.grow_refl _ _⟩
  · obtain ⟨k, x, h1, h2, h3⟩ := hX
    by_cases hk : k = o
    · subst hk
      exact .inl ⟨k, _, ho, h2, trivial⟩
    · rw [put_ne _ _ hk] at h1; exact .inl ⟨k, x, h1, h2, h3⟩
  · by_cases hk : k = o
    · subst hk
      simp at h1
      subst h1
      refine .inr fun L => ?_
      have := r.obj k _ _ ho h2
      simp only [Ob.rep] at this ⊢
      obtain ⟨b, c', el, g1, g2, g3, g4⟩ := this
      obtain ⟨v, hv, hc⟩ := repL_get cs c'.toList i c g3 hi
      exact ⟨b, c', el, g1, g2, repL_le L _ _ (repL_set _ _ _ _ _ g3 hv (hac _ hc)), g4⟩
    · rw [put_ne _ _ hk] at h1
      exact .inl ⟨h1, h2, fun _ _ => rfl⟩

/-- A variable's cell: its nil slice is an object from now on. -/
theorem Weak.nilCell {s : St} (q i o e wd : Nat) {cs : List A} (hq : s.o q = some (.var cs)) (hi : cs[i]? = some .snil) (ho : s.o o = none) :
    Weak s ⟨s.t, put (put s.o o (some (.vec e wd [] 0))) q (some (.var (cs.set i (.vec o 0))))⟩ := by
  intro cx N a w ⟨β, h1, h2, h3, h4⟩
  obtain ⟨r1, L1⟩ := h1.nil o e wd ho
  have hne : q ≠ o := fun e => by rw [e, ho] at hq; cases hq
  obtain ⟨r2, L2⟩ := r1.recell (o := q) (i := i) (a := .vec o 0) (by rw [put_ne _ _ hne]; exact hq) hi (fun v hc => by
    simp only [A.rep] at hc
    simp only [A.rep, envOf]
    exact ⟨e, wd, [], 0, by simp, by simp, by rw [hc]; rfl, fun _ => .inl ⟨by simp, hc⟩⟩)
  exact ⟨_, r2, fun j => A.rep_le (L1.trans L2) _ _ (h2 j), h3, h4⟩

theorem frz_again {h : Nat → Option Ob} {wd : Nat} {c : A} {f : Frz} (hf : frz h wd c = some f) : frz (upds h f.upd) wd c = some f ∧ upds (upds h f.upd) f.upd = upds h f.upd := by
  unfold frz at hf ⊢
  split at hf
  · cases hf; exact ⟨rfl, rfl⟩
  · cases hf; exact ⟨rfl, rfl⟩
  · cases hf; exact ⟨rfl, rfl⟩
  · rename_i o n
    split at hf
    · cases hf
      simp only [upds, put_same]
      refine ⟨trivial, ?_⟩
      funext k
      by_cases hk : k = o
      · subst hk; simp
      · simp [put_ne _ _ hk]
    · cases hf
  · cases hf

/-- A variable's cell: its slice is shut. -/
theorem Weak.frzCell {s : St} (q i wd : Nat) {cs : List A} {c : A} {f : Frz} (hq : s.o q = some (.var cs)) (hi : cs[i]? = some c) (hf : frz s.o wd c = some f) (hs : f.side) (hk : upds s.o f.upd q = some (.var cs)) :
    Weak s ⟨s.t, put (upds s.o f.upd) q (some (.var (cs.set i (.d f.x))))⟩ := by
  intro cx N a w ⟨β, h1, h2, h3, h4⟩
  have hrest : ∃ v, c.rep (envOf cx.Xo β s.o w) v := by
    have hd := h1.dom q
    rw [hq] at hd
    obtain ⟨bo, hbo⟩ := Option.isSome_iff_exists.1 (by simpa using hd)
    have := h1.obj q _ _ hq hbo
    simp only [Ob.rep] at this
    obtain ⟨_, c', _, _, _, g3, _⟩ := this
    obtain ⟨v, _, hv⟩ := repL_get cs c'.toList i c g3 hi
    exact ⟨v, hv⟩
  obtain ⟨v0, hv0⟩ := hrest
  obtain ⟨r1, L1, _⟩ := frz_ok h1 hf hs hv0
  obtain ⟨k1, k2⟩ := frz_again hf
  obtain ⟨r2, L2⟩ := r1.recell (o := q) (i := i) (a := .d f.x) hk hi (fun v hc => by
    obtain ⟨_, _, x1⟩ := frz_ok r1 k1 hs hc
    rw [k2] at x1
    simpa [A.rep] using x1)
  exact ⟨_, r2, fun j => A.rep_le (L1.trans L2) _ _ (h2 j), h3, h4⟩
end Go.Am

namespace Go.Am

/-- The contract of a function: called with as (which name objects of os alone), it returns res, and the objects are as in os'. -/
structure ACall (P : Program) (f : FuncId) (as : List A) (os : List (Nat × Ob)) (res : A) (os' : List (Nat × Ob)) : Prop where
  fn : ∃ fn, P.funcs[f]? = some fn ∧ (fn.name == "runtime.NumGoroutine") = false ∧ fn.body.isSome = true
  calls : ∀ (Xo : Nat → Nat → Prop) (β : Nat → Option (Option Nat)) (w : World) (vs : List Value), Rel ⟨w, Xo, Xh β (lookO os), β, lookO os⟩ β (lookO os) w → repL (envOf Xo β (lookO os) w) as vs →
    Calls P f vs.toArray w fun en w' => ∃ v β', en = .returned v ∧ Rel ⟨w, Xo, Xh β (lookO os), β, lookO os⟩ β' (lookO os') w' ∧ res.rep (envOf Xo β' (lookO os') w') v

def argT (k : Nat) : List A → List (Nat × A)
  | [] => []
  | a :: as => (k, a) :: argT (k + 1) as

/-- One result, as the frame's slots have it. -/
def res1 (tt : Types) (σ : SL) : ResultVar → Option (Prop × A)
  | .tmp t => some (True, lookT σ.t t)
  | .cell p t => match lookT σ.t p with
    | .ptr o off => match lookO σ.o o with
      | some (.var cs) => loadA tt t cs off
      | _ => none
    | _ => none
def resL (tt : Types) (σ : SL) : List ResultVar → Option (Prop × List A)
  | [] => some (True, [])
  | r :: rs => match res1 tt σ r, resL tt σ rs with
    | some (p, a), some (q, as) => some (p ∧ q, a :: as)
    | _, _ => none
def resA (tt : Types) (σ : SL) (rs : List ResultVar) : Option (Prop × A) :=
  match resL tt σ rs with
  | some (p, [a]) => some (p, a)
  | some (p, as) => some (p, .tup as)
  | none => none

def retx (x : Option (Prop × A)) (σ : SL) (res : A) (os' : List (Nat × Ob)) : Prop :=
  match x with
  | some (p, a) => p ∧ Weak ⟨lookT [(0, a)], lookO σ.o⟩ ⟨lookT [(0, res)], lookO os'⟩
  | none => False
/-- The end of a body. -/
def bodyK (tt : Types) (rs : List ResultVar) (res : A) (os' : List (Nat × Ob)) : Exit → SL → Prop
  | .normal, σ => retx (resA tt σ rs) σ res os'
  | .ret, σ => retx (resA tt σ rs) σ res os'
  | _, _ => False

def resV (tmps : Array Value) : ResultVar → Sem Value
  | .tmp t => pure (tmps.getD t undef)
  | .cell q t => do loadVar t (← asAddr (tmps.getD q undef))

theorem res1_ok {P : Program} {tt : Types} (T : tt.ok P) {cx : Cx} {N : Nat} {σ : SL} {a : Act} {w : World} {β : Nat → Option (Option Nat)} (h1 : Rel cx β σ.st.o w) (h2 : ∀ k, (σ.st.t k).rep (envOf cx.Xo β σ.st.o w) (a.tmps.getD k undef)) {r : ResultVar} {p : Prop} {x : A}
    (hr : res1 tt σ r = some (p, x)) (hp : p) : ∃ v, (resV a.tmps r).run P w = .ok v w ∧ x.rep (envOf cx.Xo β σ.st.o w) v := by
  cases r with
  | tmp t =>
    simp only [res1, Option.some.injEq, Prod.mk.injEq] at hr
    obtain ⟨_, rfl⟩ := hr
    exact ⟨_, rfl, h2 t⟩
  | cell q t =>
    simp only [res1] at hr
    split at hr
    · rename_i o off hq
      split at hr
      · rename_i cs ho
        have hv := h2 q
        have hq' : σ.st.t q = .ptr o off := hq
        rw [hq'] at hv
        simp only [A.rep] at hv
        obtain ⟨b, _, hb, _, hval⟩ := hv
        obtain ⟨b', c, el, g1, g2, g3, g4⟩ := h1.obj o _ _ ho hb
        cases g1
        obtain ⟨v, hl, hx⟩ := load_run (w := w) T hr hp b 0 c.toList (fun j v hj => by simp only [World.cell?, g2]; simpa using hj) g3 g4
        rw [Nat.zero_add] at hl
        exact ⟨v, by simp [resV, hval, asAddr, hl], hx⟩
      · cases hr
    · cases hr

theorem resL_ok {P : Program} {tt : Types} (T : tt.ok P) {cx : Cx} {σ : SL} {a : Act} {w : World} {β : Nat → Option (Option Nat)} (h1 : Rel cx β σ.st.o w) (h2 : ∀ k, (σ.st.t k).rep (envOf cx.Xo β σ.st.o w) (a.tmps.getD k undef)) :
    ∀ (rs : List ResultVar) (p : Prop) (xs : List A), resL tt σ rs = some (p, xs) → p → ∃ vs, (rs.mapM (resV a.tmps)).run P w = .ok vs w ∧ repL (envOf cx.Xo β σ.st.o w) xs vs
  | [], p, xs, hr, _ => by
    simp only [resL, Option.some.injEq, Prod.mk.injEq] at hr
    obtain ⟨_, rfl⟩ := hr
    exact ⟨[], by simp, by simp [repL]⟩
  | r :: rs, p, xs, hr, hp => by
    simp only [resL] at hr
    split at hr
    · rename_i p1 x1 q1 xs1 e1 e2
      simp only [Option.some.injEq, Prod.mk.injEq] at hr
      obtain ⟨rfl, rfl⟩ := hr
      obtain ⟨v, g1, g2⟩ := res1_ok (N := 0) T h1 h2 e1 hp.1
      obtain ⟨vs, g3, g4⟩ := resL_ok T h1 h2 rs _ _ e2 hp.2
      refine ⟨v :: vs, ?_, ?_⟩
      · rw [List.mapM_cons]
        simp only [Sem.run_bind, g1, g3, Result.andThen_ok, Sem.run_pure]
      · simp only [repL]; exact ⟨v, vs, rfl, g2, g4⟩
    · cases hr

theorem lookT_arg : ∀ (as : List A) (k j : Nat), lookT (argT k as) j = if k ≤ j then (as[j - k]?).getD .any else .any
  | [], k, j => by simp [argT, lookT]
  | a :: as, k, j => by
    simp only [argT, lookT]
    rw [lookT_arg as (k + 1) j]
    by_cases h1 : k = j
    · subst h1; simp
    · simp only [h1, if_false]
      by_cases h2 : k + 1 ≤ j
      · have : j - k = (j - (k + 1)) + 1 := by omega
        rw [if_pos h2, if_pos (by omega), this, List.getElem?_cons_succ]
      · rw [if_neg h2, if_neg (by omega)]

/-- A function's contract, from its body. -/
theorem ACall.enter {P : Program} {tt : Types} (hm : P.follows .mixedOrders = true) (T : tt.ok P) {f : FuncId} {fn : Func} {c : Code} {as : List A} {os os' : List (Nat × Ob)} {res : A} (hf : P.funcs[f]? = some fn) (hname : (fn.name == "runtime.NumGoroutine") = false) (hb : fn.body = some c)
    (N : Nat) (hNn : fn.ntmps = N) (hN : as.length ≤ N) (hc : cOk N c = true) (rs : List ResultVar) (hrs : fn.results.toList = rs) (h : ev P tt c (bodyK tt rs res os') ⟨argT 0 as, os⟩) : ACall P f as os res os' where
  fn := ⟨fn, hf, hname, by rw [hb]; rfl⟩
  calls := fun Xo β w vs rel hr => by
    have hvl := repL_length _ _ hr
    have rel0 : RelT ⟨w, Xo, Xh β (lookO os), β, lookO os⟩ N (⟨argT 0 as, os⟩ : SL).st { tmps := vs.toArray ++ Array.replicate (fn.ntmps - vs.toArray.size) undef, defers := [] } w := by
      refine ⟨β, rel, fun k => ?_, by simp; omega, rfl⟩
      show (lookT (argT 0 as) k).rep _ _
      rw [lookT_arg]
      simp only [Nat.zero_le, if_true, Nat.sub_zero]
      cases hk : as[k]? with
      | none => simp [A.rep]
      | some a =>
        obtain ⟨v, hv, hx⟩ := repL_get as vs k a hr hk
        have hlt : k < vs.length := by
          rcases Nat.lt_or_ge k vs.length with q | q
          · exact q
          · simp [List.getElem?_eq_none q] at hv
        have : (vs.toArray ++ Array.replicate (fn.ntmps - vs.toArray.size) undef).getD k undef = v := by
          rw [Array.getD_eq_getD_getElem?, Array.getElem?_append_left (by simpa using hlt)]
          simp [hv]
        rw [this]
        exact hx
    refine calls_of_wp hf hb (wp_mono (ev_ok hm T c _ _ h hc _ w rel0) fun e a' w' hp => ?_)
    obtain ⟨σ', r', k'⟩ := hp
    have fin : retx (resA tt σ' rs) σ' res os' → a'.defers = [] ∧ ∃ v, (results fn a'.tmps).run P w' = .ok v w' ∧ ∃ v_1 β', Ending.returned v = .returned v_1 ∧ Rel ⟨w, Xo, Xh β (lookO os), β, lookO os⟩ β' (lookO os') w' ∧ res.rep (envOf Xo β' (lookO os') w') v_1 := by
      intro hret
      obtain ⟨β1, q1, q2, q3, q4⟩ := r'
      refine ⟨q4, ?_⟩
      have hres : ∀ w, (results fn a'.tmps).run P w = (do let vs ← fn.results.mapM (resV a'.tmps); pure (if h : vs.size = 1 then vs[0] else .tuple vs) : Sem Value).run P w := fun w => rfl
      unfold retx at hret
      split at hret
      · rename_i p x hx
        obtain ⟨hp, hw⟩ := hret
        -- the value of the results
        have hval : ∃ v, (results fn a'.tmps).run P w' = .ok v w' ∧ x.rep (envOf Xo β1 σ'.st.o w') v := by
          unfold resA at hx
          have key : ∀ xs, resL tt σ' rs = some (p, xs) → ∃ vs, (fn.results.mapM (resV a'.tmps)).run P w' = .ok vs.toArray w' ∧ repL (envOf Xo β1 σ'.st.o w') xs vs := by
            intro xs hxs
            obtain ⟨vs, g1, g2⟩ := resL_ok T q1 q2 rs p xs hxs hp
            refine ⟨vs, ?_, g2⟩
            rw [Array.mapM_eq_mapM_toList, hrs]
            simp only [Sem.run_map, g1, Result.andThen_ok]
          split at hx
          · rename_i p' a1 hL
            simp only [Option.some.injEq, Prod.mk.injEq] at hx
            obtain ⟨rfl, rfl⟩ := hx
            obtain ⟨vs, g1, g2⟩ := key _ hL
            simp only [repL] at g2
            obtain ⟨u, us, rfl, g3, rfl⟩ := g2
            refine ⟨u, ?_, g3⟩
            rw [hres]
            simp only [Sem.run_bind, g1]
            simp
          · rename_i p' as1 hne hL
            simp only [Option.some.injEq, Prod.mk.injEq] at hx
            obtain ⟨rfl, rfl⟩ := hx
            obtain ⟨vs, g1, g2⟩ := key _ hL
            have hlen := repL_length _ _ g2
            refine ⟨.tuple vs.toArray, ?_, by simp only [A.rep]; exact ⟨vs, rfl, g2⟩⟩
            rw [hres]
            simp only [Sem.run_bind, g1]
            have h1 : ¬ vs.toArray.size = 1 := by
              intro h1
              simp at h1
              rcases as1 with _ | ⟨a1, _ | ⟨a2, as2⟩⟩
              · simp at hlen; simp [hlen] at h1
              · exact absurd rfl (hne a1)
              · simp at hlen; omega
            simp only [Result.andThen_ok, Sem.run_pure, h1, dite_false]
          · cases hx
        obtain ⟨v, g1, g2⟩ := hval
        refine ⟨v, g1, v, ?_⟩
        have hst : RelT ⟨w, Xo, Xh β (lookO os), β, lookO os⟩ 1 ⟨lookT [(0, x)], lookO σ'.o⟩ { tmps := #[v], defers := [] } w' := by
          refine ⟨β1, q1, fun k => ?_, rfl, rfl⟩
          simp only [lookT]
          by_cases hk : 0 = k
          · subst hk; simp only [if_true]; exact g2
          · simp only [hk, if_false]; simp [A.rep]
        obtain ⟨β2, p1, p2, _, _⟩ := hw _ 1 _ w' hst
        have := p2 0
        simp only [lookT, if_true] at this
        exact ⟨β2, rfl, p1, by simpa using this⟩
      · exact hret.elim
    cases e with
    | normal => exact fin k'
    | ret => exact fin k'
    | exit i => exact k'.elim
    | goto l => exact k'.elim
    | panic ch => exact k'.elim
    | outgrown => exact k'.elim
end Go.Am

namespace Go.Am

mutual
def A.ren (r : Nat → Nat) : A → A
  | .any => .any
  | .d x => .d x
  | .snil => .snil
  | .ptr o off => .ptr (r o) off
  | .vec o n => .vec (r o) n
  | .vptr o n i off => .vptr (r o) n i off
  | .csl w rows => .csl w rows
  | .clo f caps => .clo f (renL r caps)
  | .agg cs => .agg (renL r cs)
  | .tup vs => .tup (renL r vs)
def renL (r : Nat → Nat) : List A → List A
  | [] => []
  | a :: as => a.ren r :: renL r as
end
def Ob.ren (r : Nat → Nat) : Ob → Ob
  | .var cs => .var (renL r cs)
  | .vec e w rows fz => .vec e w rows fz

/-- E has the objects of E' under other numbers. -/
structure Env.Ren (r : Nat → Nat) (E' E : Env) : Prop where
  R : ∀ b i v, E'.R b i v → E.R b i v
  h : ∀ o ob, E'.h o = some ob → E.h (r o) = some (ob.ren r) ∧ E.β (r o) = E'.β o
  sz : ∀ b n, E'.sz b n → E.sz b n

mutual
theorem A.rep_ren {r : Nat → Nat} {E' E : Env} (L : Env.Ren r E' E) : ∀ (a : A) (v : Value), a.rep E' v → (a.ren r).rep E v
  | .any, _, _ => by simp [A.ren, A.rep]
  | .d x, v, h => by
    simp only [A.ren, A.rep] at h ⊢
    exact D.rep_mono L.R x v h
  | .snil, v, h => by simpa [A.ren, A.rep] using h
  | .ptr o off, v, h => by
    simp only [A.ren, A.rep] at h ⊢
    obtain ⟨b, cs, h1, h2, h3⟩ := h
    obtain ⟨g1, g2⟩ := L.h o _ h2
    exact ⟨b, _, g2.trans h1, g1, h3⟩
  | .vec o n, v, h => by
    simp only [A.ren, A.rep] at h ⊢
    obtain ⟨e, wd, rows, fz, h1, h2, h3, h4⟩ := h
    obtain ⟨g1, g2⟩ := L.h o _ h1
    refine ⟨e, wd, rows, fz, g1, h2, h3, fun hn => ?_⟩
    rw [g2]
    rcases h4 hn with q | ⟨b, cap, q1, q2, q3, q4, q5⟩
    · exact .inl q
    · exact .inr ⟨b, cap, q1, q2, q3, q4, L.sz _ _ q5⟩
  | .vptr o n i off, v, h => by
    simp only [A.ren, A.rep] at h ⊢
    obtain ⟨e, wd, rows, fz, h1, h2, h3, h4⟩ := h
    obtain ⟨g1, g2⟩ := L.h o _ h1
    refine ⟨e, wd, rows, fz, g1, h2, h3, fun hn => ?_⟩
    rw [g2]
    exact h4 hn
  | .csl wd rows, v, h => by
    simp only [A.ren, A.rep] at h ⊢
    obtain ⟨a, h1, h2, h3⟩ := h
    exact ⟨a, h1, h2, fun a' ha => ⟨(h3 a' ha).1, rowsAt_mono L.R (L.R a'.block) _ _ _ (h3 a' ha).2⟩⟩
  | .clo f caps, v, h => by
    simp only [A.ren, A.rep] at h ⊢
    obtain ⟨vs, h1, h2⟩ := h
    exact ⟨vs, h1, repL_ren L caps vs h2⟩
  | .agg cs, v, h => by
    simp only [A.ren, A.rep] at h ⊢
    obtain ⟨vs, h1, h2, h3⟩ := h
    exact ⟨vs, h1, repL_ren L cs vs h2, h3⟩
  | .tup as, v, h => by
    simp only [A.ren, A.rep] at h ⊢
    obtain ⟨vs, h1, h2⟩ := h
    exact ⟨vs, h1, repL_ren L as vs h2⟩
theorem repL_ren {r : Nat → Nat} {E' E : Env} (L : Env.Ren r E' E) : ∀ (as : List A) (vs : List Value), repL E' as vs → repL E (renL r as) vs
  | [], vs, h => by simpa [renL, repL] using h
  | a :: as, vs, h => by
    simp only [renL, repL] at h ⊢
    obtain ⟨u, us, h1, h2, h3⟩ := h
    exact ⟨u, us, h1, A.rep_ren L a u h2, repL_ren L as us h3⟩
end

/-- And back: E' has some of E's objects, under numbers of its own. -/
structure Env.Unren (dom : Nat → Bool) (r : Nat → Nat) (E E' : Env) : Prop where
  R : ∀ b i v, E.R b i v → E'.R b i v
  h : ∀ o, dom o = true → ∃ ob, E'.h o = some ob ∧ E.h (r o) = some (ob.ren r) ∧ E.β (r o) = E'.β o
  sz : ∀ b n, E.sz b n → E'.sz b n

mutual
theorem A.rep_unren {dom : Nat → Bool} {r : Nat → Nat} {E E' : Env} (L : Env.Unren dom r E E') : ∀ (a : A) (v : Value), a.closed dom = true → (a.ren r).rep E v → a.rep E' v
  | .any, _, _, _ => by simp [A.rep]
  | .d x, v, _, h => by
    simp only [A.ren, A.rep] at h ⊢
    exact D.rep_mono L.R x v h
  | .snil, v, _, h => by simpa [A.ren, A.rep] using h
  | .ptr o off, v, hc, h => by
    simp only [A.closed] at hc
    obtain ⟨ob, g1, g2, g3⟩ := L.h o hc
    simp only [A.ren, A.rep] at h ⊢
    obtain ⟨b, cs, h1, h2, h3⟩ := h
    rw [g2] at h2
    cases ob with
    | var cs' => exact ⟨b, cs', g3 ▸ h1, g1, h3⟩
    | vec => simp [Ob.ren] at h2
  | .vec o n, v, hc, h => by
    simp only [A.closed] at hc
    obtain ⟨ob, g1, g2, g3⟩ := L.h o hc
    simp only [A.ren, A.rep] at h ⊢
    obtain ⟨e, wd, rows, fz, h1, h2, h3, h4⟩ := h
    rw [g2] at h1
    cases ob with
    | var cs' => simp [Ob.ren] at h1
    | vec e' w' rows' fz' =>
      simp only [Ob.ren, Option.some.injEq, Ob.vec.injEq] at h1
      obtain ⟨rfl, rfl, rfl, rfl⟩ := h1
      refine ⟨_, _, _, _, g1, h2, h3, fun hn => ?_⟩
      rw [← g3]
      rcases h4 hn with q | ⟨b, cap, q1, q2, q3, q4, q5⟩
      · exact .inl q
      · exact .inr ⟨b, cap, q1, q2, q3, q4, L.sz _ _ q5⟩
  | .vptr o n i off, v, hc, h => by
    simp only [A.closed] at hc
    obtain ⟨ob, g1, g2, g3⟩ := L.h o hc
    simp only [A.ren, A.rep] at h ⊢
    obtain ⟨e, wd, rows, fz, h1, h2, h3, h4⟩ := h
    rw [g2] at h1
    cases ob with
    | var cs' => simp [Ob.ren] at h1
    | vec e' w' rows' fz' =>
      simp only [Ob.ren, Option.some.injEq, Ob.vec.injEq] at h1
      obtain ⟨rfl, rfl, rfl, rfl⟩ := h1
      refine ⟨_, _, _, _, g1, h2, h3, fun hn => ?_⟩
      rw [← g3]
      exact h4 hn
  | .csl wd rows, v, _, h => by
    simp only [A.ren, A.rep] at h ⊢
    obtain ⟨a, h1, h2, h3⟩ := h
    exact ⟨a, h1, h2, fun a' ha => ⟨(h3 a' ha).1, rowsAt_mono L.R (L.R a'.block) _ _ _ (h3 a' ha).2⟩⟩
  | .clo f caps, v, hc, h => by
    simp only [A.closed] at hc
    simp only [A.ren, A.rep] at h ⊢
    obtain ⟨vs, h1, h2⟩ := h
    exact ⟨vs, h1, repL_unren L caps vs hc h2⟩
  | .agg cs, v, hc, h => by
    simp only [A.closed] at hc
    simp only [A.ren, A.rep] at h ⊢
    obtain ⟨vs, h1, h2, h3⟩ := h
    exact ⟨vs, h1, repL_unren L cs vs hc h2, h3⟩
  | .tup as, v, hc, h => by
    simp only [A.closed] at hc
    simp only [A.ren, A.rep] at h ⊢
    obtain ⟨vs, h1, h2⟩ := h
    exact ⟨vs, h1, repL_unren L as vs hc h2⟩
theorem repL_unren {dom : Nat → Bool} {r : Nat → Nat} {E E' : Env} (L : Env.Unren dom r E E') : ∀ (as : List A) (vs : List Value), closedL dom as = true → repL E (renL r as) vs → repL E' as vs
  | [], vs, _, h => by simpa [renL, repL] using h
  | a :: as, vs, hc, h => by
    simp only [closedL, Bool.and_eq_true] at hc
    simp only [renL, repL] at h ⊢
    obtain ⟨u, us, h1, h2, h3⟩ := h
    exact ⟨u, us, h1, A.rep_unren L a u hc.1 h2, repL_unren L as us hc.2 h3⟩
end

structure FrzS where
  x : A
  upd : List (Nat × Ob)
  rd : List Nat
  side : Prop
structure FrzSL where
  xs : List A
  upd : List (Nat × Ob)
  rd : List Nat
  side : Prop

/-- A value as an argument: slices of the frame's own are shut. -/
def frzS (h : Nat → Option Ob) (wd : Nat) : A → Option FrzS
  | .snil => some ⟨.d (.sl wd []), [], [], True⟩
  | .csl w rows => some ⟨.d (.sl w rows), [], [], True⟩
  | .vec o n => match h o with
    | some (.vec e w rows _) => some ⟨.d (.sl w rows), [(o, .vec e w rows rows.length)], [o], n = rows.length⟩
    | _ => none
  | a => some ⟨a, [], [], True⟩
def frzSL (h : Nat → Option Ob) : List Nat → List A → Option FrzSL
  | _, [] => some ⟨[], [], [], True⟩
  | ws, a :: as => match frzS h (ws.headD 0) a with
    | some f => match frzSL (upds h f.upd) ws.tail as with
      | some g => some ⟨f.x :: g.xs, f.upd ++ g.upd, f.rd ++ g.rd, f.side ∧ g.side⟩
      | none => none
    | none => none
def frzA (h : Nat → Option Ob) (ws : List Nat) : A → Option FrzS
  | .agg cs => match frzSL h ws cs with
    | some g => some ⟨.agg g.xs, g.upd, g.rd, g.side⟩
    | none => none
  | a => frzS h (ws.headD 0) a
def frzAL (h : Nat → Option Ob) : List (List Nat) → List A → Option FrzSL
  | _, [] => some ⟨[], [], [], True⟩
  | ws, a :: as => match frzA h (ws.headD []) a with
    | some f => match frzAL (upds h f.upd) ws.tail as with
      | some g => some ⟨f.x :: g.xs, f.upd ++ g.upd, f.rd ++ g.rd, f.side ∧ g.side⟩
      | none => none
    | none => none

theorem frzS_frz {h : Nat → Option Ob} {wd : Nat} {a : A} {f : FrzS} (hf : frzS h wd a = some f) : (∃ g, frz h wd a = some g ∧ f.x = .d g.x ∧ f.upd = g.upd ∧ f.rd = g.rd ∧ f.side = g.side) ∨ (f.x = a ∧ f.upd = [] ∧ f.rd = [] ∧ f.side = True) := by
  unfold frzS at hf
  split at hf
  · cases hf; exact .inl ⟨_, rfl, rfl, rfl, rfl, rfl⟩
  · cases hf; exact .inl ⟨_, rfl, rfl, rfl, rfl, rfl⟩
  · rename_i o n
    split at hf
    · rename_i ho
      cases hf
      refine .inl ⟨⟨_, _, _, _⟩, ?_, rfl, rfl, rfl, rfl⟩
      simp only [frz, ho]
    · cases hf
  · cases hf; exact .inr ⟨rfl, rfl, rfl, rfl⟩

section
variable {cx : Cx} {β : Nat → Option (Option Nat)} {w : World}
theorem frzS_ok {h : Nat → Option Ob} {wd : Nat} {a : A} {f : FrzS} {v : Value} (rel : Rel cx β h w) (hf : frzS h wd a = some f) (hs : f.side) (hv : a.rep (envOf cx.Xo β h w) v) :
    Rel cx β (upds h f.upd) w ∧ (envOf cx.Xo β h w).Le (envOf cx.Xo β (upds h f.upd) w) ∧ f.x.rep (envOf cx.Xo β (upds h f.upd) w) v := by
  rcases frzS_frz hf with ⟨g, g1, g2, g3, g4, g5⟩ | ⟨g1, g2, g3, g4⟩
  · obtain ⟨r1, L1, x1⟩ := frz_ok rel g1 (g5 ▸ hs) hv
    rw [g2, g3]
    exact ⟨r1, L1, by simpa [A.rep] using x1⟩
  · rw [g1, g2]
    exact ⟨rel, Env.Le.refl _, hv⟩

theorem frzSL_ok : ∀ (as : List A) (ws : List Nat) {h : Nat → Option Ob} {g : FrzSL} {vs : List Value}, Rel cx β h w → frzSL h ws as = some g → g.side → repL (envOf cx.Xo β h w) as vs →
    Rel cx β (upds h g.upd) w ∧ (envOf cx.Xo β h w).Le (envOf cx.Xo β (upds h g.upd) w) ∧ repL (envOf cx.Xo β (upds h g.upd) w) g.xs vs
  | [], ws, h, g, vs, rel, hg, _, hv => by
    simp only [frzSL, Option.some.injEq] at hg
    subst hg
    exact ⟨rel, Env.Le.refl _, hv⟩
  | a :: as, ws, h, g, vs, rel, hg, hs, hv => by
    simp only [frzSL] at hg
    split at hg
    · rename_i f hf
      split at hg
      · rename_i g' hg'
        cases hg
        simp only [repL] at hv
        obtain ⟨u, us, rfl, h1, h2⟩ := hv
        obtain ⟨r1, L1, x1⟩ := frzS_ok rel hf hs.1 h1
        obtain ⟨r2, L2, x2⟩ := frzSL_ok as ws.tail r1 hg' hs.2 (repL_le L1 as us h2)
        simp only [upds_append, repL]
        exact ⟨r2, L1.trans L2, u, us, rfl, A.rep_le L2 _ _ x1, x2⟩
      · cases hg
    · cases hg

theorem frzA_ok {h : Nat → Option Ob} {ws : List Nat} {a : A} {f : FrzS} {v : Value} (rel : Rel cx β h w) (hf : frzA h ws a = some f) (hs : f.side) (hv : a.rep (envOf cx.Xo β h w) v) :
    Rel cx β (upds h f.upd) w ∧ (envOf cx.Xo β h w).Le (envOf cx.Xo β (upds h f.upd) w) ∧ f.x.rep (envOf cx.Xo β (upds h f.upd) w) v := by
  unfold frzA at hf
  split at hf
  · split at hf
    · rename_i cs g hg
      cases hf
      simp only [A.rep] at hv
      obtain ⟨vs, rfl, h1, h2⟩ := hv
      obtain ⟨r1, L1, x1⟩ := frzSL_ok _ ws rel hg hs h1
      refine ⟨r1, L1, ?_⟩
      simp only [A.rep]
      exact ⟨vs, rfl, x1, h2⟩
    · cases hf
  · exact frzS_ok rel hf hs hv

theorem frzAL_ok : ∀ (as : List A) (ws : List (List Nat)) {h : Nat → Option Ob} {g : FrzSL} {vs : List Value}, Rel cx β h w → frzAL h ws as = some g → g.side → repL (envOf cx.Xo β h w) as vs →
    Rel cx β (upds h g.upd) w ∧ (envOf cx.Xo β h w).Le (envOf cx.Xo β (upds h g.upd) w) ∧ repL (envOf cx.Xo β (upds h g.upd) w) g.xs vs
  | [], ws, h, g, vs, rel, hg, _, hv => by
    simp only [frzAL, Option.some.injEq] at hg
    subst hg
    exact ⟨rel, Env.Le.refl _, hv⟩
  | a :: as, ws, h, g, vs, rel, hg, hs, hv => by
    simp only [frzAL] at hg
    split at hg
    · rename_i f hf
      split at hg
      · rename_i g' hg'
        cases hg
        simp only [repL] at hv
        obtain ⟨u, us, rfl, h1, h2⟩ := hv
        obtain ⟨r1, L1, x1⟩ := frzA_ok rel hf hs.1 h1
        obtain ⟨r2, L2, x2⟩ := frzAL_ok as ws.tail r1 hg' hs.2 (repL_le L1 as us h2)
        simp only [upds_append, repL]
        exact ⟨r2, L1.trans L2, u, us, rfl, A.rep_le L2 _ _ x1, x2⟩
      · cases hg
    · cases hg
end

theorem frzS_local {h h2 : Nat → Option Ob} {wd : Nat} {a : A} {f : FrzS} (hf : frzS h wd a = some f) (hr : ∀ i ∈ f.rd, h2 i = h i) : frzS h2 wd a = some f ∧ Keyed f.upd f.rd := by
  unfold frzS at hf ⊢
  split at hf
  · cases hf; exact ⟨rfl, keyed_nil⟩
  · cases hf; exact ⟨rfl, keyed_nil⟩
  · rename_i o n
    split at hf
    · rename_i ho
      cases hf
      have h2o := hr o (by simp)
      simp only [h2o, ho]
      exact ⟨by first | trivial | rfl, by simp [Keyed]⟩
    · cases hf
  · cases hf; exact ⟨rfl, keyed_nil⟩

theorem keyed_append {u1 u2 : List (Nat × Ob)} {r1 r2 : List Nat} (h1 : Keyed u1 r1) (h2 : Keyed u2 r2) : Keyed (u1 ++ u2) (r1 ++ r2) := by
  intro p hp
  rcases List.mem_append.1 hp with hp | hp
  · exact List.mem_append.2 (.inl (h1 p hp))
  · exact List.mem_append.2 (.inr (h2 p hp))

theorem frzSL_local : ∀ (as : List A) (ws : List Nat) {h h2 : Nat → Option Ob} {g : FrzSL}, frzSL h ws as = some g → (∀ i ∈ g.rd, h2 i = h i) → frzSL h2 ws as = some g ∧ Keyed g.upd g.rd
  | [], ws, h, h2, g, hg, _ => by
    simp only [frzSL, Option.some.injEq] at hg ⊢
    subst hg
    exact ⟨by first | trivial | rfl, keyed_nil⟩
  | a :: as, ws, h, h2, g, hg, hr => by
    simp only [frzSL] at hg ⊢
    split at hg
    · rename_i f hf
      split at hg
      · rename_i g' hg'
        cases hg
        obtain ⟨f1, f2⟩ := frzS_local hf (h2 := h2) (fun i hi => hr i (by simp [hi]))
        obtain ⟨g1, g2⟩ := frzSL_local as ws.tail (h2 := upds h2 f.upd) hg' (fun i hi => upds_congr _ _ (hr i (by simp [hi])))
        simp only [f1, g1]
        exact ⟨by first | trivial | rfl, keyed_append f2 g2⟩
      · cases hg
    · cases hg

theorem frzA_local {h h2 : Nat → Option Ob} {ws : List Nat} {a : A} {f : FrzS} (hf : frzA h ws a = some f) (hr : ∀ i ∈ f.rd, h2 i = h i) : frzA h2 ws a = some f ∧ Keyed f.upd f.rd := by
  unfold frzA at hf ⊢
  split at hf
  · split at hf
    · rename_i cs g hg
      cases hf
      obtain ⟨g1, g2⟩ := frzSL_local _ ws (h2 := h2) hg hr
      simp only [g1]
      exact ⟨by first | trivial | rfl, g2⟩
    · cases hf
  · exact frzS_local hf hr

theorem frzAL_local : ∀ (as : List A) (ws : List (List Nat)) {h h2 : Nat → Option Ob} {g : FrzSL}, frzAL h ws as = some g → (∀ i ∈ g.rd, h2 i = h i) → frzAL h2 ws as = some g ∧ Keyed g.upd g.rd
  | [], ws, h, h2, g, hg, _ => by
    simp only [frzAL, Option.some.injEq] at hg ⊢
    subst hg
    exact ⟨by first | trivial | rfl, keyed_nil⟩
  | a :: as, ws, h, h2, g, hg, hr => by
    simp only [frzAL] at hg ⊢
    split at hg
    · rename_i f hf
      split at hg
      · rename_i g' hg'
        cases hg
        obtain ⟨f1, f2⟩ := frzA_local hf (h2 := h2) (fun i hi => hr i (by simp [hi]))
        obtain ⟨g1, g2⟩ := frzAL_local as ws.tail (h2 := upds h2 f.upd) hg' (fun i hi => upds_congr _ _ (hr i (by simp [hi])))
        simp only [f1, g1]
        exact ⟨by first | trivial | rfl, keyed_append f2 g2⟩
      · cases hg
    · cases hg
end Go.Am

namespace Go.Am

theorem Ob.excl_ren {r : Nat → Nat} {ob : Ob} {i : Nat} : (ob.ren r).excl i ↔ ob.excl i := by cases ob <;> rfl
theorem Ob.grow_ren {r : Nat → Nat} {b b' : Option (Option Nat)} {x y : Ob} (h : Ob.grow b b' x y) : Ob.grow b b' (x.ren r) (y.ren r) := by
  cases x <;> cases y <;> simpa [Ob.grow, Ob.ren] using h
theorem Ob.excl_some (ob : Ob) : ∃ i, ob.excl i := by
  cases ob with
  | var cs => exact ⟨0, trivial⟩
  | vec e w rows fz => exact ⟨fz * w, Nat.le_refl _⟩

theorem Ev.same {Y : Nat → Nat → Prop} {w w' : World} (h : Ev Y w w') {b : Nat} (hb : b < w.heap.size) (hY : ∀ i, ¬ Y b i) : w'.heap[b]? = w.heap[b]? := by
  rcases h.block b hb with e | ⟨c, c', el, e1, e2, e3, e4⟩
  · exact e
  · rw [e1, e2]
    have : c' = c := Array.ext_getElem? fun i => e4 i (hY i)
    rw [this]

theorem Ev.sz {Y : Nat → Nat → Prop} {w w' : World} (h : Ev Y w w') {b n : Nat} (hs : ∃ c el, w.heap[b]? = some (.cells c el (0, 0)) ∧ c.size = n) : ∃ c el, w'.heap[b]? = some (.cells c el (0, 0)) ∧ c.size = n := by
  obtain ⟨c, el, h1, h2⟩ := hs
  have hb : b < w.heap.size := by
    rcases Nat.lt_or_ge b w.heap.size with hl | hl
    · exact hl
    · simp [Array.getElem?_eq_none hl] at h1
  rcases h.block b hb with e | ⟨x, y, el', e1, e2, e3, _⟩
  · exact ⟨c, el, e.trans h1, h2⟩
  · rw [h1] at e1
    simp only [Option.some.injEq, Obj.cells.injEq, and_true] at e1
    obtain ⟨rfl, rfl⟩ := e1
    exact ⟨y, el, e2, by omega⟩

theorem lookO_mem : ∀ (l : List (Nat × Ob)) (o : Nat) (ob : Ob), lookO l o = some ob → (o, ob) ∈ l
  | [], o, ob, h => by simp [lookO] at h
  | (k, v) :: l, o, ob, h => by
    simp only [lookO] at h
    by_cases hk : k = o
    · subst hk; simp only [if_true, Option.some.injEq] at h; subst h; simp
    · simp only [hk, if_false] at h; exact List.mem_cons_of_mem _ (lookO_mem l o ob h)

/-- The objects that come back, under the caller's numbers. -/
theorem upds_back {r : Nat → Nat} : ∀ (l : List (Nat × Ob)) (h : Nat → Option Ob), (l.map (·.1)).Nodup → (∀ o o', inO l o = true → inO l o' = true → r o = r o' → o = o') → ∀ o ob, lookO l o = some ob → upds h (l.map fun p => (r p.1, p.2.ren r)) (r o) = some (ob.ren r)
  | [], h, _, _, o, ob, hl => by simp [lookO] at hl
  | (k, v) :: l, h, hn, hi, o, ob, hl => by
    simp only [List.map_cons, List.nodup_cons] at hn
    have hmem : ∀ j, inO l j = true → inO ((k, v) :: l) j = true := by
      intro j hj
      unfold inO at hj ⊢
      simp only [lookO]
      split
      · rfl
      · exact hj
    have hi' : ∀ o o', inO l o = true → inO l o' = true → r o = r o' → o = o' := fun o o' h1 h2 => hi o o' (hmem o h1) (hmem o' h2)
    simp only [lookO] at hl
    simp only [List.map_cons, upds]
    by_cases hk : k = o
    · subst hk
      simp only [if_true, Option.some.injEq] at hl
      subst hl
      rw [upds_not]
      · simp
      · intro hm
        simp only [List.map_map, List.mem_map, Function.comp] at hm
        obtain ⟨p, hp, hpk⟩ := hm
        have hin : inO l p.1 = true := by
          obtain ⟨x, hx⟩ : ∃ x, lookO l p.1 = some x := by
            clear hpk hi hi' hmem hn
            induction l with
            | nil => simp at hp
            | cons q l ih =>
              simp only [lookO]
              by_cases hq : q.1 = p.1
              · exact ⟨q.2, by simp [hq]⟩
              · rcases List.mem_cons.1 hp with rfl | hp
                · exact absurd rfl hq
                · obtain ⟨x, hx⟩ := ih hp
                  exact ⟨x, by simp [hq, hx]⟩
          unfold inO
          rw [hx]
          rfl
        have heq := hi p.1 k (hmem _ hin) (by unfold inO; simp [lookO]) hpk
        exact hn.1 (List.mem_map.2 ⟨p, hp, heq⟩)
    · simp only [hk, if_false] at hl
      exact upds_back l _ hn.2 hi' o ob hl

theorem upds_back_not {r : Nat → Nat} {l : List (Nat × Ob)} {h : Nat → Option Ob} {j : Nat} (hj : ∀ o, inO l o = true → r o ≠ j) : upds h (l.map fun p => (r p.1, p.2.ren r)) j = h j := by
  refine upds_not _ _ fun hm => ?_
  simp only [List.map_map, List.mem_map, Function.comp] at hm
  obtain ⟨p, hp, hpk⟩ := hm
  refine hj p.1 ?_ hpk
  clear hj hpk
  induction l with
  | nil => simp at hp
  | cons q l ih =>
    unfold inO at ih ⊢
    simp only [lookO]
    by_cases hq : q.1 = p.1
    · simp [hq]
    · rcases List.mem_cons.1 hp with rfl | hp
      · exact absurd rfl hq
      · simp only [hq, if_false]; exact ih hp

open Classical in
theorem FnCall.of {P : Program} {f : FuncId} {as : List A} {h : Nat → Option Ob} {cws : List (List Nat)} {g : FrzSL} (hz : frzAL h cws as = some g) (hgs : g.side) {cas : List A} {os os' : List (Nat × Ob)} {cres : A} (ac : ACall P f cas os cres os')
    (r : Nat → Nat) (hargs : renL r cas = g.xs) (hcl : closedL (inO os) cas = true) (hos : ∀ o ob, lookO os o = some ob → upds h g.upd (r o) = some (ob.ren r) ∧ ob.closed (inO os) = true)
    (hsub : ∀ o, inO os o = true → inO os' o = true) (hinj : ∀ o o', inO os' o = true → inO os' o' = true → r o = r o' → o = o') (hnew : ∀ o, inO os' o = true → inO os o = false → upds h g.upd (r o) = none)
    (hbig : ∀ o, inO os o = true → 1000 ≤ o) (hnd : (os'.map (·.1)).Nodup) :
    FnCall P f as h ⟨True, cres.ren r, g.upd ++ os'.map (fun p => (r p.1, p.2.ren r)), g.rd ++ os'.map (fun p => r p.1)⟩ where
  fn := ac.fn
  keyed := keyed_append (frzAL_local as cws hz (fun _ _ => rfl)).2 (by intro p hp; simp only [List.mem_map] at hp ⊢; obtain ⟨q, hq, rfl⟩ := hp; exact ⟨q, hq, rfl⟩)
  calls := fun h2 hr2 cx β w vs rel0 hvs0 => by
    obtain ⟨hz2, _⟩ := frzAL_local as cws hz (h2 := h2) (fun i hi => hr2 i (by simp [hi]))
    obtain ⟨rel, L0, hvs⟩ := frzAL_ok as cws rel0 hz2 hgs hvs0
    -- the numbers that the caller has for the callee's objects are among those that are read
    have hrd : ∀ o, inO os' o = true → r o ∈ os'.map (fun p => r p.1) := by
      intro o ho
      unfold inO at ho
      obtain ⟨ob, hob⟩ := Option.isSome_iff_exists.1 ho
      exact List.mem_map.2 ⟨_, lookO_mem _ _ _ hob, rfl⟩
    have hag : ∀ o, inO os' o = true → upds h2 g.upd (r o) = upds h g.upd (r o) := fun o ho => upds_congr _ _ (hr2 _ (List.mem_append.2 (.inr (hrd o ho))))
    have hos2 : ∀ o ob, lookO os o = some ob → upds h2 g.upd (r o) = some (ob.ren r) ∧ ob.closed (inO os) = true := by
      intro o ob ho
      obtain ⟨h3, h4⟩ := hos o ob ho
      exact ⟨(hag o (hsub o (by unfold inO; rw [ho]; rfl))).trans h3, h4⟩
    have hnew2 : ∀ o, inO os' o = true → inO os o = false → upds h2 g.upd (r o) = none := fun o h3 h4 => (hag o h3).trans (hnew o h3 h4)
    generalize hh1 : upds h2 g.upd = h1 at *
    -- the callee's view
    let βc : Nat → Option (Option Nat) := fun o => if inO os o = true then β (r o) else none
    let Xo' : Nat → Nat → Prop := fun b i => cx.Xo b i ∨ ∃ o' ob, h1 o' = some ob ∧ (∀ o, inO os o = true → r o ≠ o') ∧ β o' = some (some b) ∧ ob.excl i
    have hin : ∀ {o ob}, lookO os o = some ob → inO os o = true := fun {o ob} ho => by unfold inO; rw [ho]; rfl
    have hβc : ∀ o, inO os o = true → βc o = β (r o) := fun o ho => if_pos ho
    have hXc : ∀ b i, Xh βc (lookO os) b i → ∃ o, inO os o = true ∧ β (r o) = some (some b) ∧ Xh β h1 b i := by
      rintro b i ⟨o, ob, k1, k2, k3⟩
      have hio := hin k1
      rw [hβc o hio] at k2
      exact ⟨o, hio, k2, r o, ob.ren r, (hos2 o ob k1).1, k2, Ob.excl_ren.2 k3⟩
    have hXsplit : ∀ b i, Xh β h1 b i → (∃ o' ob, h1 o' = some ob ∧ (∀ o, inO os o = true → r o ≠ o') ∧ β o' = some (some b) ∧ ob.excl i) ∨ Xh βc (lookO os) b i := by
      rintro b i ⟨o', ob, k1, k2, k3⟩
      by_cases hp : ∃ o, inO os o = true ∧ r o = o'
      · obtain ⟨o, k4, rfl⟩ := hp
        obtain ⟨obc, hobc⟩ := Option.isSome_iff_exists.1 (show (lookO os o).isSome = true from k4)
        have k5 := (hos2 o obc hobc).1
        rw [k1] at k5
        cases k5
        exact .inr ⟨o, obc, hobc, (hβc o k4).trans k2, Ob.excl_ren.1 k3⟩
      · exact .inl ⟨o', ob, k1, fun o k4 k5 => hp ⟨o, k4, k5⟩, k2, k3⟩
    have U : Env.Unren (inO os) r (envOf cx.Xo β h1 w) (envOf Xo' βc (lookO os) w) := by
      refine ⟨fun b i v hr => ⟨fun hX => ?_, fun hX => ?_, hr.2.2⟩, fun o ho => ?_, fun _ _ h => h⟩
      · rcases hX with hX | ⟨o', ob, k1, _, k2, k3⟩
        · exact hr.1 hX
        · exact hr.2.1 ⟨o', ob, k1, k2, k3⟩
      · obtain ⟨_, _, _, k⟩ := hXc b i hX
        exact hr.2.1 k
      · obtain ⟨obc, hobc⟩ := Option.isSome_iff_exists.1 (show (lookO os o).isSome = true from ho)
        exact ⟨obc, hobc, (hos2 o obc hobc).1, (hβc o ho).symm⟩
    have relc : Rel ⟨w, Xo', Xh βc (lookO os), βc, lookO os⟩ βc (lookO os) w := by
      refine ⟨fun o => ?_, fun o ob bo k1 k2 => ?_, fun o o' b k1 k2 => ?_, fun o b i k1 hX => ?_, fun b i hX => ?_, Ev.refl _ _, fun b i hX => .inr hX, fun o ob k1 => ⟨ob, k1, Ob.grow_refl _ _⟩, fun o k1 => hbig o k1⟩
      · by_cases ho : inO os o = true
        · rw [hβc o ho]
          obtain ⟨obc, hobc⟩ := Option.isSome_iff_exists.1 (show (lookO os o).isSome = true from ho)
          rw [rel.dom, (hos2 o obc hobc).1, hobc]
          rfl
        · have h3 : (lookO os o).isSome = false := by unfold inO at ho; simpa using ho
          rw [h3]
          show (if inO os o = true then β (r o) else none).isSome = false
          rw [if_neg ho]
          rfl
      · have hio := hin k1
        rw [hβc o hio] at k2
        obtain ⟨k3, k4⟩ := hos2 o ob k1
        have := rel.obj (r o) _ _ k3 k2
        cases ob with
        | var cs =>
          simp only [Ob.ren, Ob.rep] at this ⊢
          obtain ⟨b, c, el, g1, g2, g3, g4⟩ := this
          exact ⟨b, c, el, g1, g2, repL_unren U _ _ k4 g3, g4⟩
        | vec e wd rows fz =>
          simp only [Ob.ren, Ob.rep] at this ⊢
          obtain ⟨g1, g2, g3⟩ := this
          refine ⟨g1, g2, ?_⟩
          rcases g3 with g3 | ⟨b, c, g3, g4, g5, g6⟩
          · exact .inl g3
          · exact .inr ⟨b, c, g3, g4, rowsAt_mono U.R (fun _ _ h => h) _ _ _ g5, g6⟩
      · have i1 : inO os o = true := by
          by_cases q : inO os o = true
          · exact q
          · have : βc o = none := if_neg q
            rw [this] at k1; cases k1
        have i2 : inO os o' = true := by
          by_cases q : inO os o' = true
          · exact q
          · have : βc o' = none := if_neg q
            rw [this] at k2; cases k2
        rw [hβc o i1] at k1
        rw [hβc o' i2] at k2
        exact hinj o o' (hsub o i1) (hsub o' i2) (rel.inj _ _ b k1 k2)
      · have i1 : inO os o = true := by
          by_cases q : inO os o = true
          · exact q
          · have : βc o = none := if_neg q
            rw [this] at k1; cases k1
        rw [hβc o i1] at k1
        rcases hX with hX | ⟨o', ob, k2, k3, k4, _⟩
        · exact rel.out _ b i k1 hX
        · exact k3 o i1 (rel.inj _ _ b k1 k4)
      · rcases hX with hX | ⟨o', ob, k2, k3, k4, _⟩
        · exact Nat.lt_of_lt_of_le (rel.bnd b i hX) rel.ev.size
        · exact rel.lt k4
    have hvc : repL (envOf Xo' βc (lookO os) w) cas vs := repL_unren U cas vs hcl (by rw [hargs]; exact hvs)
    refine Calls.mono (ac.calls Xo' βc w vs relc hvc) fun en w' hen => ?_
    obtain ⟨v, β', rfl, R', hres⟩ := hen
    -- back in the caller
    have evw : Ev (Xh βc (lookO os)) w w' := R'.ev
    let β3 : Nat → Option (Option Nat) := fun j => if hj : ∃ o, inO os' o = true ∧ r o = j then β' (Classical.choose hj) else β j
    have hβ3 : ∀ o, inO os' o = true → β3 (r o) = β' o := by
      intro o ho
      have hex : ∃ o', inO os' o' = true ∧ r o' = r o := ⟨o, ho, rfl⟩
      have hc := Classical.choose_spec hex
      have : Classical.choose hex = o := hinj _ _ hc.1 ho hc.2
      show (if hj : ∃ o', inO os' o' = true ∧ r o' = r o then β' (Classical.choose hj) else β (r o)) = β' o
      rw [dif_pos hex, this]
    have hβ3n : ∀ j, (∀ o, inO os' o = true → r o ≠ j) → β3 j = β j := by
      intro j hj
      show (if hj : ∃ o', inO os' o' = true ∧ r o' = j then β' (Classical.choose hj) else β j) = β j
      rw [dif_neg (fun ⟨o, h3, h4⟩ => hj o h3 h4)]
    have hU : upds h2 (g.upd ++ os'.map fun p => (r p.1, p.2.ren r)) = upds h1 (os'.map fun p => (r p.1, p.2.ren r)) := by rw [upds_append, hh1]
    rw [hU]
    have h3P : ∀ o ob, lookO os' o = some ob → upds h1 (os'.map fun p => (r p.1, p.2.ren r)) (r o) = some (ob.ren r) := upds_back os' h1 hnd hinj
    have h3n : ∀ j, (∀ o, inO os' o = true → r o ≠ j) → upds h1 (os'.map fun p => (r p.1, p.2.ren r)) j = h1 j := fun j hj => upds_back_not hj
    generalize upds h1 (os'.map fun p => (r p.1, p.2.ren r)) = h3 at *
    have hin' : ∀ {o ob}, lookO os' o = some ob → inO os' o = true := fun {o ob} ho => by unfold inO; rw [ho]; rfl
    -- objects of the caller's that the callee did not see
    have hother : ∀ {j ob}, h1 j = some ob → (∀ o, inO os o = true → r o ≠ j) → ∀ o, inO os' o = true → r o ≠ j := by
      intro j ob k1 k2 o k3 k4
      by_cases q : inO os o = true
      · exact k2 o q k4
      · have := hnew2 o k3 (by simpa using q)
        rw [k4, k1] at this
        cases this
    have hX3 : ∀ b i, Xh β3 h3 b i → Xh β' (lookO os') b i ∨ ∃ o' ob, h1 o' = some ob ∧ (∀ o, inO os o = true → r o ≠ o') ∧ β o' = some (some b) ∧ ob.excl i := by
      rintro b i ⟨j, ob, k1, k2, k3⟩
      by_cases hp : ∃ o, inO os' o = true ∧ r o = j
      · obtain ⟨o, k4, rfl⟩ := hp
        obtain ⟨obc, hobc⟩ := Option.isSome_iff_exists.1 (show (lookO os' o).isSome = true from k4)
        rw [h3P o obc hobc] at k1
        cases k1
        rw [hβ3 o k4] at k2
        exact .inl ⟨o, obc, hobc, k2, Ob.excl_ren.1 k3⟩
      · have hp' : ∀ o, inO os' o = true → r o ≠ j := fun o k4 k5 => hp ⟨o, k4, k5⟩
        rw [h3n j hp'] at k1
        rw [hβ3n j hp'] at k2
        exact .inr ⟨j, ob, k1, fun o k4 => hp' o (hsub o k4), k2, k3⟩
    have hsz : ∀ b n, (envOf cx.Xo β h1 w).sz b n → (envOf cx.Xo β3 h3 w').sz b n := fun b n hs => evw.sz hs
    have L : (envOf cx.Xo β h1 w).Le (envOf cx.Xo β3 h3 w') := by
      refine ⟨fun b i v hr => ⟨hr.1, fun hX => ?_, evw.cell (fun hX => ?_) hr.2.2⟩, fun j ob k1 => ?_, hsz⟩
      · rcases hX3 b i hX with hX | ⟨o', ob, k1, _, k2, k3⟩
        · rcases R'.own b i hX with q | q
          · have := World.block_lt_of_cell? w _ hr.2.2
            simp at this
            simp only at q
            omega
          · obtain ⟨_, _, _, k⟩ := hXc b i q
            exact hr.2.1 k
        · exact hr.2.1 ⟨o', ob, k1, k2, k3⟩
      · obtain ⟨_, _, _, k⟩ := hXc b i hX
        exact hr.2.1 k
      · by_cases hp : ∃ o, inO os o = true ∧ r o = j
        · obtain ⟨o, k4, rfl⟩ := hp
          obtain ⟨obc, hobc⟩ := Option.isSome_iff_exists.1 (show (lookO os o).isSome = true from k4)
          have k5 := (hos2 o obc hobc).1
          have k1' : h1 (r o) = some ob := k1
          rw [k5] at k1'
          cases k1'
          obtain ⟨obc', g1, g2⟩ := R'.ent o obc hobc
          refine ⟨obc'.ren r, h3P o obc' g1, ?_⟩
          show Ob.grow (β (r o)) (β3 (r o)) _ _
          rw [hβ3 o (hsub o k4), ← hβc o k4]
          exact Ob.grow_ren g2
        · have hp' := hother k1 (fun o k4 k5 => hp ⟨o, k4, k5⟩)
          refine ⟨ob, (h3n j hp').trans k1, ?_⟩
          show Ob.grow (β j) (β3 j) ob ob
          rw [hβ3n j hp']
          exact Ob.grow_refl _ _
    have N : Env.Ren r (envOf Xo' β' (lookO os') w') (envOf cx.Xo β3 h3 w') := by
      refine ⟨fun b i v hr => ⟨fun hX => hr.1 (.inl hX), fun hX => ?_, hr.2.2⟩, fun o ob k1 => ⟨h3P o ob k1, hβ3 o (hin' k1)⟩, fun _ _ h => h⟩
      rcases hX3 b i hX with hX | hX
      · exact hr.2.1 hX
      · exact hr.1 (.inr hX)
    have hwsz : cx.w0.heap.size ≤ w.heap.size := rel.ev.size
    refine ⟨v, β3, rfl, ⟨fun j => ?_, fun j ob bo k1 k2 => ?_, fun j j' b k1 k2 => ?_, fun j b i k1 => ?_, rel.bnd, rel.ev.trans evw fun k i hk hX => ?_, fun b i hX => ?_, fun o ob k1 => ?_, rel.big⟩, L0.trans L, A.rep_ren N _ _ hres⟩
    · by_cases hp : ∃ o, inO os' o = true ∧ r o = j
      · obtain ⟨o, k4, rfl⟩ := hp
        obtain ⟨obc, hobc⟩ := Option.isSome_iff_exists.1 (show (lookO os' o).isSome = true from k4)
        rw [hβ3 o k4, R'.dom, h3P o obc hobc, hobc]
        rfl
      · have hp' : ∀ o, inO os' o = true → r o ≠ j := fun o k4 k5 => hp ⟨o, k4, k5⟩
        rw [hβ3n j hp', h3n j hp', rel.dom]
    · by_cases hp : ∃ o, inO os' o = true ∧ r o = j
      · obtain ⟨o, k4, rfl⟩ := hp
        obtain ⟨obc, hobc⟩ := Option.isSome_iff_exists.1 (show (lookO os' o).isSome = true from k4)
        rw [h3P o obc hobc] at k1
        cases k1
        rw [hβ3 o k4] at k2
        have := R'.obj o obc bo hobc k2
        cases obc with
        | var cs =>
          simp only [Ob.ren, Ob.rep] at this ⊢
          obtain ⟨b, c, el, g1, g2, g3, g4⟩ := this
          exact ⟨b, c, el, g1, g2, repL_ren N _ _ g3, g4⟩
        | vec e wd rows fz =>
          simp only [Ob.ren, Ob.rep] at this ⊢
          obtain ⟨g1, g2, g3⟩ := this
          refine ⟨g1, g2, ?_⟩
          rcases g3 with g3 | ⟨b, c, g3, g4, g5, g6⟩
          · exact .inl g3
          · exact .inr ⟨b, c, g3, g4, rowsAt_mono N.R (fun _ _ h => h) _ _ _ g5, g6⟩
      · have hp' : ∀ o, inO os' o = true → r o ≠ j := fun o k4 k5 => hp ⟨o, k4, k5⟩
        rw [h3n j hp'] at k1
        rw [hβ3n j hp'] at k2
        refine Ob.rep_le L (fun b hb => evw.same (rel.lt (hb ▸ k2)) fun i hX => ?_) (rel.obj j ob bo k1 k2)
        obtain ⟨o, k4, k5, _⟩ := hXc b i hX
        exact hp' o (hsub o k4) (rel.inj _ _ b k5 (hb ▸ k2))
    · by_cases hp : ∃ o, inO os' o = true ∧ r o = j <;> by_cases hq : ∃ o, inO os' o = true ∧ r o = j'
      · obtain ⟨o, k4, rfl⟩ := hp
        obtain ⟨o', k5, rfl⟩ := hq
        rw [hβ3 o k4] at k1
        rw [hβ3 o' k5] at k2
        rw [R'.inj o o' b k1 k2]
      · obtain ⟨o, k4, rfl⟩ := hp
        have hq' : ∀ o, inO os' o = true → r o ≠ j' := fun o k4 k5 => hq ⟨o, k4, k5⟩
        rw [hβ3 o k4] at k1
        rw [hβ3n j' hq'] at k2
        have hd := rel.dom j'
        rw [k2] at hd
        obtain ⟨ob, hob⟩ := Option.isSome_iff_exists.1 hd.symm
        obtain ⟨i, hi⟩ := Ob.excl_some ob
        exact absurd (.inr ⟨j', ob, hob, fun o k6 => hq' o (hsub o k6), k2, hi⟩) (R'.out o b i k1)
      · obtain ⟨o, k4, rfl⟩ := hq
        have hp' : ∀ o, inO os' o = true → r o ≠ j := fun o k4 k5 => hp ⟨o, k4, k5⟩
        rw [hβ3 o k4] at k2
        rw [hβ3n j hp'] at k1
        have hd := rel.dom j
        rw [k1] at hd
        obtain ⟨ob, hob⟩ := Option.isSome_iff_exists.1 hd.symm
        obtain ⟨i, hi⟩ := Ob.excl_some ob
        exact absurd (.inr ⟨j, ob, hob, fun o k6 => hp' o (hsub o k6), k1, hi⟩) (R'.out o b i k2)
      · rw [hβ3n j (fun o k4 k5 => hp ⟨o, k4, k5⟩)] at k1
        rw [hβ3n j' (fun o k4 k5 => hq ⟨o, k4, k5⟩)] at k2
        exact rel.inj j j' b k1 k2
    · by_cases hp : ∃ o, inO os' o = true ∧ r o = j
      · obtain ⟨o, k4, rfl⟩ := hp
        rw [hβ3 o k4] at k1
        exact fun hX => R'.out o b i k1 (.inl hX)
      · rw [hβ3n j (fun o k4 k5 => hp ⟨o, k4, k5⟩)] at k1
        exact rel.out j b i k1
    · obtain ⟨_, _, _, k⟩ := hXc k i hX
      rcases rel.own _ i k with q | q
      · omega
      · exact q
    · rcases hX3 b i hX with hX | ⟨o', ob, k1, _, k2, k3⟩
      · rcases R'.own b i hX with q | q
        · exact .inl (by simp only at q; omega)
        · obtain ⟨_, _, _, k⟩ := hXc b i q
          exact rel.own b i k
      · exact rel.own b i ⟨o', ob, k1, k2, k3⟩
    · obtain ⟨ob1, g1, g2⟩ := rel.ent o ob k1
      obtain ⟨ob2, g3, g4⟩ := L.h o ob1 g1
      exact ⟨ob2, g3, Ob.grow_trans g2 g4⟩
end Go.Am

namespace Go.Am

section
variable (P : Program) (tt : Types) (ops : Array Oper) (dr : Bool) (rest : List Oper) (log : List Foot) (K : SL → Prop) (σ : SL)

/-- One operation, in its turn. -/
def opg (o : Oper) : Prop := opx P tt ops dr (callOf o.op) o rest log K σ
/-- One operation that is passed over. -/
def skg (d : Option Nat) : Prop := rgn P tt ops dr rest (⟨[], []⟩ :: log) K ⟨setT d .any σ.t, σ.o⟩
def drawx (ops : Array Oper) (log : List Foot) : Prop := drawOk ops log.reverse = true

theorem ev_reg (id : Nat) (l : List Oper) (KE : Exit → SL → Prop) : ev P tt (.region id l.toArray dr) KE σ = rgn P tt l.toArray dr l [] (KE .normal) σ := rfl
theorem rgn_end_f : rgn P tt ops false [] log K σ = K σ := by simp [rgn]
theorem rgn_end_t : rgn P tt ops true [] log K σ = (drawx ops log ∧ K σ) := by simp [rgn, drawx]
theorem rgn_step (o : Oper) : rgn P tt ops dr (o :: rest) log K σ = gsel P tt ops dr (gk ops σ o.guard) o rest log K σ := rgn_cons ..
theorem skg_some (d : Nat) (t : List (Nat × A)) (o : List (Nat × Ob)) : skg P tt ops dr rest log K ⟨t, o⟩ (some d) = rgn P tt ops dr rest (⟨[], []⟩ :: log) K ⟨(d, .any) :: t, o⟩ := rfl
theorem skg_none (t : List (Nat × A)) (o : List (Nat × Ob)) : skg P tt ops dr rest log K ⟨t, o⟩ none = rgn P tt ops dr rest (⟨[], []⟩ :: log) K ⟨t, o⟩ := rfl

theorem gk_none : gk ops σ none = .free := rfl
def gkS (k : Option Nat) (w : Bool) (σ : SL) : GK := match k with
  | some k => match lookT σ.t k with
    | .d (.lit (.bool b)) => .known k w b
    | _ => .bad
  | none => .bad
def gkV (k : Nat) (w : Bool) (a : A) : GK := match a with
  | .d (.lit (.bool b)) => .known k w b
  | _ => .bad
theorem gk_some (j : Nat) (w : Bool) : gk ops σ (some (j, w)) = gkS (gslot ops j) w σ := rfl
theorem gkS_some (k : Nat) (w : Bool) (t : List (Nat × A)) (o : List (Nat × Ob)) : gkS (some k) w ⟨t, o⟩ = gkV k w (lookT t k) := rfl
theorem gkV_bool (k : Nat) (w b : Bool) : gkV k w (.d (.lit (.bool b))) = .known k w b := rfl
theorem gslot_eq (l : List Oper) (j : Nat) : gslot l.toArray j = (l[j]?).bind (·.dst) := by simp [gslot]
theorem bind_dst (x : Oper) : (some x).bind (fun o : Oper => o.dst) = x.dst := rfl

variable (o : Oper)
theorem gsel_free : gsel P tt ops dr .free o rest log K σ = opg P tt ops dr rest log K σ o := rfl
theorem gsel_tt (k : Nat) : gsel P tt ops dr (.known k true true) o rest log K σ = opg P tt ops dr rest log K (σ.setB k true) o := by simp [gsel, bcase, opg]
theorem gsel_ff (k : Nat) : gsel P tt ops dr (.known k false false) o rest log K σ = opg P tt ops dr rest log K (σ.setB k false) o := by simp [gsel, bcase, opg]
theorem gsel_tf (k : Nat) : gsel P tt ops dr (.known k true false) o rest log K σ = skg P tt ops dr rest log K (σ.setB k false) o.dst := by simp [gsel, bcase, skg, SL.setB]
theorem gsel_ft (k : Nat) : gsel P tt ops dr (.known k false true) o rest log K σ = skg P tt ops dr rest log K (σ.setB k true) o.dst := by simp [gsel, bcase, skg, SL.setB]
theorem gsel_t (k : Nat) (b : Bool) : gsel P tt ops dr (.known k true b) o rest log K σ = bcase b (opg P tt ops dr rest log K (σ.setB k true) o) (skg P tt ops dr rest log K (σ.setB k false) o.dst) := rfl
theorem gsel_f (k : Nat) (b : Bool) : gsel P tt ops dr (.known k false b) o rest log K σ = bcase b (skg P tt ops dr rest log K (σ.setB k true) o.dst) (opg P tt ops dr rest log K (σ.setB k false) o) := rfl
theorem setB_eq (k : Nat) (b : Bool) (t : List (Nat × A)) (o : List (Nat × Ob)) : SL.setB ⟨t, o⟩ k b = ⟨(k, .d (.lit (.bool b))) :: t, o⟩ := rfl
theorem bcase_true (p q : Prop) : bcase true p q = p := by simp [bcase]
theorem bcase_false (p q : Prop) : bcase false p q = q := by simp [bcase]
theorem condx_bool (b : Bool) (p q : Prop) : condx (.d (.lit (.bool b))) p q = bcase b p q := rfl

variable (d : Option Nat) (ty : Nat) (ps : String) (af : Array Edge) (g : Option (Nat × Bool))
abbrev lkO (σ : SL) : Nat → Option Ob := lookO σ.o
theorem g_move (x : Operand) : opg P tt ops dr rest log K σ ⟨d, .move x, ty, ps, af, g⟩ = effx P tt ops dr (ok1 (evL σ x)) d rest log K σ := rfl
theorem g_assign (x : Operand) : opg P tt ops dr rest log K σ ⟨d, .assign x, ty, ps, af, g⟩ = effx P tt ops dr (ok1 (evL σ x)) d rest log K σ := rfl
def epick (c a b : A) : Option Eff := match c with
  | .d (.lit (.bool v)) => ok1 (pickA v a b)
  | _ => none
theorem g_pick (c x y : Operand) : opg P tt ops dr rest log K σ ⟨d, .pick c x y, ty, ps, af, g⟩ = effx P tt ops dr (epick (evL σ c) (evL σ x) (evL σ y)) d rest log K σ := rfl
theorem epick_t (a b : A) : epick (.d (.lit (.bool true))) a b = ok1 a := by cases a <;> cases b <;> (try rfl) <;> simp [epick, pickA] <;> split <;> simp_all
theorem epick_f (a b : A) : epick (.d (.lit (.bool false))) a b = ok1 b := by cases a <;> cases b <;> (try rfl) <;> simp [epick, pickA] <;> split <;> simp_all
theorem epick_b (v x y : Bool) : epick (.d (.lit (.bool v))) (.d (.lit (.bool x))) (.d (.lit (.bool y))) = ok1 (.d (.lit (.bool (if v then x else y)))) := rfl
theorem g_alloc (t : Nat) : opg P tt ops dr rest log K σ ⟨d, .alloc t, ty, ps, af, g⟩ = effx P tt ops dr (effAlloc tt t d (lookO σ.o)) d rest log K σ := rfl
theorem g_box (t : Nat) (x : Operand) : opg P tt ops dr rest log K σ ⟨d, .box t x, ty, ps, af, g⟩ = effx P tt ops dr (effBox (evL σ x) d (lookO σ.o)) d rest log K σ := rfl
def evP (σ : SL) : List (Nat × Operand) → List (Nat × A)
  | [] => []
  | p :: l => (p.1, evL σ p.2) :: evP σ l
theorem evP_eq (σ : SL) : ∀ l, evP σ l = l.map fun p => (p.1, evL σ p.2)
  | [] => rfl
  | p :: l => by simp [evP, evP_eq σ l]
theorem evP_nil : evP σ [] = [] := rfl
theorem evP_cons (i : Nat) (x : Operand) (l : List (Nat × Operand)) : evP σ ((i, x) :: l) = (i, evL σ x) :: evP σ l := rfl
theorem g_build (t : Nat) (l : List (Nat × Operand)) : opg P tt ops dr rest log K σ ⟨d, .build t l.toArray, ty, ps, af, g⟩ = effx P tt ops dr (effBuild tt t (evP σ l)) d rest log K σ := by rw [evP_eq]; rfl
theorem g_buildSlice (t n : Nat) (l : List (Nat × Operand)) : opg P tt ops dr rest log K σ ⟨d, .buildSlice t n l.toArray, ty, ps, af, g⟩ = effx P tt ops dr (effSlice0 tt t n (evP σ l) d (lookO σ.o)) d rest log K σ := by rw [evP_eq]; rfl
theorem g_load (t : Nat) (x : Operand) : opg P tt ops dr rest log K σ ⟨d, .load t x, ty, ps, af, g⟩ = effx P tt ops dr (effLoad tt t (lookO σ.o) (evL σ x)) d rest log K σ := rfl
theorem g_store (t : Nat) (x v : Operand) : opg P tt ops dr rest log K σ ⟨d, .store t x v, ty, ps, af, g⟩ = effx P tt ops dr (effStore tt t (lookO σ.o) (evL σ v) (evL σ x)) d rest log K σ := rfl
theorem g_nilCheck (x : Operand) : opg P tt ops dr rest log K σ ⟨d, .nilCheck x, ty, ps, af, g⟩ = effx P tt ops dr (effNil (lookO σ.o) (evL σ x)) d rest log K σ := rfl
theorem g_binOp (b : BinOp) (t u : Nat) (x y : Operand) : opg P tt ops dr rest log K σ ⟨d, .binOp b t x y u, ty, ps, af, g⟩ = effx P tt ops dr (effBin tt b t (lookO σ.o) (evL σ x) (evL σ y)) d rest log K σ := rfl
theorem g_unOp (b : UnOp) (t : Nat) (x : Operand) : opg P tt ops dr rest log K σ ⟨d, .unOp b t x, ty, ps, af, g⟩ = effx P tt ops dr (effUn b (evL σ x)) d rest log K σ := rfl
theorem g_convert (s t : Nat) (x : Operand) : opg P tt ops dr rest log K σ ⟨d, .convert s t x, ty, ps, af, g⟩ = effx P tt ops dr (effConv tt s t (evL σ x)) d rest log K σ := rfl
def evLs (σ : SL) : List Operand → List A
  | [] => []
  | x :: l => evL σ x :: evLs σ l
theorem evLs_eq (σ : SL) : ∀ l, evLs σ l = l.map (evL σ)
  | [] => rfl
  | p :: l => by simp [evLs, evLs_eq σ l]
theorem evLs_nil : evLs σ [] = [] := rfl
theorem evLs_cons (x : Operand) (l : List Operand) : evLs σ (x :: l) = evL σ x :: evLs σ l := rfl
theorem g_makeFunc (f : Nat) (l : List Operand) : opg P tt ops dr rest log K σ ⟨d, .makeFunc (.func f) ([] : List Operand).toArray l.toArray, ty, ps, af, g⟩ = effx P tt ops dr (ok1 (.clo f (evLs σ l))) d rest log K σ := by rw [evLs_eq]; rfl
theorem g_makeSlice (t : Nat) (l c : Operand) : opg P tt ops dr rest log K σ ⟨d, .makeSlice t l c, ty, ps, af, g⟩ = effx P tt ops dr (effMake tt t d (lookO σ.o) (evL σ l) (evL σ c)) d rest log K σ := rfl
def evM (σ : SL) : Option Operand → Option A
  | none => none
  | some x => some (evL σ x)
theorem evM_eq (σ : SL) (x : Option Operand) : evM σ x = x.map (evL σ) := by cases x <;> rfl
theorem evM_none : evM σ none = none := rfl
theorem evM_some (x : Operand) : evM σ (some x) = some (evL σ x) := rfl
theorem g_slice (t : Nat) (x : Operand) (lo hi : Option Operand) : opg P tt ops dr rest log K σ ⟨d, .slice t x lo hi none, ty, ps, af, g⟩ = effx P tt ops dr (effSlice tt t (lookO σ.o) (evL σ x) (evM σ lo) (evM σ hi) none) d rest log K σ := by
  rw [evM_eq, evM_eq]; rfl
theorem g_slice3 (t : Nat) (x : Operand) (lo : Option Operand) (hi mx : Operand) : opg P tt ops dr rest log K σ ⟨d, .slice t x lo (some hi) (some mx), ty, ps, af, g⟩ = effx P tt ops dr (effSlice tt t (lookO σ.o) (evL σ x) (evM σ lo) (some (evL σ hi)) (some (evL σ mx))) d rest log K σ := by
  rw [evM_eq]; rfl
theorem g_fieldAddr (s f : Nat) (x : Operand) : opg P tt ops dr rest log K σ ⟨d, .fieldAddr s x f, ty, ps, af, g⟩ = effx P tt ops dr (effFieldAddr tt s f (lookO σ.o) (evL σ x)) d rest log K σ := rfl
theorem g_field (s f : Nat) (x : Operand) : opg P tt ops dr rest log K σ ⟨d, .field s x f, ty, ps, af, g⟩ = effx P tt ops dr (effField tt s f (evL σ x)) d rest log K σ := rfl
def eidx (tt : Types) (t : Nat) (h : Nat → Option Ob) (x i : A) : Option Eff := match i with
  | .d (.lit (.int _ n)) => effIndexAddr tt t h x n
  | _ => none
theorem eidx_int (t : Nat) (h : Nat → Option Ob) (x : A) (k : IntKind) (n : Int) : eidx tt t h x (.d (.lit (.int k n))) = effIndexAddr tt t h x n := rfl
theorem g_indexAddr (t : Nat) (x i : Operand) : opg P tt ops dr rest log K σ ⟨d, .indexAddr t x i, ty, ps, af, g⟩ = effx P tt ops dr (eidx tt t (lookO σ.o) (evL σ x) (evL σ i)) d rest log K σ := rfl
theorem g_index (t : Nat) (x i : Operand) : opg P tt ops dr rest log K σ ⟨d, .index t x i, ty, ps, af, g⟩ = effx P tt ops dr (effIndex tt t (evL σ x) (evL σ i)) d rest log K σ := rfl
def extr (i : Nat) (x : A) : Option Eff := match x with
  | .tup vs => match vs[i]? with
      | some a => ok1 a
      | none => none
  | _ => none
theorem extr_tup (vs : List A) (i : Nat) (a : A) (h : vs[i]? = some a) : extr i (.tup vs) = ok1 a := by simp [extr, h]
theorem extr_0 (a : A) (l : List A) : extr 0 (.tup (a :: l)) = ok1 a := rfl
theorem extr_1 (a b : A) (l : List A) : extr 1 (.tup (a :: b :: l)) = ok1 b := rfl
theorem extr_2 (a b c : A) (l : List A) : extr 2 (.tup (a :: b :: c :: l)) = ok1 c := rfl
theorem g_extract (x : Operand) (i : Nat) : opg P tt ops dr rest log K σ ⟨d, .extract x i, ty, ps, af, g⟩ = effx P tt ops dr (extr i (evL σ x)) d rest log K σ := rfl
theorem g_builtin (b : Builtin) (l : List Operand) (ts : List Nat) : opg P tt ops dr rest log K σ ⟨d, .call ⟨.builtin b, l.toArray, ts.toArray⟩, ty, ps, af, g⟩ = effx P tt ops dr (effBuiltin tt b ts d (lookO σ.o) (evLs σ l)) d rest log K σ := by rw [evLs_eq]; rfl
theorem g_call (f : Operand) (l : List Operand) (ts : Array Nat) : opg P tt ops dr rest log K σ ⟨d, .call ⟨.value f, l.toArray, ts⟩, ty, ps, af, g⟩ = callx P tt ops dr (evL σ f) (evLs σ l) d rest log K σ := by rw [evLs_eq]; rfl

theorem evL_tmp (t : List (Nat × A)) (o : List (Nat × Ob)) (k : Nat) : evL ⟨t, o⟩ (.tmp k) = lookT t k := rfl
theorem evL_const (v : Value) : evL σ (.const v) = ofConst v := rfl
theorem evL_func (f : Nat) : evL σ (.func f) = .clo f [] := rfl
theorem oc_int (k : IntKind) (n : Int) : ofConst (.int k n) = .d (.lit (.int k n)) := rfl
theorem oc_bool (b : Bool) : ofConst (.bool b) = .d (.lit (.bool b)) := rfl
theorem oc_string (b : ByteArray) : ofConst (.string b) = .d (.lit (.string b)) := rfl
theorem oc_nil : ofConst (.slice none 0 0) = .snil := rfl
theorem oc_ptr : ofConst (.pointer none) = .d (.lit (.pointer none)) := rfl
theorem oc_agg (l : List Value) (h : l.all one = true) : ofConst (.agg l.toArray) = .agg (l.map ofConst1) := by simp [ofConst, h]
theorem o1_int (k : IntKind) (n : Int) : ofConst1 (.int k n) = .d (.lit (.int k n)) := rfl
theorem o1_bool (b : Bool) : ofConst1 (.bool b) = .d (.lit (.bool b)) := rfl
theorem o1_string (b : ByteArray) : ofConst1 (.string b) = .d (.lit (.string b)) := rfl
theorem o1_nil : ofConst1 (.slice none 0 0) = .snil := rfl
theorem o1_ptr : ofConst1 (.pointer none) = .d (.lit (.pointer none)) := rfl
theorem lookO_eq (t : List (Nat × A)) (o : List (Nat × Ob)) : lookO (SL.mk t o).o = lookO o := rfl

/-- The objects are brought up to date. -/
def updx (t : List (Nat × A)) (o u : List (Nat × Ob)) : Prop := rgn P tt ops dr rest log K ⟨t, updO o u⟩
theorem upd_nil (t : List (Nat × A)) (o : List (Nat × Ob)) : updx P tt ops dr rest log K t o [] = rgn P tt ops dr rest log K ⟨t, o⟩ := rfl
theorem upd_cons (t : List (Nat × A)) (o u : List (Nat × Ob)) (p : Nat × Ob) : updx P tt ops dr rest log K t o (p :: u) = updx P tt ops dr rest log K t (p :: o) u := rfl
theorem upd_1 (t : List (Nat × A)) (o : List (Nat × Ob)) (p : Nat × Ob) : updx P tt ops dr rest log K t o [p] = rgn P tt ops dr rest log K ⟨t, p :: o⟩ := rfl
/-- A pure step. -/
theorem x_pure (r : A) (rd : List Nat) (k : Nat) (t : List (Nat × A)) (o : List (Nat × Ob)) : effx P tt ops dr (some ⟨True, r, [], rd⟩) (some k) rest log K ⟨t, o⟩ = rgn P tt ops dr rest (⟨rd, []⟩ :: log) K ⟨(k, r) :: t, o⟩ := by
  simp [effx, SL.step, setT, updO, Eff.foot]
theorem x_ok1 (r : A) (k : Nat) (t : List (Nat × A)) (o : List (Nat × Ob)) : effx P tt ops dr (ok1 r) (some k) rest log K ⟨t, o⟩ = rgn P tt ops dr rest (⟨[], []⟩ :: log) K ⟨(k, r) :: t, o⟩ := by
  simp [effx, ok1, SL.step, setT, updO, Eff.foot]
theorem x_ok1n (r : A) (t : List (Nat × A)) (o : List (Nat × Ob)) : effx P tt ops dr (ok1 r) none rest log K ⟨t, o⟩ = rgn P tt ops dr rest (⟨[], []⟩ :: log) K ⟨t, o⟩ := by
  simp [effx, ok1, SL.step, setT, updO, Eff.foot]
theorem x_ps (p : Prop) (r : A) (rd : List Nat) (k : Nat) (t : List (Nat × A)) (o : List (Nat × Ob)) : effx P tt ops dr (some ⟨p, r, [], rd⟩) (some k) rest log K ⟨t, o⟩ = (p ∧ rgn P tt ops dr rest (⟨rd, []⟩ :: log) K ⟨(k, r) :: t, o⟩) := by
  simp [effx, SL.step, setT, updO, Eff.foot]
theorem x_pn (p : Prop) (r : A) (rd : List Nat) (t : List (Nat × A)) (o : List (Nat × Ob)) : effx P tt ops dr (some ⟨p, r, [], rd⟩) none rest log K ⟨t, o⟩ = (p ∧ rgn P tt ops dr rest (⟨rd, []⟩ :: log) K ⟨t, o⟩) := by
  simp [effx, SL.step, setT, updO, Eff.foot]
theorem x_us (p : Prop) (r : A) (u : List (Nat × Ob)) (rd : List Nat) (k : Nat) (t : List (Nat × A)) (o : List (Nat × Ob)) : effx P tt ops dr (some ⟨p, r, u, rd⟩) (some k) rest log K ⟨t, o⟩ = (p ∧ updx P tt ops dr rest (⟨rd, u.map (·.1)⟩ :: log) K ((k, r) :: t) o u) := rfl
theorem x_un (p : Prop) (r : A) (u : List (Nat × Ob)) (rd : List Nat) (t : List (Nat × A)) (o : List (Nat × Ob)) : effx P tt ops dr (some ⟨p, r, u, rd⟩) none rest log K ⟨t, o⟩ = (p ∧ updx P tt ops dr rest (⟨rd, u.map (·.1)⟩ :: log) K t o u) := rfl
end
end Go.Am

namespace Go.Am

section
variable {P : Program} {tt : Types} {ops : Array Oper} {dr : Bool} {rest : List Oper} {log : List Foot} {K : SL → Prop} {KE : Exit → SL → Prop} {σ : SL}
@[congr] theorem effx_congr {e e' : Option Eff} {d : Option Nat} (h : e = e') : effx P tt ops dr e d rest log K σ = effx P tt ops dr e' d rest log K σ := by rw [h]
@[congr] theorem gsel_congr {g g' : GK} {o : Oper} (h : g = g') : gsel P tt ops dr g o rest log K σ = gsel P tt ops dr g' o rest log K σ := by rw [h]
@[congr] theorem opg_congr {o : Oper} : opg P tt ops dr rest log K σ o = opg P tt ops dr rest log K σ o := rfl
@[congr] theorem skg_congr {o o' : Option Nat} (h : o = o') : skg P tt ops dr rest log K σ o = skg P tt ops dr rest log K σ o' := by rw [h]
@[congr] theorem rgn_congr {l : List Oper} : rgn P tt ops dr l log K σ = rgn P tt ops dr l log K σ := rfl
@[congr] theorem ev_congr {c : Code} : ev P tt c KE σ = ev P tt c KE σ := rfl
@[congr] theorem seqK_congr {b : Code} {e : Exit} : seqK P tt b KE e σ = seqK P tt b KE e σ := rfl
@[congr] theorem blkK_congr {b : Nat} {e : Exit} : blkK b KE e σ = blkK b KE e σ := rfl
@[congr] theorem scoK_congr {e : Exit} : scoK KE e σ = scoK KE e σ := rfl
@[congr] theorem loopK_congr {α : Type} {I : α → SL} {m : α → Nat} {x : α} {e : Exit} : loopK I m x KE e σ = loopK I m x KE e σ := rfl
@[congr] theorem loopx_congr {c : Code} : loopx P c KE σ = loopx P c KE σ := rfl
@[congr] theorem callx_congr {f f' : A} {as as' : List A} {d : Option Nat} (h : f = f') (h2 : as = as') : callx P tt ops dr f as d rest log K σ = callx P tt ops dr f' as' d rest log K σ := by rw [h, h2]
@[congr] theorem updx_congr {t : List (Nat × A)} {o u u' : List (Nat × Ob)} (h : u = u') : updx P tt ops dr rest log K t o u = updx P tt ops dr rest log K t o u' := by rw [h]
@[congr] theorem condx_congr {c c' : A} {p q : Prop} (h : c = c') : condx c p q = condx c' p q := by rw [h]
@[congr] theorem drawx_congr : drawx ops log = drawx ops log := rfl
@[congr] theorem gk_congr {g g' : Option (Nat × Bool)} (h : g = g') : gk ops σ g = gk ops σ g' := by rw [h]
@[congr] theorem gkS_congr {k k' : Option Nat} {w : Bool} (h : k = k') : gkS k w σ = gkS k' w σ := by rw [h]
@[congr] theorem evL_congr {x : Operand} : evL σ x = evL σ x := rfl
@[congr] theorem bodyK_congr {rs : List ResultVar} {res : A} {os : List (Nat × Ob)} {e : Exit} : bodyK tt rs res os e σ = bodyK tt rs res os e σ := rfl
@[congr] theorem retx_congr {x x' : Option (Prop × A)} {res : A} {os : List (Nat × Ob)} (h : x = x') : retx x σ res os = retx x' σ res os := by rw [h]
@[congr] theorem resA_congr {rs : List ResultVar} : resA tt σ rs = resA tt σ rs := rfl
end

theorem bodyK_ret (tt : Types) (rs : List ResultVar) (res : A) (os' : List (Nat × Ob)) (t : List (Nat × A)) (o : List (Nat × Ob)) : bodyK tt rs res os' .ret ⟨t, o⟩ = retx (resA tt ⟨t, o⟩ rs) ⟨[], o⟩ res os' := rfl
theorem bodyK_normal (tt : Types) (rs : List ResultVar) (res : A) (os' : List (Nat × Ob)) (t : List (Nat × A)) (o : List (Nat × Ob)) : bodyK tt rs res os' .normal ⟨t, o⟩ = retx (resA tt ⟨t, o⟩ rs) ⟨[], o⟩ res os' := rfl
theorem resA_1 (tt : Types) (k : Nat) (t : List (Nat × A)) (o : List (Nat × Ob)) : resA tt ⟨t, o⟩ [.tmp k] = some (True ∧ True, lookT t k) := rfl
theorem resA_2 (tt : Types) (k j : Nat) (t : List (Nat × A)) (o : List (Nat × Ob)) : resA tt ⟨t, o⟩ [.tmp k, .tmp j] = some (True ∧ True ∧ True, .tup [lookT t k, lookT t j]) := rfl
theorem resA_3 (tt : Types) (k j i : Nat) (t : List (Nat × A)) (o : List (Nat × Ob)) : resA tt ⟨t, o⟩ [.tmp k, .tmp j, .tmp i] = some (True ∧ True ∧ True ∧ True, .tup [lookT t k, lookT t j, lookT t i]) := rfl
theorem resA_0 (tt : Types) (t : List (Nat × A)) (o : List (Nat × Ob)) : resA tt ⟨t, o⟩ [] = some (True, .tup []) := rfl

theorem resA_arr (tt : Types) (σ : SL) (l : List ResultVar) : resA tt σ l.toArray.toList = resA tt σ l := rfl
def resC (tt : Types) (t : Nat) (o : List (Nat × Ob)) (x : A) : Option (Prop × A) := match x with
  | .ptr k off => match lookO o k with
    | some (.var cs) => loadA tt t cs off
    | _ => none
  | _ => none
theorem resA_c (tt : Types) (k ty : Nat) (t : List (Nat × A)) (o : List (Nat × Ob)) : resA tt ⟨t, o⟩ [.cell k ty] = (resC tt ty o (lookT t k)).map fun p => (p.1 ∧ True, p.2) := by
  simp only [resA, resL, res1, resC]
  cases lookT t k with
  | ptr j off =>
    simp only []
    cases lookO o j with
    | none => rfl
    | some ob => cases ob with
      | var cs => simp only []; cases loadA tt ty cs off <;> rfl
      | vec => rfl
  | _ => rfl
def res2 (x y : Option (Prop × A)) : Option (Prop × A) := match x, y with
  | some (p, a), some (q, b) => some (p ∧ q, .tup [a, b])
  | _, _ => none
def res3 (x y z : Option (Prop × A)) : Option (Prop × A) := match x, y, z with
  | some (p, a), some (q, b), some (r, c) => some (p ∧ q ∧ r, .tup [a, b, c])
  | _, _, _ => none
theorem res1_tmp (tt : Types) (k : Nat) (t : List (Nat × A)) (o : List (Nat × Ob)) : res1 tt ⟨t, o⟩ (.tmp k) = some (True, lookT t k) := rfl
theorem res1_cell (tt : Types) (k ty : Nat) (t : List (Nat × A)) (o : List (Nat × Ob)) : res1 tt ⟨t, o⟩ (.cell k ty) = resC tt ty o (lookT t k) := by
  show (match lookT t k with | .ptr o' off => (match lookO o o' with | some (.var cs) => loadA tt ty cs off | _ => none) | _ => none) = (match lookT t k with | .ptr o' off => (match lookO o o' with | some (.var cs) => loadA tt ty cs off | _ => none) | _ => none)
  rfl
theorem resA_two (tt : Types) (σ : SL) (a b : ResultVar) : resA tt σ [a, b] = res2 (res1 tt σ a) (res1 tt σ b) := by
  simp only [resA, resL, res2]
  cases res1 tt σ a with
  | none => rfl
  | some x => cases res1 tt σ b with
    | none => rfl
    | some y => simp
theorem resA_three (tt : Types) (σ : SL) (a b c : ResultVar) : resA tt σ [a, b, c] = res3 (res1 tt σ a) (res1 tt σ b) (res1 tt σ c) := by
  simp only [resA, resL, res3]
  cases res1 tt σ a with
  | none => rfl
  | some x => cases res1 tt σ b with
    | none => rfl
    | some y => cases res1 tt σ c with
      | none => rfl
      | some z => simp
/-- A slot's value is shut, as a whole. -/
theorem Weak.shutA {s : St} {k : Nat} {ws : List Nat} {f : FrzS} (hf : frzA s.o ws (s.t k) = some f) (hs : f.side) : Weak s ⟨put s.t k f.x, upds s.o f.upd⟩ := by
  intro cx N a w ⟨β, h1, h2, h3, h4⟩
  obtain ⟨r1, L1, x1⟩ := frzA_ok h1 hf hs (h2 k)
  refine ⟨β, r1, fun j => ?_, h3, h4⟩
  by_cases hj : j = k
  · subst hj; simp only [put_same]; exact x1
  · simp only [put_ne _ _ hj]; exact A.rep_le L1 _ _ (h2 j)

/-- The end of a body with one result. ws: the widths of the elements of its cells. -/
theorem retx_of {p : Prop} {a res : A} {σ : SL} {os' : List (Nat × Ob)} (ws : List Nat) {f : FrzS} (hf : frzA (lookO σ.o) ws a = some f) (hp : p) (hs : f.side) (hx : f.x = res) (hc : res.closed (inO os') = true)
    (ho : keepO (lookO (updO σ.o f.upd)) (inO os') os') (hin : keepIn (inO os') (updO σ.o f.upd)) : retx (some (p, a)) σ res os' := by
  refine ⟨hp, ?_⟩
  have h1 : Weak ⟨lookT [(0, a)], lookO σ.o⟩ ⟨put (lookT [(0, a)]) 0 f.x, upds (lookO σ.o) f.upd⟩ := Weak.shutA (s := ⟨lookT [(0, a)], lookO σ.o⟩) (k := 0) hf hs
  rw [lookO_upd, hx] at h1
  exact h1.trans (Weak.keep (σ := ⟨[(0, res)], os'⟩) ⟨⟨by simp, hc⟩, trivial⟩ ho hin)

/-- Values of one tuple are shut, from left to right. -/
theorem retx_tup {p : Prop} {as ress : List A} {σ : SL} {os' : List (Nat × Ob)} (cws : List (List Nat)) {g : FrzSL} (hf : frzAL (lookO σ.o) cws as = some g) (hp : p) (hs : g.side) (hx : g.xs = ress) (hc : closedL (inO os') ress = true)
    (ho : keepO (lookO (updO σ.o g.upd)) (inO os') os') (hin : keepIn (inO os') (updO σ.o g.upd)) : retx (some (p, .tup as)) σ (.tup ress) os' := by
  refine ⟨hp, ?_⟩
  have h1 : Weak ⟨lookT [(0, .tup as)], lookO σ.o⟩ ⟨lookT [(0, .tup ress)], lookO (updO σ.o g.upd)⟩ := by
    intro cx N a w ⟨β, h1, h2, h3, h4⟩
    have hv := h2 0
    simp only [lookT, if_true, A.rep] at hv
    obtain ⟨vs, hv1, hv2⟩ := hv
    obtain ⟨r1, L1, x1⟩ := frzAL_ok as cws h1 hf hs hv2
    rw [hx] at x1
    simp only at r1 L1 x1
    rw [lookO_upd] at r1 L1 x1
    refine ⟨β, r1, fun j => ?_, h3, h4⟩
    simp only [lookT]
    by_cases hj : 0 = j
    · subst hj
      simp only [if_true, A.rep]
      exact ⟨vs, hv1, x1⟩
    · simp only [hj, if_false]; simp [A.rep]
  exact h1.trans (Weak.keep (σ := ⟨[(0, .tup ress)], os'⟩) ⟨⟨by simp [lookT], by simpa [A.closed] using hc⟩, trivial⟩ ho hin)

/-- How the caller names the callee's objects. -/
def ren1 : List (Nat × Nat) → Nat → Nat
  | [], o => o
  | (a, b) :: l, o => if a = o then b else ren1 l o

def hosL (h : Nat → Option Ob) (r : Nat → Nat) (dom : Nat → Bool) : List (Nat × Ob) → Prop
  | [] => True
  | (o, ob) :: l => (h (r o) = some (ob.ren r) ∧ ob.closed dom = true) ∧ hosL h r dom l
theorem hosL_spec {h : Nat → Option Ob} {r : Nat → Nat} {dom : Nat → Bool} : ∀ (l : List (Nat × Ob)), hosL h r dom l → ∀ o ob, lookO l o = some ob → h (r o) = some (ob.ren r) ∧ ob.closed dom = true
  | [], _, o, ob, ho => by simp [lookO] at ho
  | (j, x) :: l, hh, o, ob, ho => by
    simp only [hosL] at hh
    simp only [lookO] at ho
    by_cases hj : j = o
    · subst hj; simp only [if_true, Option.some.injEq] at ho; subst ho; exact hh.1
    · simp only [hj, if_false] at ho; exact hosL_spec l hh.2 o ob ho
theorem inO_iff : ∀ (l : List (Nat × Ob)) (o : Nat), inO l o = true ↔ o ∈ l.map (·.1)
  | [], o => by simp [inO, lookO]
  | (j, x) :: l, o => by
    have ih := inO_iff l o
    unfold inO at ih ⊢
    simp only [lookO, List.map_cons, List.mem_cons]
    by_cases hj : j = o
    · simp [hj]
    · simp only [hj, if_false]; rw [ih]; simp [Ne.symm hj]
/-- The objects of the callee, by their numbers: what came in goes out, no two have one name at the caller's, and new ones are new there. -/
def idsOk (r : Nat → Nat) (h : Nat → Option Ob) (os os' : List Nat) : Prop :=
  (os.all fun o => os'.contains o && decide (1000 ≤ o)) = true ∧ ((os'.map r).Nodup ∧ os'.Nodup) ∧ ∀ o ∈ os', o ∈ os ∨ h (r o) = none

theorem nodup_map_inj {r : Nat → Nat} : ∀ (l : List Nat), (l.map r).Nodup → ∀ a ∈ l, ∀ b ∈ l, r a = r b → a = b
  | [], _, a, ha, _, _, _ => by simp at ha
  | x :: l, hn, a, ha, b, hb, hab => by
    simp only [List.map_cons, List.nodup_cons] at hn
    rcases List.mem_cons.1 ha with ha | ha
    · rcases List.mem_cons.1 hb with hb | hb
      · rw [ha, hb]
      · exact absurd (List.mem_map.2 ⟨b, hb, by rw [← ha, hab]⟩) hn.1
    · rcases List.mem_cons.1 hb with hb | hb
      · exact absurd (List.mem_map.2 ⟨a, ha, by rw [← hb, hab]⟩) hn.1
      · exact nodup_map_inj l hn.2 a ha b hb hab

section
variable {P : Program} {tt : Types} {ops : Array Oper} {dr : Bool} {rest : List Oper} {log : List Foot} {K : SL → Prop}

/-- A call of a function that has a contract. cws: the widths of the elements of the cells of the arguments; rn: the numbers of the callee's objects at the caller's. -/
theorem callx_of {f : FuncId} {caps as : List A} {d : Option Nat} {t : List (Nat × A)} {o : List (Nat × Ob)} (cws : List (List Nat)) (rn : List (Nat × Nat)) {g : FrzSL} {cas : List A} {os os' : List (Nat × Ob)} {cres : A}
    (hz : frzAL (lookO o) cws (as ++ caps) = some g) (ac : ACall P f cas os cres os') (hgs : g.side) (hargs : renL (ren1 rn) cas = g.xs) (hcl : closedL (inO os) cas = true)
    (hos : hosL (lookO (updO o g.upd)) (ren1 rn) (inO os) os) (hid : idsOk (ren1 rn) (lookO (updO o g.upd)) (os.map (·.1)) (os'.map (·.1)))
    (h : effx P tt ops dr (some ⟨True, cres.ren (ren1 rn), g.upd ++ os'.map (fun p => (ren1 rn p.1, p.2.ren (ren1 rn))), g.rd ++ os'.map (fun p => ren1 rn p.1)⟩) d rest log K ⟨t, o⟩) :
    callx P tt ops dr (.clo f caps) as d rest log K ⟨t, o⟩ := by
  obtain ⟨i1, ⟨i2, i2'⟩, i3⟩ := hid
  have i1' : ∀ o, o ∈ os.map (·.1) → o ∈ os'.map (·.1) ∧ 1000 ≤ o := fun o ho => by
    have := List.all_eq_true.1 i1 o ho
    simpa using this
  have h := h.2
  refine ⟨_, FnCall.of hz hgs ac (ren1 rn) hargs hcl (fun x ob hx => by rw [lookO_upd]; exact hosL_spec os hos x ob hx) (fun x hx => ?_) (fun x y hx hy => ?_) (fun x hx hn => ?_) (fun x hx => ?_) ?_, h⟩
  · rw [inO_iff] at hx ⊢; exact (i1' x hx).1
  · rw [inO_iff] at hx hy
    exact nodup_map_inj _ i2 x hx y hy
  · rw [inO_iff] at hx
    rw [lookO_upd]
    rcases i3 x hx with q | q
    · rw [← inO_iff] at q; rw [q] at hn; cases hn
    · exact q
  · rw [inO_iff] at hx; exact (i1' x hx).2
  · exact i2'

/-- The same, if there are no objects. -/
theorem callx_pure {f : FuncId} {caps as : List A} {d : Option Nat} {t : List (Nat × A)} {o : List (Nat × Ob)} (cws : List (List Nat)) {g : FrzSL} {cas : List A} {cres : A}
    (hz : frzAL (lookO o) cws (as ++ caps) = some g) (ac : ACall P f cas [] cres []) (hgs : g.side) (hargs : cas = g.xs) (hr : renL (ren1 []) cas = cas) (hcr : cres.ren (ren1 []) = cres) (hcl : closedL (inO []) cas = true)
    (h : effx P tt ops dr (some ⟨True, cres, g.upd, g.rd⟩) d rest log K ⟨t, o⟩) :
    callx P tt ops dr (.clo f caps) as d rest log K ⟨t, o⟩ := by
  refine callx_of cws [] hz ac hgs (by rw [hr, hargs]) hcl trivial ⟨rfl, ⟨List.Pairwise.nil, List.Pairwise.nil⟩, fun _ h => by simp at h⟩ ?_
  simp only [hcr, List.map_nil, List.append_nil]
  exact h
end
end Go.Am

namespace Go.Am

/-- The rows of a list of things. -/
def rowsOf {α : Type} (f : α → List D) (xs : List α) : List (List D) := xs.map f
section
variable {α : Type} (f : α → List D)
theorem rowsOf_length (xs : List α) : (rowsOf f xs).length = xs.length := by simp [rowsOf]
theorem rowsOf_take (xs : List α) (n : Nat) : (rowsOf f xs).take n = rowsOf f (xs.take n) := by simp [rowsOf, List.map_take]
theorem rowsOf_drop (xs : List α) (n : Nat) : (rowsOf f xs).drop n = rowsOf f (xs.drop n) := by simp [rowsOf, List.map_drop]
theorem rowsOf_append (xs ys : List α) : rowsOf f xs ++ rowsOf f ys = rowsOf f (xs ++ ys) := by simp [rowsOf]
theorem rowsOf_nil : rowsOf f [] = [] := rfl
theorem rowsOf_cons (x : α) (xs : List α) : rowsOf f (x :: xs) = f x :: rowsOf f xs := rfl
theorem rowsOf_getD [Inhabited α] (xs : List α) (k : Nat) (h : k < xs.length) : (rowsOf f xs).getD k [] = f (xs.getD k default) := by
  simp [rowsOf, List.getD_eq_getElem?_getD, h]
theorem rowsOf_set (xs : List α) (k : Nat) (x : α) : (rowsOf f xs).set k (f x) = rowsOf f (xs.set k x) := by simp [rowsOf, List.map_set]
end

/-- The address of an element of immutable data. -/
def idxE (sz wd : Nat) (rows : List (List D)) (i : Int) : Option Eff := some ⟨(0 ≤ i ∧ i < rows.length) ∧ wd = sz, .d (.ptr (rows.getD i.toNat []) 0), [], []⟩
/-- The address of an element of a slice of the frame's own. -/
def idxV (sz o n : Nat) (i : Int) (ob : Option Ob) : Option Eff := match ob with
  | some (.vec _ wd rows _) => some ⟨(0 ≤ i ∧ i < n) ∧ n = rows.length ∧ wd = sz, .vptr o n i.toNat 0, [], [o]⟩
  | _ => none
def idxS (te : Option TI) (h : Nat → Option Ob) (x : A) (i : Int) : Option Eff := match te with
  | some te => match x with
    | .d (.sl wd rows) => some ⟨(0 ≤ i ∧ i < rows.length) ∧ wd = te.size, .d (.ptr (rows.getD i.toNat []) 0), [], []⟩
    | .csl wd rows => some ⟨(0 ≤ i ∧ i < rows.length) ∧ wd = te.size, .d (.ptr (rows.getD i.toNat []) 0), [], []⟩
    | .vec o n => match h o with
      | some (.vec _ wd rows _) => some ⟨(0 ≤ i ∧ i < n) ∧ n = rows.length ∧ wd = te.size, .vptr o n i.toNat 0, [], [o]⟩
      | _ => none
    | _ => none
  | none => none
def idxA (n : Nat) (te : Option TI) (h : Nat → Option Ob) (x : A) (i : Int) : Option Eff := match te with
  | some te => match x with
    | .ptr o off => some ⟨0 ≤ i ∧ i < n, .ptr o (off + i.toNat * te.size), [], []⟩
    | .d (.ptr r off) => some ⟨0 ≤ i ∧ i < n, .d (.ptr r (off + i.toNat * te.size)), [], []⟩
    | .vptr o m j off => match h o with
      | some (.vec _ _ rows _) => some ⟨(0 ≤ i ∧ i < n) ∧ m = rows.length, .vptr o m j (off + i.toNat * te.size), [], [o]⟩
      | _ => none
    | _ => none
  | none => none
def idxK (ti : Option TI) (tt : Types) (h : Nat → Option Ob) (x : A) (i : Int) : Option Eff := match ti with
  | some ti => match ti.k with
    | .slice e => idxS (tt e) h x i
    | .array n e => idxA n (tt e) h x i
    | _ => none
  | none => none
theorem idx_K (tt : Types) (t : Nat) (h : Nat → Option Ob) (x : A) (i : Int) : effIndexAddr tt t h x i = idxK (tt t) tt h x i := by
  unfold effIndexAddr idxK
  cases tt t with
  | none => rfl
  | some ti =>
    obtain ⟨k, _, _, _, _, _⟩ := ti
    cases k with
    | slice e =>
      simp only [idxS]
      cases tt e with
      | none => rfl
      | some te => cases x <;> first | rfl | (rename_i x; cases x <;> rfl) | (rename_i o n; simp only []; cases h o with | none => rfl | some ob => cases ob <;> rfl)
    | array n e =>
      simp only [idxA]
      cases tt e with
      | none => rfl
      | some te => cases x <;> first | rfl | (rename_i x; cases x <;> rfl) | (rename_i o n _ _; simp only []; cases h o with | none => rfl | some ob => cases ob <;> rfl)
    | _ => rfl
theorem idx_sl (te : TI) (h : Nat → Option Ob) (wd : Nat) (rows : List (List D)) (i : Int) : idxS (some te) h (.d (.sl wd rows)) i = idxE te.size wd rows i := rfl
theorem idx_csl (te : TI) (h : Nat → Option Ob) (wd : Nat) (rows : List (List D)) (i : Int) : idxS (some te) h (.csl wd rows) i = idxE te.size wd rows i := rfl
theorem idx_vec (te : TI) (h : Nat → Option Ob) (o n : Nat) (i : Int) : idxS (some te) h (.vec o n) i = idxV te.size o n i (h o) := rfl
theorem idx_V (sz o n : Nat) (i : Int) (e wd : Nat) (rows : List (List D)) (fz : Nat) : idxV sz o n i (some (.vec e wd rows fz)) = some ⟨(0 ≤ i ∧ i < n) ∧ n = rows.length ∧ wd = sz, .vptr o n i.toNat 0, [], [o]⟩ := rfl

section
variable (P : Program) (tt : Types) (ops : Array Oper) (dr : Bool) (rest : List Oper) (log : List Foot) (K : SL → Prop)
theorem x_idx {α : Type} [Inhabited α] (f : α → List D) (xs : List α) (sz wd : Nat) (i : Int) (k : Nat) (t : List (Nat × A)) (o : List (Nat × Ob)) :
    effx P tt ops dr (idxE sz wd (rowsOf f xs) i) (some k) rest log K ⟨t, o⟩ = (((0 ≤ i ∧ i < xs.length) ∧ wd = sz) ∧ rgn P tt ops dr rest (⟨[], []⟩ :: log) K ⟨(k, .d (.ptr (f (xs.getD i.toNat default)) 0)) :: t, o⟩) := by
  unfold idxE
  rw [x_ps, rowsOf_length]
  refine propext ⟨fun ⟨h1, h2⟩ => ⟨h1, ?_⟩, fun ⟨h1, h2⟩ => ⟨h1, ?_⟩⟩
  · rwa [rowsOf_getD f xs _ (by omega)] at h2
  · rwa [rowsOf_getD f xs _ (by omega)]
/-- Rows that are written down one by one. -/
theorem x_idxc (r : List D) (rows : List (List D)) (sz wd : Nat) (i : Int) (k : Nat) (t : List (Nat × A)) (o : List (Nat × Ob)) :
    effx P tt ops dr (idxE sz wd (r :: rows) i) (some k) rest log K ⟨t, o⟩ = (((0 ≤ i ∧ i < (r :: rows).length) ∧ wd = sz) ∧ rgn P tt ops dr rest (⟨[], []⟩ :: log) K ⟨(k, .d (.ptr ((r :: rows).getD i.toNat []) 0)) :: t, o⟩) := by
  unfold idxE
  rw [x_ps]
end
def loadP (tt : Types) (t off o : Nat) (ob : Option Ob) : Option Eff := match ob with
  | some (.var cs) => match loadA tt t cs off with
    | some (p, a) => some ⟨p, a, [], [o]⟩
    | none => none
  | _ => none
def loadV (tt : Types) (t : Nat) (rows : List (List D)) (n i off o : Nat) : Option Eff := match loadA tt t ((rows.getD i []).map .d) off with
  | some (p, a) => some ⟨p ∧ n = rows.length ∧ i < rows.length, a, [], [o]⟩
  | none => none
def loadR (tt : Types) (t : Nat) (row : List D) (p : Prop) (off o : Nat) : Option Eff := match loadA tt t (row.map .d) off with
  | some (q, a) => some ⟨q ∧ p, a, [], [o]⟩
  | none => none
def loadVo (tt : Types) (t : Nat) (n i off o : Nat) (ob : Option Ob) : Option Eff := match ob with
  | some (.vec _ _ rows _) => loadV tt t rows n i off o
  | _ => none
def loadD (tt : Types) (t : Nat) (row : List D) (off : Nat) : Option Eff := match loadA tt t (row.map .d) off with
  | some (p, a) => some ⟨p, a, [], []⟩
  | none => none
theorem load_ptr (tt : Types) (t : Nat) (h : Nat → Option Ob) (o off : Nat) : effLoad tt t h (.ptr o off) = loadP tt t off o (h o) := rfl
theorem load_d (tt : Types) (t : Nat) (h : Nat → Option Ob) (row : List D) (off : Nat) : effLoad tt t h (.d (.ptr row off)) = loadD tt t row off := rfl
theorem load_v (tt : Types) (t : Nat) (h : Nat → Option Ob) (o n i off : Nat) : effLoad tt t h (.vptr o n i off) = loadVo tt t n i off o (h o) := by
  simp only [effLoad, loadVo]
  cases h o with
  | none => rfl
  | some ob => cases ob <;> rfl
theorem loadV_cons (tt : Types) (t : Nat) (r : List D) (rows : List (List D)) (n i off o : Nat) : loadV tt t (r :: rows) n i off o = loadR tt t ((r :: rows).getD i []) (n = (r :: rows).length ∧ i < (r :: rows).length) off o := rfl
section
variable (P : Program) (tt : Types) (ops : Array Oper) (dr : Bool) (rest : List Oper) (log : List Foot) (K : SL → Prop) (σ : SL)
theorem x_loadV {α : Type} [Inhabited α] (f : α → List D) (xs : List α) (t n i off o : Nat) (d : Option Nat) :
    effx P tt ops dr (loadV tt t (rowsOf f xs) n i off o) d rest log K σ = (i < xs.length ∧ effx P tt ops dr (loadR tt t (f (xs.getD i default)) (n = xs.length) off o) d rest log K σ) := by
  unfold loadV loadR
  by_cases hi : i < xs.length
  · rw [rowsOf_getD f xs i hi, rowsOf_length]
    cases loadA tt t ((f (xs.getD i default)).map .d) off with
    | none => simp [effx]
    | some q => simp [effx, hi, SL.step, Eff.foot, and_assoc]
  · rw [rowsOf_length]
    cases loadA tt t (((rowsOf f xs).getD i []).map .d) off with
    | none => simp [effx, hi]
    | some q => simp [effx, hi]
end
theorem bcase_intro {b : Bool} {p q : Prop} (hp : b = true → p) (hq : b = false → q) : bcase b p q := ⟨hp, hq⟩
theorem drawx_intro {ops : Array Oper} {log : List Foot} (h : drawOk ops log.reverse = true) : drawx ops log := h
end Go.Am

namespace Go.Am

abbrev sNum (n : Int) : D := .lit (.int .i64 n)
abbrev sStr (s : ByteArray) : D := .lit (.string s)
abbrev sBool (b : Bool) : D := .lit (.bool b)
def num (n : Int) : A := .d (.lit (.int .i64 n))
def boo (b : Bool) : A := .d (.lit (.bool b))
def str (s : ByteArray) : A := .d (.lit (.string s))
/-- A row of one number. -/
def rI (n : Int) : List D := [.lit (.int .i64 n)]
def rIs (l : List Int) : List D := [.sl 1 (rowsOf rI l)]
def ints (xs : List Int) : A := .d (.sl 1 (rowsOf rI xs))

structure Val where
  kind : Int
  num : Int
  text : ByteArray
instance : Inhabited Val := ⟨⟨0, 0, ByteArray.empty⟩⟩
def rV (v : Val) : List D := [.lit (.int .i64 v.kind), .lit (.int .i64 v.num), .lit (.string v.text)]

inductive Ex where
  | mk (op type num : Int) (text : ByteArray) (col : Int) (kids : List Ex)
instance : Inhabited Ex := ⟨.mk 0 0 0 ByteArray.empty 0 []⟩
namespace Ex
def op : Ex → Int | .mk a _ _ _ _ _ => a
def type : Ex → Int | .mk _ a _ _ _ _ => a
def num : Ex → Int | .mk _ _ a _ _ _ => a
def text : Ex → ByteArray | .mk _ _ _ a _ _ => a
def col : Ex → Int | .mk _ _ _ _ a _ => a
def kids : Ex → List Ex | .mk _ _ _ _ _ a => a
end Ex
mutual
def rE : Ex → List D
  | .mk a b c d e ks => [.lit (.int .i64 a), .lit (.int .i64 b), .lit (.int .i64 c), .lit (.string d), .lit (.int .i64 e), .sl 6 (rEs ks)]
def rEs : List Ex → List (List D)
  | [] => []
  | e :: l => rE e :: rEs l
end
theorem rEs_eq : ∀ l, rEs l = rowsOf rE l
  | [] => by simp [rEs, rowsOf]
  | e :: l => by simp [rEs, rowsOf_cons, rEs_eq l]
theorem rE_eq (e : Ex) : rE e = [.lit (.int .i64 e.op), .lit (.int .i64 e.type), .lit (.int .i64 e.num), .lit (.string e.text), .lit (.int .i64 e.col), .sl 6 (rowsOf rE e.kids)] := by
  cases e; simp [rE, rEs_eq, Ex.op, Ex.type, Ex.num, Ex.text, Ex.col, Ex.kids]
theorem rE_mk (a b c : Int) (d : ByteArray) (e : Int) (ks : List Ex) : rE (.mk a b c d e ks) = [.lit (.int .i64 a), .lit (.int .i64 b), .lit (.int .i64 c), .lit (.string d), .lit (.int .i64 e), .sl 6 (rowsOf rE ks)] := by
  simp [rE, rEs_eq]
theorem ex_eta (e : Ex) : Ex.mk e.op e.type e.num e.text e.col e.kids = e := by cases e; rfl
/-- A value of several cells, as data. -/
def aD (row : List D) : A := .agg (row.map .d)
theorem closedL_d (dom : Nat → Bool) : ∀ (row : List D), closedL dom (row.map .d) = true
  | [] => rfl
  | x :: l => by simp [closedL, A.closed, closedL_d dom l]
theorem renL_d (r : Nat → Nat) : ∀ (row : List D), renL r (row.map .d) = row.map .d
  | [] => rfl
  | x :: l => by simp [renL, A.ren, renL_d r l]
theorem closed_aD (dom : Nat → Bool) (row : List D) : (aD row).closed dom = true := by simp [aD, A.closed, closedL_d]
theorem ren_aD (r : Nat → Nat) (row : List D) : (aD row).ren r = aD row := by simp [aD, A.ren, renL_d]
theorem closed_agg_d (dom : Nat → Bool) (row : List D) : (A.agg (row.map .d)).closed dom = true := by simp [A.closed, closedL_d]
theorem ren_agg_d (r : Nat → Nat) (row : List D) : (A.agg (row.map .d)).ren r = A.agg (row.map .d) := by simp [A.ren, renL_d]
def aE (e : Ex) : A := aD (rE e)
theorem closed_aE (dom : Nat → Bool) (e : Ex) : (aE e).closed dom = true := closed_aD _ _
theorem ren_aE (r : Nat → Nat) (e : Ex) : (aE e).ren r = aE e := ren_aD _ _
theorem aE_eq (e : Ex) : aE e = .agg [.d (.lit (.int .i64 e.op)), .d (.lit (.int .i64 e.type)), .d (.lit (.int .i64 e.num)), .d (.lit (.string e.text)), .d (.lit (.int .i64 e.col)), .d (.sl 6 (rowsOf rE e.kids))] := by
  simp [aE, aD, rE_eq]

def aV (v : Val) : A := .agg [.d (.lit (.int .i64 v.kind)), .d (.lit (.int .i64 v.num)), .d (.lit (.string v.text))]

structure Col where
  name : ByteArray
  type : Int
  nullable : Bool
instance : Inhabited Col := ⟨⟨ByteArray.empty, 0, false⟩⟩
def rC (c : Col) : List D := [.lit (.string c.name), .lit (.int .i64 c.type), .lit (.bool c.nullable)]
structure Fk where
  columns : List Int
  table : ByteArray
instance : Inhabited Fk := ⟨⟨[], ByteArray.empty⟩⟩
def rF (f : Fk) : List D := [.sl 1 (rowsOf rI f.columns), .lit (.string f.table)]
structure Tbl where
  name : ByteArray
  columns : List Col
  primary : List Int
  uniques : List (List Int)
  foreigns : List Fk
  checks : List Ex
instance : Inhabited Tbl := ⟨⟨ByteArray.empty, [], [], [], [], []⟩⟩
def rT (t : Tbl) : List D := [.lit (.string t.name), .sl 3 (rowsOf rC t.columns), .sl 1 (rowsOf rI t.primary), .sl 1 (rowsOf rIs t.uniques), .sl 2 (rowsOf rF t.foreigns), .sl 6 (rowsOf rE t.checks)]
/-- A schema is its tables. -/
abbrev Sch := List Tbl
def aS (s : Sch) : A := .agg [.d (.sl 6 (rowsOf rT s))]

theorem rowsI_snoc (l : List Int) (n : Int) : rowsOf rI l ++ [[D.lit (.int .i64 n)]] = rowsOf rI (l ++ [n]) := by simp [rowsOf, rI]
theorem rowsIs_snoc (l : List (List Int)) (m : List Int) : rowsOf rIs l ++ [[D.sl 1 (rowsOf rI m)]] = rowsOf rIs (l ++ [m]) := by simp [rowsOf, rIs]
theorem rowsV_snoc (l : List Val) (a b : Int) (c : ByteArray) : rowsOf rV l ++ [[D.lit (.int .i64 a), D.lit (.int .i64 b), D.lit (.string c)]] = rowsOf rV (l ++ [⟨a, b, c⟩]) := by simp [rowsOf, rV]
theorem rowsC_snoc (l : List Col) (a : ByteArray) (b : Int) (c : Bool) : rowsOf rC l ++ [[D.lit (.string a), D.lit (.int .i64 b), D.lit (.bool c)]] = rowsOf rC (l ++ [⟨a, b, c⟩]) := by simp [rowsOf, rC]
theorem rowsF_snoc (l : List Fk) (a : List Int) (b : ByteArray) : rowsOf rF l ++ [[D.sl 1 (rowsOf rI a), D.lit (.string b)]] = rowsOf rF (l ++ [⟨a, b⟩]) := by simp [rowsOf, rF]
theorem rowsT_snoc (l : List Tbl) (a : ByteArray) (b : List Col) (c : List Int) (d : List (List Int)) (e : List Fk) (f : List Ex) :
    rowsOf rT l ++ [[D.lit (.string a), D.sl 3 (rowsOf rC b), D.sl 1 (rowsOf rI c), D.sl 1 (rowsOf rIs d), D.sl 2 (rowsOf rF e), D.sl 6 (rowsOf rE f)]] = rowsOf rT (l ++ [⟨a, b, c, d, e, f⟩]) := by simp [rowsOf, rT]
theorem rowsE_snoc (l : List Ex) (a b c : Int) (d : ByteArray) (e : Int) (f : List Ex) :
    rowsOf rE l ++ [[D.lit (.int .i64 a), D.lit (.int .i64 b), D.lit (.int .i64 c), D.lit (.string d), D.lit (.int .i64 e), D.sl 6 (rowsOf rE f)]] = rowsOf rE (l ++ [.mk a b c d e f]) := by simp [rowsOf, rE_mk]
theorem encode_size (i : Int) : (Utf8.encode i).size ≤ 4 := by
  unfold Utf8.encode
  simp only
  repeat' split
  all_goals simp [ByteArray.size]
/-- A number of 64 bits. -/
def i64 (n : Int) : Prop := -9223372036854775808 ≤ n ∧ n ≤ 9223372036854775807
theorem wrap_eq {n : Int} (h1 : -9223372036854775808 ≤ n) (h2 : n ≤ 9223372036854775807) : IntKind.i64.wrap n = n := by
  have h3 : (2 : Int) ^ 64 = 18446744073709551616 := by decide
  have h4 : (2 : Int) ^ 63 = 9223372036854775808 := by decide
  simp only [IntKind.wrap, IntKind.signed, IntKind.bits, Bool.true_and, decide_eq_true_eq, h3, h4, Nat.reduceSub]
  split <;> omega
theorem wrap_add {a b : Int} (h1 : -9223372036854775808 ≤ a + b) (h2 : a + b ≤ 9223372036854775807) : IntKind.i64.wrap (a + b) = a + b := wrap_eq h1 h2
end Go.Am

namespace Go.Am

theorem Weak.nilL {t : List (Nat × A)} {o : List (Nat × Ob)} (k id e wd : Nat) (hk : lookT t k = .snil) (ho : lookO o id = none) : Weak (SL.mk t o).st (SL.mk ((k, .vec id 0) :: t) ((id, .vec e wd [] 0) :: o)).st := by
  have := Weak.nil (s := (SL.mk t o).st) k id e wd hk ho
  simp only [SL.st] at this ⊢
  rwa [lookT_put, lookO_put] at this
theorem Weak.keepL {t : List (Nat × A)} {o : List (Nat × Ob)} {σ : SL} (ht : keepT (lookT t) (inO σ.o) σ.t) (ho : keepO (lookO o) (inO σ.o) σ.o) (hin : keepIn (inO σ.o) o) : Weak (SL.mk t o).st σ.st := Weak.keep ht ho hin
theorem Weak.shutL {t : List (Nat × A)} {o : List (Nat × Ob)} (k : Nat) (ws : List Nat) {f : FrzS} (hf : frzA (lookO o) ws (lookT t k) = some f) (hs : f.side) : Weak (SL.mk t o).st (SL.mk ((k, f.x) :: t) (updO o f.upd)).st := by
  have := Weak.shutA (s := (SL.mk t o).st) (k := k) hf hs
  simp only [SL.st] at this ⊢
  rwa [lookT_put, lookO_upd] at this
theorem Weak.nilCellL {t : List (Nat × A)} {o : List (Nat × Ob)} (q i id e wd : Nat) {cs : List A} (hq : lookO o q = some (.var cs)) (hi : cs[i]? = some .snil) (ho : lookO o id = none) :
    Weak (SL.mk t o).st (SL.mk t ((q, .var (cs.set i (.vec id 0))) :: (id, .vec e wd [] 0) :: o)).st := by
  have := Weak.nilCell (s := (SL.mk t o).st) q i id e wd hq hi ho
  simp only [SL.st] at this ⊢
  rwa [lookO_put, lookO_put] at this
theorem Weak.frzCellL {t : List (Nat × A)} {o : List (Nat × Ob)} (q i wd : Nat) {cs : List A} {c : A} {f : Frz} (hq : lookO o q = some (.var cs)) (hi : cs[i]? = some c) (hf : frz (lookO o) wd c = some f) (hs : f.side) (hk : lookO (updO o f.upd) q = some (.var cs)) :
    Weak (SL.mk t o).st (SL.mk t ((q, .var (cs.set i (.d f.x))) :: updO o f.upd)).st := by
  have := Weak.frzCell (s := (SL.mk t o).st) q i wd hq hi hf hs (by simp only [SL.st]; rw [lookO_upd]; exact hk)
  simp only [SL.st] at this ⊢
  rwa [lookO_upd, lookO_put] at this

theorem loopK_again {α : Type} {I : α → SL} {m : α → Nat} {x : α} {K : Exit → SL → Prop} {t : List (Nat × A)} {o : List (Nat × Ob)} (y : α) (hm : m y < m x)
    (ht : keepT (lookT t) (inO (I y).o) (I y).t) (ho : keepO (lookO o) (inO (I y).o) (I y).o) (hin : keepIn (inO (I y).o) o) : loopK I m x K .normal ⟨t, o⟩ :=
  ⟨y, hm, Weak.keepL ht ho hin⟩
end Go.Am
