/- Histories and their anomalies (part Le) -/
import Derived.Test.YthknpcpddlaapaaLd
import Derived.HandedShaped
import Derived.Handed
set_option linter.all false
namespace Go.Am
variable [T : Tab]
open Go.ChangeShapes Go.WideShapes Go.ChangeAt Go.RowKit
set_option linter.unusedVariables false
section
variable {H : Type} {enc : TypeId × Value → H} {P : Program} {w : World} {base b0 : Nat} {spare : Nat → Bool} {held : Bool} {t e : TypeId} {fuel : Nat} {cs : List Value} {x : DataW H × List MemPlace}
end
end Go.Am
namespace Go.Am
variable [T : Tab]
set_option linter.unusedVariables false
end Go.Am
namespace Go.Am
variable [T : Tab]
set_option linter.unusedVariables false
/-- All memory, as data. -/
def Rall (w : World) : Rd := (envOf (fun _ _ => False) (fun _ => none) (fun _ => none) w).R
theorem Rall_of {cx : Cx} {β : Nat → Option (Option Nat)} {h : Nat → Option Ob} {w : World} : ∀ b i v, (envOf cx.Xo β h w).R b i v → Rall w b i v :=
  fun b i v hr => ⟨fun q => q, fun ⟨o, ob, h1, _⟩ => (by cases h1), hr.2.2⟩
def SeenL (h : Nat → Option Ob) (as xs : List A) : Prop := ∀ (cx : Cx) (β : Nat → Option (Option Nat)) (w : World) (vs : List Value), Rel cx β h w → repL (envOf cx.Xo β h w) as vs → repL (envOf (fun _ _ => False) (fun _ => none) (fun _ => none) w) xs vs
/-- A call that changes nothing. -/
theorem FnCall.pure {P : Program} {f : FuncId} {as xs : List A} {h : Nat → Option Ob} {r : Value} (rd : List Nat) (ac : ACall P f xs [] (.d (.lit r)) []) (hz : ∀ h2, (∀ i ∈ rd, h2 i = h i) → SeenL h2 as xs) : FnCall P f as h ⟨True, .d (.lit r), [], rd⟩ where
  fn := ac.fn
  keyed := by simp [Keyed]
  calls := fun h2 hr2 cx β w vs rel hvs => by
    have hx := hz h2 hr2 cx β w vs rel hvs
    have e0 : lookO [] = fun _ => none := by funext o; rfl
    have hX0 : ∀ b i, ¬ Xh (fun _ => none) (lookO []) b i := by rintro b i ⟨o, ob, h1, _⟩; simp [lookO] at h1
    have relc : Rel ⟨w, fun _ _ => False, Xh (fun _ => none) (lookO []), fun _ => none, lookO []⟩ (fun _ => none) (lookO []) w := by
      refine ⟨fun o => (by simp [lookO]), fun o ob bo h1 _ => (by simp [lookO] at h1), fun o o' b h1 _ => (by cases h1), fun o b i h1 => (by cases h1), fun b i h1 => False.elim h1, Ev.refl _ _, fun b i h1 => (hX0 b i h1).elim, fun o ob h1 => (by simp [lookO] at h1), fun o h1 => (by simp [lookO] at h1), fun g row hg => ?_, fun g hg => ?_, rel.tsz⟩
      · have := rel.tab g row hg
        rw [e0]
        exact rowAt_mono Rall_of (Rall_of g) row 0 this
      · rw [e0]
        exact (rel.gi g hg).imp fun _ => Rall_of _ _ _
    refine Calls.mono (ac.calls (fun _ _ => False) (fun _ => none) w vs relc (by rw [e0]; exact hx)) fun en w' hen => ?_
    obtain ⟨v, β', rfl, R', hres⟩ := hen
    have evw : Ev (fun _ _ => False) w w' := by
      have := R'.ev
      exact Ev.mono this fun b i _ q => hX0 b i q
    obtain ⟨r1, L1⟩ := rel.step (β' := β) (h' := h2) (w' := w') (Ev.mono evw fun _ _ _ q => False.elim q) rel.dom (fun o ob ho => ⟨ob, ho, Ob.grow_refl _ _⟩) (fun o b hb => .inl hb) rel.inj (fun b i q => .inl q)
      (fun o ob bo h1 h3 => .inl ⟨h1, h3, fun b hb => evw.same (rel.lt (hb ▸ h3)) fun _ q => q⟩)
    refine ⟨v, β, rfl, by simpa [upds] using r1, by simpa [upds] using L1, ?_⟩
    simpa only [A.rep, D.rep] using hres
section
variable {P : Program} {tt : Types} {ops : Array Oper} {dr : Bool} {rest : List Oper} {log : List Foot} {K : SL → Prop}
end
end Go.Am
namespace Go.Am
variable [T : Tab]
/-- An aggregate. -/
structure Agg where
  fn : Int
  arg : Ex
instance : Inhabited Agg := ⟨⟨0, default⟩⟩
/-- A query. -/
inductive Qr where
  | mk (op : Int) (table : ByteArray) (kind : Int) (all : Bool) (cond : Ex) (exprs : List Ex) (aggs : List Agg) (types : List Int) (rows : List (List Val)) (kids : List Qr)
def q0 : Qr := .mk 0 ByteArray.empty 0 false default [] [] [] [] []
instance : Inhabited Qr := ⟨q0⟩
namespace Qr
def op : Qr → Int | .mk a _ _ _ _ _ _ _ _ _ => a
def table : Qr → ByteArray | .mk _ a _ _ _ _ _ _ _ _ => a
def kind : Qr → Int | .mk _ _ a _ _ _ _ _ _ _ => a
def all : Qr → Bool | .mk _ _ _ a _ _ _ _ _ _ => a
def cond : Qr → Ex | .mk _ _ _ _ a _ _ _ _ _ => a
def exprs : Qr → List Ex | .mk _ _ _ _ _ a _ _ _ _ => a
def aggs : Qr → List Agg | .mk _ _ _ _ _ _ a _ _ _ => a
def types : Qr → List Int | .mk _ _ _ _ _ _ _ a _ _ => a
def rows : Qr → List (List Val) | .mk _ _ _ _ _ _ _ _ a _ => a
def kids : Qr → List Qr | .mk _ _ _ _ _ _ _ _ _ a => a
end Qr
end Go.Am
namespace Go.Am
variable [T : Tab]
set_option linter.unusedVariables false
theorem rndOk_spec {N : Nat} {ps : List Nat} {asg bd : Code} (h : rndOk N ps asg bd = true) : (∀ p ∈ ps, p < N) ∧ cOk N asg = true ∧ cOk N bd = true := by
  simp only [rndOk, Bool.and_eq_true] at h
  exact ⟨fun p hp => by simpa using List.all_eq_true.1 h.1.1 p hp, h.1.2, h.2⟩
theorem lp_of {ks ps : List Nat} {asg bd : Code} {st : LS} {ob : Obj} {vs : List Value} (h : XK.of (.lp ks ps asg bd st) ob vs) : ∃ r : Loop, ob = .loop r ∧ vs = ks.map (fun k => r.tmps.getD k undef) ∧ rndOk r.tmps.size ps asg bd = true ∧ r.params = ps.toArray ∧ r.assign = asg ∧ r.body = bd ∧
    (match st with
     | .ready => r.state = .ready ∧ r.pending = none
     | .busy => r.state = .busy
     | .done j => r.state = .done ∧ r.pending = some j
     | .over => True) := by
  cases ob with
  | loop r => exact ⟨r, rfl, by cases st <;> exact h⟩
  | _ => simp [XK.of] at h
def zipT : List Nat → List A → List (Nat × A)
  | k :: ks, a :: as => (k, a) :: zipT ks as
  | _, _ => []
/-- The slots of a round: those of the frame, with the arguments of yield. -/
def setPs : List Nat → List A → List (Nat × A) → List (Nat × A)
  | p :: ps, a :: as, t => setPs ps as ((p, a) :: t)
  | _, _, t => t
theorem zipT_rep {E : Env} {f : Nat → Value} : ∀ (ks : List Nat) (as : List A), repL E as (ks.map f) → ∀ k, (lookT (zipT ks as) k).rep E (f k)
  | [], as, h, k => by simp [zipT, lookT, A.rep]
  | k0 :: ks, [], h, k => by simp [zipT, lookT, A.rep]
  | k0 :: ks, a :: as, h, k => by
    simp only [List.map_cons, repL] at h
    obtain ⟨u, us, e, h1, h2⟩ := h
    injection e with e1 e2
    subst e1 e2
    simp only [zipT, lookT]
    by_cases hk : k0 = k
    · subst hk; rw [if_pos rfl]; exact h1
    · rw [if_neg hk]; exact zipT_rep ks as h2 k
theorem setPs_rep {E : Env} : ∀ (ps : List Nat) (as : List A) (vs : List Value) (t : List (Nat × A)) (tmps : Array Value), repL E as vs → as.length = ps.length → (∀ p ∈ ps, p < tmps.size) → (∀ k, (lookT t k).rep E (tmps.getD k undef)) →
    ∀ k, (lookT (setPs ps as t) k).rep E (((ps.zip vs).foldl (fun tmps (x : Nat × Value) => tmps.setIfInBounds x.1 x.2) tmps).getD k undef)
  | [], [], vs, t, tmps, h, _, _, ht, k => by simpa [setPs] using ht k
  | [], a :: as, vs, t, tmps, h, hl, _, ht, k => by simp at hl
  | p :: ps, [], vs, t, tmps, h, hl, _, ht, k => by simp at hl
  | p :: ps, a :: as, vs, t, tmps, h, hl, hp, ht, k => by
    simp only [repL] at h
    obtain ⟨u, us, rfl, h1, h2⟩ := h
    simp only [setPs, List.zip_cons_cons, List.foldl_cons]
    refine setPs_rep ps as us ((p, a) :: t) _ h2 (by simpa using hl) (fun q hq => by simpa using hp q (by simp [hq])) (fun j => ?_) k
    have hpl := hp p (by simp)
    simp only [lookT, Array.getD_eq_getD_getElem?]
    by_cases hj : p = j
    · subst hj
      rw [if_pos rfl, Array.getElem?_setIfInBounds_self_of_lt hpl]
      exact h1
    · rw [if_neg hj, Array.getElem?_setIfInBounds_ne hj]
      have := ht j
      rwa [Array.getD_eq_getD_getElem?] at this
/-- The contract of a round: yield of the loop that is object o, called with as. -/
abbrev AYield (P : Program) (o : Nat) (as : List A) (os : List (Nat × Ob)) (res : A) (os' : List (Nat × Ob)) : Prop :=
  GCall (fun β args w R => ∀ b, β o = some (some b) → YieldRun P b args w R) as os res os'
/-- How a round ends. -/
def rndE : Exit → Option (LS × Bool)
  | .normal => some (.ready, true)
  | .ret => some (.done .ret, false)
  | .exit i => some (.done (.exit i), false)
  | _ => none
def rndK (o : Nat) (ks ps : List Nat) (asg bd : Code) (res : A) (os' : List (Nat × Ob)) (e : Exit) (σ : SL) : Prop :=
  match rndE e with
  | some (st, b) => ∃ cs, lookO σ.o o = some (.x (.lp ks ps asg bd .busy) cs) ∧ retx (some (True, .d (.lit (.bool b)))) ⟨σ.t, (o, .x (.lp ks ps asg bd st) cs) :: σ.o⟩ res os'
  | none => False
def asgK (P : Program) (tt : Types) (o : Nat) (ks ps : List Nat) (asg bd : Code) (res : A) (os' : List (Nat × Ob)) : Exit → SL → Prop
  | .normal, σ => ∃ cs, lookO σ.o o = some (.x (.lp ks ps asg bd .ready) cs) ∧ ev P tt bd (rndK o ks ps asg bd res os') ⟨σ.t, (o, .x (.lp ks ps asg bd .busy) cs) :: σ.o⟩
  | _, _ => False
/-- Where a loop's record lies, in whatever state of the frame. -/
theorem lp_at {cx : Cx} {β : Nat → Option (Option Nat)} {h : Nat → Option Ob} {w : World} (rel : Rel cx β h w) {o b : Nat} {k0 k : XK} {as0 as : List A} (h0 : cx.h0 o = some (.x k0 as0)) (hb0 : cx.β0 o = some (some b)) (ho : h o = some (.x k as)) :
    β o = some (some b) ∧ ∃ ob vs, w.heap[b]? = some ob ∧ k.of ob vs ∧ repL (envOf cx.Xo β h w) as vs := by
  obtain ⟨ob', g1, g2⟩ := rel.ent o _ h0
  rw [ho] at g1
  cases g1
  simp only [Ob.grow] at g2
  have hb : β o = some (some b) := g2.1.trans hb0
  have := rel.obj o _ _ ho hb
  simp only [Ob.rep] at this
  obtain ⟨b', ob, vs, e, g3, g4, g5⟩ := this
  cases e
  exact ⟨hb, ob, vs, g3, g4, g5⟩
theorem AYield.enter {P : Program} {tt : Types} (hm : P.follows .mixedOrders = true) (T' : tt.ok P) {o : Nat} {ks ps : List Nat} {asg bd : Code} {cs as : List A} {os os' : List (Nat × Ob)} {res : A}
    (ho : lookO os o = some (.x (.lp ks ps asg bd .ready) cs)) (hl : as.length = ps.length) (h : ev P tt asg (asgK P tt o ks ps asg bd res os') ⟨setPs ps as (zipT ks cs), os⟩) : AYield P o as os res os' := by
  intro Xo β w vs rel hr b hb
  have hobj := rel.obj o _ _ ho hb
  simp only [Ob.rep] at hobj
  obtain ⟨b', ob, us, e, hw, hof, hrep⟩ := hobj
  cases e
  obtain ⟨r, rfl, rfl, hok, hps, has, hbd, hst, hpend⟩ := lp_of hof
  obtain ⟨hps1, hc1, hc2⟩ := rndOk_spec hok
  have hvl := repL_length _ _ hr
  have hsz : vs.toArray.size = r.params.size := by rw [hps]; simp; omega
  refine ⟨r.fn, _, r.assign, r.body, run_yield hw hsz, roundIn_of_wpIn (F := Fence.wide) trivial ?_⟩
  have rel0 : RelT ⟨w, Xo, Xh β (lookO os), β, lookO os⟩ r.tmps.size (⟨setPs ps as (zipT ks cs), os⟩ : SL).st { tmps := (r.params.zip vs.toArray).foldl (fun tmps (x : Nat × Value) => tmps.setIfInBounds x.1 x.2) r.tmps, defers := [] } w := by
    have e1 : (r.params.zip vs.toArray).foldl (fun tmps (x : Nat × Value) => tmps.setIfInBounds x.1 x.2) r.tmps = (ps.zip vs).foldl (fun tmps (x : Nat × Value) => tmps.setIfInBounds x.1 x.2) r.tmps := by
      rw [hps, ← Array.foldl_toList, Array.toList_zip]
    refine ⟨β, rel, fun k => ?_, ?_, MarksOk.nil _ _ _⟩
    · rw [e1]
      exact setPs_rep ps as vs _ r.tmps hr hl hps1 (fun k => zipT_rep ks cs hrep k) k
    · rw [e1]
      have : ∀ (l : List (Nat × Value)) (a : Array Value), (l.foldl (fun tmps (x : Nat × Value) => tmps.setIfInBounds x.1 x.2) a).size = a.size := by
        intro l
        induction l with
        | nil => intro a; rfl
        | cons x l ih => intro a; rw [List.foldl_cons, ih]; simp
      exact this _ _
  rw [has]
  refine wpIn_mono (ev_ok hm T' (some b) asg _ _ h (cOkF_of hc1) _ w rel0) fun e a1 w1 hp => ?_
  obtain ⟨σ1, ⟨β1, q1, q2, q3, q4⟩, k1⟩ := hp
  cases e with
  | normal =>
    obtain ⟨cs1, ho1, hbody⟩ := k1
    obtain ⟨hb1, ob1, us1, hw1, hof1, hrep1⟩ := lp_at q1 (b := b) ho hb ho1
    obtain ⟨r1, rfl, e1, hok1, hps1', has1, hbd1, hst1, hpend1⟩ := lp_of hof1
    refine ⟨_, run_beginRound hw1 hst1, ?_⟩
    obtain ⟨t1, L1⟩ := q1.turnX (y := .loop { r1 with state := .busy }) ho1 hb1 hw1 trivial trivial (k' := .lp ks ps asg bd .busy) trivial ⟨e1, hok1, hps1', has1, hbd1, rfl⟩ hrep1
    have rel1 : RelT ⟨w, Xo, Xh β (lookO os), β, lookO os⟩ r.tmps.size (⟨σ1.t, (o, .x (.lp ks ps asg bd .busy) cs1) :: σ1.o⟩ : SL).st a1 (w1.putObj b (.loop { r1 with state := .busy })) := by
      have e2 : (SL.st ⟨σ1.t, (o, .x (.lp ks ps asg bd .busy) cs1) :: σ1.o⟩).o = put σ1.st.o o (some (.x (.lp ks ps asg bd .busy) cs1)) := (lookO_put _ _ _).symm
      refine ⟨β1, ?_, fun k => ?_, q3, ?_⟩
      · rw [e2]; exact t1
      · rw [e2]; exact A.rep_le L1 _ _ (q2 k)
      · rw [e2]; exact MarksOk.le L1 q4
    rw [hbd]
    refine wpIn_mono (ev_ok hm T' (some b) bd _ _ hbody (cOkF_of hc2) a1 _ rel1) fun e2 a2 w2 hp2 => ?_
    obtain ⟨σ2, ⟨β2, p1, p2, p3, p4⟩, k2⟩ := hp2
    -- the end of the round
    have fin : ∀ (jump : Option Code) (st : LS) (bb : Bool), rndE e2 = some (st, bb) → bb = jump.isNone → (∀ r2 : Loop, (match st with
         | .ready => ({ r2 with state := if jump.isNone then .ready else .done, pending := jump } : Loop).state = .ready ∧ ({ r2 with state := if jump.isNone then .ready else .done, pending := jump } : Loop).pending = none
         | .busy => ({ r2 with state := if jump.isNone then .ready else .done, pending := jump } : Loop).state = .busy
         | .done j => ({ r2 with state := if jump.isNone then .ready else .done, pending := jump } : Loop).state = .done ∧ ({ r2 with state := if jump.isNone then .ready else .done, pending := jump } : Loop).pending = some j
         | .over => True)) →
        ∃ v w', (Instr.endRound b jump).run P w2 = .ok v w' ∧ ∃ v_1 β', Ending.returned v = .returned v_1 ∧ Rel ⟨w, Xo, Xh β (lookO os), β, lookO os⟩ β' (lookO os') w' ∧ res.rep (envOf Xo β' (lookO os') w') v_1 := by
      intro jump st bb hE hbb hjj
      unfold rndK at k2
      rw [hE] at k2
      obtain ⟨cs2, ho2, hret⟩ := k2
      obtain ⟨hb2, ob2, us2, hw2, hof2, hrep2⟩ := lp_at p1 (b := b) ho hb ho2
      obtain ⟨r2, rfl, e3, hok2, hps2, has2, hbd2, hst2⟩ := lp_of hof2
      obtain ⟨t2, L2⟩ := p1.turnX (y := .loop { r2 with state := if jump.isNone then .ready else .done, pending := jump }) ho2 hb2 hw2 trivial trivial (k' := .lp ks ps asg bd st) trivial ⟨e3, hok2, hps2, has2, hbd2, hjj r2⟩ hrep2
      refine ⟨_, _, run_endRound jump hw2, ?_⟩
      obtain ⟨_, hwk⟩ := hret
      have rel2 : RelT ⟨w, Xo, Xh β (lookO os), β, lookO os⟩ 1 ⟨lookT [(0, .d (.lit (.bool bb)))], lookO ((o, .x (.lp ks ps asg bd st) cs2) :: σ2.o)⟩ { tmps := #[.bool jump.isNone], defers := [] } (w2.putObj b (.loop { r2 with state := if jump.isNone then .ready else .done, pending := jump })) := by
        refine ⟨β2, ?_, fun k => ?_, rfl, MarksOk.nil _ _ _⟩
        · rw [← lookO_put]; exact t2
        · simp only [lookT]
          by_cases hk : 0 = k
          · subst hk
            rw [if_pos rfl, hbb]
            simp only [A.rep, D.rep]
            exact ⟨rfl, rfl⟩
          · rw [if_neg hk]; simp [A.rep]
      obtain ⟨β3, s1, s2, _, _⟩ := hwk _ 1 _ _ rel2
      have := s2 0
      simp only [lookT, if_true] at this
      exact ⟨_, β3, rfl, s1, by simpa using this⟩
    cases e2 with
    | normal => exact fin none .ready true rfl rfl (fun _ => ⟨rfl, rfl⟩)
    | ret => exact fin (some .ret) (.done .ret) false rfl rfl (fun _ => ⟨rfl, rfl⟩)
    | exit i => exact fin (some (.exit i)) (.done (.exit i)) false rfl rfl (fun _ => ⟨rfl, rfl⟩)
    | goto l => exact k2.elim
    | panic ch => exact k2.elim
    | outgrown => exact k2.elim
  | exit i => exact k1.elim
  | goto l => exact k1.elim
  | ret => exact k1.elim
  | panic ch => exact k1.elim
  | outgrown => exact k1.elim
end Go.Am
namespace Go.Am
variable [T : Tab]
set_option linter.unusedVariables false
section
variable {P : Program} {tt : Types} {ops : Array Oper} {dr : Bool} {rest : List Oper} {log : List Foot} {K : SL → Prop}
end
/-! The end of a function that holds a loop over a function. -/
/-- Another block, of no object, turns. -/
theorem Rel.other {cx : Cx} {β : Nat → Option (Option Nat)} {h : Nat → Option Ob} {w : World} (r : Rel cx β h w) {b : Nat} {x y : Obj} (hw : w.heap[b]? = some x) (hx : noCells x) (hy : noCells y) (hb : cx.w0.heap.size ≤ b) (hno : ∀ o, β o ≠ some (some b)) :
    Rel cx β h (w.putObj b y) ∧ (envOf cx.Xo β h w).Le (envOf cx.Xo β h (w.putObj b y)) := by
  have hlt : b < w.heap.size := by
    rcases Nat.lt_or_ge b w.heap.size with hl | hl
    · exact hl
    · simp [Array.getElem?_eq_none hl] at hw
  have hset : (w.putObj b y).heap[b]? = some y := World.putObj_heap_same hlt
  have hoth : ∀ k, k ≠ b → (w.putObj b y).heap[k]? = w.heap[k]? := fun k hk => World.putObj_heap_other hk
  have hcell : ∀ k i v, w.cell? ⟨k, i, none⟩ = some v → (w.putObj b y).cell? ⟨k, i, none⟩ = some v := by
    intro k i v hc
    by_cases hk : k = b
    · subst hk
      unfold World.cell? at hc
      simp only [hw] at hc
      cases x <;> simp at hc
      exact hx.elim
    · unfold World.cell? at hc ⊢
      simp only [hoth k hk]; exact hc
  have hszz : ∀ (k n : Nat), (envOf cx.Xo β h w).sz k n → (envOf cx.Xo β h (w.putObj b y)).sz k n := by
    rintro k n ⟨c, el, h1, h2⟩
    have hk : k ≠ b := fun e => by rw [e, hw] at h1; cases h1; exact hx.elim
    exact ⟨c, el, (hoth k hk).trans h1, h2⟩
  have L : (envOf cx.Xo β h w).Le (envOf cx.Xo β h (w.putObj b y)) :=
    ⟨fun k i v hr => ⟨hr.1, hr.2.1, hcell k i v hr.2.2⟩, fun o ob ho => ⟨ob, ho, Ob.grow_refl _ _⟩, hszz⟩
  refine ⟨⟨r.dom, fun o ob bo h1 h2 => ?_, r.inj, r.out, r.bnd, ?_, r.own, r.ent, r.big, fun g row hg => rowAt_mono L.R (L.R g) row 0 (r.tab g row hg), fun g hg => (r.gi g hg).imp fun _ => L.R _ _ _, fun g row hg => ?_⟩, L⟩
  · exact Ob.rep_le L (fun k hk => hoth k (fun e => hno o (by rw [h2, hk, e]))) (r.obj o ob bo h1 h2)
  · refine ⟨r.ev.os, r.ev.tape, r.ev.output, by simpa using r.ev.size, r.ev.drawn, fun k hk => ?_⟩
    have hkb : k ≠ b := by omega
    rw [hoth k hkb]
    exact r.ev.block k hk
  · obtain ⟨c, el, fl, h1, h2⟩ := r.tsz g row hg
    have hk : g ≠ b := fun e => by rw [e, hw] at h1; cases h1; exact hx.elim
    exact ⟨c, el, fl, (hoth g hk).trans h1, h2⟩
end Go.Am
namespace Go.Am
variable [T : Tab]
set_option linter.unusedVariables false
section
variable {P : Program} {tt : Types} {ops : Array Oper} {rest : List Oper} {log : List Foot} {K : SL → Prop}
end
/-- An object is told in another way. -/
theorem Rel.retell {cx : Cx} {β : Nat → Option (Option Nat)} {h : Nat → Option Ob} {w : World} (rel : Rel cx β h w) {q : Nat} {ob ob' : Ob} (hq : h q = some ob) (hg : Ob.grow (β q) (β q) ob ob') (hx : ∀ i, ob'.excl i → ob.excl i)
    (hr : ∀ bo, β q = some bo → (envOf cx.Xo β h w).Le (envOf cx.Xo β (put h q (some ob')) w) → ob'.rep (envOf cx.Xo β (put h q (some ob')) w) w bo) :
    Rel cx β (put h q (some ob')) w ∧ (envOf cx.Xo β h w).Le (envOf cx.Xo β (put h q (some ob')) w) := by
  refine rel.step (Ev.refl _ _) (fun k => ?_) (fun k x hk => ?_) (fun _ _ h => .inl h) rel.inj (fun k i hX => ?_) (fun k x bo g1 g2 => ?_)
  · by_cases hk : k = q
    · subst hk; rw [put_same, rel.dom, hq]; rfl
    · rw [put_ne _ _ hk]; exact rel.dom k
  · by_cases hkq : k = q
    · subst hkq
      rw [hq] at hk
      cases hk
      exact ⟨_, put_same _ _ _, hg⟩
    · exact ⟨x, by rw [put_ne _ _ hkq, hk], Ob.grow_refl _ _⟩
  · obtain ⟨j, x, g1, g2, g3⟩ := hX
    by_cases hk : j = q
    · subst hk
      rw [put_same] at g1
      cases g1
      exact .inl ⟨j, _, hq, g2, hx i g3⟩
    · rw [put_ne _ _ hk] at g1; exact .inl ⟨j, x, g1, g2, g3⟩
  · by_cases hk : k = q
    · subst hk
      rw [put_same] at g1
      cases g1
      exact .inr fun L => hr bo g2 L
    · rw [put_ne _ _ hk] at g1
      exact .inl ⟨g1, g2, fun _ _ => rfl⟩
end Go.Am
namespace Go.Am
variable {α : Type} (le : α → α → Bool)
variable {le}
structure Ord (le : α → α → Bool) : Prop where
  trans : ∀ a b c, le a b = true → le b c = true → le a c = true
  total : ∀ a b, (le a b || le b a) = true
end Go.Am
namespace Go.Am
variable [T : Tab]
end Go.Am
namespace Go.Am
variable [T : Tab]
/-- What a piece of code does, whatever way it is shown. -/
def codx (P : Program) (c : Code) (K : Exit → SL → Prop) (σ : SL) : Prop :=
  ∀ (r : Option Nat) (cx : Cx) (N : Nat), cOkF r N c = true → ∀ (a : Act) (w : World), RelT cx N σ.st a w → c.wpIn (Fw r) 0 P (PostK cx N K) a w
def stepK (P : Program) (b : Code) (K : Exit → SL → Prop) : Exit → SL → Prop
  | .normal, σ => codx P b K σ
  | e, σ => K e σ
def joinK (tgt : SL) (K : Exit → SL → Prop) : Exit → SL → Prop
  | .normal, σ => Weak σ.st tgt.st
  | e, σ => K e σ
section
variable {P : Program} {tt : Types} {K : Exit → SL → Prop} {σ tgt : SL} {a b : Code}
theorem stepK_normal : stepK P b K .normal σ = codx P b K σ := rfl
theorem stepK_ret : stepK P b K .ret σ = K .ret σ := rfl
theorem stepK_exit (i : Nat) : stepK P b K (.exit i) σ = K (.exit i) σ := rfl
theorem joinK_normal : joinK tgt K .normal σ = Weak σ.st tgt.st := rfl
theorem joinK_ret : joinK tgt K .ret σ = K .ret σ := rfl
theorem joinK_exit (i : Nat) : joinK tgt K (.exit i) σ = K (.exit i) σ := rfl
theorem codx_of (hm : P.follows .mixedOrders = true) (T : tt.ok P) (h : ev P tt a K σ) : codx P a K σ := fun r _ _ hc x w rel => ev_ok hm T r a K σ h hc x w rel
theorem codx_step (hm : P.follows .mixedOrders = true) (T : tt.ok P) (h : ev P tt a (stepK P b K) σ) : codx P (.seq a b) K σ := by
  intro r cx N hc x w rel
  have hc := cOkF_seq hc
  refine wpIn_seq (wpIn_mono (ev_ok hm T r a _ σ h hc.1 x w rel) fun e a' w' hp => ?_)
  obtain ⟨σ', r', k'⟩ := hp
  cases e with
  | normal => exact k' r cx N hc.2 a' w' r'
  | _ => exact ⟨σ', r', k'⟩
theorem codx_cut (hm : P.follows .mixedOrders = true) (T : tt.ok P) (tgt : SL) (h1 : ev P tt a (joinK tgt K) σ) (h2 : codx P b K tgt) : codx P (.seq a b) K σ := by
  intro r cx N hc x w rel
  have hc := cOkF_seq hc
  refine wpIn_seq (wpIn_mono (ev_ok hm T r a _ σ h1 hc.1 x w rel) fun e a' w' hp => ?_)
  obtain ⟨σ', r', k'⟩ := hp
  cases e with
  | normal => exact h2 r cx N hc.2 a' w' (k' cx N a' w' r')
  | _ => exact ⟨σ', r', k'⟩
theorem codx_block {id : Nat} (h : codx P a (blkK id K) σ) : codx P (.block id a) K σ := by
  intro r cx N hc x w rel
  refine wpIn_block (wpIn_mono (h r cx N (by cases r <;> exact hc) x w rel) fun e a' w' hp => ?_)
  obtain ⟨σ', r', k'⟩ := hp
  cases e with
  | exit i =>
    simp only [blkK] at k'
    simp only [Exit.inBlock]
    split
    · rename_i hi; simp only [hi, if_true] at k'; exact ⟨σ', r', k'⟩
    · rename_i hi; simp only [hi, if_false] at k'; exact ⟨σ', r', k'⟩
  | _ => exact ⟨σ', r', k'⟩
end
theorem loop_genX {α : Type} {P : Program} {c : Code} {K : Exit → SL → Prop} {t : List (Nat × A)} {o : List (Nat × Ob)}
    (st : α → SL) (m : α → Nat) (Inv : α → Prop) (x0 : α) (h0 : Inv x0) (hw : Weak (SL.mk t o).st (st x0).st)
    (step : ∀ (I : {x : α // Inv x} → SL), (∀ x h, I ⟨x, h⟩ = st x) → ∀ (x : α) (hi : Inv x), codx P c (loopK I (fun x => m x.1) ⟨x, hi⟩ K) (st x)) :
    loopx P c K ⟨t, o⟩ := by
  have h : ∀ x : {x : α // Inv x}, codx P c (loopK (fun x : {x : α // Inv x} => st x.1) (fun x => m x.1) x K) (st x.1) := fun ⟨x, hi⟩ => step _ (fun _ _ => rfl) x hi
  clear step
  revert hw
  generalize (fun x : {x : α // Inv x} => m x.1) = m' at h
  intro hw ro cx N hc a w rel
  have hrel : ∀ {a : Act} {w : World}, (∃ x : {x : α // Inv x}, RelT cx N (st x.1).st a w) → ∃ x, m' x = least (fun n => ∃ x : {x : α // Inv x}, m' x = n ∧ RelT cx N (st x.1).st a w) ∧ RelT cx N (st x.1).st a w := by
    intro a w ⟨x, hx⟩
    exact (least_spec (p := fun n => ∃ x : {x : α // Inv x}, m' x = n ∧ RelT cx N (st x.1).st a w) ⟨x, rfl, hx⟩).1
  refine wpIn_loop (fun a w => ∃ x : {x : α // Inv x}, RelT cx N (st x.1).st a w) (fun a w => least (fun n => ∃ x : {x : α // Inv x}, m' x = n ∧ RelT cx N (st x.1).st a w)) ⟨⟨x0, h0⟩, hw cx N a w rel⟩ fun a w hI => ?_
  obtain ⟨x, hx1, hx2⟩ := hrel hI
  refine wpIn_mono (h x ro cx N hc a w hx2) fun e a' w' hp => ?_
  obtain ⟨σ', r', k'⟩ := hp
  cases e with
  | normal =>
    obtain ⟨y, hy1, hy2⟩ := k'
    have hr := hy2 cx N a' w' r'
    refine ⟨⟨y, hr⟩, ?_⟩
    have := (least_spec (p := fun n => ∃ x : {x : α // Inv x}, m' x = n ∧ RelT cx N (st x.1).st a' w') ⟨y, rfl, hr⟩).2 (m' y) ⟨y, rfl, hr⟩
    rw [← hx1]
    omega
  | _ => exact ⟨σ', r', k'⟩
/-- A function's contract, from its body. -/
theorem ACall.enterX {P : Program} {tt : Types} (T : tt.ok P) {f : FuncId} {fn : Func} {c : Code} {as : List A} {os os' : List (Nat × Ob)} {res : A} (hf : P.funcs[f]? = some fn) (hname : (fn.name == "runtime.NumGoroutine") = false) (hb : fn.body = some c)
    (N : Nat) (hNn : fn.ntmps = N) (hN : as.length ≤ N) (hc : cOk N c = true) (rs : List ResultVar) (hrs : fn.results.toList = rs) (h : codx P c (bodyK tt rs res os') ⟨argT 0 as, os⟩) (hmk : noMk os' = true) : ACall P f as os res os' where
  fn := ⟨fn, hf, hname, by rw [hb]; rfl⟩
  calls := fun Xo β w vs rel hr => by
    have rel0 := RelT.args (M := fn.ntmps) rel hr hNn hN
    refine calls_fw (n := 0) (callsIn_of_wp hf hb trivial (wpIn_mono (h none _ N (cOkF_of (r := none) hc) _ w rel0) fun e a' w' hp => ?_))
    obtain ⟨σ', r', k'⟩ := hp
    have fin : retx (resA tt σ' rs) σ' res os' → a'.defers = [] ∧ ∃ v, (results fn a'.tmps).run P w' = .ok v w' ∧ ∃ v_1 β', Ending.returned v = .returned v_1 ∧ Rel ⟨w, Xo, Xh β (lookO os), β, lookO os⟩ β' (lookO os') w' ∧ res.rep (envOf Xo β' (lookO os') w') v_1 := by
      intro hret
      obtain ⟨β1, q1, q2, q3, q4⟩ := r'
      unfold retx at hret
      split at hret
      · rename_i p x hx
        obtain ⟨hp, hw⟩ := hret
        obtain ⟨v, g1, g2⟩ := resA_ok T q1 q2 hrs hx hp
        have hst : RelT ⟨w, Xo, Xh β (lookO os), β, lookO os⟩ 1 ⟨lookT [(0, x)], lookO σ'.o⟩ { tmps := #[v], defers := a'.defers } w' := by
          refine ⟨β1, q1, fun k => ?_, rfl, q4⟩
          simp only [lookT]
          by_cases hk : 0 = k
          · subst hk; simp only [if_true]; exact g2
          · simp only [hk, if_false]; simp [A.rep]
        obtain ⟨β2, p1, p2, _, p4⟩ := hw _ 1 _ w' hst
        have := p2 0
        simp only [lookT, if_true] at this
        exact ⟨MarksOk.none p4 (noMk_spec hmk), v, g1, v, β2, rfl, p1, by simpa using this⟩
      · exact hret.elim
    cases e with
    | normal => exact fin k'
    | ret => exact fin k'
    | exit i => exact k'.elim
    | goto l => exact k'.elim
    | panic ch => exact k'.elim
    | outgrown => exact k'.elim
theorem enterX {P : Program} {tt : Types} (T : tt.ok P) {f : FuncId} {fn : Func} {c : Code} {as : List A} {os os' : List (Nat × Ob)} {res : A} {N : Nat} {ra : Array ResultVar} (hf : P.funcs[f]? = some fn)
    (hNn : fn.ntmps = N) (hrs : fn.results = ra) (h : codx P c (bodyK tt ra.toList res os') ⟨argT 0 as, os⟩) (hname : (fn.name == "runtime.NumGoroutine") = false := by exact rfl) (hb : fn.body = some c := by exact rfl)
    (hN : as.length ≤ N := by exact Nat.le_of_ble_eq_true rfl) (hc : cOk N c = true := by kernel_rfl) (hmk : noMk os' = true := by first | rfl | (simp [noMk]; done)) : ACall P f as os res os' :=
  ACall.enterX T hf hname hb N hNn hN hc ra.toList (congrArg Array.toList hrs) h hmk
end Go.Am
attribute [push_cast] Go.Am.stepK_normal Go.Am.stepK_ret Go.Am.stepK_exit Go.Am.joinK_normal Go.Am.joinK_ret Go.Am.joinK_exit
namespace Go.Am
variable [T : Tab]
set_option linter.unusedVariables false
/-! What stands at an index of such a slice. -/
def idxG (sz o n : Nat) (i : Int) (ob : Option Ob) : Option Eff := match ob with
  | some (.gv _ cs) => some ⟨(0 ≤ i ∧ i < n) ∧ n = cs.length ∧ sz = 1, .g o n (some i.toNat), [], [o]⟩
  | _ => none
theorem idx_g (te : TI) (h : Nat → Option Ob) (o n : Nat) (i : Int) : idxS (some te) h (.g o n none) i = idxG te.size o n i (h o) := by
  simp only [idxS, effIdxVs, idxG]
  cases h o with
  | none => rfl
  | some ob => cases ob <;> rfl
theorem idx_G (sz o n : Nat) (i : Int) (e : Nat) (cs : List A) : idxG sz o n i (some (.gv e cs)) = some ⟨(0 ≤ i ∧ i < n) ∧ n = cs.length ∧ sz = 1, .g o n (some i.toNat), [], [o]⟩ := rfl
def loadG (tt : Types) (t n i o : Nat) (ob : Option Ob) : Option Eff := match ob with
  | some (.gv _ cs) => match loadA tt t cs i with
    | some (p, a) => some ⟨p ∧ n = cs.length, a, [], [o]⟩
    | none => none
  | _ => none
theorem load_g (tt : Types) (t : Nat) (h : Nat → Option Ob) (o n i : Nat) : effLoad tt t h (.g o n (some i)) = loadG tt t n i o (h o) := by
  simp only [effLoad, loadG]
  cases h o with
  | none => rfl
  | some ob => cases ob <;> rfl
attribute [push_cast] idx_g idx_G load_g loadG
/-! Slices in symbolic number: the cells, the objects. -/
def vecsA (b : Nat) : List (List (List D)) → List A
  | [] => []
  | r :: l => .vec b r.length :: vecsA (b + 1) l
def vecsL (e w b : Nat) : List (List (List D)) → List (Nat × Ob)
  | [] => []
  | r :: l => (b, .vec e w r 0) :: vecsL e w (b + 1) l
theorem vecsA_length : ∀ (b : Nat) (ls : List (List (List D))), (vecsA b ls).length = ls.length
  | _, [] => rfl
  | b, _ :: l => by simp [vecsA, vecsA_length (b + 1) l]
theorem vecsA_get : ∀ (b : Nat) (ls : List (List (List D))) (n : Nat), (vecsA b ls)[n]? = ls[n]?.map fun r => .vec (n + b) r.length
  | _, [], n => by simp [vecsA]
  | b, r :: l, 0 => by simp [vecsA]
  | b, r :: l, n + 1 => by simp only [vecsA, List.getElem?_cons_succ, vecsA_get (b + 1) l n]; rw [show n + (b + 1) = n + 1 + b by omega]
theorem vecsA_set (b : Nat) (ls : List (List (List D))) (n : Nat) (r : List (List D)) : (vecsA b ls).set n (.vec (n + b) r.length) = vecsA b (ls.set n r) := by
  apply List.ext_getElem?
  intro j
  rw [vecsA_get, List.getElem?_set, List.getElem?_set, vecsA_length, vecsA_get]
  by_cases hj : n = j
  · subst hj; by_cases hn : n < ls.length <;> simp [hn]
  · simp [hj]
theorem lookO_vecs (e w : Nat) : ∀ (ls : List (List (List D))) (b k : Nat), lookO (vecsL e w b ls) k = if b ≤ k then ls[k - b]?.map fun r => .vec e w r 0 else none
  | [], b, k => by simp [vecsL, lookO]
  | r :: l, b, k => by
    simp only [vecsL, lookO]
    rw [lookO_vecs e w l (b + 1) k]
    by_cases h : b + 1 ≤ k
    · rw [if_neg (by omega), if_pos h, if_pos (by omega), show k - b = (k - (b + 1)) + 1 by omega, List.getElem?_cons_succ]
    · rw [if_neg h]
      by_cases h2 : b ≤ k
      · rw [if_pos (by omega), if_pos h2, show k - b = 0 by omega]; rfl
      · rw [if_neg (by omega), if_neg h2]
theorem lookO_vecs_lt (e w : Nat) (ls : List (List (List D))) {b k : Nat} (h : k < b) : lookO (vecsL e w b ls) k = none := by rw [lookO_vecs, if_neg (by omega)]
theorem lookO_vecs_at (e w : Nat) {ls : List (List (List D))} {n : Nat} {r : List (List D)} (b : Nat) (h : ls[n]? = some r) : lookO (vecsL e w b ls) (n + b) = some (.vec e w r 0) := by
  rw [lookO_vecs, if_pos (by omega), show n + b - b = n by omega, h]; rfl
theorem keepO_vecs {f : Nat → Option Ob} {dom : Nat → Bool} {e w : Nat} : ∀ {ls : List (List (List D))} {b : Nat}, (∀ n r, ls[n]? = some r → f (n + b) = some (.vec e w r 0)) → keepO f dom (vecsL e w b ls)
  | [], b, _ => trivial
  | r :: l, b, h => by
    rw [vecsL]
    exact ⟨⟨by simpa using h 0 r rfl, rfl⟩, keepO_vecs fun n r hn => by have := h (n + 1) r (by simpa using hn); rwa [show n + 1 + b = n + (b + 1) by omega] at this⟩
theorem keepIn_vecs {dom : Nat → Bool} {e w : Nat} : ∀ {ls : List (List (List D))} {b : Nat}, (∀ n, n < ls.length → hdd (n + b) = false ∨ dom (n + b) = true) → keepIn dom (vecsL e w b ls)
  | [], b, _ => trivial
  | r :: l, b, h => by
    rw [vecsL]
    exact ⟨by simpa using h 0 (by simp), keepIn_vecs fun n hn => by have := h (n + 1) (by simpa using hn); rwa [show n + 1 + b = n + (b + 1) by omega] at this⟩
theorem closed_vecs {dom : Nat → Bool} : ∀ {ls : List (List (List D))} {b : Nat}, (∀ n, n < ls.length → dom (n + b) = true) → closedL dom (vecsA b ls) = true
  | [], b, _ => rfl
  | r :: l, b, h => by
    rw [vecsA, closedL, closed_vecs (ls := l) (b := b + 1) fun n hn => by have := h (n + 1) (by simpa using hn); rwa [show n + 1 + b = n + (b + 1) by omega] at this, Bool.and_true]
    simpa [A.closed] using h 0 (by simp)
end Go.Am
namespace Go.Am
variable [T : Tab]
set_option linter.unusedVariables false
def lits (rs : List Value) : A := .agg (rs.map fun r => .d (.lit r))
section
variable {P : Program} {tt : Types} {ops : Array Oper} {dr : Bool} {rest : List Oper} {log : List Foot} {K : SL → Prop}
end
section
variable {P : Program} {tt : Types} {ops : Array Oper} {dr : Bool} {rest : List Oper} {log : List Foot} {K : SL → Prop}
end
end Go.Am
namespace Go.Am
variable [T : Tab]
set_option linter.unusedVariables false
theorem upds_off {k : Nat} : ∀ (l : List (Nat × Ob)) (h : Nat → Option Ob), k ∉ l.map (·.1) → upds h l k = h k
  | [], h, _ => rfl
  | (o, ob) :: l, h, hk => by
    simp only [List.map_cons, List.mem_cons, not_or] at hk
    rw [upds, upds_off l _ hk.2, put_ne _ _ hk.1]
theorem FnCall.ro {P : Program} {f : FuncId} {as : List A} {h : Nat → Option Ob} {e : Eff} (fc : FnCall P f as h e) (a b : List (Nat × Ob)) (he : e.upd = a ++ b) (hb : ∀ p ∈ b, h p.1 = some p.2) (hn : ∀ p ∈ b, p.1 ∉ a.map (·.1)) :
    FnCall P f as h ⟨e.side, e.res, a, e.rd⟩ where
  fn := fc.fn
  keyed := fun p hp => fc.keyed p (by rw [he]; exact List.mem_append.2 (.inl hp))
  calls := fun h2 hr2 cx β w vs rel hvs => by
    have hh : upds h2 e.upd = upds h2 a := by
      rw [he, upds_append]
      refine upds_self _ fun p hp => ?_
      rw [upds_off _ _ (hn p hp), hr2 p.1 (fc.keyed p (by rw [he]; exact List.mem_append.2 (.inr hp)))]
      exact hb p hp
    have := fc.calls h2 hr2 cx β w vs rel hvs
    rw [hh] at this
    exact this
section
variable {P : Program} {tt : Types} {ops : Array Oper} {dr : Bool} {rest : List Oper} {log : List Foot} {K : SL → Prop}
/-- A call whose arguments are not shut, and that turns the first k of its objects alone. -/
theorem callx_ofVr {f : FuncId} {caps as : List A} {d : Option Nat} {t : List (Nat × A)} {o : List (Nat × Ob)} (k : Nat) (rn : List (Nat × Nat)) {xs : List A} {rd : List Nat} {cas : List A} {os os' : List (Nat × Ob)} {cres : A}
    (hz : View (lookO o) (as ++ caps) xs rd) (ac : ACall P f cas os cres os') (hargs : renL (ren1 rn) cas = xs) (hcl : closedL (inO os) cas = true)
    (hos : hosL (lookO o) (ren1 rn) (inO os) os) (hid : idsOk (ren1 rn) (lookO o) (os.map (·.1)) (os'.map (·.1))) (hro : ∀ p ∈ os'.drop k, lookO o (ren1 rn p.1) = some (p.2.ren (ren1 rn)))
    (h : effx P tt ops dr (some ⟨True, cres.ren (ren1 rn), (os'.take k).map (fun p => (ren1 rn p.1, p.2.ren (ren1 rn))), rd ++ os'.map (fun p => ren1 rn p.1)⟩) d rest log K ⟨t, o⟩) :
    callx P tt ops dr (.clo f caps) as d rest log K ⟨t, o⟩ := by
  obtain ⟨i1, ⟨i2, i2'⟩, i3⟩ := hid
  have i1' : ∀ o, o ∈ os.map (·.1) → o ∈ os'.map (·.1) ∧ hdd o = true := fun o ho => by
    have := List.all_eq_true.1 i1 o ho
    simpa using this
  have fc := FnCall.ofV (P := P) (f := f) (as := as ++ caps) (h := lookO o) (g := ⟨xs, [], rd, True⟩) (by simp [Keyed]) (fun h2 hr cx β w vs rel hv => ⟨rel, Env.Le.refl _, hz h2 hr cx β w vs rel hv⟩) ac (ren1 rn) hargs hcl (fun x ob hx => hosL_spec os hos x ob hx) (fun x hx => by rw [inO_iff] at hx ⊢; exact (i1' x hx).1)
    (fun x y hx hy => by
      rw [inO_iff] at hx hy
      exact nodup_map_inj _ i2 x hx y hy) (fun x hx hn => by
      rw [inO_iff] at hx
      rcases i3 x hx with q | q
      · rw [← inO_iff] at q; rw [q] at hn; cases hn
      · exact q) (fun x hx => by rw [inO_iff] at hx; exact (i1' x hx).2) i2'
  refine callx_fn (fc.ro ((os'.take k).map fun p => (ren1 rn p.1, p.2.ren (ren1 rn))) ((os'.drop k).map fun p => (ren1 rn p.1, p.2.ren (ren1 rn))) ?_ (fun p hp => ?_) fun p hp => ?_) rfl h
  · rw [← List.map_append, List.take_append_drop]; rfl
  · obtain ⟨q, hq, rfl⟩ := List.mem_map.1 hp
    exact hro q hq
  · obtain ⟨q, hq, rfl⟩ := List.mem_map.1 hp
    intro hm
    rw [List.map_map, List.mem_map] at hm
    obtain ⟨z, hz1, hz2⟩ := hm
    have e : os'.map (·.1) = (os'.take k).map (·.1) ++ (os'.drop k).map (·.1) := by rw [← List.map_append, List.take_append_drop]
    have hzq : z.1 = q.1 := nodup_map_inj _ i2 z.1 (by rw [e]; exact List.mem_append.2 (.inl (List.mem_map.2 ⟨z, hz1, rfl⟩))) q.1 (by rw [e]; exact List.mem_append.2 (.inr (List.mem_map.2 ⟨q, hq, rfl⟩))) hz2
    rw [e] at i2'
    exact (List.nodup_append.1 i2').2.2 z.1 (List.mem_map.2 ⟨z, hz1, rfl⟩) q.1 (List.mem_map.2 ⟨q, hq, rfl⟩) hzq
end
/-- A slice over an object's rows, where the object is forgotten: data from now on. -/
theorem Rel.subOut {cx : Cx} {β : Nat → Option (Option Nat)} {h : Nat → Option Ob} {w : World} (r : Rel cx β h w) (dom : Nat → Bool) (hc : ∀ o ob, dom o = true → h o = some ob → ob.closed dom = true)
    (hent : ∀ o, hdd o = true → (h o).isSome = true → dom o = true) {q m k n e wd fz : Nat} {rows : List (List D)} (hq : h q = some (.vec e wd rows fz)) (hd : dom q = false) (hm : m = rows.length) (hkn : k + n ≤ m) {v : Value}
    (hv : (A.sub q m k n).rep (envOf cx.Xo β h w) v) :
    (D.sl wd ((rows.drop k).take n)).rep (envOf cx.Xo (fun o => if dom o then β o else none) (fun o => if dom o then h o else none) w).R v := by
  obtain ⟨_, S⟩ := r.drop dom hc (fun o g1 g2 => hent o (r.big o g1) g2)
  have hlen : ((rows.drop k).take n).length = n := by simp; omega
  rcases sub_live hq hm hv with ⟨hb, rfl, rfl⟩ | ⟨b, cap, hb, rfl, hcap, _⟩
  · simp only [D.rep]
    refine ⟨none, 0, by rw [hlen], by rw [hlen]; exact Nat.le_refl _, fun _ => ⟨by simp, rfl⟩, fun a' ha => by cases ha⟩
  · have hob := r.obj q _ _ hq hb
    simp only [Ob.rep] at hob
    obtain ⟨_, hl, h3⟩ := hob
    rcases h3 with ⟨h3, _⟩ | ⟨b', c, h3, g4, g5, g6⟩
    · cases h3
    cases h3
    simp only [D.rep]
    refine ⟨_, cap, by rw [hlen], by rw [hlen]; exact hcap, fun e => (by cases e), fun a' ha => ?_⟩
    cases ha
    refine ⟨fun _ => rfl, ?_⟩
    have h1 := rowsAt_take _ _ n (rowsAt_drop rows 0 k (by omega) g5)
    rw [Nat.zero_add] at h1
    refine rowsAt_mono S.R (fun i u hu => ⟨r.out q b _ hb, ?_, ?_⟩) _ _ _ h1
    · rintro ⟨o, ob, h1, h2, h3⟩
      by_cases hdo : dom o = true
      · simp only [hdo, if_true] at h1 h2
        have := r.inj o q b h2 hb
        rw [this, hd] at hdo
        cases hdo
      · simp [hdo] at h1
    · simp only [World.cell?, g4]
      exact hu
/-- A function's end: such a slice. -/
theorem ret_subD {p : Prop} {t : List (Nat × A)} {o os' : List (Nat × Ob)} {q m k n e wd fz : Nat} {rows : List (List D)} {R : A} (hp : p) (hq : lookO o q = some (.vec e wd rows fz)) (hd : inO os' q = false) (hm : m = rows.length) (hkn : k + n ≤ m)
    (hR : R = .d (.sl wd ((rows.drop k).take n))) (ho : keepO (lookO o) (inO os') os') (hin : keepIn (inO os') o) : retx (some (p, .sub q m k n)) ⟨t, o⟩ R os' := by
  refine ⟨hp, ?_⟩
  subst hR
  intro cx N a w ⟨β, h1, h2, h3, h4⟩
  have hcl : ∀ o' ob, inO os' o' = true → lookO o o' = some ob → ob.closed (inO os') = true := fun o' ob hd hob => by
    unfold inO at hd
    obtain ⟨ob', hob'⟩ := Option.isSome_iff_exists.1 hd
    obtain ⟨g1, g2⟩ := keepO_spec os' ho o' ob' hob'
    have hob2 : lookO o o' = some ob := hob
    rw [hob2] at g1
    cases g1
    exact g2
  obtain ⟨r1, S1⟩ := h1.drop (inO os') hcl (fun o' g1 g2 => keepIn_spec o hin o' (h1.big o' g1) g2)
  have hv := h2 0
  simp only [lookT, if_true] at hv
  have hx := h1.subOut (inO os') hcl (keepIn_spec o hin) hq hd hm hkn hv
  have he : (fun o' => if inO os' o' then lookO o o' else none) = lookO os' := by
    funext o'
    unfold inO
    cases hl : lookO os' o' with
    | none => simp
    | some ob => simp; exact (keepO_spec os' ho o' ob hl).1
  simp only [he] at r1 S1 hx
  have h4' := MarksOk.drop (h := lookO o) (dom := inO os') h4 (keepIn_spec o hin)
  rw [he] at h4'
  refine ⟨_, r1, fun j => ?_, h3, h4'⟩
  show (lookT [(0, _)] j).rep _ _
  simp only [lookT]
  by_cases hj : 0 = j
  · subst hj
    rw [if_pos rfl]
    simpa only [A.rep] using hx
  · rw [if_neg hj]; simp [A.rep]
/-- Behind a drawn region a map of entries in no order has them in some. -/
theorem bag_mp {P : Program} {c : Code} {K : Exit → SL → Prop} {t : List (Nat × A)} {o : List (Nat × Ob)} {q n : Nat} {S : Value → Option Value} (hq : lookO o q = some (.bag S n))
    (h : ∀ (es : List (Value × Value)), (∀ x y, (x, y) ∈ es ↔ S x = some y) → loopx P c K ⟨t, (q, .mp es none) :: o⟩) : loopx P c K ⟨t, o⟩ := by
  intro ro cx N hc a w rel
  obtain ⟨β, h1, h2, h3, h4⟩ := rel
  have h1' : Rel cx β (lookO o) w := h1
  obtain ⟨bo, hbo⟩ := Option.isSome_iff_exists.1 (show (β q).isSome = true by rw [h1'.dom, hq]; rfl)
  have hrep := h1'.obj q _ _ hq hbo
  simp only [Ob.rep] at hrep
  obtain ⟨b, ens, rfl, g1, g2, g3, g4⟩ := hrep
  refine h (ens.toList.map fun e => (e.key, e.val)) g2 ro cx N hc a w ?_
  obtain ⟨r1, L1⟩ := h1'.retell (ob' := .mp (ens.toList.map fun e => (e.key, e.val)) none) hq (by simp [Ob.grow]) (fun _ _ => trivial) (fun bo' hb' L => by
    rw [hbo] at hb'
    cases hb'
    simp only [Ob.rep]
    exact ⟨b, ens, n, rfl, g1, rfl, fun p hp => by
      obtain ⟨e, he, rfl⟩ := List.mem_map.1 hp
      exact g3 e he, g4.any⟩)
  rw [lookO_put] at r1 L1
  exact ⟨β, r1, fun k => A.rep_le L1 _ _ (h2 k), h3, MarksOk.le L1 h4⟩
theorem mfind_int {j : Int} {v : Value} : ∀ (es : List (Value × Value)) (i : Nat), (∀ p ∈ es, ∃ m, p.1 = .int .i64 m) → (∀ p ∈ es, p.1 = .int .i64 j → p.2 = v) → (∃ p ∈ es, p.1 = .int .i64 j) → ∃ k, mfind (.int .i64 j) es i = some (some (k, v))
  | [], i, _, _, h => by obtain ⟨p, hp, _⟩ := h; cases hp
  | p :: es, i, h1, h2, h3 => by
    obtain ⟨m, hm⟩ := h1 p (by simp)
    rw [mfind, hm]
    simp only [sameV, if_true]
    by_cases e : j = m
    · subst e
      rw [beq_self_eq_true]
      exact ⟨i, by rw [h2 p (by simp) hm]⟩
    · rw [beq_eq_false_iff_ne.2 e]
      refine mfind_int es (i + 1) (fun q hq => h1 q (by simp [hq])) (fun q hq => h2 q (by simp [hq])) ?_
      obtain ⟨q, hq, hqj⟩ := h3
      rcases List.mem_cons.1 hq with rfl | hq
      · rw [hm] at hqj; cases hqj; exact absurd rfl e
      · exact ⟨q, hq, hqj⟩
end Go.Am
namespace Go.Am
variable [T : Tab]
set_option linter.unusedVariables false
section
variable {P : Program} {tt : Types} {K : Exit → SL → Prop} {σ tgt : SL} {a b : Code}
theorem codx_in (h : codx P a (stepK P b K) σ) : codx P (.seq a b) K σ := by
  intro r cx N hc x w rel
  have hc := cOkF_seq hc
  refine wpIn_seq (wpIn_mono (h r cx N hc.1 x w rel) fun e a' w' hp => ?_)
  obtain ⟨σ', r', k'⟩ := hp
  cases e with
  | normal => exact k' r cx N hc.2 a' w' r'
  | _ => exact ⟨σ', r', k'⟩
theorem codx_cond {c : Operand} {v : Bool} (hv : evL σ c = .d (.lit (.bool v))) (h1 : v = true → codx P a K σ) (h2 : v = false → codx P b K σ) : codx P (.cond c a b) K σ := by
  intro r cx N hc x w rel
  have hc := cOkF_cond hc
  have hev : x.eval c = .bool v := by
    obtain ⟨β, g1, g2, g3, g4⟩ := rel
    have hrep := evL_rep (N := N) g1 g2 c
    rw [hv] at hrep
    simp only [A.rep, D.rep] at hrep
    exact hrep.1
  exact wpIn_cond_split hev (fun hb => h1 hb r cx N hc.1 x w rel) (fun hb => h2 hb r cx N hc.2 x w rel)
end
end Go.Am
