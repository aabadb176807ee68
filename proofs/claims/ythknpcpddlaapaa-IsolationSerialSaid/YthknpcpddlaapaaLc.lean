/- Histories and their anomalies (part Lc) -/
import Derived.Test.YthknpcpddlaapaaLb
set_option linter.all false
namespace Go.Am
variable [T : Tab]
section
variable (P : Program) (tt : Types) (ops : Array Oper) (dr : Bool) (rest : List Oper) (log : List Foot) (K : SL → Prop) (σ : SL)
/-- One operation, in its turn. -/
def opg (o : Oper) : Prop := opx P tt ops dr (callOf o.op) o rest log K σ
/-- One operation that is passed over. -/
def skg (d : Option Nat) : Prop := rgn P tt ops dr rest (⟨[], []⟩ :: log) K ⟨setT d (.tup []) σ.t, σ.o⟩
def drawx (ops : Array Oper) (log : List Foot) : Prop := drawOk ops log.reverse = true
theorem ev_reg (id : Nat) (l : List Oper) (KE : Exit → SL → Prop) : ev P tt (.region id l.toArray dr) KE σ = rgn P tt l.toArray dr l [] (KE .normal) σ := rfl
theorem rgn_end_f : rgn P tt ops false [] log K σ = K σ := by simp [rgn]
theorem rgn_end_t : rgn P tt ops true [] log K σ = (drawx ops log ∧ K σ) := by simp [rgn, drawx]
theorem rgn_step (o : Oper) : rgn P tt ops dr (o :: rest) log K σ = gsel P tt ops dr (gk ops σ o.guard) o rest log K σ := rgn_cons ..
theorem skg_some (d : Nat) (t : List (Nat × A)) (o : List (Nat × Ob)) : skg P tt ops dr rest log K ⟨t, o⟩ (some d) = rgn P tt ops dr rest (⟨[], []⟩ :: log) K ⟨(d, .tup []) :: t, o⟩ := rfl
theorem skg_none (t : List (Nat × A)) (o : List (Nat × Ob)) : skg P tt ops dr rest log K ⟨t, o⟩ none = rgn P tt ops dr rest (⟨[], []⟩ :: log) K ⟨t, o⟩ := rfl
theorem gk_none : gk ops σ none = .free := rfl
def gkS (k : Option Nat) (w : Bool) (σ : SL) : GK := match k with
  | some k => match lookT σ.t k with
    | .d (.lit (.bool b)) => .known k w b
    | .tup [] => .never k w
    | _ => .bad
  | none => .bad
def gkV (k : Nat) (w : Bool) (a : A) : GK := match a with
  | .d (.lit (.bool b)) => .known k w b
  | .tup [] => .never k w
  | _ => .bad
theorem gk_some (j : Nat) (w : Bool) : gk ops σ (some (j, w)) = gkS (gslot ops j) w σ := rfl
theorem gkS_some (k : Nat) (w : Bool) (t : List (Nat × A)) (o : List (Nat × Ob)) : gkS (some k) w ⟨t, o⟩ = gkV k w (lookT t k) := rfl
theorem gkV_bool (k : Nat) (w b : Bool) : gkV k w (.d (.lit (.bool b))) = .known k w b := rfl
theorem gkV_tup (k : Nat) (w : Bool) : gkV k w (.tup []) = .never k w := rfl
theorem gslot_eq (l : List Oper) (j : Nat) : gslot l.toArray j = (l[j]?).bind (·.dst) := by simp [gslot]
theorem bind_dst (x : Oper) : (some x).bind (fun o : Oper => o.dst) = x.dst := rfl
variable (o : Oper)
theorem gsel_free : gsel P tt ops dr .free o rest log K σ = opg P tt ops dr rest log K σ o := rfl
theorem gsel_never (k : Nat) (w : Bool) : gsel P tt ops dr (.never k w) o rest log K σ = skg P tt ops dr rest log K σ o.dst := rfl
theorem gsel_tt (k : Nat) : gsel P tt ops dr (.known k true true) o rest log K σ = opg P tt ops dr rest log K (σ.setB k true) o := by simp [gsel, bcase, opg]
theorem gsel_ff (k : Nat) : gsel P tt ops dr (.known k false false) o rest log K σ = opg P tt ops dr rest log K (σ.setB k false) o := by simp [gsel, bcase, opg]
theorem gsel_tf (k : Nat) : gsel P tt ops dr (.known k true false) o rest log K σ = skg P tt ops dr rest log K (σ.setB k false) o.dst := by simp [gsel, bcase, skg, SL.setB]
theorem gsel_ft (k : Nat) : gsel P tt ops dr (.known k false true) o rest log K σ = skg P tt ops dr rest log K (σ.setB k true) o.dst := by simp [gsel, bcase, skg, SL.setB]
theorem gsel_t (k : Nat) (b : Bool) : gsel P tt ops dr (.known k true b) o rest log K σ = bcase b (opg P tt ops dr rest log K (σ.setB k true) o) (skg P tt ops dr rest log K (σ.setB k false) o.dst) := rfl
theorem gsel_f (k : Nat) (b : Bool) : gsel P tt ops dr (.known k false b) o rest log K σ = bcase b (skg P tt ops dr rest log K (σ.setB k true) o.dst) (opg P tt ops dr rest log K (σ.setB k false) o) := rfl
theorem setB_eq (k : Nat) (b : Bool) (t : List (Nat × A)) (o : List (Nat × Ob)) : SL.setB ⟨t, o⟩ k b = ⟨(k, .d (.lit (.bool b))) :: t, o⟩ := rfl
theorem bcase_true (p q : Prop) : bcase true p q = p := by simp [bcase]
theorem bcase_false (p q : Prop) : bcase false p q = q := by simp [bcase]
theorem condx_bx (p q : Prop) : condx .bx p q = (p ∧ q) := rfl
theorem condx_bool (b : Bool) (p q : Prop) : condx (.d (.lit (.bool b))) p q = bcase b p q := rfl
variable (d : Option Nat) (ty : Nat) (ps : String) (af : Array Edge) (g : Option (Nat × Bool))
theorem g_move (x : Operand) : opg P tt ops dr rest log K σ ⟨d, .move x, ty, ps, af, g⟩ = effx P tt ops dr (ok1 (evL σ x)) d rest log K σ := rfl
theorem g_assign (x : Operand) : opg P tt ops dr rest log K σ ⟨d, .assign x, ty, ps, af, g⟩ = effx P tt ops dr (ok1 (evL σ x)) d rest log K σ := rfl
def epick (c a b : A) : Option Eff := match c with
  | .d (.lit (.bool v)) => ok1 (pickA v a b)
  | _ => none
theorem g_pick (c x y : Operand) : opg P tt ops dr rest log K σ ⟨d, .pick c x y, ty, ps, af, g⟩ = effx P tt ops dr (epick (evL σ c) (evL σ x) (evL σ y)) d rest log K σ := rfl
theorem epick_t (a b : A) : epick (.d (.lit (.bool true))) a b = ok1 a := by cases a <;> cases b <;> (try rfl) <;> simp [epick, pickA] <;> split <;> simp_all
theorem epick_f (a b : A) : epick (.d (.lit (.bool false))) a b = ok1 b := by cases a <;> cases b <;> (try rfl) <;> simp [epick, pickA] <;> split <;> simp_all
theorem epick_b (v x y : Bool) : epick (.d (.lit (.bool v))) (.d (.lit (.bool x))) (.d (.lit (.bool y))) = ok1 (.d (.lit (.bool (if v then x else y)))) := rfl
theorem g_alloc (t : Nat) : opg P tt ops dr rest log K σ ⟨d, .alloc t, ty, ps, af, g⟩ = effx P tt ops dr (effAlloc tt t d (lookO σ.o)) d rest log K σ := rfl
theorem g_box (t : Nat) (x : Operand) : opg P tt ops dr rest log K σ ⟨d, .box t x, ty, ps, af, g⟩ = effx P tt ops dr (effBox (evL σ x) d (lookO σ.o)) d rest log K σ := rfl
def evP (σ : SL) : List (Nat × Operand) → List (Nat × A)
  | [] => []
  | p :: l => (p.1, evL σ p.2) :: evP σ l
theorem evP_eq (σ : SL) : ∀ l, evP σ l = l.map fun p => (p.1, evL σ p.2)
  | [] => rfl
  | p :: l => by simp [evP, evP_eq σ l]
theorem evP_nil : evP σ [] = [] := rfl
theorem evP_cons (i : Nat) (x : Operand) (l : List (Nat × Operand)) : evP σ ((i, x) :: l) = (i, evL σ x) :: evP σ l := rfl
theorem g_build (t : Nat) (l : List (Nat × Operand)) : opg P tt ops dr rest log K σ ⟨d, .build t l.toArray, ty, ps, af, g⟩ = effx P tt ops dr (effBuild tt t (evP σ l)) d rest log K σ := by rw [evP_eq]; rfl
theorem g_buildSlice (t n : Nat) (l : List (Nat × Operand)) : opg P tt ops dr rest log K σ ⟨d, .buildSlice t n l.toArray, ty, ps, af, g⟩ = effx P tt ops dr (effSlice0 tt t n (evP σ l) d (lookO σ.o)) d rest log K σ := by rw [evP_eq]; rfl
theorem g_load (t : Nat) (x : Operand) : opg P tt ops dr rest log K σ ⟨d, .load t x, ty, ps, af, g⟩ = effx P tt ops dr (effLoad tt t (lookO σ.o) (evL σ x)) d rest log K σ := rfl
theorem g_store (t : Nat) (x v : Operand) : opg P tt ops dr rest log K σ ⟨d, .store t x v, ty, ps, af, g⟩ = effx P tt ops dr (effStore tt t (lookO σ.o) (evL σ v) (evL σ x)) d rest log K σ := rfl
theorem g_nilCheck (x : Operand) : opg P tt ops dr rest log K σ ⟨d, .nilCheck x, ty, ps, af, g⟩ = effx P tt ops dr (effNil (lookO σ.o) (evL σ x)) d rest log K σ := rfl
theorem g_binOp (b : BinOp) (t u : Nat) (x y : Operand) : opg P tt ops dr rest log K σ ⟨d, .binOp b t x y u, ty, ps, af, g⟩ = effx P tt ops dr (effBin tt b t (lookO σ.o) (evL σ x) (evL σ y)) d rest log K σ := rfl
theorem g_unOp (b : UnOp) (t : Nat) (x : Operand) : opg P tt ops dr rest log K σ ⟨d, .unOp b t x, ty, ps, af, g⟩ = effx P tt ops dr (effUn b (evL σ x)) d rest log K σ := rfl
theorem g_convert (s t : Nat) (x : Operand) : opg P tt ops dr rest log K σ ⟨d, .convert s t x, ty, ps, af, g⟩ = effx P tt ops dr (effConvH tt s t (lookO σ.o) (evL σ x)) d rest log K σ := rfl
def evLs (σ : SL) : List Operand → List A
  | [] => []
  | x :: l => evL σ x :: evLs σ l
theorem evLs_eq (σ : SL) : ∀ l, evLs σ l = l.map (evL σ)
  | [] => rfl
  | p :: l => by simp [evLs, evLs_eq σ l]
theorem evLs_nil : evLs σ [] = [] := rfl
theorem evLs_cons (x : Operand) (l : List Operand) : evLs σ (x :: l) = evL σ x :: evLs σ l := rfl
theorem g_makeFunc (f : Nat) (l : List Operand) : opg P tt ops dr rest log K σ ⟨d, .makeFunc (.func f) ([] : List Operand).toArray l.toArray, ty, ps, af, g⟩ = effx P tt ops dr (ok1 (.clo f (evLs σ l))) d rest log K σ := by rw [evLs_eq]; rfl
theorem g_makeSlice (t : Nat) (l c : Operand) : opg P tt ops dr rest log K σ ⟨d, .makeSlice t l c, ty, ps, af, g⟩ = effx P tt ops dr (effMake tt t d (lookO σ.o) (evL σ l) (evL σ c)) d rest log K σ := rfl
def evM (σ : SL) : Option Operand → Option A
  | none => none
  | some x => some (evL σ x)
theorem evM_eq (σ : SL) (x : Option Operand) : evM σ x = x.map (evL σ) := by cases x <;> rfl
theorem evM_none : evM σ none = none := rfl
theorem evM_some (x : Operand) : evM σ (some x) = some (evL σ x) := rfl
theorem g_slice (t : Nat) (x : Operand) (lo hi : Option Operand) : opg P tt ops dr rest log K σ ⟨d, .slice t x lo hi none, ty, ps, af, g⟩ = effx P tt ops dr (effSlice tt t (lookO σ.o) (evL σ x) (evM σ lo) (evM σ hi) none) d rest log K σ := by
  rw [evM_eq, evM_eq]; rfl
theorem g_slice3 (t : Nat) (x : Operand) (lo : Option Operand) (hi mx : Operand) : opg P tt ops dr rest log K σ ⟨d, .slice t x lo (some hi) (some mx), ty, ps, af, g⟩ = effx P tt ops dr (effSlice tt t (lookO σ.o) (evL σ x) (evM σ lo) (some (evL σ hi)) (some (evL σ mx))) d rest log K σ := by
  rw [evM_eq]; rfl
theorem g_fieldAddr (s f : Nat) (x : Operand) : opg P tt ops dr rest log K σ ⟨d, .fieldAddr s x f, ty, ps, af, g⟩ = effx P tt ops dr (effFieldAddr tt s f (lookO σ.o) (evL σ x)) d rest log K σ := rfl
theorem g_field (s f : Nat) (x : Operand) : opg P tt ops dr rest log K σ ⟨d, .field s x f, ty, ps, af, g⟩ = effx P tt ops dr (effField tt s f (evL σ x)) d rest log K σ := rfl
def eidx (tt : Types) (t : Nat) (h : Nat → Option Ob) (x i : A) : Option Eff := match i with
  | .d (.lit (.int _ n)) => effIndexAddr tt t h x n
  | _ => none
theorem eidx_int (t : Nat) (h : Nat → Option Ob) (x : A) (k : IntKind) (n : Int) : eidx tt t h x (.d (.lit (.int k n))) = effIndexAddr tt t h x n := rfl
theorem g_indexAddr (t : Nat) (x i : Operand) : opg P tt ops dr rest log K σ ⟨d, .indexAddr t x i, ty, ps, af, g⟩ = effx P tt ops dr (eidx tt t (lookO σ.o) (evL σ x) (evL σ i)) d rest log K σ := rfl
theorem g_index (t : Nat) (x i : Operand) : opg P tt ops dr rest log K σ ⟨d, .index t x i, ty, ps, af, g⟩ = effx P tt ops dr (effIndex tt t (evL σ x) (evL σ i)) d rest log K σ := rfl
def extr (i : Nat) (x : A) : Option Eff := match x with
  | .tup vs => match vs[i]? with
      | some a => ok1 a
      | none => none
  | _ => none
theorem extr_0 (a : A) (l : List A) : extr 0 (.tup (a :: l)) = ok1 a := rfl
theorem extr_1 (a b : A) (l : List A) : extr 1 (.tup (a :: b :: l)) = ok1 b := rfl
theorem extr_2 (a b c : A) (l : List A) : extr 2 (.tup (a :: b :: c :: l)) = ok1 c := rfl
theorem g_extract (x : Operand) (i : Nat) : opg P tt ops dr rest log K σ ⟨d, .extract x i, ty, ps, af, g⟩ = effx P tt ops dr (extr i (evL σ x)) d rest log K σ := rfl
theorem g_makeMap (t : Nat) : opg P tt ops dr rest log K σ ⟨d, .makeMap t none, ty, ps, af, g⟩ = effx P tt ops dr (effMakeMap tt t d (lookO σ.o)) d rest log K σ := rfl
theorem g_mapUpdate (t : Nat) (m k v : Operand) : opg P tt ops dr rest log K σ ⟨d, .mapUpdate t m k v, ty, ps, af, g⟩ = effx P tt ops dr (effMapUpd tt t (lookO σ.o) (evL σ m) (evL σ k) (evL σ v)) d rest log K σ := rfl
theorem g_insert (t : Nat) (m k v : Operand) : opg P tt ops dr rest log K σ ⟨d, .insert t m k v, ty, ps, af, g⟩ = effx P tt ops dr (effInsert tt t (lookO σ.o) (evL σ m) (evL σ k) (evL σ v)) d rest log K σ := rfl
theorem g_lookup (t : Nat) (x i : Operand) (ok : Bool) : opg P tt ops dr rest log K σ ⟨d, .lookup t x i ok, ty, ps, af, g⟩ = effx P tt ops dr (effLookup tt t ok (lookO σ.o) (evL σ x) (evL σ i)) d rest log K σ := rfl
theorem g_range (t : Nat) (x : Operand) : opg P tt ops dr rest log K σ ⟨d, .range t x, ty, ps, af, g⟩ = effx P tt ops dr (effRange tt t d (lookO σ.o) (evL σ x)) d rest log K σ := rfl
/-- A step of an iterator: of a text's, or of a map's. -/
def nextx (b : Bool) (a : A) (d : Option Nat) : Prop := mapx P tt ops dr (match b, a with | false, .xo false io => some (nextS (lookO σ.o) io) | _, _ => none) (effNext (lookO σ.o) b a) d rest log K σ
def entryx (a : A) (d : Option Nat) : Prop := mapx P tt ops dr (match a with | .xo false io => some (entryS (lookO σ.o) io) | _ => none) none d rest log K σ
theorem g_next (x : Operand) (b : Bool) : opg P tt ops dr rest log K σ ⟨d, .next x b, ty, ps, af, g⟩ = nextx P tt ops dr rest log K σ b (evL σ x) d := rfl
theorem g_entry (x : Operand) : opg P tt ops dr rest log K σ ⟨d, .entry x, ty, ps, af, g⟩ = entryx P tt ops dr rest log K σ (evL σ x) d := rfl
theorem nextx_text (a : A) (d : Option Nat) : nextx P tt ops dr rest log K σ true a d = effx P tt ops dr (effNext (lookO σ.o) true a) d rest log K σ := by cases a <;> rfl
theorem g_builtin (b : Builtin) (l : List Operand) (ts : List Nat) : opg P tt ops dr rest log K σ ⟨d, .call ⟨.builtin b, l.toArray, ts.toArray⟩, ty, ps, af, g⟩ = effx P tt ops dr (effBuiltin tt b ts d (lookO σ.o) (evLs σ l)) d rest log K σ := by rw [evLs_eq]; rfl
theorem g_call (f : Operand) (l : List Operand) (ts : Array Nat) : opg P tt ops dr rest log K σ ⟨d, .call ⟨.value f, l.toArray, ts⟩, ty, ps, af, g⟩ = callx P tt ops dr (evL σ f) (evLs σ l) d rest log K σ := by rw [evLs_eq]; rfl
theorem evL_tmp (t : List (Nat × A)) (o : List (Nat × Ob)) (k : Nat) : evL ⟨t, o⟩ (.tmp k) = lookT t k := rfl
theorem evL_const (v : Value) : evL σ (.const v) = ofConst v := rfl
theorem evL_global (g : Nat) : evL σ (.global g) = match T.tab g with | some row => .d (.ptr row 0) | none => .any := rfl
theorem oc_map (r : Option Nat) : ofConst (.map r) = .d (.lit (.map r)) := rfl
theorem o1_map (r : Option Nat) : ofConst1 (.map r) = .d (.lit (.map r)) := rfl
theorem evL_func (f : Nat) : evL σ (.func f) = .clo f [] := rfl
theorem oc_int (k : IntKind) (n : Int) : ofConst (.int k n) = .d (.lit (.int k n)) := rfl
theorem oc_bool (b : Bool) : ofConst (.bool b) = .d (.lit (.bool b)) := rfl
theorem oc_string (b : ByteArray) : ofConst (.string b) = .d (.lit (.string b)) := rfl
theorem oc_nil : ofConst (.slice none 0 0) = .snil := rfl
theorem oc_ptr : ofConst (.pointer none) = .d (.lit (.pointer none)) := rfl
theorem oc_agg (l : List Value) (h : l.all one = true) : ofConst (.agg l.toArray) = .agg (l.map ofConst1) := by simp [ofConst, h]
theorem o1_int (k : IntKind) (n : Int) : ofConst1 (.int k n) = .d (.lit (.int k n)) := rfl
theorem o1_bool (b : Bool) : ofConst1 (.bool b) = .d (.lit (.bool b)) := rfl
theorem o1_string (b : ByteArray) : ofConst1 (.string b) = .d (.lit (.string b)) := rfl
theorem o1_nil : ofConst1 (.slice none 0 0) = .snil := rfl
theorem o1_ptr : ofConst1 (.pointer none) = .d (.lit (.pointer none)) := rfl
theorem lookO_eq (t : List (Nat × A)) (o : List (Nat × Ob)) : lookO (SL.mk t o).o = lookO o := rfl
/-- The objects are brought up to date. -/
def updx (t : List (Nat × A)) (o u : List (Nat × Ob)) : Prop := rgn P tt ops dr rest log K ⟨t, updO o u⟩
theorem upd_nil (t : List (Nat × A)) (o : List (Nat × Ob)) : updx P tt ops dr rest log K t o [] = rgn P tt ops dr rest log K ⟨t, o⟩ := rfl
theorem upd_cons (t : List (Nat × A)) (o u : List (Nat × Ob)) (p : Nat × Ob) : updx P tt ops dr rest log K t o (p :: u) = updx P tt ops dr rest log K t (p :: o) u := rfl
theorem upd_1 (t : List (Nat × A)) (o : List (Nat × Ob)) (p : Nat × Ob) : updx P tt ops dr rest log K t o [p] = rgn P tt ops dr rest log K ⟨t, p :: o⟩ := rfl
/-- A pure step. -/
theorem x_pure (r : A) (rd : List Nat) (k : Nat) (t : List (Nat × A)) (o : List (Nat × Ob)) : effx P tt ops dr (some ⟨True, r, [], rd⟩) (some k) rest log K ⟨t, o⟩ = rgn P tt ops dr rest (⟨rd, []⟩ :: log) K ⟨(k, r) :: t, o⟩ := by
  simp [effx, SL.step, setT, updO, Eff.foot]
theorem x_ok1 (r : A) (k : Nat) (t : List (Nat × A)) (o : List (Nat × Ob)) : effx P tt ops dr (ok1 r) (some k) rest log K ⟨t, o⟩ = rgn P tt ops dr rest (⟨[], []⟩ :: log) K ⟨(k, r) :: t, o⟩ := by
  simp [effx, ok1, SL.step, setT, updO, Eff.foot]
theorem x_ok1n (r : A) (t : List (Nat × A)) (o : List (Nat × Ob)) : effx P tt ops dr (ok1 r) none rest log K ⟨t, o⟩ = rgn P tt ops dr rest (⟨[], []⟩ :: log) K ⟨t, o⟩ := by
  simp [effx, ok1, SL.step, setT, updO, Eff.foot]
theorem x_ps (p : Prop) (r : A) (rd : List Nat) (k : Nat) (t : List (Nat × A)) (o : List (Nat × Ob)) : effx P tt ops dr (some ⟨p, r, [], rd⟩) (some k) rest log K ⟨t, o⟩ = (p ∧ rgn P tt ops dr rest (⟨rd, []⟩ :: log) K ⟨(k, r) :: t, o⟩) := by
  simp [effx, SL.step, setT, updO, Eff.foot]
theorem x_pn (p : Prop) (r : A) (rd : List Nat) (t : List (Nat × A)) (o : List (Nat × Ob)) : effx P tt ops dr (some ⟨p, r, [], rd⟩) none rest log K ⟨t, o⟩ = (p ∧ rgn P tt ops dr rest (⟨rd, []⟩ :: log) K ⟨t, o⟩) := by
  simp [effx, SL.step, setT, updO, Eff.foot]
theorem x_us (p : Prop) (r : A) (u : List (Nat × Ob)) (rd : List Nat) (k : Nat) (t : List (Nat × A)) (o : List (Nat × Ob)) : effx P tt ops dr (some ⟨p, r, u, rd⟩) (some k) rest log K ⟨t, o⟩ = (p ∧ updx P tt ops dr rest (⟨rd, u.map (·.1)⟩ :: log) K ((k, r) :: t) o u) := rfl
theorem x_un (p : Prop) (r : A) (u : List (Nat × Ob)) (rd : List Nat) (t : List (Nat × A)) (o : List (Nat × Ob)) : effx P tt ops dr (some ⟨p, r, u, rd⟩) none rest log K ⟨t, o⟩ = (p ∧ updx P tt ops dr rest (⟨rd, u.map (·.1)⟩ :: log) K t o u) := rfl
end
end Go.Am
namespace Go.Am
variable [T : Tab]
section
variable {P : Program} {tt : Types} {ops : Array Oper} {dr : Bool} {rest : List Oper} {log : List Foot} {K : SL → Prop} {KE : Exit → SL → Prop} {σ : SL}
@[congr] theorem effx_congr {e e' : Option Eff} {d : Option Nat} (h : e = e') : effx P tt ops dr e d rest log K σ = effx P tt ops dr e' d rest log K σ := by rw [h]
@[congr] theorem gsel_congr {g g' : GK} {o : Oper} (h : g = g') : gsel P tt ops dr g o rest log K σ = gsel P tt ops dr g' o rest log K σ := by rw [h]
@[congr] theorem opg_congr {o : Oper} : opg P tt ops dr rest log K σ o = opg P tt ops dr rest log K σ o := rfl
@[congr] theorem skg_congr {o o' : Option Nat} (h : o = o') : skg P tt ops dr rest log K σ o = skg P tt ops dr rest log K σ o' := by rw [h]
@[congr] theorem rgn_congr {l : List Oper} : rgn P tt ops dr l log K σ = rgn P tt ops dr l log K σ := rfl
@[congr] theorem ev_congr {c : Code} : ev P tt c KE σ = ev P tt c KE σ := rfl
@[congr] theorem seqK_congr {b : Code} {e : Exit} : seqK P tt b KE e σ = seqK P tt b KE e σ := rfl
@[congr] theorem blkK_congr {b : Nat} {e : Exit} : blkK b KE e σ = blkK b KE e σ := rfl
@[congr] theorem scoK_congr {e : Exit} : scoK KE e σ = scoK KE e σ := rfl
@[congr] theorem loopK_congr {α : Type} {I : α → SL} {m : α → Nat} {x : α} {e : Exit} : loopK I m x KE e σ = loopK I m x KE e σ := rfl
@[congr] theorem loopx_congr {c : Code} : loopx P c KE σ = loopx P c KE σ := rfl
@[congr] theorem callx_congr {f f' : A} {as as' : List A} {d : Option Nat} (h : f = f') (h2 : as = as') : callx P tt ops dr f as d rest log K σ = callx P tt ops dr f' as' d rest log K σ := by rw [h, h2]
@[congr] theorem updx_congr {t : List (Nat × A)} {o u u' : List (Nat × Ob)} (h : u = u') : updx P tt ops dr rest log K t o u = updx P tt ops dr rest log K t o u' := by rw [h]
@[congr] theorem condx_congr {c c' : A} {p q : Prop} (h : c = c') : condx c p q = condx c' p q := by rw [h]
@[congr] theorem drawx_congr : drawx ops log = drawx ops log := rfl
@[congr] theorem gk_congr {g g' : Option (Nat × Bool)} (h : g = g') : gk ops σ g = gk ops σ g' := by rw [h]
@[congr] theorem gkS_congr {k k' : Option Nat} {w : Bool} (h : k = k') : gkS k w σ = gkS k' w σ := by rw [h]
@[congr] theorem evL_congr {x : Operand} : evL σ x = evL σ x := rfl
@[congr] theorem bodyK_congr {rs : List ResultVar} {res : A} {os : List (Nat × Ob)} {e : Exit} : bodyK tt rs res os e σ = bodyK tt rs res os e σ := rfl
@[congr] theorem retx_congr {x x' : Option (Prop × A)} {res : A} {os : List (Nat × Ob)} (h : x = x') : retx x σ res os = retx x' σ res os := by rw [h]
@[congr] theorem resA_congr {rs : List ResultVar} : resA tt σ rs = resA tt σ rs := rfl
end
theorem bodyK_ret (tt : Types) (rs : List ResultVar) (res : A) (os' : List (Nat × Ob)) (t : List (Nat × A)) (o : List (Nat × Ob)) : bodyK tt rs res os' .ret ⟨t, o⟩ = retx (resA tt ⟨t, o⟩ rs) ⟨[], o⟩ res os' := rfl
theorem bodyK_normal (tt : Types) (rs : List ResultVar) (res : A) (os' : List (Nat × Ob)) (t : List (Nat × A)) (o : List (Nat × Ob)) : bodyK tt rs res os' .normal ⟨t, o⟩ = retx (resA tt ⟨t, o⟩ rs) ⟨[], o⟩ res os' := rfl
theorem resA_1 (tt : Types) (k : Nat) (t : List (Nat × A)) (o : List (Nat × Ob)) : resA tt ⟨t, o⟩ [.tmp k] = some (True ∧ True, lookT t k) := rfl
theorem resA_0 (tt : Types) (t : List (Nat × A)) (o : List (Nat × Ob)) : resA tt ⟨t, o⟩ [] = some (True, .tup []) := rfl
theorem resA_arr (tt : Types) (σ : SL) (l : List ResultVar) : resA tt σ l.toArray.toList = resA tt σ l := rfl
def resC (tt : Types) (t : Nat) (o : List (Nat × Ob)) (x : A) : Option (Prop × A) := match x with
  | .ptr k off => match lookO o k with
    | some (.var cs) => loadA tt t cs off
    | _ => none
  | _ => none
theorem resA_c (tt : Types) (k ty : Nat) (t : List (Nat × A)) (o : List (Nat × Ob)) : resA tt ⟨t, o⟩ [.cell k ty] = (resC tt ty o (lookT t k)).map fun p => (p.1 ∧ True, p.2) := by
  simp only [resA, resL, res1, resC]
  cases lookT t k with
  | ptr j off =>
    simp only []
    cases lookO o j with
    | none => rfl
    | some ob => cases ob with
      | var cs => simp only []; cases loadA tt ty cs off <;> rfl
      | _ => rfl
  | _ => rfl
def res2 (x y : Option (Prop × A)) : Option (Prop × A) := match x, y with
  | some (p, a), some (q, b) => some (p ∧ q, .tup [a, b])
  | _, _ => none
def res3 (x y z : Option (Prop × A)) : Option (Prop × A) := match x, y, z with
  | some (p, a), some (q, b), some (r, c) => some (p ∧ q ∧ r, .tup [a, b, c])
  | _, _, _ => none
theorem res1_tmp (tt : Types) (k : Nat) (t : List (Nat × A)) (o : List (Nat × Ob)) : res1 tt ⟨t, o⟩ (.tmp k) = some (True, lookT t k) := rfl
theorem res1_cell (tt : Types) (k ty : Nat) (t : List (Nat × A)) (o : List (Nat × Ob)) : res1 tt ⟨t, o⟩ (.cell k ty) = resC tt ty o (lookT t k) := by
  show (match lookT t k with | .ptr o' off => (match lookO o o' with | some (.var cs) => loadA tt ty cs off | _ => none) | _ => none) = (match lookT t k with | .ptr o' off => (match lookO o o' with | some (.var cs) => loadA tt ty cs off | _ => none) | _ => none)
  rfl
theorem resA_two (tt : Types) (σ : SL) (a b : ResultVar) : resA tt σ [a, b] = res2 (res1 tt σ a) (res1 tt σ b) := by
  simp only [resA, resL, res2]
  cases res1 tt σ a with
  | none => rfl
  | some x => cases res1 tt σ b with
    | none => rfl
    | some y => simp
theorem resA_three (tt : Types) (σ : SL) (a b c : ResultVar) : resA tt σ [a, b, c] = res3 (res1 tt σ a) (res1 tt σ b) (res1 tt σ c) := by
  simp only [resA, resL, res3]
  cases res1 tt σ a with
  | none => rfl
  | some x => cases res1 tt σ b with
    | none => rfl
    | some y => cases res1 tt σ c with
      | none => rfl
      | some z => simp
/-- A slot's value is shut, as a whole. -/
theorem Weak.shutA {s : St} {k : Nat} {ws : List Nat} {f : FrzS} (hf : frzA s.o ws (s.t k) = some f) (hs : f.side) : Weak s ⟨put s.t k f.x, upds s.o f.upd⟩ := by
  intro cx N a w ⟨β, h1, h2, h3, h4⟩
  obtain ⟨r1, L1, x1⟩ := frzA_ok h1 hf hs (h2 k)
  refine ⟨β, r1, fun j => ?_, h3, MarksOk.le L1 h4⟩
  by_cases hj : j = k
  · subst hj; simp only [put_same]; exact x1
  · simp only [put_ne _ _ hj]; exact A.rep_le L1 _ _ (h2 j)
/-- The end of a body with one result. ws: the widths of the elements of its cells. -/
theorem retx_of {p : Prop} {a res : A} {σ : SL} {os' : List (Nat × Ob)} (ws : List Nat) {f : FrzS} (hf : frzA (lookO σ.o) ws a = some f) (hp : p) (hs : f.side) (hx : f.x = res) (hc : res.closed (inO os') = true)
    (ho : keepO (lookO (updO σ.o f.upd)) (inO os') os') (hin : keepIn (inO os') (updO σ.o f.upd)) : retx (some (p, a)) σ res os' := by
  refine ⟨hp, ?_⟩
  have h1 : Weak ⟨lookT [(0, a)], lookO σ.o⟩ ⟨put (lookT [(0, a)]) 0 f.x, upds (lookO σ.o) f.upd⟩ := Weak.shutA (s := ⟨lookT [(0, a)], lookO σ.o⟩) (k := 0) hf hs
  rw [lookO_upd, hx] at h1
  exact h1.trans (Weak.keep (σ := ⟨[(0, res)], os'⟩) ⟨⟨by simp, hc⟩, trivial⟩ ho hin)
/-- Values of one tuple are shut, from left to right. -/
theorem retx_tup {p : Prop} {as ress : List A} {σ : SL} {os' : List (Nat × Ob)} (cws : List (List Nat)) {g : FrzSL} (hf : frzAL (lookO σ.o) cws as = some g) (hp : p) (hs : g.side) (hx : g.xs = ress) (hc : closedL (inO os') ress = true)
    (ho : keepO (lookO (updO σ.o g.upd)) (inO os') os') (hin : keepIn (inO os') (updO σ.o g.upd)) : retx (some (p, .tup as)) σ (.tup ress) os' := by
  refine ⟨hp, ?_⟩
  have h1 : Weak ⟨lookT [(0, .tup as)], lookO σ.o⟩ ⟨lookT [(0, .tup ress)], lookO (updO σ.o g.upd)⟩ := by
    intro cx N a w ⟨β, h1, h2, h3, h4⟩
    have hv := h2 0
    simp only [lookT, if_true, A.rep] at hv
    obtain ⟨vs, hv1, hv2⟩ := hv
    obtain ⟨r1, L1, x1⟩ := frzAL_ok as cws h1 hf hs hv2
    rw [hx] at x1
    simp only at r1 L1 x1
    rw [lookO_upd] at r1 L1 x1
    refine ⟨β, r1, fun j => ?_, h3, MarksOk.le L1 h4⟩
    simp only [lookT]
    by_cases hj : 0 = j
    · subst hj
      simp only [if_true, A.rep]
      exact ⟨vs, hv1, x1⟩
    · simp only [hj, if_false]; simp [A.rep]
  exact h1.trans (Weak.keep (σ := ⟨[(0, .tup ress)], os'⟩) ⟨⟨by simp [lookT], by simpa [A.closed] using hc⟩, trivial⟩ ho hin)
/-- How the caller names the callee's objects. -/
def ren1 : List (Nat × Nat) → Nat → Nat
  | [], o => o
  | (a, b) :: l, o => if a = o then b else ren1 l o
def hosL (h : Nat → Option Ob) (r : Nat → Nat) (dom : Nat → Bool) : List (Nat × Ob) → Prop
  | [] => True
  | (o, ob) :: l => (h (r o) = some (ob.ren r) ∧ ob.closed dom = true) ∧ hosL h r dom l
theorem hosL_spec {h : Nat → Option Ob} {r : Nat → Nat} {dom : Nat → Bool} : ∀ (l : List (Nat × Ob)), hosL h r dom l → ∀ o ob, lookO l o = some ob → h (r o) = some (ob.ren r) ∧ ob.closed dom = true
  | [], _, o, ob, ho => by simp [lookO] at ho
  | (j, x) :: l, hh, o, ob, ho => by
    simp only [hosL] at hh
    simp only [lookO] at ho
    by_cases hj : j = o
    · subst hj; simp only [if_true, Option.some.injEq] at ho; subst ho; exact hh.1
    · simp only [hj, if_false] at ho; exact hosL_spec l hh.2 o ob ho
theorem inO_iff : ∀ (l : List (Nat × Ob)) (o : Nat), inO l o = true ↔ o ∈ l.map (·.1)
  | [], o => by simp [inO, lookO]
  | (j, x) :: l, o => by
    have ih := inO_iff l o
    unfold inO at ih ⊢
    simp only [lookO, List.map_cons, List.mem_cons]
    by_cases hj : j = o
    · simp [hj]
    · simp only [hj, if_false]; rw [ih]; simp [Ne.symm hj]
/-- The objects of the callee, by their numbers: what came in goes out, no two have one name at the caller's, and new ones are new there. -/
def idsOk (r : Nat → Nat) (h : Nat → Option Ob) (os os' : List Nat) : Prop :=
  (os.all fun o => os'.contains o && hdd o) = true ∧ ((os'.map r).Nodup ∧ os'.Nodup) ∧ ∀ o ∈ os', o ∈ os ∨ h (r o) = none
theorem nodup_map_inj {r : Nat → Nat} : ∀ (l : List Nat), (l.map r).Nodup → ∀ a ∈ l, ∀ b ∈ l, r a = r b → a = b
  | [], _, a, ha, _, _, _ => by simp at ha
  | x :: l, hn, a, ha, b, hb, hab => by
    simp only [List.map_cons, List.nodup_cons] at hn
    rcases List.mem_cons.1 ha with ha | ha
    · rcases List.mem_cons.1 hb with hb | hb
      · rw [ha, hb]
      · exact absurd (List.mem_map.2 ⟨b, hb, by rw [← ha, hab]⟩) hn.1
    · rcases List.mem_cons.1 hb with hb | hb
      · exact absurd (List.mem_map.2 ⟨a, ha, by rw [← hb, hab]⟩) hn.1
      · exact nodup_map_inj l hn.2 a ha b hb hab
section
variable {P : Program} {tt : Types} {ops : Array Oper} {dr : Bool} {rest : List Oper} {log : List Foot} {K : SL → Prop}
/-- A call of a function that has a contract. cws: the widths of the elements of the cells of the arguments; rn: the numbers of the callee's objects at the caller's. -/
theorem callx_of {f : FuncId} {caps as : List A} {d : Option Nat} {t : List (Nat × A)} {o : List (Nat × Ob)} (cws : List (List Nat)) (rn : List (Nat × Nat)) {g : FrzSL} {cas : List A} {os os' : List (Nat × Ob)} {cres : A}
    (hz : frzAL (lookO o) cws (as ++ caps) = some g) (ac : ACall P f cas os cres os') (hgs : g.side) (hargs : renL (ren1 rn) cas = g.xs) (hcl : closedL (inO os) cas = true)
    (hos : hosL (lookO (updO o g.upd)) (ren1 rn) (inO os) os) (hid : idsOk (ren1 rn) (lookO (updO o g.upd)) (os.map (·.1)) (os'.map (·.1)))
    (h : effx P tt ops dr (some ⟨True, cres.ren (ren1 rn), g.upd ++ os'.map (fun p => (ren1 rn p.1, p.2.ren (ren1 rn))), g.rd ++ os'.map (fun p => ren1 rn p.1)⟩) d rest log K ⟨t, o⟩) :
    callx P tt ops dr (.clo f caps) as d rest log K ⟨t, o⟩ := by
  obtain ⟨i1, ⟨i2, i2'⟩, i3⟩ := hid
  have i1' : ∀ o, o ∈ os.map (·.1) → o ∈ os'.map (·.1) ∧ hdd o = true := fun o ho => by
    have := List.all_eq_true.1 i1 o ho
    simpa using this
  have h := h.2
  refine ⟨_, FnCall.of hz hgs ac (ren1 rn) hargs hcl (fun x ob hx => by rw [lookO_upd]; exact hosL_spec os hos x ob hx) (fun x hx => ?_) (fun x y hx hy => ?_) (fun x hx hn => ?_) (fun x hx => ?_) ?_, h⟩
  · rw [inO_iff] at hx ⊢; exact (i1' x hx).1
  · rw [inO_iff] at hx hy
    exact nodup_map_inj _ i2 x hx y hy
  · rw [inO_iff] at hx
    rw [lookO_upd]
    rcases i3 x hx with q | q
    · rw [← inO_iff] at q; rw [q] at hn; cases hn
    · exact q
  · rw [inO_iff] at hx; exact (i1' x hx).2
  · exact i2'
end
end Go.Am
namespace Go.Am
variable [T : Tab]
/-- The rows of a list of things. -/
def rowsOf {α : Type} (f : α → List D) (xs : List α) : List (List D) := xs.map f
section
variable {α : Type} (f : α → List D)
theorem rowsOf_length (xs : List α) : (rowsOf f xs).length = xs.length := by simp [rowsOf]
theorem rowsOf_take (xs : List α) (n : Nat) : (rowsOf f xs).take n = rowsOf f (xs.take n) := by simp [rowsOf, List.map_take]
theorem rowsOf_drop (xs : List α) (n : Nat) : (rowsOf f xs).drop n = rowsOf f (xs.drop n) := by simp [rowsOf, List.map_drop]
theorem rowsOf_nil : rowsOf f [] = [] := rfl
theorem rowsOf_cons (x : α) (xs : List α) : rowsOf f (x :: xs) = f x :: rowsOf f xs := rfl
theorem rowsOf_getD [Inhabited α] (xs : List α) (k : Nat) (h : k < xs.length) : (rowsOf f xs).getD k [] = f (xs.getD k default) := by
  simp [rowsOf, List.getD_eq_getElem?_getD, h]
theorem rowsOf_set (xs : List α) (k : Nat) (x : α) : (rowsOf f xs).set k (f x) = rowsOf f (xs.set k x) := by simp [rowsOf, List.map_set]
end
/-- The address of an element of immutable data. -/
def idxE (sz wd : Nat) (rows : List (List D)) (i : Int) : Option Eff := some ⟨(0 ≤ i ∧ i < rows.length) ∧ wd = sz, .d (.ptr (rows.getD i.toNat []) 0), [], []⟩
/-- The address of an element of a slice of the frame's own. -/
def idxV (sz o n : Nat) (i : Int) (ob : Option Ob) : Option Eff := match ob with
  | some (.vec _ wd rows _) => some ⟨(0 ≤ i ∧ i < n) ∧ n = rows.length ∧ wd = sz, .vptr o n i.toNat 0, [], [o]⟩
  | _ => none
def idxS (te : Option TI) (h : Nat → Option Ob) (x : A) (i : Int) : Option Eff := match te with
  | some te => match x with
    | .d (.sl wd rows) => some ⟨(0 ≤ i ∧ i < rows.length) ∧ wd = te.size, .d (.ptr (rows.getD i.toNat []) 0), [], []⟩
    | .csl wd rows => some ⟨(0 ≤ i ∧ i < rows.length) ∧ wd = te.size, .d (.ptr (rows.getD i.toNat []) 0), [], []⟩
    | .vec o n => match h o with
      | some (.vec _ wd rows _) => some ⟨(0 ≤ i ∧ i < n) ∧ n = rows.length ∧ wd = te.size, .vptr o n i.toNat 0, [], [o]⟩
      | _ => none
    | x => effIdxVs te h i x
  | none => none
def idxA (n : Nat) (te : Option TI) (h : Nat → Option Ob) (x : A) (i : Int) : Option Eff := match te with
  | some te => match x with
    | .ptr o off => some ⟨0 ≤ i ∧ i < n, .ptr o (off + i.toNat * te.size), [], []⟩
    | .d (.ptr r off) => some ⟨0 ≤ i ∧ i < n, .d (.ptr r (off + i.toNat * te.size)), [], []⟩
    | .vptr o m j off => match h o with
      | some (.vec _ _ rows _) => some ⟨(0 ≤ i ∧ i < n) ∧ m = rows.length, .vptr o m j (off + i.toNat * te.size), [], [o]⟩
      | _ => none
    | _ => none
  | none => none
def idxK (ti : Option TI) (tt : Types) (h : Nat → Option Ob) (x : A) (i : Int) : Option Eff := match ti with
  | some ti => match ti.k with
    | .slice e => idxS (tt e) h x i
    | .array n e => idxA n (tt e) h x i
    | _ => none
  | none => none
theorem idx_K (tt : Types) (t : Nat) (h : Nat → Option Ob) (x : A) (i : Int) : effIndexAddr tt t h x i = idxK (tt t) tt h x i := by
  unfold effIndexAddr idxK
  cases tt t with
  | none => rfl
  | some ti =>
    obtain ⟨k, _, _, _, _, _⟩ := ti
    cases k with
    | slice e =>
      simp only [idxS]
      cases tt e with
      | none => rfl
      | some te => cases x <;> first | rfl | (rename_i x; cases x <;> rfl) | (rename_i o n; simp only []; cases h o with | none => rfl | some ob => cases ob <;> rfl)
    | array n e =>
      simp only [idxA]
      cases tt e with
      | none => rfl
      | some te => cases x <;> first | rfl | (rename_i x; cases x <;> rfl) | (rename_i o n _ _; simp only []; cases h o with | none => rfl | some ob => cases ob <;> rfl)
    | _ => rfl
theorem idx_sl (te : TI) (h : Nat → Option Ob) (wd : Nat) (rows : List (List D)) (i : Int) : idxS (some te) h (.d (.sl wd rows)) i = idxE te.size wd rows i := rfl
theorem idx_csl (te : TI) (h : Nat → Option Ob) (wd : Nat) (rows : List (List D)) (i : Int) : idxS (some te) h (.csl wd rows) i = idxE te.size wd rows i := rfl
theorem idx_vs (te : TI) (h : Nat → Option Ob) (o n : Nat) (i : Int) : idxS (some te) h (.vs o n) i = some ⟨(0 ≤ i ∧ i < n) ∧ te.size = 1, .ptr o i.toNat, [], []⟩ := rfl
def idxU (sz o m k n : Nat) (i : Int) (ob : Option Ob) : Option Eff := match ob with
  | some (.vec _ wd rows _) => some ⟨(0 ≤ i ∧ i < n) ∧ m = rows.length ∧ wd = sz, .vptr o m (k + i.toNat) 0, [], [o]⟩
  | _ => none
theorem idx_sub (te : TI) (h : Nat → Option Ob) (o m k n : Nat) (i : Int) : idxS (some te) h (.sub o m k n) i = idxU te.size o m k n i (h o) := rfl
theorem idx_U (sz o m k n : Nat) (i : Int) (e wd : Nat) (rows : List (List D)) (fz : Nat) : idxU sz o m k n i (some (.vec e wd rows fz)) = some ⟨(0 ≤ i ∧ i < n) ∧ m = rows.length ∧ wd = sz, .vptr o m (k + i.toNat) 0, [], [o]⟩ := rfl
theorem idx_vec (te : TI) (h : Nat → Option Ob) (o n : Nat) (i : Int) : idxS (some te) h (.vec o n) i = idxV te.size o n i (h o) := rfl
theorem idx_V (sz o n : Nat) (i : Int) (e wd : Nat) (rows : List (List D)) (fz : Nat) : idxV sz o n i (some (.vec e wd rows fz)) = some ⟨(0 ≤ i ∧ i < n) ∧ n = rows.length ∧ wd = sz, .vptr o n i.toNat 0, [], [o]⟩ := rfl
section
variable (P : Program) (tt : Types) (ops : Array Oper) (dr : Bool) (rest : List Oper) (log : List Foot) (K : SL → Prop)
theorem x_idx {α : Type} [Inhabited α] (f : α → List D) (xs : List α) (sz wd : Nat) (i : Int) (k : Nat) (t : List (Nat × A)) (o : List (Nat × Ob)) :
    effx P tt ops dr (idxE sz wd (rowsOf f xs) i) (some k) rest log K ⟨t, o⟩ = (((0 ≤ i ∧ i < xs.length) ∧ wd = sz) ∧ rgn P tt ops dr rest (⟨[], []⟩ :: log) K ⟨(k, .d (.ptr (f (xs.getD i.toNat default)) 0)) :: t, o⟩) := by
  unfold idxE
  rw [x_ps, rowsOf_length]
  refine propext ⟨fun ⟨h1, h2⟩ => ⟨h1, ?_⟩, fun ⟨h1, h2⟩ => ⟨h1, ?_⟩⟩
  · rwa [rowsOf_getD f xs _ (by omega)] at h2
  · rwa [rowsOf_getD f xs _ (by omega)]
/-- Rows that are written down one by one. -/
theorem x_idxc (r : List D) (rows : List (List D)) (sz wd : Nat) (i : Int) (k : Nat) (t : List (Nat × A)) (o : List (Nat × Ob)) :
    effx P tt ops dr (idxE sz wd (r :: rows) i) (some k) rest log K ⟨t, o⟩ = (((0 ≤ i ∧ i < (r :: rows).length) ∧ wd = sz) ∧ rgn P tt ops dr rest (⟨[], []⟩ :: log) K ⟨(k, .d (.ptr ((r :: rows).getD i.toNat []) 0)) :: t, o⟩) := by
  unfold idxE
  rw [x_ps]
end
def loadP (tt : Types) (t off o : Nat) (ob : Option Ob) : Option Eff := match ob with
  | some (.var cs) => match loadA tt t cs off with
    | some (p, a) => some ⟨p, a, [], [o]⟩
    | none => none
  | _ => none
def loadV (tt : Types) (t : Nat) (rows : List (List D)) (n i off o : Nat) : Option Eff := match loadA tt t ((rows.getD i []).map .d) off with
  | some (p, a) => some ⟨p ∧ n = rows.length ∧ i < rows.length, a, [], [o]⟩
  | none => none
def loadR (tt : Types) (t : Nat) (row : List D) (p : Prop) (off o : Nat) : Option Eff := match loadA tt t (row.map .d) off with
  | some (q, a) => some ⟨q ∧ p, a, [], [o]⟩
  | none => none
def loadVo (tt : Types) (t : Nat) (n i off o : Nat) (ob : Option Ob) : Option Eff := match ob with
  | some (.vec _ _ rows _) => loadV tt t rows n i off o
  | _ => none
def loadD (tt : Types) (t : Nat) (row : List D) (off : Nat) : Option Eff := match loadA tt t (row.map .d) off with
  | some (p, a) => some ⟨p, a, [], []⟩
  | none => none
theorem load_ptr (tt : Types) (t : Nat) (h : Nat → Option Ob) (o off : Nat) : effLoad tt t h (.ptr o off) = loadP tt t off o (h o) := rfl
theorem load_d (tt : Types) (t : Nat) (h : Nat → Option Ob) (row : List D) (off : Nat) : effLoad tt t h (.d (.ptr row off)) = loadD tt t row off := rfl
theorem load_v (tt : Types) (t : Nat) (h : Nat → Option Ob) (o n i off : Nat) : effLoad tt t h (.vptr o n i off) = loadVo tt t n i off o (h o) := by
  simp only [effLoad, loadVo]
  cases h o with
  | none => rfl
  | some ob => cases ob <;> rfl
theorem loadV_cons (tt : Types) (t : Nat) (r : List D) (rows : List (List D)) (n i off o : Nat) : loadV tt t (r :: rows) n i off o = loadR tt t ((r :: rows).getD i []) (n = (r :: rows).length ∧ i < (r :: rows).length) off o := rfl
section
variable (P : Program) (tt : Types) (ops : Array Oper) (dr : Bool) (rest : List Oper) (log : List Foot) (K : SL → Prop) (σ : SL)
theorem x_loadV {α : Type} [Inhabited α] (f : α → List D) (xs : List α) (t n i off o : Nat) (d : Option Nat) :
    effx P tt ops dr (loadV tt t (rowsOf f xs) n i off o) d rest log K σ = (i < xs.length ∧ effx P tt ops dr (loadR tt t (f (xs.getD i default)) (n = xs.length) off o) d rest log K σ) := by
  unfold loadV loadR
  by_cases hi : i < xs.length
  · rw [rowsOf_getD f xs i hi, rowsOf_length]
    cases loadA tt t ((f (xs.getD i default)).map .d) off with
    | none => simp [effx]
    | some q => simp [effx, hi, SL.step, Eff.foot, and_assoc]
  · rw [rowsOf_length]
    cases loadA tt t (((rowsOf f xs).getD i []).map .d) off with
    | none => simp [effx, hi]
    | some q => simp [effx, hi]
end
theorem bcase_intro {b : Bool} {p q : Prop} (hp : b = true → p) (hq : b = false → q) : bcase b p q := ⟨hp, hq⟩
theorem drawx_intro {ops : Array Oper} {log : List Foot} (h : drawOk ops log.reverse = true) : drawx ops log := h
end Go.Am
namespace Go.Am
variable [T : Tab]
def num (n : Int) : A := .d (.lit (.int .i64 n))
def boo (b : Bool) : A := .d (.lit (.bool b))
def str (s : ByteArray) : A := .d (.lit (.string s))
/-- A row of one number. -/
def rI (n : Int) : List D := [.lit (.int .i64 n)]
def rIs (l : List Int) : List D := [.sl 1 (rowsOf rI l)]
def ints (xs : List Int) : A := .d (.sl 1 (rowsOf rI xs))
structure Val where
  kind : Int
  num : Int
  text : ByteArray
instance : Inhabited Val := ⟨⟨0, 0, ByteArray.empty⟩⟩
def rV (v : Val) : List D := [.lit (.int .i64 v.kind), .lit (.int .i64 v.num), .lit (.string v.text)]
inductive Ex where
  | mk (op type num : Int) (text : ByteArray) (col : Int) (kids : List Ex)
instance : Inhabited Ex := ⟨.mk 0 0 0 ByteArray.empty 0 []⟩
namespace Ex
def op : Ex → Int | .mk a _ _ _ _ _ => a
def type : Ex → Int | .mk _ a _ _ _ _ => a
def num : Ex → Int | .mk _ _ a _ _ _ => a
def text : Ex → ByteArray | .mk _ _ _ a _ _ => a
def col : Ex → Int | .mk _ _ _ _ a _ => a
def kids : Ex → List Ex | .mk _ _ _ _ _ a => a
end Ex
mutual
def rE : Ex → List D
  | .mk a b c d e ks => [.lit (.int .i64 a), .lit (.int .i64 b), .lit (.int .i64 c), .lit (.string d), .lit (.int .i64 e), .sl 6 (rEs ks)]
def rEs : List Ex → List (List D)
  | [] => []
  | e :: l => rE e :: rEs l
end
theorem rEs_eq : ∀ l, rEs l = rowsOf rE l
  | [] => by simp [rEs, rowsOf]
  | e :: l => by simp [rEs, rowsOf_cons, rEs_eq l]
theorem rE_eq (e : Ex) : rE e = [.lit (.int .i64 e.op), .lit (.int .i64 e.type), .lit (.int .i64 e.num), .lit (.string e.text), .lit (.int .i64 e.col), .sl 6 (rowsOf rE e.kids)] := by
  cases e; simp [rE, rEs_eq, Ex.op, Ex.type, Ex.num, Ex.text, Ex.col, Ex.kids]
theorem rE_mk (a b c : Int) (d : ByteArray) (e : Int) (ks : List Ex) : rE (.mk a b c d e ks) = [.lit (.int .i64 a), .lit (.int .i64 b), .lit (.int .i64 c), .lit (.string d), .lit (.int .i64 e), .sl 6 (rowsOf rE ks)] := by
  simp [rE, rEs_eq]
theorem ex_eta (e : Ex) : Ex.mk e.op e.type e.num e.text e.col e.kids = e := by cases e; rfl
/-- A value of several cells, as data. -/
def aD (row : List D) : A := .agg (row.map .d)
theorem closedL_d (dom : Nat → Bool) : ∀ (row : List D), closedL dom (row.map .d) = true
  | [] => rfl
  | x :: l => by simp [closedL, A.closed, closedL_d dom l]
theorem renL_d (r : Nat → Nat) : ∀ (row : List D), renL r (row.map .d) = row.map .d
  | [] => rfl
  | x :: l => by simp [renL, A.ren, renL_d r l]
theorem closed_aD (dom : Nat → Bool) (row : List D) : (aD row).closed dom = true := by simp [aD, A.closed, closedL_d]
theorem ren_aD (r : Nat → Nat) (row : List D) : (aD row).ren r = aD row := by simp [aD, A.ren, renL_d]
theorem closed_agg_d (dom : Nat → Bool) (row : List D) : (A.agg (row.map .d)).closed dom = true := by simp [A.closed, closedL_d]
theorem ren_agg_d (r : Nat → Nat) (row : List D) : (A.agg (row.map .d)).ren r = A.agg (row.map .d) := by simp [A.ren, renL_d]
def aE (e : Ex) : A := aD (rE e)
theorem closed_aE (dom : Nat → Bool) (e : Ex) : (aE e).closed dom = true := closed_aD _ _
theorem ren_aE (r : Nat → Nat) (e : Ex) : (aE e).ren r = aE e := ren_aD _ _
theorem aE_eq (e : Ex) : aE e = .agg [.d (.lit (.int .i64 e.op)), .d (.lit (.int .i64 e.type)), .d (.lit (.int .i64 e.num)), .d (.lit (.string e.text)), .d (.lit (.int .i64 e.col)), .d (.sl 6 (rowsOf rE e.kids))] := by
  simp [aE, aD, rE_eq]
def aV (v : Val) : A := .agg [.d (.lit (.int .i64 v.kind)), .d (.lit (.int .i64 v.num)), .d (.lit (.string v.text))]
structure Col where
  name : ByteArray
  type : Int
  nullable : Bool
instance : Inhabited Col := ⟨⟨ByteArray.empty, 0, false⟩⟩
def rC (c : Col) : List D := [.lit (.string c.name), .lit (.int .i64 c.type), .lit (.bool c.nullable)]
structure Fk where
  columns : List Int
  table : ByteArray
instance : Inhabited Fk := ⟨⟨[], ByteArray.empty⟩⟩
def rF (f : Fk) : List D := [.sl 1 (rowsOf rI f.columns), .lit (.string f.table)]
structure Tbl where
  name : ByteArray
  columns : List Col
  primary : List Int
  uniques : List (List Int)
  foreigns : List Fk
  checks : List Ex
instance : Inhabited Tbl := ⟨⟨ByteArray.empty, [], [], [], [], []⟩⟩
def rT (t : Tbl) : List D := [.lit (.string t.name), .sl 3 (rowsOf rC t.columns), .sl 1 (rowsOf rI t.primary), .sl 1 (rowsOf rIs t.uniques), .sl 2 (rowsOf rF t.foreigns), .sl 6 (rowsOf rE t.checks)]
theorem rowsI_snoc (l : List Int) (n : Int) : rowsOf rI l ++ [[D.lit (.int .i64 n)]] = rowsOf rI (l ++ [n]) := by simp [rowsOf, rI]
theorem rowsIs_snoc (l : List (List Int)) (m : List Int) : rowsOf rIs l ++ [[D.sl 1 (rowsOf rI m)]] = rowsOf rIs (l ++ [m]) := by simp [rowsOf, rIs]
theorem rowsV_snoc (l : List Val) (a b : Int) (c : ByteArray) : rowsOf rV l ++ [[D.lit (.int .i64 a), D.lit (.int .i64 b), D.lit (.string c)]] = rowsOf rV (l ++ [⟨a, b, c⟩]) := by simp [rowsOf, rV]
theorem rowsC_snoc (l : List Col) (a : ByteArray) (b : Int) (c : Bool) : rowsOf rC l ++ [[D.lit (.string a), D.lit (.int .i64 b), D.lit (.bool c)]] = rowsOf rC (l ++ [⟨a, b, c⟩]) := by simp [rowsOf, rC]
theorem rowsF_snoc (l : List Fk) (a : List Int) (b : ByteArray) : rowsOf rF l ++ [[D.sl 1 (rowsOf rI a), D.lit (.string b)]] = rowsOf rF (l ++ [⟨a, b⟩]) := by simp [rowsOf, rF]
theorem rowsT_snoc (l : List Tbl) (a : ByteArray) (b : List Col) (c : List Int) (d : List (List Int)) (e : List Fk) (f : List Ex) :
    rowsOf rT l ++ [[D.lit (.string a), D.sl 3 (rowsOf rC b), D.sl 1 (rowsOf rI c), D.sl 1 (rowsOf rIs d), D.sl 2 (rowsOf rF e), D.sl 6 (rowsOf rE f)]] = rowsOf rT (l ++ [⟨a, b, c, d, e, f⟩]) := by simp [rowsOf, rT]
theorem rowsE_snoc (l : List Ex) (a b c : Int) (d : ByteArray) (e : Int) (f : List Ex) :
    rowsOf rE l ++ [[D.lit (.int .i64 a), D.lit (.int .i64 b), D.lit (.int .i64 c), D.lit (.string d), D.lit (.int .i64 e), D.sl 6 (rowsOf rE f)]] = rowsOf rE (l ++ [.mk a b c d e f]) := by simp [rowsOf, rE_mk]
/-- A number of 64 bits. -/
def i64 (n : Int) : Prop := -9223372036854775808 ≤ n ∧ n ≤ 9223372036854775807
theorem wrap_eq {n : Int} (h1 : -9223372036854775808 ≤ n) (h2 : n ≤ 9223372036854775807) : IntKind.i64.wrap n = n := by
  have h3 : (2 : Int) ^ 64 = 18446744073709551616 := by decide
  have h4 : (2 : Int) ^ 63 = 9223372036854775808 := by decide
  simp only [IntKind.wrap, IntKind.signed, IntKind.bits, Bool.true_and, decide_eq_true_eq, h3, h4, Nat.reduceSub]
  split <;> omega
end Go.Am
namespace Go.Am
variable [T : Tab]
theorem Weak.nilL {t : List (Nat × A)} {o : List (Nat × Ob)} (k id e wd : Nat) (hk : lookT t k = .snil) (ho : lookO o id = none) : Weak (SL.mk t o).st (SL.mk ((k, .vec id 0) :: t) ((id, .vec e wd [] 0) :: o)).st := by
  have := Weak.nil (s := (SL.mk t o).st) k id e wd hk ho
  simp only [SL.st] at this ⊢
  rwa [lookT_put, lookO_put] at this
theorem Weak.keepL {t : List (Nat × A)} {o : List (Nat × Ob)} {σ : SL} (ht : keepT (lookT t) (inO σ.o) σ.t) (ho : keepO (lookO o) (inO σ.o) σ.o) (hin : keepIn (inO σ.o) o) : Weak (SL.mk t o).st σ.st := Weak.keep ht ho hin
theorem Weak.nilCellL {t : List (Nat × A)} {o : List (Nat × Ob)} (q i id e wd : Nat) {cs : List A} (hq : lookO o q = some (.var cs)) (hi : cs[i]? = some .snil) (ho : lookO o id = none) :
    Weak (SL.mk t o).st (SL.mk t ((q, .var (cs.set i (.vec id 0))) :: (id, .vec e wd [] 0) :: o)).st := by
  have := Weak.nilCell (s := (SL.mk t o).st) q i id e wd hq hi ho
  simp only [SL.st] at this ⊢
  rwa [lookO_put, lookO_put] at this
theorem Weak.frzCellL {t : List (Nat × A)} {o : List (Nat × Ob)} (q i wd : Nat) {cs : List A} {c : A} {f : Frz} (hq : lookO o q = some (.var cs)) (hi : cs[i]? = some c) (hf : frz (lookO o) wd c = some f) (hs : f.side) (hk : lookO (updO o f.upd) q = some (.var cs)) :
    Weak (SL.mk t o).st (SL.mk t ((q, .var (cs.set i (.d f.x))) :: updO o f.upd)).st := by
  have := Weak.frzCell (s := (SL.mk t o).st) q i wd hq hi hf hs (by simp only [SL.st]; rw [lookO_upd]; exact hk)
  simp only [SL.st] at this ⊢
  rwa [lookO_upd, lookO_put] at this
end Go.Am
