/- Conditions over finite domains (part Wu) -/
import Derived.Test.YtiagabnddihchaaGreatDoorWp
set_option linter.all false

namespace Go.Proofs.YtiagabnddihchaaGreatDoor
open Go.Am
attribute [local simp, local push_cast] num boo str ints aV aTab aRow rRow vE tapeO
set_option linter.unusedVariables false
set_option maxRecDepth 100000
set_option maxHeartbeats 4000000

/-! The law of folding. -/
def tysF : List Int := [1, 2, 3, 1]
def pick3 : List Int := [1, 2, 3]
theorem pick3_kn (xs : List Int) (p : Nat) : Kn (pick3.getD (drawn xs p pick3.length).toNat default) := by
  have h4 := drawn_range xs p (n := (pick3.length : Nat)) (by decide)
  have l4 : pick3.length = 3 := rfl
  have := getD_mem (l := pick3) (n := (drawn xs p pick3.length).toNat) (by omega)
  generalize pick3.getD (drawn xs p pick3.length).toNat default = x at this ⊢
  simp only [pick3, List.mem_cons, List.not_mem_nil, or_false] at this
  unfold Kn
  omega
def FOs (raw e f : Ex) (L : List Row) (n : Nat) : SL :=
  ⟨[(59, .d (.lit (.int .i64 n))), (58, .d (.lit (.int .i64 3))), (57, .vec 57 3), (4, .ptr 4 0), (9, .ptr 9 0), (11, .ptr 11 0)],
   [(4, .var (vE raw)), (9, .var (vE e)), (11, .var (vE f)), (57, .vec 32 1 (rowsOf rRow L) 0)]⟩
theorem c_lawO (t : List Int) (ht : ∀ x ∈ t, i64 x) (raw : Ex) (row : Row) : ACall Tryz.prog 6 [ints t, aE raw, aRow row] [] (boo true) [] := by
  have hN := c_new t
  have hx := tape_of ht
  generalize t.take 2000 = xs at hx hN
  have hSm := c_smallE raw
  rw [aE_eq] at hSm ⊢
  refine enterq mixed ttok Tryz.func6 Tryz.ntmps6 Tryz.results6 ?_
  simp -implicitDefEqProofs only [argT, ↓steps, push_cast, simprocAttr, tte]
  refine callq [[0, 0, 0, 0, 0, 6]] [] (hSm) ?_
  simp -implicitDefEqProofs only [↓steps, push_cast, simprocAttr, tte]
  refine bcase_intro (fun h1 => ?_) fun h1 => ?_
  · have h1' : smallE raw = false := by simpa using h1
    refine callq [] [] (c_awake) ?_
    simp -implicitDefEqProofs only [↓steps, push_cast, simprocAttr, tte]
    exact ret_d trivial rfl (by simp [ends])
  have h1' : smallE raw = true := by simpa using h1
  have hor := smallE_ok h1'
  refine bcase_intro (fun h2 => ?_) fun h2 => ?_
  · refine callq [] [] (c_awake) ?_
    simp -implicitDefEqProofs only [↓steps, push_cast, simprocAttr, tte]
    exact ret_d trivial rfl (by simp [ends])
  refine callq [[1]] [(1000, 400)] (hN) ?_
  simp -implicitDefEqProofs only [↓steps, push_cast, simprocAttr, tte]
  refine callq [[], [1]] [(1000, 400)] (c_pick (p := 0) hx pick3 (by decide) (by decide)) ?_ (hargs := by simp [ends, bs, pick3, rowsOf_cons, rowsOf_nil, rI])
  have hk := pick3_kn xs 0
  generalize pick3.getD (drawn xs 0 pick3.length).toNat default = k at hk ⊢
  simp -implicitDefEqProofs only [↓steps, push_cast, simprocAttr, tte]
  refine callq [[], [1], [], []] [(1000, 400)] (c_fexprN hx (types := tysF) (by decide) 5 5 rfl (by decide) k (0 + 1) hk) ?_ (hargs := by simp [ends, bs, tysF, rowsOf_cons, rowsOf_nil, rI])
  have hE := made_expr xs tysF 4 k hk (0 + 1)
  generalize exprF xs tysF 5 k (0 + 1) = ap at hE ⊢
  obtain ⟨e, p⟩ := ap
  dsimp only at hE ⊢
  simp -implicitDefEqProofs only [↓steps, push_cast, simprocAttr, tte]
  refine callq [[], [], []] [(1000, 400)] (c_fvalue (typ := 1) (nl := true) (p := p) hx) ?_
  generalize valueF xs 1 true p = vp
  obtain ⟨v1, p⟩ := vp
  simp -implicitDefEqProofs only [↓steps, push_cast, simprocAttr, tte]
  refine callq [[], [], []] [(1000, 400)] (c_fvalue (typ := 2) (nl := true) (p := p) hx) ?_
  generalize valueF xs 2 true p = vp
  obtain ⟨v2, p⟩ := vp
  simp -implicitDefEqProofs only [↓steps, push_cast, simprocAttr, tte]
  refine callq [[], [], []] [(1000, 400)] (c_fvalue (typ := 3) (nl := true) (p := p) hx) ?_
  generalize valueF xs 3 true p = vp
  obtain ⟨v3, p⟩ := vp
  simp -implicitDefEqProofs only [↓steps, push_cast, simprocAttr, tte]
  refine callq [[], [], []] [(1000, 400)] (c_fvalue (typ := 1) (nl := true) (p := p) hx) ?_
  generalize valueF xs 1 true p = vp
  obtain ⟨v4, p⟩ := vp
  simp -implicitDefEqProofs only [↓steps, push_cast, simprocAttr, tte]
  have hF := c_fold e hE.ok12
  have hFF := c_fold (foldM e) (ok12_fold e hE.ok12)
  have hFr := c_fold raw hor
  have hSa := c_sameE (foldM e) (ok12_fold e hE.ok12)
  have hS1 := c_size02 (foldM e) (ok12_fold e hE.ok12)
  have hS2 := c_size02 e hE.ok12
  have hsz := hE.size
  have hle := size_fold e
  rw [sizeW_T _ (by omega)] at hS1 hS2
  have hev := fun x => c_reval x e hE.ok12
  have hevF := fun x => c_reval x (foldM e) (ok12_fold e hE.ok12)
  have hevR := fun x => c_reval x raw hor
  have hevRF := fun x => c_reval x (foldM raw) (ok12_fold raw hor)
  simp only [eval_fold] at hevF hevRF
  rw [fold_fold] at hFF
  generalize foldM e = f at hF hFF hSa hS1 hevF hle
  generalize foldM raw = fr at hFr hevRF
  rw [aE_eq e] at hF hS2
  rw [aE_eq f] at hFF hS1 hSa
  rw [aE_eq raw] at hFr
  simp only [aE_eq e, aE_eq raw, aE_eq f, aE_eq fr] at hev hevF hevR hevRF
  refine callq [[0, 0, 0, 0, 0, 6]] [] (hF) ?_
  simp -implicitDefEqProofs only [↓steps, push_cast, simprocAttr, tte]
  refine callq [[0, 0, 0, 0, 0, 6]] [] (hFF) ?_
  simp -implicitDefEqProofs only [↓steps, push_cast, simprocAttr, tte]
  refine callq [[0, 0, 0, 0, 0, 6], [0, 0, 0, 0, 0, 6]] [] (hSa) ?_
  simp -implicitDefEqProofs only [Bool.not_true, ↓steps, push_cast, simprocAttr, tte]
  refine callq [[0, 0, 0, 0, 0, 6]] [] (hS1) ?_
  simp -implicitDefEqProofs only [↓steps, push_cast, simprocAttr, tte]
  refine callq [[0, 0, 0, 0, 0, 6]] [] (hS2) ?_
  simp -implicitDefEqProofs only [↓steps, push_cast, simprocAttr, tte]
  refine ⟨drawx_intro (by kernel_rfl), ?_⟩
  refine bcase_intro (fun h3 => ?_) fun h3 => ?_
  · exact absurd (of_decide_eq_true h3) (by omega)
  obtain ⟨L, hL⟩ : ∃ L : List Row, L = [[v1, v2, v3, v4], row, []] := ⟨_, rfl⟩
  have hLl : L.length = 3 := by rw [hL]; rfl
  refine loop_gen mixed ttok (fun n : Nat => FOs raw e f L n) (fun n => 3 - n) (fun n => n ≤ 3) 0 (Nat.zero_le _) ?_ ?_
  · exact Weak.keepL (by simp [FOs, ends]) (by simp [FOs, vE, hL, rowsOf_cons, rowsOf_nil, rRow, rV, ends]) (by simp [FOs, ends])
  intro I hI n hn
  simp -implicitDefEqProofs only [FOs, vE, ↓steps, push_cast, simprocAttr, tte]
  refine bcase_intro (fun g1 => ?_) fun g1 => ?_
  · have g1' : n < 3 := by simp only [decide_eq_true_eq] at g1; omega
    have hw : IntKind.i64.wrap ((n : Int) + 1) = ((n + 1 : Nat) : Int) := by rw [wrap_eq (by omega) (by omega)]; rfl
    refine ⟨⟨⟨by omega, by omega⟩, by omega⟩, by omega, by omega, ?_⟩
    refine callq [[0, 0, 0, 0, 0, 6], [3]] [] (hev (L.getD n default)) ?_
    simp -implicitDefEqProofs only [↓steps, push_cast, simprocAttr, tte]
    refine callq [[0, 0, 0, 0, 0, 6], [3]] [] (hevF (L.getD n default)) ?_
    simp -implicitDefEqProofs only [beq_self_eq_true, bne_self_eq_false, Bool.and_self, Bool.not_true, ↓steps, push_cast, simprocAttr, tte]
    refine callq [[0, 0, 0, 0, 0, 6], [3]] [] (hevR (L.getD n default)) ?_
    simp -implicitDefEqProofs only [↓steps, push_cast, simprocAttr, tte]
    refine callq [[0, 0, 0, 0, 0, 6]] [] (hFr) ?_
    simp -implicitDefEqProofs only [↓steps, push_cast, simprocAttr, tte]
    refine callq [[0, 0, 0, 0, 0, 6], [3]] [] (hevRF (L.getD n default)) ?_
    simp -implicitDefEqProofs only [beq_self_eq_true, bne_self_eq_false, Bool.and_self, Bool.not_true, ↓steps, push_cast, simprocAttr, tte]
    refine ⟨drawx_intro (by kernel_rfl), ?_⟩
    exact gen_again hI (n + 1) g1' (by show 3 - (n + 1) < 3 - n; omega) (Weak.keepL (by simp [FOs, hw, ends]) (by simp [FOs, vE, ends]) (by simp [FOs, ends]))
  · refine callq [] [] (c_awake) ?_
    simp -implicitDefEqProofs only [↓steps, push_cast, simprocAttr, tte]
    exact ret_d trivial rfl (by simp [ends])
end Go.Proofs.YtiagabnddihchaaGreatDoor
