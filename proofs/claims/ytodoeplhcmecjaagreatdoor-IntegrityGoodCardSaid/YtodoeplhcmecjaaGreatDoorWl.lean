/- Instances that are made to be valid are valid: a proof over an abstract machine of our own (part Wl) -/
import Derived.Test.YtodoeplhcmecjaaGreatDoorWk
import Derived.Test.YtodoeplhcmecjaaGreatDoorLe
import Derived.Test.YtodoeplhcmecjaaGreatDoorWj
set_option linter.all false
namespace Go.Proofs.YtodoeplhcmecjaaGreatDoor
open Go.Am
attribute [local simp, local push_cast] num boo str ints aV aTab aInst aS aT aC tapeO bq31 bq21 bq23 rIs typesOf
set_option linter.unusedVariables false
set_option maxRecDepth 100000
set_option maxHeartbeats 8000000
/-! made.Plain. -/
def chkP (xs : List Int) (T : Tbl) (q : Nat) : List Ex × Nat := if drawn xs q 4 = 0 then ([ex13 (atomM xs T (q + 1)).1], (atomM xs T (q + 1)).2) else ([], q + 1)
def ptab (xs : List Int) (i p : Nat) : Tbl × Nat := ({ ptab0 xs i p with checks := (chkP xs (ptab0 xs i p) (pend0 xs i p)).1 }, (chkP xs (ptab0 xs i p) (pend0 xs i p)).2)
def ptabs (xs : List Int) (p : Nat) : Nat → List Tbl × Nat
  | 0 => ([], p + 1)
  | n + 1 => ((ptabs xs p n).1 ++ [(ptab xs n (ptabs xs p n).2).1], (ptab xs n (ptabs xs p n).2).2)
def plainM (xs : List Int) (p : Nat) : List Tbl × Nat := ptabs xs p (1 + drawn xs p 3).toNat
theorem ptabs_len (xs : List Int) (p : Nat) : ∀ n, (ptabs xs p n).1.length = n
  | 0 => rfl
  | n + 1 => by simp [ptabs, ptabs_len xs p n]
theorem atomM_q (xs : List Int) (T : Tbl) (q : Nat) : (atomM xs T q).2 ≤ q + 5 := by
  unfold atomM
  repeat' split
  all_goals simp
theorem ptab_q (xs : List Int) (i p : Nat) : (ptab xs i p).2 ≤ p + 50 := by
  have h := pend0_le xs i p
  have h2 := atomM_q xs (ptab0 xs i p) (pend0 xs i p + 1)
  unfold ptab chkP
  split <;> simp only <;> omega
theorem ptabs_q (xs : List Int) (p : Nat) : ∀ n, (ptabs xs p n).2 ≤ p + 1 + 50 * n
  | 0 => by simp [ptabs]
  | n + 1 => by have h1 := ptabs_q xs p n; have h2 := ptab_q xs n (ptabs xs p n).2; simp only [ptabs]; omega
theorem nfor_step {xs : List Int} {i Q k : Nat} (hi : 0 < i) (hk : k < 2) (h : k ≤ nfor xs i Q) (g : drawn xs (Q + 2 * k) (3 - (k : Int)) > 0) : k + 1 ≤ nfor xs i Q := by
  match k, hk with
  | 0, _ =>
    have g1 : drawn xs Q 3 > 0 := g
    unfold nfor
    rw [if_neg (by omega), if_pos g1]; split <;> omega
  | 1, _ =>
    have g1 : drawn xs (Q + 2) 2 > 0 := g
    unfold nfor at h ⊢
    rw [if_neg (by omega)] at h ⊢
    rw [if_pos g1] at h ⊢
    split <;> rename_i h2
    · omega
    · rw [if_neg h2] at h; omega
theorem nfor_stop {xs : List Int} {i Q k : Nat} (hi : 0 < i) (hk : k < 2) (h : k ≤ nfor xs i Q) (g : ¬ drawn xs (Q + 2 * k) (3 - (k : Int)) > 0) : nfor xs i Q = k ∧ efor xs i Q = Q + 2 * k + 1 := by
  match k, hk with
  | 0, _ =>
    have g1 : ¬ drawn xs Q 3 > 0 := g
    unfold nfor efor
    rw [if_neg (by omega), if_neg g1, if_neg (by omega), if_neg g1]; exact ⟨rfl, rfl⟩
  | 1, _ =>
    have g1 : ¬ drawn xs (Q + 2) 2 > 0 := g
    have hi0 : ¬ i = 0 := by omega
    by_cases h2 : drawn xs Q 3 > 0
    · exact ⟨by rw [nfor, if_neg hi0, if_pos h2, if_neg g1], by rw [efor, if_neg hi0, if_pos h2, if_neg g1]⟩
    · rw [nfor, if_neg hi0, if_neg h2] at h; omega
theorem nfor_full {xs : List Int} {i Q : Nat} (h : 2 ≤ nfor xs i Q) : nfor xs i Q = 2 ∧ efor xs i Q = Q + 2 * 2 := by
  unfold nfor at h ⊢
  unfold efor
  by_cases a : i = 0
  · rw [if_pos a] at h; omega
  rw [if_neg a] at h ⊢
  rw [if_neg a]
  by_cases b : drawn xs Q 3 > 0
  · rw [if_pos b] at h ⊢
    rw [if_pos b]
    by_cases c : drawn xs (Q + 2) 2 > 0
    · rw [if_pos c, if_pos c]; exact ⟨rfl, rfl⟩
    · rw [if_neg c] at h; omega
  · rw [if_neg b] at h; omega
theorem nfor_zero {xs : List Int} {i Q k : Nat} (hi : i = 0) (h : k ≤ nfor xs i Q) : nfor xs i Q = k ∧ efor xs i Q = Q + 2 * k := by
  unfold nfor at h ⊢
  unfold efor
  rw [if_pos hi] at h ⊢
  rw [if_pos hi]
  omega
theorem pfs0_one (to : Nat → Int) (m k : Nat) : ∀ f ∈ pfs0 to m k, f.columns.length ≤ 1000 := by
  intro f hf
  obtain ⟨x, _, rfl⟩ := List.mem_map.1 hf
  simp
theorem freeC_pos {n : ByteArray} {ty : Nat → Int} {nl : Nat → Bool} {to : Nat → Int} {m k : Nat} (hm : 1 ≤ m) :
    1 ≤ (freeC ⟨n, pcs0 ty nl m k, [0], [], pfs0 to m k, []⟩ (pcs0 ty nl m k).length).length := by
  have hk : keyP ⟨n, pcs0 ty nl m k, [0], [], pfs0 to m k, []⟩ ((1 : Nat) : Int) = false := by
    unfold keyP
    have : ([0] : List Int).contains ((1 : Nat) : Int) = false := by decide
    simp only [this, Bool.false_or]
    rw [List.any_eq_false]
    intro f hf
    obtain ⟨x, _, rfl⟩ := List.mem_map.1 hf
    simp only [List.contains_cons, List.contains_nil, Bool.or_false, beq_iff_eq]
    omega
  have hmem : (1 : Int) ∈ freeC ⟨n, pcs0 ty nl m k, [0], [], pfs0 to m k, []⟩ (pcs0 ty nl m k).length := by
    unfold freeC
    refine List.mem_map.2 ⟨1, List.mem_filter.2 ⟨List.mem_range.2 (by rw [pcs0_len]; omega), ?_⟩, rfl⟩
    rw [hk]; rfl
  exact List.length_pos_of_mem hmem
theorem c_mplain {xs : List Int} {p : Nat} (hx : TapeOk xs) (hp : p ≤ 1000000) :
    ACall Tryz.prog 19 [.ptr 1000 0] [(1000, tapeO xs p)] (aS (plainM xs p).1) [(1000, tapeO xs (plainM xs p).2)] := by
  refine enterq mixed ttok Tryz.func19 Tryz.ntmps19 Tryz.results19 ?_
  generalize hr : aS (plainM xs p).1 = R
  generalize hr2 : tapeO xs (plainM xs p).2 = R2
  simp -implicitDefEqProofs only [argT, ↓steps, push_cast, simprocAttr, tte]
  refine callq [[], []] [(1000, 1000)] (c_next (n := 3) (p := p) hx (by omega) (by omega) (by omega)) ?_
  have h3 := drawn_range xs p (n := 3) (by omega)
  have w1 : IntKind.i64.wrap (1 + drawn xs p 3) = 1 + drawn xs p 3 := wrap_eq (by omega) (by omega)
  simp -implicitDefEqProofs only [w1, ↓steps, push_cast, simprocAttr, tte]
  obtain ⟨N, hN⟩ : ∃ N : Nat, 1 + drawn xs p 3 = N := ⟨(1 + drawn xs p 3).toNat, by omega⟩
  have hN3 : N ≤ 3 := by omega
  have hsch : plainM xs p = ptabs xs p N := by rw [plainM, hN, Int.toNat_natCast]
  rw [hN]
  clear w1
  refine loop_gen mixed ttok (fun i : Nat => S8 (ptabs xs p i).1 N i (ptabs xs p i).2 xs) (fun i => N - i) (fun i => i ≤ N) 0 (Nat.zero_le _) ?_ ?_
  · exact (Weak.nilCellL 3 0 600 55 6 rfl rfl rfl).trans (Weak.keepL (by simp [S8, ptabs, ends]) (by simp [S8, ptabs, rowsOf, ends]) (by simp [S8, ends]))
  intro I hI i hi
  have hq := ptabs_q xs p i
  have htl := ptabs_len xs p i
  have hsn : ptabs xs p (i + 1) = ((ptabs xs p i).1 ++ [(ptab xs i (ptabs xs p i).2).1], (ptab xs i (ptabs xs p i).2).2) := rfl
  simp -implicitDefEqProofs only [S8, ↓steps, push_cast, simprocAttr, tte]
  refine bcase_intro (fun k0 => ?_) fun k0 => ?_
  rotate_left
  · have k0' : i = N := by have := of_decide_eq_false k0; omega
    subst k0'
    refine retx_of [6] rfl (by trivial) (by simp [rowsOf_length, htl]) ?_ (by first | simp [ends] | (subst_vars; simp [ends])) ?_ (by simp [ends])
    · rw [← hr, hsch]; rfl
    · rw [← hr2, hsch]; simp [ends]
  have k0' : i < N := by have := of_decide_eq_true k0; omega
  have hwi := wrap_succ k0' (by omega)
  generalize hq0 : (ptabs xs p i).2 = q0 at hq hsn ⊢
  generalize (ptabs xs p i).1 = tabs at htl hsn ⊢
  refine callq [[], []] [] (c_mname nT (i : Int) (by decide)) ?_
  simp -implicitDefEqProofs only [↓steps, push_cast, simprocAttr, tte]
  refine callq [[], []] [(1000, 1000)] (c_next (n := 2) (p := q0) hx (by omega) (by omega) (by omega)) ?_
  have h4 := drawn_range xs q0 (n := 2) (by omega)
  have w1 : IntKind.i64.wrap (1 + drawn xs q0 2) = 1 + drawn xs q0 2 := wrap_eq (by omega) (by omega)
  simp -implicitDefEqProofs only [w1, ↓steps, push_cast, simprocAttr, tte]
  obtain ⟨M, hM⟩ : ∃ M : Nat, 1 + drawn xs q0 2 = M := ⟨(1 + drawn xs q0 2).toNat, by omega⟩
  have hM3 : M ≤ 2 := by omega
  have hM1 : 1 ≤ M := by omega
  rw [hM]
  clear w1
  refine loop_gen mixed ttok (fun c : Nat => S8c tabs N i (q0 + 1 + 2 * c) M c (pcs0 (pty xs (q0 + 1)) (pnl xs (q0 + 1)) c 0) xs) (fun c => M - c) (fun c => c ≤ M) 0 (Nat.zero_le _) ?_ ?_
  · exact Weak.keepL (by simp [S8c, ends]) (by simp [S8c, pcs0, rowsOf, rI, rC, nT, nId, ends]) (by simp [S8c, ends])
  intro J hJ c hc
  have hcl := pcs0_len (pty xs (q0 + 1)) (pnl xs (q0 + 1)) c 0
  have hcs := pcs0_m (pty xs (q0 + 1)) (pnl xs (q0 + 1)) c
  simp -implicitDefEqProofs only [S8c, ↓steps, push_cast, simprocAttr, tte]
  refine bcase_intro (fun k1 => ?_) fun k1 => ?_
  · have k1' : c < M := by have := of_decide_eq_true k1; omega
    have hwc := wrap_succ k1' (by omega)
    refine callq [[], []] [] (c_mname nC (c : Int) (by decide)) ?_
    simp -implicitDefEqProofs only [↓steps, push_cast, simprocAttr, tte]
    refine callq [[], []] [(1000, 1000)] (c_next (n := 3) (p := q0 + 1 + 2 * c) hx (by omega) (by omega) (by omega)) ?_
    have h5 := drawn_range xs (q0 + 1 + 2 * c) (n := 3) (by omega)
    have w1 : IntKind.i64.wrap (1 + drawn xs (q0 + 1 + 2 * c) 3) = 1 + drawn xs (q0 + 1 + 2 * c) 3 := wrap_eq (by omega) (by omega)
    simp -implicitDefEqProofs only [w1, ↓steps, push_cast, simprocAttr, tte]
    refine callq [[], []] [(1000, 1000)] (c_next (n := 3) (p := q0 + 1 + 2 * c + 1) hx (by omega) (by omega) (by omega)) ?_
    simp -implicitDefEqProofs only [↓steps, push_cast, simprocAttr, tte]
    refine ⟨⟨by omega, by omega⟩, drawx_intro (by kernel_rfl), ?_⟩
    refine gen_again hJ (c + 1) k1' (by show M - (c + 1) < M - c; omega) (Weak.keepL (by simp [S8c, hwc, ends]) ?_ (by simp [S8c, ends]))
    simp [S8c, hcs, hcl, pty, pnl, rowsOf_append, rowsOf_cons, rowsOf_nil, rC, show q0 + 1 + 2 * (c + 1) = q0 + 1 + 2 * c + 1 + 1 from by omega, ends]
  have k1' : c = M := by have := of_decide_eq_false k1; omega
  subst k1'
  clear hJ J
  refine loop_gen mixed ttok (fun k : Nat => S8f tabs N i c (k, pcs0 (pty xs (q0 + 1)) (pnl xs (q0 + 1)) c k, pfs0 (pto xs i (q0 + 1 + 2 * c)) c k, q0 + 1 + 2 * c + 2 * k) xs) (fun k => 2 - k) (fun k => k ≤ 2 ∧ k ≤ nfor xs i (q0 + 1 + 2 * c)) 0 ⟨Nat.zero_le _, Nat.zero_le _⟩ ?_ ?_
  · exact (Weak.nilCellL 6 4 700 59 2 rfl rfl rfl).trans (Weak.keepL (by simp [S8f, hcl, pfs0, ends]) (by simp [S8f, hcl, rowsOf, pfs0, ends]) (by simp [S8f, ends]))
  intro J hJ k ⟨hk2, hkn⟩
  have hcl := pcs0_len (pty xs (q0 + 1)) (pnl xs (q0 + 1)) c k
  have hcs := pcs0_k (pty xs (q0 + 1)) (pnl xs (q0 + 1)) c k
  have hfl := pfs0_len (pto xs i (q0 + 1 + 2 * c)) c k
  have hfs := pfs0_k (pto xs i (q0 + 1 + 2 * c)) c k
  have hty : ∀ x ∈ pcs0 (pty xs (q0 + 1)) (pnl xs (q0 + 1)) c k, x.type = 1 ∨ x.type = 2 ∨ x.type = 3 := pcs0_typed c k fun z => by
    have := drawn_range xs (q0 + 1 + 2 * z) (n := 3) (by omega)
    unfold pty; omega
  obtain ⟨cols, hcc⟩ : ∃ cols, pcs0 (pty xs (q0 + 1)) (pnl xs (q0 + 1)) c k = cols := ⟨_, rfl⟩
  obtain ⟨fs, hff⟩ : ∃ fs, pfs0 (pto xs i (q0 + 1 + 2 * c)) c k = fs := ⟨_, rfl⟩
  rw [hcc] at hcl hcs hty
  rw [hff] at hfl hfs
  rw [hcc, hff]
  by_cases e1 : k < 2
  · have d1 : decide ((k : Int) < 2) = true := decide_eq_true (by omega)
    by_cases e2 : 0 < i
    · have d2 : decide ((i : Int) > 0) = true := decide_eq_true (by omega)
      have w3 : IntKind.i64.wrap (3 - (k : Int)) = 3 - (k : Int) := wrap_eq (by omega) (by omega)
      simp -implicitDefEqProofs only [S8f, d1, d2, w3, ↓steps, push_cast, simprocAttr, tte]
      refine callq [[], []] [(1000, 1000)] (c_next (n := 3 - (k : Int)) (p := q0 + 1 + 2 * c + 2 * k) hx (by omega) (by omega) (by omega)) ?_
      simp -implicitDefEqProofs only [↓steps, push_cast, simprocAttr, tte]
      refine bcase_intro (fun g => ?_) fun g => ?_
      · have g' := of_decide_eq_true g
        have hstep := nfor_step e2 e1 hkn g'
        have hwk := wrap_succ e1 (by omega)
        refine callq [[], []] [] (c_mname nF (k : Int) (by decide)) ?_
        simp -implicitDefEqProofs only [↓steps, push_cast, simprocAttr, tte]
        refine ⟨by omega, drawx_intro (by kernel_rfl), ?_⟩
        refine ⟨by simp, ?_⟩
        have w1 : IntKind.i64.wrap (((cols.length : Int) + 1) - 1) = ((c + 1 + k : Nat) : Int) := by rw [wrap_eq (by omega) (by omega)]; omega
        refine callq [[], []] [(1000, 1000)] (c_next (n := (i : Int)) (p := q0 + 1 + 2 * c + 2 * k + 1) hx (by omega) (by omega) (by omega)) ?_
        have h6 := drawn_range xs (q0 + 1 + 2 * c + 2 * k + 1) (n := (i : Int)) (by omega)
        simp -implicitDefEqProofs only [w1, ↓steps, push_cast, simprocAttr, tte]
        refine callq [[], []] [] (c_mname nT (drawn xs (q0 + 1 + 2 * c + 2 * k + 1) i) (by decide)) ?_
        simp -implicitDefEqProofs only [↓steps, push_cast, simprocAttr, tte]
        refine ⟨by omega, drawx_intro (by kernel_rfl), ?_⟩
        refine gen_again hJ (k + 1) ⟨by omega, hstep⟩ (by show 2 - (k + 1) < 2 - k; omega) (Weak.keepL (by simp [S8f, hwk, ends]) ?_ (by simp [S8f, ends]))
        simp [S8f, hcs, hfs, pto, rowsOf, rC, rF, rI, w1, show q0 + 1 + 2 * c + 2 * (k + 1) = q0 + 1 + 2 * c + 2 * k + 1 + 1 from by omega, ends]
      · have hN := nfor_stop e2 e1 hkn (of_decide_eq_false g)
        obtain ⟨q', hqq⟩ : ∃ q', q' = q0 + 1 + 2 * c + 2 * k + 1 := ⟨_, rfl⟩
        rw [← hqq] at hN
        rw [← hqq]
        have hT0 : ptab0 xs i q0 = ⟨nameOf nT i, cols, [0], [], fs, []⟩ := by
          unfold ptab0
          simp only [hM, Int.toNat_natCast]
          rw [hN.1, hcc, hff]
        have hpe : pend0 xs i q0 = q' := by
          unfold pend0
          simp only [hM, Int.toNat_natCast]
          exact hN.2
        have hq' : q' ≤ q0 + 20 := by rw [← hpe]; exact pend0_le xs i q0
        refine callq [[], []] [(1000, 1000)] (c_next (n := 4) (p := q') hx (by omega) (by omega) (by omega)) ?_
        simp -implicitDefEqProofs only [↓steps, push_cast, simprocAttr, tte]
        refine bcase_intro (fun v1 => ?_) fun v1 => ?_
        · have v1' : drawn xs q' 4 = 0 := by simpa using v1
          have hX : ptab xs i q0 = (⟨nameOf nT i, cols, [0], [], fs, [ex13 (atomM xs ⟨nameOf nT i, cols, [0], [], fs, []⟩ (q' + 1)).1]⟩, (atomM xs ⟨nameOf nT i, cols, [0], [], fs, []⟩ (q' + 1)).2) := by
            rw [ptab, hT0, hpe]; simp only [chkP, if_pos v1']
          refine callq [[], [0, 3, 1, 1, 2, 6]] [(1000, 1000)] (c_atom (T := ⟨nameOf nT i, cols, [0], [], fs, []⟩) (p := q' + 1) hx (by omega) (by show cols.length ≤ _; omega) hty (by rw [← hcc, ← hff]; exact freeC_pos hM1) (by simp) (by show fs.length ≤ _; omega) (by rw [← hff]; exact pfs0_one _ _ _)) ?_
          simp -implicitDefEqProofs only [↓steps, push_cast, simprocAttr, tte]
          refine callq [[]] [] (c_ex13 (atomM xs ⟨nameOf nT i, cols, [0], [], fs, []⟩ (q' + 1)).1) ?_
          simp -implicitDefEqProofs only [↓steps, push_cast, simprocAttr, tte]
          refine ⟨drawx_intro (by kernel_rfl), ?_⟩
          refine ⟨⟨htl.symm, by omega⟩, ?_⟩
          refine gen_again hI (i + 1) k0' (by show N - (i + 1) < N - i; omega) (Weak.keepL (by simp [S8, hwi, htl, ends]) ?_ (by simp [S8, ends]))
          simp [S8, hsn, hX, htl, rowsOf, rT, rIs, rI, rE_eq, ends]
        · have v1' : ¬ drawn xs q' 4 = 0 := by simpa using v1
          have hX : ptab xs i q0 = (⟨nameOf nT i, cols, [0], [], fs, []⟩, q' + 1) := by
            rw [ptab, hT0, hpe]; simp only [chkP, if_neg v1']
          refine ⟨⟨htl.symm, by omega⟩, ?_⟩
          refine gen_again hI (i + 1) k0' (by show N - (i + 1) < N - i; omega) (Weak.keepL (by simp [S8, hwi, htl, ends]) ?_ (by simp [S8, ends]))
          simp [S8, hsn, hX, htl, rowsOf, rT, rIs, rI, rE_eq, ends]
    · have d2 : decide ((i : Int) > 0) = false := decide_eq_false (by omega)
      simp -implicitDefEqProofs only [S8f, d1, d2, ↓steps, push_cast, simprocAttr, tte]
      have hN := nfor_zero (by omega) hkn
      obtain ⟨q', hqq⟩ : ∃ q', q' = q0 + 1 + 2 * c + 2 * k := ⟨_, rfl⟩
      rw [← hqq] at hN
      rw [← hqq]
      have hT0 : ptab0 xs i q0 = ⟨nameOf nT i, cols, [0], [], fs, []⟩ := by
        unfold ptab0
        simp only [hM, Int.toNat_natCast]
        rw [hN.1, hcc, hff]
      have hpe : pend0 xs i q0 = q' := by
        unfold pend0
        simp only [hM, Int.toNat_natCast]
        exact hN.2
      have hq' : q' ≤ q0 + 20 := by rw [← hpe]; exact pend0_le xs i q0
      refine callq [[], []] [(1000, 1000)] (c_next (n := 4) (p := q') hx (by omega) (by omega) (by omega)) ?_
      simp -implicitDefEqProofs only [↓steps, push_cast, simprocAttr, tte]
      refine bcase_intro (fun v1 => ?_) fun v1 => ?_
      · have v1' : drawn xs q' 4 = 0 := by simpa using v1
        have hX : ptab xs i q0 = (⟨nameOf nT i, cols, [0], [], fs, [ex13 (atomM xs ⟨nameOf nT i, cols, [0], [], fs, []⟩ (q' + 1)).1]⟩, (atomM xs ⟨nameOf nT i, cols, [0], [], fs, []⟩ (q' + 1)).2) := by
          rw [ptab, hT0, hpe]; simp only [chkP, if_pos v1']
        refine callq [[], [0, 3, 1, 1, 2, 6]] [(1000, 1000)] (c_atom (T := ⟨nameOf nT i, cols, [0], [], fs, []⟩) (p := q' + 1) hx (by omega) (by show cols.length ≤ _; omega) hty (by rw [← hcc, ← hff]; exact freeC_pos hM1) (by simp) (by show fs.length ≤ _; omega) (by rw [← hff]; exact pfs0_one _ _ _)) ?_
        simp -implicitDefEqProofs only [↓steps, push_cast, simprocAttr, tte]
        refine callq [[]] [] (c_ex13 (atomM xs ⟨nameOf nT i, cols, [0], [], fs, []⟩ (q' + 1)).1) ?_
        simp -implicitDefEqProofs only [↓steps, push_cast, simprocAttr, tte]
        refine ⟨drawx_intro (by kernel_rfl), ?_⟩
        refine ⟨⟨htl.symm, by omega⟩, ?_⟩
        refine gen_again hI (i + 1) k0' (by show N - (i + 1) < N - i; omega) (Weak.keepL (by simp [S8, hwi, htl, ends]) ?_ (by simp [S8, ends]))
        simp [S8, hsn, hX, htl, rowsOf, rT, rIs, rI, rE_eq, ends]
      · have v1' : ¬ drawn xs q' 4 = 0 := by simpa using v1
        have hX : ptab xs i q0 = (⟨nameOf nT i, cols, [0], [], fs, []⟩, q' + 1) := by
          rw [ptab, hT0, hpe]; simp only [chkP, if_neg v1']
        refine ⟨⟨htl.symm, by omega⟩, ?_⟩
        refine gen_again hI (i + 1) k0' (by show N - (i + 1) < N - i; omega) (Weak.keepL (by simp [S8, hwi, htl, ends]) ?_ (by simp [S8, ends]))
        simp [S8, hsn, hX, htl, rowsOf, rT, rIs, rI, rE_eq, ends]
  · obtain rfl : k = 2 := by omega
    have d1 : decide (((2 : Nat) : Int) < 2) = false := by decide
    simp -implicitDefEqProofs only [S8f, d1, ↓steps, push_cast, simprocAttr, tte]
    have hN := nfor_full hkn
    obtain ⟨q', hqq⟩ : ∃ q', q' = q0 + 1 + 2 * c + 2 * 2 := ⟨_, rfl⟩
    rw [← hqq] at hN
    rw [← hqq]
    have hT0 : ptab0 xs i q0 = ⟨nameOf nT i, cols, [0], [], fs, []⟩ := by
      unfold ptab0
      simp only [hM, Int.toNat_natCast]
      rw [hN.1, hcc, hff]
    have hpe : pend0 xs i q0 = q' := by
      unfold pend0
      simp only [hM, Int.toNat_natCast]
      exact hN.2
    have hq' : q' ≤ q0 + 20 := by rw [← hpe]; exact pend0_le xs i q0
    refine callq [[], []] [(1000, 1000)] (c_next (n := 4) (p := q') hx (by omega) (by omega) (by omega)) ?_
    simp -implicitDefEqProofs only [↓steps, push_cast, simprocAttr, tte]
    refine bcase_intro (fun v1 => ?_) fun v1 => ?_
    · have v1' : drawn xs q' 4 = 0 := by simpa using v1
      have hX : ptab xs i q0 = (⟨nameOf nT i, cols, [0], [], fs, [ex13 (atomM xs ⟨nameOf nT i, cols, [0], [], fs, []⟩ (q' + 1)).1]⟩, (atomM xs ⟨nameOf nT i, cols, [0], [], fs, []⟩ (q' + 1)).2) := by
        rw [ptab, hT0, hpe]; simp only [chkP, if_pos v1']
      refine callq [[], [0, 3, 1, 1, 2, 6]] [(1000, 1000)] (c_atom (T := ⟨nameOf nT i, cols, [0], [], fs, []⟩) (p := q' + 1) hx (by omega) (by show cols.length ≤ _; omega) hty (by rw [← hcc, ← hff]; exact freeC_pos hM1) (by simp) (by show fs.length ≤ _; omega) (by rw [← hff]; exact pfs0_one _ _ _)) ?_
      simp -implicitDefEqProofs only [↓steps, push_cast, simprocAttr, tte]
      refine callq [[]] [] (c_ex13 (atomM xs ⟨nameOf nT i, cols, [0], [], fs, []⟩ (q' + 1)).1) ?_
      simp -implicitDefEqProofs only [↓steps, push_cast, simprocAttr, tte]
      refine ⟨drawx_intro (by kernel_rfl), ?_⟩
      refine ⟨⟨htl.symm, by omega⟩, ?_⟩
      refine gen_again hI (i + 1) k0' (by show N - (i + 1) < N - i; omega) (Weak.keepL (by simp [S8, hwi, htl, ends]) ?_ (by simp [S8, ends]))
      simp [S8, hsn, hX, htl, rowsOf, rT, rIs, rI, rE_eq, ends]
    · have v1' : ¬ drawn xs q' 4 = 0 := by simpa using v1
      have hX : ptab xs i q0 = (⟨nameOf nT i, cols, [0], [], fs, []⟩, q' + 1) := by
        rw [ptab, hT0, hpe]; simp only [chkP, if_neg v1']
      refine ⟨⟨htl.symm, by omega⟩, ?_⟩
      refine gen_again hI (i + 1) k0' (by show N - (i + 1) < N - i; omega) (Weak.keepL (by simp [S8, hwi, htl, ends]) ?_ (by simp [S8, ends]))
      simp [S8, hsn, hX, htl, rowsOf, rT, rIs, rI, rE_eq, ends]
/-! made.Free. -/
theorem freeS_succ (s : Sch) {i : Nat} (h : i < s.length) : freeS (s.take (i + 1)) = freeS (s.take i) ++ [{ s.getD i default with checks := [] }] := by
  rw [take_snoc s i h, freeS, List.map_append]; rfl
def SF (s : Sch) (i : Nat) : SL :=
  ⟨[(4, .d (.lit (.int .i64 i))), (3, .ptr 3 0), (2, .ptr 2 0), (1, .ptr 1 0)], [(1, vS s), (3, .var [.vec 600 i]), (600, .vec 55 6 (rowsOf rT (freeS (s.take i))) 0), (2, .var [.snil])]⟩
theorem c_free (s : Sch) (hs : s.length ≤ 1000) : ACall Tryz.prog 18 [aS s] [] (aS (freeS s)) [] := by
  refine enterq mixed ttok Tryz.func18 Tryz.ntmps18 Tryz.results18 ?_
  generalize hr : aS (freeS s) = R
  simp -implicitDefEqProofs only [argT, ↓steps, push_cast, simprocAttr, tte]
  refine loop_gen mixed ttok (fun i : Nat => SF s i) (fun i => s.length - i) (fun i => i ≤ s.length) 0 (Nat.zero_le _) ?_ ?_
  · exact (Weak.nilCellL 3 0 600 55 6 rfl rfl rfl).trans (Weak.keepL (by simp [SF, freeS, ends]) (by simp [SF, vS, freeS, rowsOf, ends]) (by simp [SF, ends]))
  intro I hI i hi
  have htl : (freeS (s.take i)).length = i := by simp [freeS]; omega
  simp -implicitDefEqProofs only [SF, vS, ↓steps, push_cast, simprocAttr, tte]
  refine bcase_intro (fun h => ?_) fun h => ?_
  rotate_left
  · have hii : i = s.length := by have := of_decide_eq_false h; omega
    subst hii
    rw [List.take_length] at htl ⊢
    refine retx_of [6] rfl (by trivial) (by simp [rowsOf_length, htl]) ?_ (by first | simp [ends] | (subst_vars; simp [ends])) (by simp [ends]) (by simp [ends])
    rw [← hr]; rfl
  have h' : i < s.length := by have := of_decide_eq_true h; omega
  have hw := wrap_succ h' (by omega)
  have hsn := freeS_succ s h'
  refine ⟨(by first | omega | trivial | (refine ⟨?_, ?_⟩ <;> first | omega | trivial | (refine ⟨?_, ?_⟩ <;> first | omega | trivial | (refine ⟨?_, ?_⟩ <;> first | omega | trivial | rfl)))), ⟨htl.symm, by omega⟩, ?_⟩
  exact gen_again hI (i + 1) h' (by show s.length - (i + 1) < s.length - i; omega) (Weak.keepL (by simp [SF, hw, ends]) (by simp [SF, vS, hsn, htl, rowsOf, rT, rIs, rI, rE_eq, ends]) (by simp [SF, ends]))
end Go.Proofs.YtodoeplhcmecjaaGreatDoor
namespace Go.Proofs.YtodoeplhcmecjaaGreatDoor
open Go.Am
attribute [local simp, local push_cast] num boo str ints aV aTab aInst aS aT aC aRow rRow rTab rC rB vT
set_option linter.unusedVariables false
set_option maxRecDepth 100000
set_option maxHeartbeats 4000000
/-! A copy of an instance, of which one table may be changed. -/
theorem renL_app (r : Nat → Nat) : ∀ (P Q : List A), renL r (P ++ Q) = renL r P ++ renL r Q
  | [], Q => by simp [renL]
  | a :: P, Q => by simp [renL, renL_app r P Q]
theorem renL_tabs (r : Nat → Nat) : ∀ ts : Inst, renL r (ts.map tabC) = ts.map tabC
  | [] => rfl
  | t :: ts => by rw [List.map_cons, renL, renL_tabs r ts]; rfl
theorem renL_nils (r : Nat → Nat) : ∀ n : Nat, renL r (List.replicate n A.snil) = List.replicate n A.snil
  | 0 => rfl
  | n + 1 => by rw [List.replicate_succ, renL, renL_nils r n]; rfl
/-- The end: the copy, and the table that may be changed. -/
theorem ret_copied {p : Prop} {t : List (Nat × A)} {o : List (Nat × Ob)} {P Q : List A} {n m e wd fz : Nat} {rows : List (List D)} (hp : p) (h8 : lookO o 8 = some (.var (P ++ .vec 701 m :: Q))) (h7 : lookO o 701 = some (.vec e wd rows fz))
    (rP : ∀ r, renL r P = P) (rQ : ∀ r, renL r Q = Q) (cP : ∀ dom, closedL dom P = true) (cQ : ∀ dom, closedL dom Q = true) (hin : keepIn (fun _ => false) o) :
    retx (some (p, .agg [.vs 8 n])) ⟨t, o⟩ (.agg [.vs 1000 n]) [(1000, .var (P ++ .vec 1001 m :: Q)), (1001, .vec e wd rows fz)] := by
  refine ⟨hp, ?_⟩
  have h1 : Weak (SL.mk [(0, .agg [.vs 8 n])] o).st (SL.mk [(0, .agg [.vs 8 n])] [(8, .var (P ++ .vec 701 m :: Q)), (701, .vec e wd rows fz)]).st := by
    refine Weak.keepL ⟨⟨rfl, by simp [A.closed, closedL, inO, lookO]⟩, trivial⟩ ⟨⟨h8, by simp [Ob.closed, closedL_app, closedL, cP, cQ, A.closed, inO, lookO]⟩, ⟨h7, rfl⟩, trivial⟩ ?_
    have key : ∀ (l : List (Nat × Ob)), keepIn (fun _ => false) l → keepIn (inO [(8, .var (P ++ .vec 701 m :: Q)), (701, .vec e wd rows fz)]) l := by
      intro l
      induction l with
      | nil => intro _; trivial
      | cons x l ih => intro hl; obtain ⟨k, v⟩ := x; simp only [keepIn] at hl ⊢; exact ⟨.inl (hl.1.resolve_right (by simp)), ih hl.2⟩
    exact key o hin
  have h2 := Weak.ren (t := [(0, .agg [.vs 8 n])]) (o := [(8, .var (P ++ .vec 701 m :: Q)), (701, .vec e wd rows fz)]) 8 1000 (by omega) (by omega) rfl
  have h3 := Weak.ren (t := [(0, .agg [.vs 1000 n])]) (o := [(1000, .var (P ++ .vec 701 m :: Q)), (701, .vec e wd rows fz)]) 701 1001 (by omega) (by omega) rfl
  simp [renT, renO, A.ren, Ob.ren, renL, renL_app, ren1to, rP, rQ] at h2 h3
  exact (h1.trans h2).trans h3
def cop1 (i : Inst) (k : Nat) : List A := (i.take k).map tabC ++ List.replicate (i.length - k) .snil
def mid1 (i : Inst) (kk k : Nat) : List A := (i.take kk).map tabC ++ .vec 701 (i.getD kk default).length :: ((i.drop (kk + 1)).take (k - (kk + 1))).map tabC
def cop2 (i : Inst) (kk k : Nat) : List A := mid1 i kk k ++ List.replicate (i.length - k) .snil
def oC (i : Inst) (cs : List A) : List (Nat × Ob) := [(1, vI i), (3, .var [.vs 8 i.length]), (2, .var [.snil]), (8, .var cs)]
def SC (i : Inst) (kk k : Nat) : SL :=
  ⟨[(4, .d (.lit (.int .i64 k))), (1, .ptr 1 0), (2, .ptr 2 0), (3, .ptr 3 0)], if k ≤ kk then oC i (cop1 i k) else (701, .vec 47 1 (rowsOf rRow (i.getD kk default)) 0) :: oC i (cop2 i kk k)⟩
theorem mid1_len {i : Inst} {kk k : Nat} (h : kk < k) (h2 : k ≤ i.length) : (mid1 i kk k).length = k := by simp [mid1]; omega
theorem mid1_succ {i : Inst} {kk k : Nat} (h : kk < k) (h2 : k < i.length) : mid1 i kk (k + 1) = mid1 i kk k ++ [tabC (i.getD k default)] := by
  have e : k + 1 - (kk + 1) = (k - (kk + 1)) + 1 := by omega
  have e2 : (i.drop (kk + 1)).getD (k - (kk + 1)) default = i.getD k default := by
    simp only [List.getD_eq_getElem?_getD, List.getElem?_drop]
    congr 2
    omega
  rw [mid1, mid1, e, take_snoc _ _ (by simp; omega), e2]
  simp
theorem mid1_closed (i : Inst) (kk k : Nat) {dom : Nat → Bool} (h : dom 701 = true) : closedL dom (mid1 i kk k) = true := by
  rw [mid1, closedL_app, closedL_tabs, closedL, closedL_tabs]
  simp [A.closed, h]
theorem c_copied9 (i : Inst) (kk : Nat) (hkk : kk < i.length) (hI : SmallI i) :
    ACall Tryz.prog 22 [aInst i] [] (.agg [.vs 1000 i.length])
      [(1000, .var ((i.take kk).map tabC ++ .vec 1001 (i.getD kk default).length :: (i.drop (kk + 1)).map tabC)), (1001, .vec 47 1 (rowsOf rRow (i.getD kk default)) 0)] := by
  refine enterq mixed ttok Tryz.func22 Tryz.ntmps22 Tryz.results22 ?_
  have hil := hI.len
  simp -implicitDefEqProofs only [argT, ↓steps, push_cast, simprocAttr, tte]
  refine ⟨by omega, ?_⟩
  refine loop_gen mixed ttok (fun k : Nat => SC i kk k) (fun k => i.length - k) (fun k => k ≤ i.length) 0 (Nat.zero_le _) ?_ ?_
  · simp only [SC, if_pos (Nat.zero_le kk)]
    exact Weak.keepL (by simp [oC, ends]) (by simp [oC, vI, cop1, closedL_nils, ends]) (by simp [oC, ends])
  intro I hIk k hk
  by_cases hc : k ≤ kk
  · have h' : k < i.length := by omega
    have htk := hI.tab _ (getD_mem h')
    have hw := wrap_succ h' (by omega)
    have hD : ((i.take k).map tabC).length = k := by rw [List.length_map, List.length_take]; omega
    have hcs : cop1 i k = (i.take k).map tabC ++ .snil :: List.replicate (i.length - (k + 1)) .snil := by
      rw [cop1, show i.length - k = (i.length - (k + 1)) + 1 by omega, List.replicate_succ]
    have hcs1 : cop1 i (k + 1) = (i.take k).map tabC ++ tabC (i.getD k default) :: List.replicate (i.length - (k + 1)) .snil := by
      rw [cop1, take_snoc i k h', List.map_append, List.append_assoc]; rfl
    have hcs2 : k = kk → cop2 i kk (k + 1) = (i.take k).map tabC ++ .vec 701 (i.getD k default).length :: List.replicate (i.length - (k + 1)) .snil := by
      rintro rfl
      rw [cop2, mid1, Nat.sub_self, List.take_zero, List.map_nil, List.append_assoc]; rfl
    have cD : ∀ dom : Nat → Bool, closedL dom ((i.take k).map tabC) = true := fun _ => closedL_tabs _
    have cE : ∀ dom : Nat → Bool, closedL dom (List.replicate (i.length - (k + 1)) A.snil) = true := fun _ => closedL_nils _
    have rD : ∀ r : Nat → Nat, renL r ((i.take k).map tabC) = (i.take k).map tabC := fun r => renL_tabs r _
    have rE : ∀ r : Nat → Nat, renL r (List.replicate (i.length - (k + 1)) A.snil) = List.replicate (i.length - (k + 1)) A.snil := fun r => renL_nils r _
    generalize (i.take k).map tabC = D at hD hcs hcs1 hcs2 cD rD
    generalize List.replicate (i.length - (k + 1)) A.snil = E at hcs hcs1 hcs2 cE rE
    simp -implicitDefEqProofs only [SC, if_pos hc, oC, vI, hcs, get_at hD, take_at hD, drop_at hD, set_at hD, ↓steps, push_cast, simprocAttr, tte]
    refine bcase_intro (fun h => ?_) fun h => ?_
    rotate_left
    · exact absurd (of_decide_eq_false h) (by omega)
    refine ⟨⟨by omega, by omega⟩, ⟨by omega, by omega⟩, by omega, ⟨by omega, by omega⟩, by simp [hD], drawx_intro (by kernel_rfl), ?_⟩
    simp only [List.append_assoc, List.cons_append, List.nil_append]
    refine gen_again hIk (k + 1) h' (by show i.length - (k + 1) < i.length - k; omega) ?_
    by_cases hkk2 : k = kk
    · subst hkk2
      refine (Weak.ren 30 701 (by omega) (by omega) rfl).trans ?_
      simp only [SC, if_neg (show ¬ k + 1 ≤ k by omega), hcs2 rfl]
      exact Weak.keepL (by simp [hw, oC, vI, renT, A.ren, ren1to, ends]) (by simp [oC, vI, renO, Ob.ren, renL, renL_app, ren1to, A.ren, rD, rE, closedL_app, closedL, cD, cE, ends]) (by simp [oC, vI, renO, Ob.ren, renL, renL_app, ren1to, A.ren, rD, rE, ends])
    · simp only [SC, if_pos (show k + 1 ≤ kk by omega)]
      refine (Weak.frzCellL 8 k 1 rfl (get_at hD) rfl (by simp [rowsOf_length]) rfl).trans ?_
      rw [set_at hD, hcs1]
      generalize i.getD k default = tab
      exact Weak.keepL (by simp [hw, oC, vI, ends]) (by simp [oC, vI, tabC, closedL_app, closedL, cD, cE, ends]) (by simp [oC, vI, ends])
  have hkk1 : kk < k := by omega
  have hcD : ∀ dom : Nat → Bool, dom 701 = true → closedL dom (mid1 i kk k) = true := fun _ h => mid1_closed i kk k h
  by_cases hkl : k = i.length
  · subst hkl
    have hcs : cop2 i kk i.length = (i.take kk).map tabC ++ .vec 701 (i.getD kk default).length :: (i.drop (kk + 1)).map tabC := by
      rw [cop2, mid1, Nat.sub_self, List.replicate_zero, List.append_nil, show (i.drop (kk + 1)).take (i.length - (kk + 1)) = i.drop (kk + 1) from List.take_of_length_le (by rw [List.length_drop]; omega)]
    have cP : ∀ dom : Nat → Bool, closedL dom ((i.take kk).map tabC) = true := fun _ => closedL_tabs _
    have cQ : ∀ dom : Nat → Bool, closedL dom ((i.drop (kk + 1)).map tabC) = true := fun _ => closedL_tabs _
    have rP : ∀ r : Nat → Nat, renL r ((i.take kk).map tabC) = (i.take kk).map tabC := fun r => renL_tabs r _
    have rQ : ∀ r : Nat → Nat, renL r ((i.drop (kk + 1)).map tabC) = (i.drop (kk + 1)).map tabC := fun r => renL_tabs r _
    generalize (i.take kk).map tabC = P at hcs cP rP ⊢
    generalize (i.drop (kk + 1)).map tabC = Q at hcs cQ rQ ⊢
    simp -implicitDefEqProofs only [SC, if_neg (show ¬ i.length ≤ kk by omega), oC, vI, hcs, ↓steps, push_cast, simprocAttr, tte]
    refine bcase_intro (fun h => ?_) fun h => ?_
    · exact absurd (of_decide_eq_true h) (by omega)
    exact ret_copied trivial rfl rfl rP rQ cP cQ (by simp [ends])
  have h' : k < i.length := by omega
  have htk := hI.tab _ (getD_mem h')
  have hw := wrap_succ h' (by omega)
  have hD := mid1_len hkk1 hk
  have hcs : cop2 i kk k = mid1 i kk k ++ .snil :: List.replicate (i.length - (k + 1)) .snil := by
    rw [cop2, show i.length - k = (i.length - (k + 1)) + 1 by omega, List.replicate_succ]
  have hcs2 : cop2 i kk (k + 1) = mid1 i kk k ++ tabC (i.getD k default) :: List.replicate (i.length - (k + 1)) .snil := by
    rw [cop2, mid1_succ hkk1 h', List.append_assoc]; rfl
  have cE : ∀ dom : Nat → Bool, closedL dom (List.replicate (i.length - (k + 1)) A.snil) = true := fun _ => closedL_nils _
  generalize mid1 i kk k = D at hD hcs hcs2 hcD
  generalize List.replicate (i.length - (k + 1)) A.snil = E at hcs hcs2 cE
  simp -implicitDefEqProofs only [SC, if_neg hc, if_neg (show ¬ k + 1 ≤ kk by omega), oC, vI, hcs, get_at hD, take_at hD, drop_at hD, set_at hD, ↓steps, push_cast, simprocAttr, tte]
  refine bcase_intro (fun h => ?_) fun h => ?_
  rotate_left
  · exact absurd (of_decide_eq_false h) (by omega)
  refine ⟨⟨by omega, by omega⟩, ⟨by omega, by omega⟩, by omega, ⟨by omega, by omega⟩, by simp [hD], drawx_intro (by kernel_rfl), ?_⟩
  simp only [List.append_assoc, List.cons_append, List.nil_append]
  refine gen_again hIk (k + 1) h' (by show i.length - (k + 1) < i.length - k; omega) ?_
  simp only [SC, if_neg (show ¬ k + 1 ≤ kk by omega)]
  refine (Weak.frzCellL 8 k 1 rfl (get_at hD) rfl (by simp [rowsOf_length]) rfl).trans ?_
  rw [set_at hD, hcs2]
  generalize i.getD k default = tab
  generalize i.getD kk default = tab2
  exact Weak.keepL (by simp [hw, oC, vI, ends]) (by simp [oC, vI, tabC, closedL_app, closedL, hcD, cE, ends]) (by simp [oC, vI, ends])
end Go.Proofs.YtodoeplhcmecjaaGreatDoor
namespace Go.Proofs.YtodoeplhcmecjaaGreatDoor
open Go.Am
attribute [local simp, local push_cast] num boo str ints aV aTab aInst aS aT aC aRow rRow rTab rC rB vT tapeO
set_option linter.unusedVariables false
set_option maxRecDepth 100000
set_option maxHeartbeats 4000000
/-! made.Good. -/
theorem set_rowAt (row : List Val) (v : Val) {c : Nat} (h : c < row.length) : (rowsOf rV row).set c (.lit (.int .i64 v.kind) :: .lit (.int .i64 v.num) :: .lit (.string v.text) :: List.drop 3 ((rowsOf rV row).getD c [])) = rowsOf rV (row.set c v) := by
  have e : (rowsOf rV row).getD c [] = rV (row.getD c default) := by simp [rowsOf, List.getD_eq_getElem?_getD, h]
  have e2 : List.drop 3 (rV (row.getD c default)) = [] := by simp [rV]
  rw [e, e2]
  simp [rowsOf, rV, List.map_set]
theorem goodTo_q (xs : List Int) {most : Int} (hm : 0 ≤ most) (hm2 : most ≤ 100) {s : Sch} (hs : Plain9 s) (p : Nat) : ∀ i, i ≤ s.length → (goodTo xs most s p i).2 ≤ p + 1000 * i
  | 0, _ => by simp [goodTo]
  | i + 1, h => by
    have ih := goodTo_q xs hm hm2 hs p i (by omega)
    have hc := cntG_le xs hm s (goodTo xs most s p i).1 (s.getD i default) (goodTo xs most s p i).2
    obtain ⟨_, _, _, m4, m5, _, _⟩ := hs.more (show i < s.length by omega)
    have : cntG xs most s (goodTo xs most s p i).1 (s.getD i default) (goodTo xs most s p i).2 * wG (s.getD i default) ≤ 100 * 7 := Nat.mul_le_mul (by omega) (by unfold wG; omega)
    rw [goodTo]
    simp only
    omega
theorem Plain9.small {s : Sch} (h : Plain9 s) : SmallS s := by
  have hl := h.len
  refine ⟨by omega, fun t ht => ?_⟩
  obtain ⟨i, hi, rfl⟩ := mem_at ht
  obtain ⟨m1, m2, m3, m4, m5, m6, m7⟩ := h.more hi
  have hp := h.prim hi
  refine ⟨by omega, by rw [hp]; simp, by rw [m1]; simp, by rw [m1]; simp, by omega, fun f hf => ?_, by rw [m2]; simp, by rw [m2]; simp⟩
  obtain ⟨j, hj, rfl⟩ := mem_at hf
  rw [(h.target hi hj).2.1]; simp
theorem Plain9.by0 {s : Sch} (h : Plain9 s) : ∀ t ∈ s, ∀ f ∈ t.foreigns, 0 ≤ Go.Proofs.YtodoeplhcmecjaaGreatDoor.byT s f.table := by
  intro t ht f hf
  obtain ⟨i, hi, rfl⟩ := mem_at ht
  obtain ⟨m, k, ty, nl, to, hm, hk, hty, hto, e⟩ := h.to hi
  rw [e] at hf
  obtain ⟨x, hx, rfl⟩ := List.mem_map.1 hf
  have := (hto x (List.mem_range.1 hx)).2
  simp only
  omega
theorem Plain9.orderP {s : Sch} (h : Plain9 s) : Go.Proofs.YtodoeplhcmecjaaGreatDoor.orderP s = (List.range s.length).map fun i : Nat => (i : Int) := by
  rw [Go.Proofs.YtodoeplhcmecjaaGreatDoor.orderP, h.order, if_pos rfl, h.picks _ (Nat.le_refl _)]
theorem Plain9.found {s : Sch} (h : Plain9 s) {i f : Nat} (hi : i < s.length) (hf : f < (s.getD i default).foreigns.length) :
    Go.Proofs.YtodoeplhcmecjaaGreatDoor.found (Go.Proofs.YtodoeplhcmecjaaGreatDoor.byT s ((s.getD i default).foreigns.getD f default).table) = .tup [num (targetN s ((s.getD i default).foreigns.getD f default)), boo true] := by
  have h0 := h.by0 _ (getD_mem hi) _ (getD_mem hf)
  unfold targetN Go.Proofs.YtodoeplhcmecjaaGreatDoor.found
  rw [if_neg (by omega), decide_eq_true h0, Int.toNat_of_nonneg h0]
/-- The tables that are made so far. -/
theorem good_to {s : Sch} (hs : Plain9 s) (xs : List Int) {most : Int} (hm : 0 ≤ most) (hm2 : most ≤ 100) (p i : Nat) (hi : i ≤ s.length) : ∀ k, k < i → ((goodTo xs most s p i).1.getD k default).length ≤ 100 := by
  induction i with
  | zero => intro k hk; omega
  | succ i ih =>
    intro k hk
    have hl := goodTo_len xs most s p i
    have hc := cntG_le xs hm s (goodTo xs most s p i).1 (s.getD i default) (goodTo xs most s p i).2
    rw [goodTo]
    simp only
    by_cases h : k < i
    · have := ih (by omega) k h
      simp only [List.getD_eq_getElem?_getD] at this ⊢
      rw [List.getElem?_append_left (by omega)]
      exact this
    · obtain rfl : k = i := by omega
      have e : ∀ t : Tab2, ((goodTo xs most s p k).1 ++ [t]).getD k default = t := fun t => by simp only [List.getD_eq_getElem?_getD]; rw [List.getElem?_append_right (by omega), hl, Nat.sub_self]; rfl
      rw [e, tabG_len]; omega
def tG (most : Int) (ord : List Int) : List (Nat × A) := [(0, .ptr 1000 0), (2, num most), (4, .ptr 4 0), (6, .ptr 6 0), (7, .ptr 7 0), (8, ints ord)]
def oG (xs : List Int) (s : Sch) (cs : List A) (q : Nat) : List (Nat × Ob) := [(4, vS s), (6, .var [.snil]), (7, .var [.vs 26 s.length]), (26, .var cs), (1000, tapeO xs q)]
def S20 (xs : List Int) (most : Int) (s : Sch) (ord : List Int) (cs : List A) (q i : Nat) : SL := ⟨(10, .d (.lit (.int .i64 i))) :: tG most ord, oG xs s cs q⟩
def nFor (s : Sch) (out : Inst) (T : Tbl) (d : Int) (f : Nat) : Int := if ((T.foreigns.take f).any fun f => lenG s out f == 0) = true then 0 else d
def F20 (xs : List Int) (most : Int) (s : Sch) (ord : List Int) (cs : List A) (q i : Nat) (T : Tbl) (n : Int) (f : Nat) : SL :=
  ⟨(14, .d (.lit (.int .i64 f))) :: (13, num n) :: (12, .ptr 12 0) :: (11, .d (.lit (.int .i64 i))) :: (10, .d (.lit (.int .i64 i))) :: tG most ord, (12, vT T) :: oG xs s cs q⟩
def R20 (xs : List Int) (most : Int) (s : Sch) (ord : List Int) (P Q : List A) (i : Nat) (T : Tbl) (n : Nat) (rows : Tab2) (q k : Nat) : SL :=
  ⟨(17, .d (.lit (.int .i64 k))) :: (13, num n) :: (12, .ptr 12 0) :: (11, .d (.lit (.int .i64 i))) :: (10, .d (.lit (.int .i64 i))) :: tG most ord,
   (600, .vec 47 1 (rowsOf rRow rows) 0) :: (12, vT T) :: oG xs s (P ++ .vec 600 k :: Q) q⟩
def C20 (xs : List Int) (most : Int) (s : Sch) (ord : List Int) (P Q : List A) (i : Nat) (T : Tbl) (n : Nat) (rows : Tab2) (q k : Nat) (row : Row) (c : Nat) : SL :=
  ⟨(19, .d (.lit (.int .i64 c))) :: (18, .vec 81 T.columns.length) :: (17, .d (.lit (.int .i64 k))) :: (13, num n) :: (12, .ptr 12 0) :: (11, .d (.lit (.int .i64 i))) :: (10, .d (.lit (.int .i64 i))) :: tG most ord,
   (81, .vec 57 3 (rowsOf rV row) 0) :: (600, .vec 47 1 (rowsOf rRow rows) 0) :: (12, vT T) :: oG xs s (P ++ .vec 600 k :: Q) q⟩
def G20 (xs : List Int) (most : Int) (s : Sch) (ord : List Int) (P Q : List A) (i : Nat) (T : Tbl) (n : Nat) (rows : Tab2) (q k : Nat) (row : Row) (f : Nat) : SL :=
  ⟨(20, .d (.lit (.int .i64 f))) :: (18, .vec 81 T.columns.length) :: (17, .d (.lit (.int .i64 k))) :: (13, num n) :: (12, .ptr 12 0) :: (11, .d (.lit (.int .i64 i))) :: (10, .d (.lit (.int .i64 i))) :: tG most ord,
   (81, .vec 57 3 (rowsOf rV row) 0) :: (600, .vec 47 1 (rowsOf rRow rows) 0) :: (12, vT T) :: oG xs s (P ++ .vec 600 k :: Q) q⟩
def rowC (xs : List Int) (cols : List Col) (B c : Nat) : Row := row0 xs cols B c ++ List.replicate (cols.length - c) (⟨0, 0, ByteArray.empty⟩ : Val)
theorem rowC_len {xs : List Int} {cols : List Col} {B c : Nat} (h : c ≤ cols.length) : (rowC xs cols B c).length = cols.length := by simp [rowC, row0_len]; omega
theorem rowC_set {xs : List Int} {cols : List Col} {B c : Nat} (h : c < cols.length) : (rowC xs cols B c).set c (smallM xs (cols.getD c default).type (cols.getD c default).nullable (B + c)) = rowC xs cols B (c + 1) := by
  rw [rowC, rowC, row0_succ, show cols.length - c = (cols.length - (c + 1)) + 1 by omega, List.replicate_succ, List.set_append_right _ _ (by rw [row0_len]; omega), row0_len, Nat.sub_self, List.append_assoc]
  rfl
theorem rowC_0 (xs : List Int) (cols : List Col) (B : Nat) : rowsOf rV (rowC xs cols B 0) = List.replicate cols.length [.lit (.int .i64 0), .lit (.int .i64 0), .lit (.string ByteArray.empty)] := by
  simp [rowC, row0, rowsOf, rV]
theorem rowC_end (xs : List Int) (cols : List Col) (B : Nat) : rowC xs cols B cols.length = row0 xs cols B cols.length := by simp [rowC]
theorem getD_irange {n i : Nat} (h : i < n) : ((List.range n).map fun i : Nat => (i : Int)).getD i default = i := by simp [List.getD_eq_getElem?_getD, h]
theorem nFor_succ (s : Sch) (out : Inst) (T : Tbl) (d : Int) {f : Nat} (h : f < T.foreigns.length) : nFor s out T d (f + 1) = if (lenG s out (T.foreigns.getD f default) == 0) = true then 0 else nFor s out T d f := by
  unfold nFor
  rw [take_snoc _ _ h, List.any_append]
  simp only [List.any_cons, List.any_nil, Bool.or_false]
  cases h1 : (T.foreigns.take f).any fun f => lenG s out f == 0 <;> cases h2 : lenG s out (T.foreigns.getD f default) == 0 <;> simp
theorem c_good {xs : List Int} {s : Sch} {p : Nat} {most : Int} (hx : TapeOk xs) (hm : 0 ≤ most) (hm2 : most ≤ 100) (hs : Plain9 s) (hp : p ≤ 1000000000) :
    ACall Tryz.prog 20 [.ptr 1000 0, aS s, num most] [(1000, tapeO xs p)] (aInst (goodM xs most s p).1) [(1000, tapeO xs (goodM xs most s p).2)] := by
  refine enterq mixed ttok Tryz.func20 Tryz.ntmps20 Tryz.results20 ?_
  have hS := hs.small
  have hsl3 := hs.len
  have hsl := hS.len
  simp -implicitDefEqProofs only [argT, ↓steps, push_cast, simprocAttr, tte]
  refine ⟨by omega, ?_⟩
  have hO := c_rorder s (by omega) (fun t h => (hS.tab t h).fors) hs.by0
  rw [hs.orderP] at hO
  have hol : ((List.range s.length).map fun i : Nat => (i : Int)).length = s.length := by simp
  have hog : ∀ i, i < s.length → ((List.range s.length).map fun i : Nat => (i : Int)).getD i default = i := fun i h => getD_irange h
  generalize ((List.range s.length).map fun i : Nat => (i : Int)) = ord at hO hol hog
  refine callq [[6]] [] (hO) ?_
  simp -implicitDefEqProofs only [↓steps, push_cast, simprocAttr, tte]
  refine loop_gen mixed ttok (fun i : Nat => S20 xs most s ord ((goodTo xs most s p i).1.map tabC ++ List.replicate (s.length - i) .snil) (goodTo xs most s p i).2 i) (fun i => s.length - i) (fun i => i ≤ s.length) 0 (Nat.zero_le _) ?_ ?_
  · exact Weak.keepL (by simp [S20, tG, oG, ends]) (by simp [S20, oG, vS, goodTo, closedL_nils, ends]) (by simp [S20, oG, ends])
  intro I hI i hi
  simp -implicitDefEqProofs only [S20, tG, oG, vS, ↓steps, push_cast, simprocAttr, tte]
  refine bcase_intro (fun h => ?_) fun h => ?_
  rotate_left
  · have hii : i = s.length := by have := of_decide_eq_false h; omega
    subst hii
    have hM : goodM xs most s p = goodTo xs most s p s.length := rfl
    rw [Nat.sub_self, List.replicate_zero, List.append_nil, hM]
    have hrl := goodTo_len xs most s p s.length
    generalize goodTo xs most s p s.length = r at hrl
    refine ret_vs1 (q := 26) (n := s.length) (xs := r.1.map fun t => .sl 1 (rowsOf rRow t)) trivial ?_ rfl ?_ ?_ ?_ ?_
    · simp only [lookO]
      rw [List.map_map]; rfl
    · rw [List.length_map, hrl]
    · simp [rowsOf, rTab]
    · simp [ends]
    · simp [ends]
  have h' : i < s.length := by have := of_decide_eq_true h; omega
  have hw := wrap_succ h' (by omega)
  have hgi := hog i h'
  have wm : IntKind.i64.wrap (most + 1) = most + 1 := wrap_eq (by omega) (by omega)
  have hq := goodTo_q xs hm hm2 hs p i hi
  have hlen := goodTo_len xs most s p i
  have hd := drawn_range xs (goodTo xs most s p i).2 (n := most + 1) (by omega)
  simp only [hgi, wm, Int.toNat_natCast]
  refine ⟨by omega, by omega, ?_⟩
  refine callq [[], []] [(1000, 1000)] (c_next (n := most + 1) (p := (goodTo xs most s p i).2) hx (by omega) (by omega) (by omega)) ?_
  have hD : ((goodTo xs most s p i).1.map tabC).length = i := by rw [List.length_map, hlen]
  have hcs : (goodTo xs most s p i).1.map tabC ++ List.replicate (s.length - i) A.snil = (goodTo xs most s p i).1.map tabC ++ .snil :: List.replicate (s.length - (i + 1)) .snil := by
    rw [show s.length - i = (s.length - (i + 1)) + 1 by omega, List.replicate_succ]
  have hnext : goodTo xs most s p (i + 1) = ((goodTo xs most s p i).1 ++ [tabG xs s (goodTo xs most s p i).1 (s.getD i default) ((goodTo xs most s p i).2 + 1) (cntG xs most s (goodTo xs most s p i).1 (s.getD i default) (goodTo xs most s p i).2)],
      (goodTo xs most s p i).2 + 1 + cntG xs most s (goodTo xs most s p i).1 (s.getD i default) (goodTo xs most s p i).2 * wG (s.getD i default)) := rfl
  have hget : ∀ (X : List A) (j : Nat), j < i → ((goodTo xs most s p i).1.map tabC ++ X)[j]? = some (tabC ((goodTo xs most s p i).1.getD j default)) := fun X j hj => by
    rw [List.getElem?_append_left (by omega), List.getElem?_map, List.getD_eq_getElem?_getD, List.getElem?_eq_getElem (by omega)]; rfl
  have hcD : ∀ dom : Nat → Bool, closedL dom ((goodTo xs most s p i).1.map tabC) = true := fun _ => closedL_tabs _
  have hcE : ∀ dom : Nat → Bool, closedL dom (List.replicate (s.length - (i + 1)) A.snil) = true := fun _ => closedL_nils _
  have hgood := good_to hs xs hm hm2 p i hi
  have hcnt := cntG_le xs hm s (goodTo xs most s p i).1 (s.getD i default) (goodTo xs most s p i).2
  have hcd : ((cntG xs most s (goodTo xs most s p i).1 (s.getD i default) (goodTo xs most s p i).2 : Nat) : Int) = nFor s (goodTo xs most s p i).1 (s.getD i default) (drawn xs (goodTo xs most s p i).2 (most + 1)) (s.getD i default).foreigns.length := by
    unfold cntG nFor
    rw [List.take_length]
    split <;> omega
  have hpos : 0 < cntG xs most s (goodTo xs most s p i).1 (s.getD i default) (goodTo xs most s p i).2 → ∀ f, f < (s.getD i default).foreigns.length → 1 ≤ lenG s (goodTo xs most s p i).1 ((s.getD i default).foreigns.getD f default) := by
    unfold cntG
    split
    · intro h; omega
    · rename_i h0
      intro _ f hf
      rw [Bool.not_eq_true, List.any_eq_false] at h0
      have := h0 _ (getD_mem hf)
      simp only [beq_iff_eq] at this
      omega
  rw [hcs]
  generalize hDD : (goodTo xs most s p i).1.map tabC = P at hD hcD hget ⊢
  obtain ⟨Q, hQQ⟩ : ∃ Q, List.replicate (s.length - (i + 1)) A.snil = Q := ⟨_, rfl⟩
  rw [hQQ] at hcE ⊢
  generalize (goodTo xs most s p i).2 = q at hq hd hnext hcnt hcd hpos ⊢
  generalize (goodTo xs most s p i).1 = out at hlen hnext hget hgood hcnt hcd hpos hDD
  have htg := fun f hf => hs.target h' (f := f) hf
  have hfd := fun f hf => hs.found h' (f := f) hf
  obtain ⟨m1, m2, m3, m4, m5, m6, m7⟩ := hs.more h'
  have hprim := hs.prim h'
  have hct := fun f hf => c_target s i f hsl h' hf
  generalize hTT : s.getD i default = T at hnext hcnt hcd hpos htg hfd m1 m2 m3 m4 m5 m6 m7 hprim hct
  generalize hN : cntG xs most s out T q = N at hnext hcnt hcd hpos
  simp -implicitDefEqProofs only [hTT, ↓steps, push_cast, simprocAttr, tte]
  refine loop_gen mixed ttok (fun f : Nat => F20 xs most s ord (P ++ .snil :: Q) (q + 1) i T (nFor s out T (drawn xs q (most + 1)) f) f) (fun f => T.foreigns.length - f) (fun f => f ≤ T.foreigns.length) 0 (Nat.zero_le _) ?_ ?_
  · exact Weak.keepL (by simp [F20, tG, oG, nFor, ends]) (by simp [F20, oG, vS, vT, closedL_app, closedL, hcD, hcE, ends]) (by simp [F20, oG, ends])
  intro J hJ f hf
  simp -implicitDefEqProofs only [F20, tG, oG, vS, vT, ↓steps, push_cast, simprocAttr, tte]
  refine bcase_intro (fun g => ?_) fun g => ?_
  · have g' : f < T.foreigns.length := by have := of_decide_eq_true g; omega
    have hwf := wrap_succ g' (by omega)
    have hct1 := hct f g'
    rw [hfd f g'] at hct1
    obtain ⟨t1, t2, t3, t4, t5⟩ := htg f g'
    have hlg : lenG s out (T.foreigns.getD f default) = (out.getD (targetN s (T.foreigns.getD f default)) default).length := rfl
    have hsuc := nFor_succ s out T (drawn xs q (most + 1)) g'
    rw [hlg] at hsuc
    have hg1 := fun X : List A => hget X _ t1
    refine callq [[6], [], []] [] (hct1) ?_
    simp -implicitDefEqProofs only [hg1, tabC, ↓steps, push_cast, simprocAttr, tte]
    refine ⟨⟨by omega, by omega⟩, ?_⟩
    refine bcase_intro (fun g2 => ?_) fun g2 => ?_
    · rw [if_pos (by have := beq_iff_eq.1 g2; simpa using this)] at hsuc
      exact gen_again hJ (f + 1) g' (by show T.foreigns.length - (f + 1) < T.foreigns.length - f; omega) (Weak.keepL (by simp [F20, tG, oG, hwf, hsuc, ends]) (by simp [F20, oG, vS, vT, closedL_app, closedL, hcD, hcE, ends]) (by simp [F20, oG, ends]))
    · rw [if_neg (by have := beq_eq_false_iff_ne.1 g2; simpa using this)] at hsuc
      exact gen_again hJ (f + 1) g' (by show T.foreigns.length - (f + 1) < T.foreigns.length - f; omega) (Weak.keepL (by simp [F20, tG, oG, hwf, hsuc, ends]) (by simp [F20, oG, vS, vT, closedL_app, closedL, hcD, hcE, ends]) (by simp [F20, oG, ends]))
  have g' : f = T.foreigns.length := by have := of_decide_eq_false g; omega
  subst g'
  clear hJ J
  rw [← hcd]
  have hw1 : wG T ≤ 7 := by unfold wG; omega
  refine loop_gen mixed ttok (fun k : Nat => R20 xs most s ord P Q i T N (tabG xs s out T (q + 1) k) (q + 1 + k * wG T) k) (fun k => N - k) (fun k => k ≤ N) 0 (Nat.zero_le _) ?_ ?_
  · refine (Weak.nilCellL 26 i 600 47 1 rfl (get_at hD) rfl).trans ?_
    rw [set_at hD]
    exact Weak.keepL (by simp [R20, tG, oG, ends]) (by simp [R20, oG, vS, vT, tabG, rowsOf, closedL_app, closedL, hcD, hcE, ends]) (by simp [R20, oG, ends])
  intro J hJ k hk
  simp -implicitDefEqProofs only [R20, tG, oG, vS, vT, ↓steps, push_cast, simprocAttr, tte]
  refine bcase_intro (fun gk => ?_) fun gk => ?_
  rotate_left
  · have hkk : k = N := by have := of_decide_eq_false gk; omega
    subst hkk
    have hfin : (goodTo xs most s p (i + 1)).1.map tabC ++ List.replicate (s.length - (i + 1)) A.snil = P ++ tabC (tabG xs s out T (q + 1) k) :: Q := by rw [hnext, hQQ]; simp [hDD]
    have hq2 : (goodTo xs most s p (i + 1)).2 = q + 1 + k * wG T := by rw [hnext]
    refine gen_again hI (i + 1) h' (by show s.length - (i + 1) < s.length - i; omega) ?_
    refine (Weak.frzCellL 26 i 1 rfl (get_at hD) rfl (by simp [rowsOf_length, tabG_len]) rfl).trans ?_
    rw [set_at hD, hfin, hq2]
    exact Weak.keepL (by simp [S20, tG, oG, hw, ends]) (by simp [S20, oG, vS, tabC, closedL_app, closedL, hcD, hcE, ends]) (by simp [S20, oG, ends])
  have gk' : k < N := by have := of_decide_eq_true gk; omega
  have hwk := wrap_succ gk' (by omega)
  have hkm : k * wG T ≤ 100 * 7 := Nat.mul_le_mul (by omega) hw1
  have hts := tabG_succ xs s out T (q + 1) k
  have hrows := tabG_len xs s out T (q + 1) k
  have hPn : q + 1 + (k + 1) * wG T = q + 1 + k * wG T + wG T := by rw [Nat.succ_mul]; omega
  generalize hP : q + 1 + k * wG T = B at hts hPn ⊢
  have hPn2 : q + 1 + (k + 1) * wG T = B + T.columns.length + T.foreigns.length := by rw [hPn]; unfold wG; omega
  have hBb : B ≤ 100000000000 := by omega
  refine ⟨by omega, ?_⟩
  refine loop_gen mixed ttok (fun c : Nat => C20 xs most s ord P Q i T N (tabG xs s out T (q + 1) k) (B + c) k (rowC xs T.columns B c) c) (fun c => T.columns.length - c) (fun c => c ≤ T.columns.length) 0 (Nat.zero_le _) ?_ ?_
  · exact Weak.keepL (by simp [C20, tG, oG, ends]) (by simp [C20, oG, vS, vT, rowC_0, closedL_app, closedL, hcD, hcE, ends]) (by simp [C20, oG, ends])
  intro I2 hI2 c hc
  have hrc := rowC_len (xs := xs) (B := B) hc
  simp -implicitDefEqProofs only [C20, tG, oG, vS, vT, ↓steps, push_cast, simprocAttr, tte]
  refine ⟨hrc.symm, ?_⟩
  refine bcase_intro (fun g2 => ?_) fun g2 => ?_
  · have g2' : c < T.columns.length := by have := of_decide_eq_true g2; omega
    have hwc := wrap_succ g2' (by omega)
    have hsm := rowC_set (xs := xs) (B := B) g2'
    have hct1 := m7 _ (getD_mem g2')
    refine ⟨⟨by omega, by omega⟩, ⟨by omega, by omega⟩, ?_⟩
    refine callq [[], [], []] [(1000, 1000)] (c_msmall (k := (T.columns.getD c default).type) (nl := (T.columns.getD c default).nullable) (p := B + c) hx hct1 (by omega)) ?_
    simp -implicitDefEqProofs only [↓steps, push_cast, simprocAttr, tte]
    refine ⟨⟨⟨by omega, by omega⟩, hrc.symm⟩, ⟨hrc.symm, by omega, by omega⟩, drawx_intro (by kernel_rfl), ?_⟩
    have hset := set_rowAt (rowC xs T.columns B c) (smallM xs (T.columns.getD c default).type (T.columns.getD c default).nullable (B + c)) (c := c) (by omega)
    rw [hsm] at hset
    rw [hset]
    exact gen_again hI2 (c + 1) g2' (by show T.columns.length - (c + 1) < T.columns.length - c; omega) (Weak.keepL (by simp [C20, tG, oG, hwc, ends]) (by simp [C20, oG, vS, vT, closedL_app, closedL, hcD, hcE, Nat.add_assoc, ends]) (by simp [C20, oG, ends]))
  have g2' : c = T.columns.length := by have := of_decide_eq_false g2; omega
  subst g2'
  clear hI2 I2
  have hp0 : T.primary.getD 0 default = 0 := by rw [hprim]; rfl
  have hpl : T.primary.length = 1 := by rw [hprim]; rfl
  have hk1 : IntKind.i64.wrap ((k : Int) + 1) = (k : Int) + 1 := wrap_eq (by omega) (by omega)
  simp only [hp0, hpl, hk1, Int.toNat_zero]
  refine ⟨by omega, ⟨⟨by omega, by omega⟩, hrc.symm⟩, ⟨hrc.symm, by omega, by omega⟩, ?_⟩
  have hset := set_rowAt (rowC xs T.columns B T.columns.length) ⟨1, (k : Int) + 1, ByteArray.empty⟩ (c := 0) (by omega)
  rw [rowC_end] at hset hrc ⊢
  simp only at hset
  rw [hset]
  have hR : rowG xs s out T B k = setF xs s out T (B + T.columns.length) ((row0 xs T.columns B T.columns.length).set 0 ⟨1, (k : Int) + 1, ByteArray.empty⟩) T.foreigns.length := rfl
  have hrl : ((row0 xs T.columns B T.columns.length).set 0 (⟨1, (k : Int) + 1, ByteArray.empty⟩ : Val)).length = T.columns.length := by rw [List.length_set, hrc]
  generalize (row0 xs T.columns B T.columns.length).set 0 (⟨1, (k : Int) + 1, ByteArray.empty⟩ : Val) = R at hR hrl ⊢
  refine loop_gen mixed ttok (fun f : Nat => G20 xs most s ord P Q i T N (tabG xs s out T (q + 1) k) (B + T.columns.length + f) k (setF xs s out T (B + T.columns.length) R f) f) (fun f => T.foreigns.length - f) (fun f => f ≤ T.foreigns.length) 0 (Nat.zero_le _) ?_ ?_
  · exact Weak.keepL (by simp [G20, tG, oG, ends]) (by simp [G20, oG, vS, vT, setF, closedL_app, closedL, hcD, hcE, ends]) (by simp [G20, oG, ends])
  intro I2 hI2 f hf
  have hsl2 := setF_len xs s out T (B + T.columns.length) R f
  rw [hrl] at hsl2
  simp -implicitDefEqProofs only [G20, tG, oG, vS, vT, get_at hD, take_at hD, drop_at hD, set_at hD, ↓steps, push_cast, simprocAttr, tte]
  refine bcase_intro (fun g2 => ?_) fun g2 => ?_
  · have g2' : f < T.foreigns.length := by have := of_decide_eq_true g2; omega
    have hwf := wrap_succ g2' (by omega)
    have hct1 := hct f g2'
    rw [hfd f g2'] at hct1
    obtain ⟨t1, t2, t3, t4, t5⟩ := htg f g2'
    have hlg : lenG s out (T.foreigns.getD f default) = (out.getD (targetN s (T.foreigns.getD f default)) default).length := rfl
    have hlp := hpos (by omega) f g2'
    have hl100 := hgood _ t1
    have hg1 := fun X : List A => hget X _ t1
    have hcol : (T.foreigns.getD f default).columns.getD 0 default = (colF T f : Int) := by rw [t2]; rfl
    have hcoll : (T.foreigns.getD f default).columns.length = 1 := by rw [t2]; rfl
    refine callq [[6], [], []] [] (hct1) ?_
    simp -implicitDefEqProofs only [hg1, tabC, hcol, hcoll, Int.toNat_natCast, ↓steps, push_cast, simprocAttr, tte]
    refine ⟨⟨by omega, by omega⟩, ⟨by omega, by omega⟩, ?_⟩
    rw [← hlg] at hl100 ⊢
    refine callq [[], []] [(1000, 1000)] (c_next (n := (lenG s out (T.foreigns.getD f default) : Int)) (p := B + T.columns.length + f) hx (by omega) (by omega) (by omega)) ?_
    have hdd := drawn_range xs (B + T.columns.length + f) (n := (lenG s out (T.foreigns.getD f default) : Int)) (by omega)
    have w9 : IntKind.i64.wrap (1 + drawn xs (B + T.columns.length + f) (lenG s out (T.foreigns.getD f default))) = 1 + drawn xs (B + T.columns.length + f) (lenG s out (T.foreigns.getD f default)) := wrap_eq (by omega) (by omega)
    simp -implicitDefEqProofs only [w9, hcol, Int.toNat_natCast, ↓steps, push_cast, simprocAttr, tte]
    refine ⟨⟨⟨by omega, by omega⟩, hsl2.symm⟩, ⟨hsl2.symm, by omega, by omega⟩, drawx_intro (by kernel_rfl), ?_⟩
    have hset := set_rowAt (setF xs s out T (B + T.columns.length) R f) ⟨1, 1 + drawn xs (B + T.columns.length + f) (lenG s out (T.foreigns.getD f default)), ByteArray.empty⟩ (c := colF T f) (by omega)
    simp only at hset
    rw [hset]
    have hnx : (setF xs s out T (B + T.columns.length) R f).set (colF T f) ⟨1, 1 + drawn xs (B + T.columns.length + f) (lenG s out (T.foreigns.getD f default)), ByteArray.empty⟩ = setF xs s out T (B + T.columns.length) R (f + 1) := rfl
    rw [hnx]
    exact gen_again hI2 (f + 1) g2' (by show T.foreigns.length - (f + 1) < T.foreigns.length - f; omega) (Weak.keepL (by simp [G20, tG, oG, hwf, ends]) (by simp [G20, oG, vS, vT, closedL_app, closedL, hcD, hcE, Nat.add_assoc, ends]) (by simp [G20, oG, ends]))
  have g2' : f = T.foreigns.length := by have := of_decide_eq_false g2; omega
  subst g2'
  clear hI2 I2
  rw [← hR] at hsl2 ⊢
  refine ⟨⟨by omega, by omega⟩, hsl2.symm, ⟨hrows.symm, by omega⟩, ⟨by omega, by omega⟩, by simp [hD], drawx_intro (by kernel_rfl), ?_⟩
  exact gen_again hJ (k + 1) gk' (by show N - (k + 1) < N - k; omega) (Weak.keepL (by simp [R20, tG, oG, hwk, hrows, ends]) (by simp [R20, oG, vS, vT, hts, hPn2, hrows, rowsOf, closedL_app, closedL, hcD, hcE, ends]) (by simp [R20, oG, ends]))
end Go.Proofs.YtodoeplhcmecjaaGreatDoor
namespace Go.Proofs.YtodoeplhcmecjaaGreatDoor
open Go.Am
attribute [local simp, local push_cast] num boo str ints aV aTab aInst aS aT aC aRow rRow rTab rC rB vT tapeO
set_option linter.unusedVariables false
set_option maxRecDepth 100000
set_option maxHeartbeats 4000000
/-! IntegrityGood. -/
theorem Weak.anyL {t : List (Nat × A)} {o : List (Nat × Ob)} (q i : Nat) {cs : List A} {c : A} (hq : lookO o q = some (.var cs)) (hi : cs[i]? = some c) : Weak (SL.mk t o).st (SL.mk t ((q, .var (cs.set i .any)) :: o)).st := by
  intro cx N a w ⟨β, h1, h2, h3, h4⟩
  obtain ⟨r1, L1⟩ := h1.recell (o := q) (i := i) (a := .any) hq hi (fun v _ => by simp [A.rep])
  simp only [SL.st] at r1 L1 h2 ⊢
  rw [lookO_put] at r1 L1
  exact ⟨β, r1, fun j => A.rep_le L1 _ _ (h2 j), h3, h4⟩
theorem c_plain0 {xs : List Int} (hx : TapeOk xs) :
    ACall Tryz.prog 19 [.ptr 1000 0] [(1000, .var [.d (.sl 1 (rowsOf rI xs)), .d (.lit (.int .i64 0))])] (aS (plainM xs 0).1) [(1000, tapeO xs (plainM xs 0).2)] :=
  c_mplain (p := 0) hx (by omega)
theorem plain_free (xs : List Int) : Plain9 (freeS (plainM xs 0).1) := by
  have h3 := drawn_range xs 0 (n := 3) (by omega)
  have key : ∀ n i, i < n → ∃ q, (ptabs xs 0 n).1.getD i default = { ptab0 xs i q with checks := ((ptabs xs 0 n).1.getD i default).checks } := by
    intro n
    induction n with
    | zero => intro i hi; omega
    | succ n ih =>
      intro i hi
      have hl := ptabs_len xs 0 n
      rw [ptabs]
      by_cases h : i < n
      · obtain ⟨q, hq⟩ := ih i h
        have e : ((ptabs xs 0 n).1 ++ [(ptab xs n (ptabs xs 0 n).2).1]).getD i default = (ptabs xs 0 n).1.getD i default := by
          simp only [List.getD_eq_getElem?_getD]
          rw [List.getElem?_append_left (by omega)]
        simp only [e]
        exact ⟨q, hq⟩
      · obtain rfl : i = n := by omega
        have e : ((ptabs xs 0 i).1 ++ [(ptab xs i (ptabs xs 0 i).2).1]).getD i default = (ptab xs i (ptabs xs 0 i).2).1 := by
          simp only [List.getD_eq_getElem?_getD]
          rw [List.getElem?_append_right (by omega), hl, Nat.sub_self]; rfl
        simp only [e]
        exact ⟨(ptabs xs 0 i).2, rfl⟩
  have hl := ptabs_len xs 0 (1 + drawn xs 0 3).toNat
  unfold plainM
  exact plain_of (by omega) (by omega) fun i hi => (key _ i (by omega)).imp fun q h => ⟨xs, h⟩
theorem plainM_q (xs : List Int) : (plainM xs 0).2 ≤ 1000 := by
  have h3 := drawn_range xs 0 (n := 3) (by omega)
  have := ptabs_q xs 0 (1 + drawn xs 0 3).toNat
  unfold plainM
  omega
theorem goodM_q (xs : List Int) {most : Int} (hm : 0 ≤ most) (hm2 : most ≤ 100) {s : Sch} (hs : Plain9 s) (p : Nat) : (goodM xs most s p).2 ≤ p + 3000 := by
  have := goodTo_q xs hm hm2 hs p s.length (Nat.le_refl _)
  have := hs.len
  unfold goodM
  omega
/-- What the program's second instance looks like. -/
theorem seen_copy {h2 : Nat → Option Ob} {i : Inst} {k m e fz : Nat} {tab : Tab2} (hk : k < i.length) (e1 : h2 801 = some (.var ((i.take k).map tabC ++ .vec 802 m :: (i.drop (k + 1)).map tabC))) (e2 : h2 802 = some (.vec e 1 (rowsOf rRow tab) fz)) (hm : m = tab.length) :
    Seen h2 (.vs 801 i.length) (.sl 1 (rowsOf rTab (i.set k tab))) := by
  have hx : rowsOf rTab (i.set k tab) = ((i.set k tab).map fun t => (.sl 1 (rowsOf rRow t) : D)).map fun x => [x] := by rw [List.map_map]; rfl
  have hcs : (i.take k).map tabC ++ .vec 802 m :: (i.drop (k + 1)).map tabC = (i.map tabC).set k (.vec 802 m) := by
    rw [List.set_eq_take_append_cons_drop, if_pos (by simpa using hk), List.map_take, List.map_drop]
  rw [hcs] at e1
  rw [hx]
  refine seen_vs e1 (by simp) (by simp) fun j c x hc hx => ?_
  rw [List.getElem?_set] at hc
  rw [List.getElem?_map, List.getElem?_set] at hx
  by_cases hjk : k = j
  · subst hjk
    rw [if_pos rfl, if_pos (by simpa using hk)] at hc
    rw [if_pos rfl, if_pos hk] at hx
    obtain rfl := Option.some.inj hc
    obtain rfl := Option.some.inj hx
    exact seen_vec e2 (by rw [rowsOf_length]; exact hm)
  · rw [if_neg hjk, List.getElem?_map] at hc
    rw [if_neg hjk] at hx
    cases hi : i[j]? with
    | none => rw [hi] at hc; cases hc
    | some t =>
      rw [hi] at hc hx
      obtain rfl := Option.some.inj hc
      obtain rfl := Option.some.inj hx
      exact seen_d _ _
theorem seen_args {h2 : Nat → Option Ob} {s : Sch} {i : Inst} {k m e fz : Nat} {tab : Tab2} (hk : k < i.length) (e1 : h2 801 = some (.var ((i.take k).map tabC ++ .vec 802 m :: (i.drop (k + 1)).map tabC))) (e2 : h2 802 = some (.vec e 1 (rowsOf rRow tab) fz)) (hm : m = tab.length) :
    SeenL h2 [aS s, .agg [.vs 801 i.length]] [aS s, aInst (i.set k tab)] :=
  seenL_agg (seenL_d (seen_d _ _) (seenL_nil _)) (seenL_agg (seenL_d (seen_copy hk e1 e2 hm) (seenL_nil _)) (seenL_nil _))
theorem small_set {i : Inst} {k : Nat} {t : Tab2} (hI : SmallI i) (h1 : t.length ≤ 1000) (h2 : ∀ r ∈ t, r.length ≤ 1000) : SmallI (i.set k t) := by
  obtain ⟨a1, a2, a3⟩ := hI
  refine ⟨by rw [List.length_set]; exact a1, fun u hu => ?_, fun u hu r hr => ?_⟩
  · rcases List.mem_or_eq_of_mem_set hu with h | rfl
    · exact a2 u h
    · exact h1
  · rcases List.mem_or_eq_of_mem_set hu with h | rfl
    · exact a3 u h r hr
    · exact h2 r hr
theorem set_tab0 {tab : Tab2} {row : Row} (h : 0 < tab.length) : (rowsOf rRow tab).set 0 (D.sl 3 (rowsOf rV row) :: List.drop 1 ((rowsOf rRow tab).getD 0 [])) = rowsOf rRow (tab.set 0 row) := by
  cases tab with
  | nil => simp at h
  | cons x l => simp [rowsOf, rRow]
def tK : List (Nat × A) := [(3, .ptr 13 0), (4, .ptr 4 0), (5, .ptr 5 0)]
def oK (l : List Int) (s : Sch) (i : Inst) (q : Nat) : List (Nat × Ob) := [(4, vS s), (5, vI i), (13, tapeO l q)]
def SK (l : List Int) (s : Sch) (i : Inst) (x : Nat × Nat) : SL := ⟨(6, .d (.lit (.int .i64 x.1))) :: tK, oK l s i x.2⟩
def FK (l : List Int) (s : Sch) (i : Inst) (k q f : Nat) : SL := ⟨(9, .d (.lit (.int .i64 f))) :: (8, .ptr 8 0) :: (6, .d (.lit (.int .i64 k))) :: tK, (8, .var [.any]) :: oK l s i q⟩
theorem c_lawG (l : List Int) (hx : TapeOk l) : ACall Tryz.prog 6 [ints l] [] (boo true) [] := by
  refine enterq mixed ttok Tryz.func6 Tryz.ntmps6 Tryz.results6 ?_
  generalize hr : boo true = R
  simp -implicitDefEqProofs only [argT, ↓steps, push_cast, simprocAttr, tte]
  refine callq [[]] [(1000, 13)] (c_plain0 hx) ?_
  have hq0 := plainM_q l
  have hs := plain_free l
  have hpl : (plainM l 0).1.length ≤ 1000 := by
    have := hs.len
    simp only [freeS, List.length_map] at this
    omega
  have hcf := c_free (plainM l 0).1 hpl
  generalize (plainM l 0).2 = q0 at hq0 ⊢
  simp -implicitDefEqProofs only [↓steps, push_cast, simprocAttr, tte]
  refine callq [[6]] [] (hcf) ?_
  generalize freeS (plainM l 0).1 = s at hs ⊢
  simp -implicitDefEqProofs only [↓steps, push_cast, simprocAttr, tte]
  refine callq [[], [6], []] [(1000, 13)] (c_good (most := 6) (p := q0) hx (by omega) (by omega) hs (by omega)) ?_
  have hq1 := goodM_q l (most := 6) (by omega) (by omega) hs q0
  have hG := good_good hs l (most := 6) (by omega) (by omega) q0
  generalize (goodM l 6 s q0).2 = q1 at hq1 ⊢
  generalize (goodM l 6 s q0).1 = i at hG ⊢
  have hI := good_small hs hG
  have hS := hs.small
  have hsl := hs.len
  have hil := hG.len
  have hv := c_validI s i hS hI
  rw [hG.valid hs] at hv
  simp -implicitDefEqProofs only [↓steps, push_cast, simprocAttr, tte]
  refine callq [[6], [1]] [] (hv) ?_
  simp -implicitDefEqProofs only [↓steps, push_cast, simprocAttr, tte]
  refine loop_gen mixed ttok (fun x : Nat × Nat => SK l s i x) (fun x => i.length - x.1) (fun x => x.1 ≤ i.length ∧ x.2 ≤ q1 + x.1) (0, q1) ⟨Nat.zero_le _, Nat.le_refl _⟩ ?_ ?_
  · exact Weak.keepL (by simp [SK, tK, oK, ends]) (by simp [SK, oK, vS, vI, ends]) (by simp [SK, oK, ends])
  rintro I hIk ⟨k, q⟩ ⟨hk, hq⟩
  simp only at hk hq
  simp -implicitDefEqProofs only [SK, tK, oK, vS, vI, ↓steps, push_cast, simprocAttr, tte]
  refine bcase_intro (fun h => ?_) fun h => ?_
  rotate_left
  · exact ret_d trivial hr (by simp [ends])
  have h' : k < i.length := by have := of_decide_eq_true h; omega
  have hw := wrap_succ h' (by omega)
  refine ⟨(by first | omega | trivial | (refine ⟨?_, ?_⟩ <;> first | omega | trivial | (refine ⟨?_, ?_⟩ <;> first | omega | trivial | (refine ⟨?_, ?_⟩ <;> first | omega | trivial | rfl)))), ?_⟩
  refine bcase_intro (fun h0 => ?_) fun h0 => ?_
  · exact gen_again hIk (k + 1, q) ⟨h', by simp only; omega⟩ (by show i.length - (k + 1) < i.length - k; omega) (Weak.keepL (by simp [SK, tK, oK, hw, ends]) (by simp [SK, oK, vS, vI, ends]) (by simp [SK, oK, ends]))
  have h0' : 0 < (i.getD k default).length := by have := beq_eq_false_iff_ne.1 h0; omega
  have htl := hI.tab _ (getD_mem h')
  refine ⟨(by first | omega | trivial | (refine ⟨?_, ?_⟩ <;> first | omega | trivial | (refine ⟨?_, ?_⟩ <;> first | omega | trivial | (refine ⟨?_, ?_⟩ <;> first | omega | trivial | rfl)))), (by first | omega | trivial | (refine ⟨?_, ?_⟩ <;> first | omega | trivial | (refine ⟨?_, ?_⟩ <;> first | omega | trivial | (refine ⟨?_, ?_⟩ <;> first | omega | trivial | rfl)))), ?_⟩
  refine callq [[], []] [(1000, 13)] (c_next (n := ((i.getD k default).length : Int)) (p := q) hx (by omega) (by omega) (by omega)) ?_
  have hd := drawn_range l q (n := ((i.getD k default).length : Int)) (by omega)
  simp -implicitDefEqProofs only [↓steps, push_cast, simprocAttr, tte]
  refine ⟨⟨by omega, by omega⟩, drawx_intro (by kernel_rfl), ?_⟩
  have h2 : k < s.length := by omega
  have hrow := getD_mem (show (drawn l q (i.getD k default).length).toNat < (i.getD k default).length by omega)
  have htw := hG.twice hs h2 hrow
  generalize (i.getD k default).getD (drawn l q (i.getD k default).length).toNat default = row at hrow htw ⊢
  have hcp := c_copied9 i k h' hI
  have hD : ((i.take k).map tabC).length = k := by rw [List.length_map, List.length_take]; omega
  have rD : ∀ r : Nat → Nat, renL r ((i.take k).map tabC) = (i.take k).map tabC := fun r => renL_tabs r _
  have rE : ∀ r : Nat → Nat, renL r ((i.drop (k + 1)).map tabC) = (i.drop (k + 1)).map tabC := fun r => renL_tabs r _
  have hsa := fun (h2 : Nat → Option Ob) (m e fz : Nat) (tab : Tab2) => seen_args (h2 := h2) (s := s) (m := m) (e := e) (fz := fz) (tab := tab) h'
  generalize (i.take k).map tabC = P at hcp hD rD hsa
  generalize (i.drop (k + 1)).map tabC = Q at hcp rE hsa
  refine callq [[1]] [(1000, 801), (1001, 802)] (hcp) ?_
  simp -implicitDefEqProofs only [renL_app, rD, rE, get_at hD, take_at hD, drop_at hD, set_at hD, ↓steps, push_cast, simprocAttr, tte]
  refine ⟨⟨by omega, by omega⟩, by omega, ⟨by omega, by omega⟩, by simp [hD], drawx_intro (by kernel_rfl), ?_⟩
  simp only [List.append_assoc, List.cons_append, List.nil_append]
  have hTok := hG.tab k h2
  have hfew := hTok.few
  have hrl : ∀ r ∈ i.getD k default, r.length ≤ 5 := fun r hr => by rw [(hTok.rows r hr).len]; exact (hs.more h2).2.2.2.1
  have hJ : SmallI (i.set k (i.getD k default ++ [row])) := small_set hI (by rw [List.length_append]; simp only [List.length_cons, List.length_nil]; omega) (fun r hr => by
    rcases List.mem_append.1 hr with h | h
    · have := hrl r h; omega
    · rw [List.mem_singleton.1 h]; have := hrl _ hrow; omega)
  have hv2 := c_validI s _ hS hJ
  rw [htw] at hv2
  have hap : rowsOf rRow (i.getD k default) ++ [[D.sl 3 (rowsOf rV row)]] = rowsOf rRow (i.getD k default ++ [row]) := by simp [rowsOf, rRow]
  rw [hap]
  refine callx_seen [801, 802] hv2 (fun h2 hh => hsa h2 _ _ _ _ ((hh 801 (by simp)).trans rfl) ((hh 802 (by simp)).trans rfl) (by simp)) ?_
  simp -implicitDefEqProofs only [↓steps, push_cast, simprocAttr, tte]
  refine loop_gen mixed ttok (fun f : Nat => FK l s i k (q + 1) f) (fun f => (s.getD k default).foreigns.length - f) (fun f => f ≤ (s.getD k default).foreigns.length) 0 (Nat.zero_le _) ?_ ?_
  · exact (Weak.anyL 8 0 rfl rfl).trans (Weak.keepL (by simp [FK, tK, oK, ends]) (by simp [FK, tK, oK, vS, vI, ends]) (by simp [FK, tK, oK, ends]))
  intro J hJk f hf
  simp -implicitDefEqProofs only [FK, tK, oK, vS, vI, ↓steps, push_cast, simprocAttr, tte]
  refine ⟨(by first | omega | trivial | (refine ⟨?_, ?_⟩ <;> first | omega | trivial | (refine ⟨?_, ?_⟩ <;> first | omega | trivial | (refine ⟨?_, ?_⟩ <;> first | omega | trivial | rfl)))), ?_⟩
  refine bcase_intro (fun g => ?_) fun g => ?_
  rotate_left
  · exact gen_again hIk (k + 1, q + 1) ⟨h', by simp only; omega⟩ (by show i.length - (k + 1) < i.length - k; omega) (Weak.keepL (by simp [SK, tK, oK, hw, ends]) (by simp [SK, oK, vS, vI, ends]) (by simp [SK, oK, ends]))
  have g' : f < (s.getD k default).foreigns.length := by have := of_decide_eq_true g; omega
  have hfl := (hs.more h2).2.2.2.2.1
  have hwf := wrap_succ g' (by omega)
  obtain ⟨t1, t2, t3, t4, t5⟩ := hs.target h2 g'
  have hlo := hG.lost hs h2 g' h0'
  have hcol : ((s.getD k default).foreigns.getD f default).columns.getD 0 default = (colF (s.getD k default) f : Int) := by rw [t2]; rfl
  have hcoll : ((s.getD k default).foreigns.getD f default).columns.length = 1 := by rw [t2]; rfl
  have hr0 := (hTok.rows _ (getD_mem h0')).len
  refine callq [[1]] [(1000, 801), (1001, 802)] (hcp) ?_
  simp -implicitDefEqProofs only [renL_app, rD, rE, get_at hD, take_at hD, drop_at hD, set_at hD, hcol, hcoll, Int.toNat_natCast, ↓steps, push_cast, simprocAttr, tte]
  have hr1 := hrl _ (getD_mem h0')
  have hset := set_rowAt ((i.getD k default).getD 0 default) (kV 999) (c := colF (s.getD k default) f) (by omega)
  simp only [kV] at hset
  have hst := set_tab0 (tab := i.getD k default) (row := ((i.getD k default).getD 0 default).set (colF (s.getD k default) f) (kV 999)) h0'
  simp only [kV] at hst
  rw [hset, hst]
  refine ⟨⟨by omega, by omega⟩, by omega, h0', by omega, ⟨by omega, by omega⟩, ⟨by omega, by omega⟩, ⟨by omega, by omega⟩, ⟨by omega, by omega⟩, ⟨by omega, by omega⟩, by omega, ⟨by rw [rowsOf_length, List.length_set], h0'⟩, ?_⟩
  have hJ2 : SmallI (i.set k ((i.getD k default).set 0 (((i.getD k default).getD 0 default).set (colF (s.getD k default) f) (kV 999)))) := small_set hI (by rw [List.length_set]; omega) (fun r hr => by
    rcases List.mem_or_eq_of_mem_set hr with h | rfl
    · have := hrl r h; omega
    · rw [List.length_set]; omega)
  have hv3 := c_validI s _ hS hJ2
  rw [hlo] at hv3
  refine callx_seen [801, 802] hv3 (fun h2 hh => hsa h2 _ _ _ _ ((hh 801 (by simp)).trans rfl) ((hh 802 (by simp)).trans rfl) (by rw [List.length_set])) ?_
  simp -implicitDefEqProofs only [↓steps, push_cast, simprocAttr, tte]
  exact gen_again hJk (f + 1) g' (by show (s.getD k default).foreigns.length - (f + 1) < (s.getD k default).foreigns.length - f; omega) ((Weak.anyL 8 0 rfl rfl).trans (Weak.keepL (by simp [FK, tK, oK, hwf, ends]) (by simp [FK, tK, oK, vS, vI, ends]) (by simp [FK, tK, oK, ends])))
end Go.Proofs.YtodoeplhcmecjaaGreatDoor
