/- Validity does not depend on the order of rows: a proof over an abstract machine of our own (part We) -/
import Derived.Test.YtodoeplhcmecjaaGreatDoorWd
set_option linter.all false
namespace Go.Proofs.YtodoeplhcmecjaaGreatDoor
open Go.Am
attribute [local simp, local push_cast] num boo str ints aV aTab aInst aS aT aC tapeO bq31 bq21 bq23
set_option linter.unusedVariables false
set_option maxRecDepth 100000
set_option maxHeartbeats 4000000
/-- How many numbers an expression takes at most. -/
def wE : Nat → Nat
  | 0 => 2
  | 1 => 2
  | d + 2 => 10 + 5 * wE (d + 1)
theorem pickE_le (xs types : List Int) (k : Int) (p : Nat) : (pickE xs types k p).2 ≤ p + 2 := by unfold pickE; split <;> simp
theorem stepM_le {xs types : List Int} {f : Int → Nat → Ex × Nat} {w : Nat} (hw : 2 ≤ w) (hf : ∀ k q, (f k q).2 ≤ q + w) (k : Int) (p : Nat) : (stepM xs types f k p).2 ≤ p + (10 + 5 * w) := by
  have h1 : ∀ x q, (twoM f x q).2 ≤ q + 2 * w := fun x q => by have := hf x q; have := hf x (f x q).2; simp only [twoM]; omega
  have h2 : ∀ x q, (oneM f x q).2 ≤ q + w := fun x q => by have := hf x q; simp only [oneM]; omega
  have h3 : ∀ x q, (threeM f x q).2 ≤ q + 3 * w := fun x q => by have := hf 2 q; have := hf x (f 2 q).2; have := hf x (f x (f 2 q).2).2; simp only [threeM]; omega
  have h4 : ∀ x q, (inE xs f x q).2 ≤ q + 1 + 4 * w := fun x q => by
    have a1 := h1 x q
    have a2 := moreM_le hf x ((twoM f x q).2 + 1) (drawn xs (twoM f x q).2 3).toNat
    have a3 := drawn_range xs (twoM f x q).2 (n := 3) (by omega)
    have a4 : (drawn xs (twoM f x q).2 3).toNat * w ≤ 2 * w := Nat.mul_le_mul_right _ (by omega)
    simp only [inE]; omega
  have h5 : ∀ x q, (boolE xs f x q).2 ≤ q + 2 + 4 * w := fun x q => by
    have b1 := h1 2 (q + 2); have b2 := h2 2 (q + 2); have b3 := h2 x (q + 1); have b4 := h4 x (q + 1); have b5 := h1 x (q + 2)
    unfold boolE; repeat' split
    all_goals simp only [mkE]; omega
  have c1 := pickE_le xs types k (p + 1)
  have c2 := h3 k (p + 2); have c3 := h1 k (p + 2); have c4 := h1 1 (p + 3); have c5 := h2 1 (p + 3); have c6 := h2 3 (p + 3); have c7 := h1 3 (p + 2); have c8 := h5 (1 + drawn xs (p + 2) 3) (p + 3)
  unfold stepM; repeat' split
  all_goals (try simp only [mkE]); omega
theorem wE_two : ∀ d, 2 ≤ wE d
  | 0 => by simp [wE]
  | 1 => by simp [wE]
  | d + 2 => by simp only [wE]; omega
theorem exprM_le (xs types : List Int) : ∀ (d : Nat) (k : Int) (p : Nat), (exprM xs types d k p).2 ≤ p + wE d
  | 0, k, p => pickE_le xs types k p
  | 1, k, p => pickE_le xs types k p
  | d + 2, k, p => stepM_le (wE_two _) (exprM_le xs types (d + 1)) k p
theorem c_mexpr {xs types : List Int} (hx : TapeOk xs) (ht : types.length ≤ 1000) : ∀ d : Nat, d ≤ 90 → CE xs types (d + 1 : Nat) (exprM xs types (d + 1)) (wE (d + 1))
  | 0, _ => by
    intro k p hk hp
    have hp : p + 2 ≤ 1000000000000000000 := hp
    refine enterq mixed ttok Tryz.func24 Tryz.ntmps24 Tryz.results24 ?_
    generalize hr : aE (exprM xs types 1 k p).1 = R
    generalize hr2 : tapeO xs (exprM xs types 1 k p).2 = R2
    have hD1 : decide (((0 + 1 : Nat) : Int) ≤ 1) = true := rfl
    have hD1' : decide ((0 + 1 : Int) ≤ 1) = true := rfl
    simp -implicitDefEqProofs only [argT, hD1, hD1', ↓steps, push_cast, simprocAttr, tte]
    refine callq [[], [1], []] [(1000, 1000)] (c_mpick (types := types) (k := k) (p := p) hx ht hk (by omega)) ?_
    simp -implicitDefEqProofs only [↓steps, push_cast, simprocAttr, tte]
    have hM : exprM xs types 1 k p = pickE xs types k p := rfl
    refine retx_of [0, 0, 0, 0, 0, 6] rfl (by simp) (by simp) ?_ (by first | simp [ends] | (subst_vars; simp [ends])) ?_ (by simp [ends])
    · rw [← hr, hM]; simp [aE_eq]
    · rw [← hr2, hM]; simp [ends]
  | d + 1, hd => by
    intro k p hk hp
    have ih := c_mexpr hx ht d (by omega)
    rw [show ((d + 1 : Nat) : Int) = ((d + 1 + 1 : Nat) : Int) - 1 from by omega] at ih
    have hp : p + (10 + 5 * wE (d + 1)) ≤ 1000000000000000000 := hp
    rcases hk with rfl | rfl | rfl
    · exact c_mexpr1 hx ht (by omega) (by omega) ih (exprM_le xs types (d + 1)) hp
    · exact c_mexpr2 hx ht (by omega) (by omega) ih (exprM_le xs types (d + 1)) hp
    · exact c_mexpr3 hx ht (by omega) (by omega) ih (exprM_le xs types (d + 1)) hp
end Go.Proofs.YtodoeplhcmecjaaGreatDoor
namespace Go.Proofs.YtodoeplhcmecjaaGreatDoor
open Go.Am
attribute [local simp, local push_cast] num boo str ints aV aTab aInst aS aT aC tapeO bq31 bq21 bq23 rIs typesOf
set_option linter.unusedVariables false
set_option maxRecDepth 100000
set_option maxHeartbeats 8000000
abbrev nT : ByteArray := ⟨#[116]⟩
abbrev nC : ByteArray := ⟨#[99]⟩
abbrev nF : ByteArray := ⟨#[102]⟩
abbrev nId : ByteArray := ⟨#[105, 100]⟩
def mcol (xs : List Int) (p c : Nat) : Col := ⟨nameOf nC c, 1 + drawn xs (p + 2 * c) 3, drawn xs (p + 2 * c + 1) 2 == 0⟩
def mcols (xs : List Int) (p c : Nat) : List Col := ⟨nId, 1, false⟩ :: (List.range c).map (mcol xs p)
theorem mcols_succ (xs : List Int) (p c : Nat) : mcols xs p (c + 1) = mcols xs p c ++ [mcol xs p c] := by simp [mcols, List.range_succ]
theorem mcols_len (xs : List Int) (p c : Nat) : (mcols xs p c).length = c + 1 := by simp [mcols]
def fcol (xs : List Int) (k q : Nat) : Col := ⟨nameOf nF k, 1, drawn xs (q + 1) 4 == 0⟩
def ffk (xs : List Int) (i : Nat) (cols : List Col) (q : Nat) : Fk := ⟨[(cols.length : Int)], nameOf nT (drawn xs (q + 2) i)⟩
def forM (xs : List Int) (i : Nat) : Nat → Nat → List Col → List Fk → Nat → List Col × List Fk × Nat
  | 0, _, cols, fs, q => (cols, fs, q)
  | m + 1, k, cols, fs, q =>
    if i = 0 then (cols, fs, q) else if drawn xs q 3 > 0 then forM xs i m (k + 1) (cols ++ [fcol xs k q]) (fs ++ [ffk xs i cols q]) (q + 3) else (cols, fs, q + 1)
def uniM (xs : List Int) (m : Int) (q : Nat) : List (List Int) × Nat := if drawn xs q 4 = 0 then ([[1 + drawn xs (q + 1) m]], q + 2) else ([], q + 1)
def chkM (xs : List Int) (cols : List Col) (q : Nat) : List Ex × Nat :=
  if drawn xs q 4 = 0 then ([(exprM xs (cols.map (·.type)) 3 2 (q + 1)).1], (exprM xs (cols.map (·.type)) 3 2 (q + 1)).2) else ([], q + 1)
def tblTail (xs : List Int) (i : Nat) (m : Int) (f : List Col × List Fk × Nat) : Tbl × Nat :=
  (⟨nameOf nT i, f.1, [0], (uniM xs m f.2.2).1, f.2.1, (chkM xs f.1 (uniM xs m f.2.2).2).1⟩, (chkM xs f.1 (uniM xs m f.2.2).2).2)
def tblM (xs : List Int) (i p : Nat) : Tbl × Nat :=
  tblTail xs i (1 + drawn xs p 3) (forM xs i 2 0 (mcols xs (p + 1) (1 + drawn xs p 3).toNat) [] (p + 1 + 2 * (1 + drawn xs p 3).toNat))
def mtabs (xs : List Int) (p : Nat) : Nat → List Tbl × Nat
  | 0 => ([], p + 1)
  | n + 1 => ((mtabs xs p n).1 ++ [(tblM xs n (mtabs xs p n).2).1], (tblM xs n (mtabs xs p n).2).2)
def schemaM (xs : List Int) (p : Nat) : List Tbl × Nat := mtabs xs p (1 + drawn xs p 3).toNat
theorem mtabs_len (xs : List Int) (p : Nat) : ∀ n, (mtabs xs p n).1.length = n
  | 0 => rfl
  | n + 1 => by simp [mtabs, mtabs_len xs p n]
/-- What is known of a table while its foreign keys are made. -/
structure ForOk (m k : Nat) (cols : List Col) (fs : List Fk) : Prop where
  c : cols.length ≤ m + 1 + k
  f : fs.length = k
theorem forM_q (xs : List Int) (i : Nat) : ∀ (n k : Nat) (cols : List Col) (fs : List Fk) (q : Nat), (forM xs i n k cols fs q).2.2 ≤ q + 3 * n
  | 0, _, _, _, q => by simp [forM]
  | n + 1, k, cols, fs, q => by
    simp only [forM]
    split
    · simp
    · split
      · have := forM_q xs i n (k + 1) (cols ++ [fcol xs k q]) (fs ++ [ffk xs i cols q]) (q + 3); omega
      · simp only; omega
theorem uniM_q (xs : List Int) (m : Int) (q : Nat) : (uniM xs m q).2 ≤ q + 2 := by unfold uniM; split <;> simp
theorem chkM_q (xs : List Int) (cols : List Col) (q : Nat) : (chkM xs cols q).2 ≤ q + 200 := by
  unfold chkM; split
  · have := exprM_le xs (cols.map (·.type)) 3 2 (q + 1); simp only [wE] at this; simp only; omega
  · simp
theorem tblM_q (xs : List Int) (i p : Nat) : (tblM xs i p).2 ≤ p + 300 := by
  have h3 := drawn_range xs p (n := 3) (by omega)
  have h1 := forM_q xs i 2 0 (mcols xs (p + 1) (1 + drawn xs p 3).toNat) [] (p + 1 + 2 * (1 + drawn xs p 3).toNat)
  unfold tblM
  generalize forM xs i 2 0 (mcols xs (p + 1) (1 + drawn xs p 3).toNat) [] (p + 1 + 2 * (1 + drawn xs p 3).toNat) = f at h1 ⊢
  simp only [tblTail]
  have h2 := uniM_q xs (1 + drawn xs p 3) f.2.2
  have h4 := chkM_q xs f.1 (uniM xs (1 + drawn xs p 3) f.2.2).2
  omega
theorem mtabs_q (xs : List Int) (p : Nat) : ∀ n, (mtabs xs p n).2 ≤ p + 1 + 300 * n
  | 0 => by simp [mtabs]
  | n + 1 => by have h1 := mtabs_q xs p n; have h2 := tblM_q xs n (mtabs xs p n).2; simp only [mtabs]; omega
/-- The head of the loop over tables. -/
def S8 (tabs : List Tbl) (n i q : Nat) (xs : List Int) : SL :=
  ⟨[(5, .d (.lit (.int .i64 i))), (4, .d (.lit (.int .i64 n))), (3, .ptr 3 0), (2, .ptr 2 0), (0, .ptr 1000 0)],
   [(3, .var [.vec 600 i]), (600, .vec 55 6 (rowsOf rT tabs) 0), (1000, tapeO xs q), (2, .var [.snil])]⟩
/-- The head of the loop over columns. -/
def S8c (tabs : List Tbl) (n i q m c : Nat) (cols : List Col) (xs : List Int) : SL :=
  ⟨[(8, .d (.lit (.int .i64 c))), (7, .d (.lit (.int .i64 m))), (6, .ptr 6 0), (5, .d (.lit (.int .i64 i))), (4, .d (.lit (.int .i64 n))), (3, .ptr 3 0), (2, .ptr 2 0), (0, .ptr 1000 0)],
   [(6, .var [.d (.lit (.string (nameOf nT i))), .vec 21 (c + 1), .vec 22 1, .snil, .snil, .snil]), (21, .vec 62 3 (rowsOf rC cols) 0), (22, .vec 3 1 (rowsOf rI [0]) 0),
    (3, .var [.vec 600 i]), (600, .vec 55 6 (rowsOf rT tabs) 0), (1000, tapeO xs q), (2, .var [.snil])]⟩
/-- The head of the loop over foreign keys. -/
def S8f (tabs : List Tbl) (n i m : Nat) (x : Nat × List Col × List Fk × Nat) (xs : List Int) : SL :=
  ⟨[(9, .d (.lit (.int .i64 x.1))), (7, .d (.lit (.int .i64 m))), (6, .ptr 6 0), (5, .d (.lit (.int .i64 i))), (4, .d (.lit (.int .i64 n))), (3, .ptr 3 0), (2, .ptr 2 0), (0, .ptr 1000 0)],
   [(6, .var [.d (.lit (.string (nameOf nT i))), .vec 21 x.2.1.length, .vec 22 1, .snil, .vec 700 x.2.2.1.length, .snil]), (21, .vec 62 3 (rowsOf rC x.2.1) 0), (22, .vec 3 1 (rowsOf rI [0]) 0),
    (700, .vec 59 2 (rowsOf rF x.2.2.1) 0), (3, .var [.vec 600 i]), (600, .vec 55 6 (rowsOf rT tabs) 0), (1000, tapeO xs x.2.2.2), (2, .var [.snil])]⟩
theorem c_mschema {xs : List Int} {p : Nat} (hx : TapeOk xs) (hp : p ≤ 100000000000000000) :
    ACall Tryz.prog 8 [.ptr 1000 0] [(1000, tapeO xs p)] (aS (schemaM xs p).1) [(1000, tapeO xs (schemaM xs p).2)] := by
  refine enterq mixed ttok Tryz.func8 Tryz.ntmps8 Tryz.results8 ?_
  generalize hr : aS (schemaM xs p).1 = R
  generalize hr2 : tapeO xs (schemaM xs p).2 = R2
  simp -implicitDefEqProofs only [argT, ↓steps, push_cast, simprocAttr, tte]
  refine callq [[], []] [(1000, 1000)] (c_next (n := 3) (p := p) hx (by omega) (by omega) (by omega)) ?_
  have h3 := drawn_range xs p (n := 3) (by omega)
  have w1 : IntKind.i64.wrap (1 + drawn xs p 3) = 1 + drawn xs p 3 := wrap_eq (by omega) (by omega)
  simp -implicitDefEqProofs only [w1, ↓steps, push_cast, simprocAttr, tte]
  obtain ⟨N, hN⟩ : ∃ N : Nat, 1 + drawn xs p 3 = N := ⟨(1 + drawn xs p 3).toNat, by omega⟩
  have hN3 : N ≤ 3 := by omega
  have hsch : schemaM xs p = mtabs xs p N := by rw [schemaM, hN, Int.toNat_natCast]
  rw [hN]
  clear w1
  refine loop_gen mixed ttok (fun i : Nat => S8 (mtabs xs p i).1 N i (mtabs xs p i).2 xs) (fun i => N - i) (fun i => i ≤ N) 0 (Nat.zero_le _) ?_ ?_
  · exact (Weak.nilCellL 3 0 600 55 6 rfl rfl rfl).trans (Weak.keepL (by simp [S8, mtabs, ends]) (by simp [S8, mtabs, rowsOf, ends]) (by simp [S8, ends]))
  intro I hI i hi
  have hq := mtabs_q xs p i
  have htl := mtabs_len xs p i
  have hsn : mtabs xs p (i + 1) = ((mtabs xs p i).1 ++ [(tblM xs i (mtabs xs p i).2).1], (tblM xs i (mtabs xs p i).2).2) := rfl
  simp -implicitDefEqProofs only [S8, ↓steps, push_cast, simprocAttr, tte]
  refine bcase_intro (fun k0 => ?_) fun k0 => ?_
  rotate_left
  · have k0' : i = N := by have := of_decide_eq_false k0; omega
    subst k0'
    refine retx_of [6] rfl (by trivial) (by simp [rowsOf_length, htl]) ?_ (by first | simp [ends] | (subst_vars; simp [ends])) ?_ (by simp [ends])
    · rw [← hr, hsch]; rfl
    · rw [← hr2, hsch]; simp [ends]
  have k0' : i < N := by have := of_decide_eq_true k0; omega
  have hwi := wrap_succ k0' (by omega)
  generalize hq0 : (mtabs xs p i).2 = q0 at hq hsn ⊢
  generalize (mtabs xs p i).1 = tabs at htl hsn ⊢
  refine callq [[], []] [] (c_mname nT (i : Int) (by decide)) ?_
  simp -implicitDefEqProofs only [↓steps, push_cast, simprocAttr, tte]
  refine callq [[], []] [(1000, 1000)] (c_next (n := 3) (p := q0) hx (by omega) (by omega) (by omega)) ?_
  have h4 := drawn_range xs q0 (n := 3) (by omega)
  have w1 : IntKind.i64.wrap (1 + drawn xs q0 3) = 1 + drawn xs q0 3 := wrap_eq (by omega) (by omega)
  simp -implicitDefEqProofs only [w1, ↓steps, push_cast, simprocAttr, tte]
  obtain ⟨M, hM⟩ : ∃ M : Nat, 1 + drawn xs q0 3 = M := ⟨(1 + drawn xs q0 3).toNat, by omega⟩
  have hM3 : M ≤ 3 := by omega
  have hM1 : 1 ≤ M := by omega
  have hT : tblM xs i q0 = tblTail xs i M (forM xs i 2 0 (mcols xs (q0 + 1) M) [] (q0 + 1 + 2 * M)) := by rw [tblM, hM, Int.toNat_natCast]
  rw [hM]
  clear w1
  refine loop_gen mixed ttok (fun c : Nat => S8c tabs N i (q0 + 1 + 2 * c) M c (mcols xs (q0 + 1) c) xs) (fun c => M - c) (fun c => c ≤ M) 0 (Nat.zero_le _) ?_ ?_
  · exact Weak.keepL (by simp [S8c, ends]) (by simp [S8c, mcols, rowsOf, rI, rC, nT, nId, ends]) (by simp [S8c, ends])
  intro J hJ c hc
  have hcl := mcols_len xs (q0 + 1) c
  have hcs := mcols_succ xs (q0 + 1) c
  simp -implicitDefEqProofs only [S8c, ↓steps, push_cast, simprocAttr, tte]
  refine bcase_intro (fun k1 => ?_) fun k1 => ?_
  · have k1' : c < M := by have := of_decide_eq_true k1; omega
    have hwc := wrap_succ k1' (by omega)
    refine callq [[], []] [] (c_mname nC (c : Int) (by decide)) ?_
    simp -implicitDefEqProofs only [↓steps, push_cast, simprocAttr, tte]
    refine callq [[], []] [(1000, 1000)] (c_next (n := 3) (p := q0 + 1 + 2 * c) hx (by omega) (by omega) (by omega)) ?_
    have h5 := drawn_range xs (q0 + 1 + 2 * c) (n := 3) (by omega)
    have w1 : IntKind.i64.wrap (1 + drawn xs (q0 + 1 + 2 * c) 3) = 1 + drawn xs (q0 + 1 + 2 * c) 3 := wrap_eq (by omega) (by omega)
    simp -implicitDefEqProofs only [w1, ↓steps, push_cast, simprocAttr, tte]
    refine callq [[], []] [(1000, 1000)] (c_next (n := 2) (p := q0 + 1 + 2 * c + 1) hx (by omega) (by omega) (by omega)) ?_
    simp -implicitDefEqProofs only [↓steps, push_cast, simprocAttr, tte]
    refine ⟨⟨by omega, by omega⟩, drawx_intro (by kernel_rfl), ?_⟩
    refine gen_again hJ (c + 1) k1' (by show M - (c + 1) < M - c; omega) (Weak.keepL (by simp [S8c, hwc, ends]) ?_ (by simp [S8c, ends]))
    simp [S8c, hcs, hcl, mcol, rowsOf_append, rowsOf_cons, rowsOf_nil, rC, show q0 + 1 + 2 * (c + 1) = q0 + 1 + 2 * c + 1 + 1 from by omega, ends]
  have k1' : c = M := by have := of_decide_eq_false k1; omega
  subst k1'
  clear hJ J
  refine loop_gen mixed ttok (fun x : Nat × List Col × List Fk × Nat => S8f tabs N i c x xs) (fun x => 2 - x.1)
    (fun x => x.1 ≤ 2 ∧ forM xs i (2 - x.1) x.1 x.2.1 x.2.2.1 x.2.2.2 = forM xs i 2 0 (mcols xs (q0 + 1) c) [] (q0 + 1 + 2 * c) ∧ x.2.1.length ≤ c + 1 + x.1 ∧ x.2.2.1.length ≤ x.1 ∧ x.2.2.2 ≤ q0 + 1 + 2 * c + 3 * x.1)
    (0, mcols xs (q0 + 1) c, [], q0 + 1 + 2 * c) ⟨by simp, rfl, by simp [hcl], by simp, by simp⟩ ?_ ?_
  · exact (Weak.nilCellL 6 4 700 59 2 rfl rfl rfl).trans (Weak.keepL (by simp [S8f, hcl, ends]) (by simp [S8f, hcl, rowsOf, ends]) (by simp [S8f, ends]))
  intro J hJ ⟨k, cols, fs, q⟩ ⟨hk2, hres, hcl2, hfl, hq2⟩
  simp only at hk2 hres hcl2 hfl hq2
  have hT2 := hT
  rw [← hres] at hT2
  have hE : ∀ q', forM xs i (2 - k) k cols fs q = (cols, fs, q') → tblM xs i q0 = tblTail xs i c (cols, fs, q') := fun q' h => by rw [hT2, h]
  by_cases e1 : k < 2
  · have d1 : decide ((k : Int) < 2) = true := decide_eq_true (by omega)
    have h2k : 2 - k = (2 - (k + 1)) + 1 := by omega
    by_cases e2 : 0 < i
    · have d2 : decide ((i : Int) > 0) = true := decide_eq_true (by omega)
      simp -implicitDefEqProofs only [S8f, d1, d2, ↓steps, push_cast, simprocAttr, tte]
      refine callq [[], []] [(1000, 1000)] (c_next (n := 3) (p := q) hx (by omega) (by omega) (by omega)) ?_
      simp -implicitDefEqProofs only [↓steps, push_cast, simprocAttr, tte]
      refine bcase_intro (fun g => ?_) fun g => ?_
      · have g' : drawn xs q 3 > 0 := of_decide_eq_true g
        have hstep : forM xs i (2 - k) k cols fs q = forM xs i (2 - (k + 1)) (k + 1) (cols ++ [fcol xs k q]) (fs ++ [ffk xs i cols q]) (q + 3) := by rw [h2k, forM, if_neg (by omega), if_pos g']
        have hwk := wrap_succ e1 (by omega)
        refine callq [[], []] [] (c_mname nF (k : Int) (by decide)) ?_
        simp -implicitDefEqProofs only [↓steps, push_cast, simprocAttr, tte]
        refine callq [[], []] [(1000, 1000)] (c_next (n := 4) (p := q + 1) hx (by omega) (by omega) (by omega)) ?_
        simp -implicitDefEqProofs only [↓steps, push_cast, simprocAttr, tte]
        refine ⟨by omega, drawx_intro (by kernel_rfl), ?_⟩
        refine ⟨by simp, ?_⟩
        have w1 : IntKind.i64.wrap (((cols.length : Int) + 1) - 1) = cols.length := by rw [wrap_eq (by omega) (by omega)]; omega
        refine callq [[], []] [(1000, 1000)] (c_next (n := (i : Int)) (p := q + 2) hx (by omega) (by omega) (by omega)) ?_
        have h6 := drawn_range xs (q + 2) (n := (i : Int)) (by omega)
        simp -implicitDefEqProofs only [w1, ↓steps, push_cast, simprocAttr, tte]
        refine callq [[], []] [] (c_mname nT (drawn xs (q + 2) i) (by decide)) ?_
        simp -implicitDefEqProofs only [↓steps, push_cast, simprocAttr, tte]
        refine ⟨by omega, drawx_intro (by kernel_rfl), ?_⟩
        refine gen_again hJ (k + 1, cols ++ [fcol xs k q], fs ++ [ffk xs i cols q], q + 3) ⟨by simp only; omega, by rw [← hres]; exact hstep.symm, by simp; omega, by simp; omega, by simp only; omega⟩ (by show 2 - (k + 1) < 2 - k; omega)
          (Weak.keepL (by simp [S8f, hwk, ends]) ?_ (by simp [S8f, ends]))
        simp [S8f, fcol, ffk, rowsOf, rC, rF, rI, w1, ends]
      · have hT' := hE (q + 1) (by rw [h2k, forM, if_neg (by omega), if_neg (of_decide_eq_false g)])
        have hq' : q + 1 ≤ q0 + 20 := by omega
        obtain ⟨q', hqq⟩ : ∃ q', q' = q + 1 := ⟨_, rfl⟩
        rw [← hqq] at hT' hq' ⊢
        have HE : CE xs (cols.map (·.type)) 3 (exprM xs (cols.map (·.type)) 3) (wE 3) := c_mexpr hx (by simp; omega) 2 (by omega)
        have hwE : wE 3 = 110 := rfl
        refine callq [[], []] [(1000, 1000)] (c_next (n := 4) (p := q') hx (by omega) (by omega) (by omega)) ?_
        simp -implicitDefEqProofs only [↓steps, push_cast, simprocAttr, tte]
        refine bcase_intro (fun u1 => ?_) fun u1 => ?_
        · have u1' : drawn xs q' 4 = 0 := by simpa using u1
          have hU : uniM xs c q' = ([[1 + drawn xs (q' + 1) c]], q' + 2) := by rw [uniM, if_pos u1']
          refine callq [[], []] [(1000, 1000)] (c_next (n := (c : Int)) (p := q' + 1) hx (by omega) (by omega) (by omega)) ?_
          have h7 := drawn_range xs (q' + 1) (n := (c : Int)) (by omega)
          have w7 : IntKind.i64.wrap (1 + drawn xs (q' + 1) c) = 1 + drawn xs (q' + 1) c := wrap_eq (by omega) (by omega)
          simp -implicitDefEqProofs only [w7, ↓steps, push_cast, simprocAttr, tte]
          refine ⟨drawx_intro (by kernel_rfl), ?_⟩
          refine callq [[], []] [(1000, 1000)] (c_next (n := 4) (p := q' + 2) hx (by omega) (by omega) (by omega)) ?_
          simp -implicitDefEqProofs only [↓steps, push_cast, simprocAttr, tte]
          refine bcase_intro (fun v1 => ?_) fun v1 => ?_
          · have v1' : drawn xs (q' + 2) 4 = 0 := by simpa using v1
            have hX : tblM xs i q0 = (⟨nameOf nT i, cols, [0], [[1 + drawn xs (q' + 1) c]], fs, [(exprM xs (cols.map (·.type)) 3 2 (q' + 2 + 1)).1]⟩, (exprM xs (cols.map (·.type)) 3 2 (q' + 2 + 1)).2) := by
              rw [hT', tblTail, hU]; simp only [chkM, if_pos v1']
            refine callq [[0, 3, 1, 1, 2, 6]] [] (c_rtypes ⟨nameOf nT i, cols, [0], [[1 + drawn xs (q' + 1) c]], fs, []⟩ (by show cols.length ≤ _; omega)) ?_
            simp -implicitDefEqProofs only [↓steps, push_cast, simprocAttr, tte]
            refine callq [[], [1], [], []] [(1000, 1000)] (HE 2 (q' + 2 + 1) (by decide) (by omega)) ?_
            simp -implicitDefEqProofs only [↓steps, push_cast, simprocAttr, tte]
            refine ⟨drawx_intro (by kernel_rfl), ?_⟩
            refine ⟨⟨htl.symm, by omega⟩, ?_⟩
            refine gen_again hI (i + 1) k0' (by show N - (i + 1) < N - i; omega) (Weak.keepL (by simp [S8, hwi, htl, ends]) ?_ (by simp [S8, ends]))
            simp [S8, hsn, hX, htl, rowsOf, rT, rIs, rI, rE_eq, ends]
          · have v1' : ¬ drawn xs (q' + 2) 4 = 0 := by simpa using v1
            have hX : tblM xs i q0 = (⟨nameOf nT i, cols, [0], [[1 + drawn xs (q' + 1) c]], fs, []⟩, q' + 2 + 1) := by
              rw [hT', tblTail, hU]; simp only [chkM, if_neg v1']
            refine ⟨⟨htl.symm, by omega⟩, ?_⟩
            refine gen_again hI (i + 1) k0' (by show N - (i + 1) < N - i; omega) (Weak.keepL (by simp [S8, hwi, htl, ends]) ?_ (by simp [S8, ends]))
            simp [S8, hsn, hX, htl, rowsOf, rT, rIs, rI, rE_eq, ends]
        · have u1' : ¬ drawn xs q' 4 = 0 := by simpa using u1
          have hU : uniM xs c q' = ([], q' + 1) := by rw [uniM, if_neg u1']
          refine callq [[], []] [(1000, 1000)] (c_next (n := 4) (p := q' + 1) hx (by omega) (by omega) (by omega)) ?_
          simp -implicitDefEqProofs only [↓steps, push_cast, simprocAttr, tte]
          refine bcase_intro (fun v1 => ?_) fun v1 => ?_
          · have v1' : drawn xs (q' + 1) 4 = 0 := by simpa using v1
            have hX : tblM xs i q0 = (⟨nameOf nT i, cols, [0], [], fs, [(exprM xs (cols.map (·.type)) 3 2 (q' + 1 + 1)).1]⟩, (exprM xs (cols.map (·.type)) 3 2 (q' + 1 + 1)).2) := by
              rw [hT', tblTail, hU]; simp only [chkM, if_pos v1']
            refine callq [[0, 3, 1, 1, 2, 6]] [] (c_rtypes ⟨nameOf nT i, cols, [0], [], fs, []⟩ (by show cols.length ≤ _; omega)) ?_
            simp -implicitDefEqProofs only [↓steps, push_cast, simprocAttr, tte]
            refine callq [[], [1], [], []] [(1000, 1000)] (HE 2 (q' + 1 + 1) (by decide) (by omega)) ?_
            simp -implicitDefEqProofs only [↓steps, push_cast, simprocAttr, tte]
            refine ⟨drawx_intro (by kernel_rfl), ?_⟩
            refine ⟨⟨htl.symm, by omega⟩, ?_⟩
            refine gen_again hI (i + 1) k0' (by show N - (i + 1) < N - i; omega) (Weak.keepL (by simp [S8, hwi, htl, ends]) ?_ (by simp [S8, ends]))
            simp [S8, hsn, hX, htl, rowsOf, rT, rIs, rI, rE_eq, ends]
          · have v1' : ¬ drawn xs (q' + 1) 4 = 0 := by simpa using v1
            have hX : tblM xs i q0 = (⟨nameOf nT i, cols, [0], [], fs, []⟩, q' + 1 + 1) := by
              rw [hT', tblTail, hU]; simp only [chkM, if_neg v1']
            refine ⟨⟨htl.symm, by omega⟩, ?_⟩
            refine gen_again hI (i + 1) k0' (by show N - (i + 1) < N - i; omega) (Weak.keepL (by simp [S8, hwi, htl, ends]) ?_ (by simp [S8, ends]))
            simp [S8, hsn, hX, htl, rowsOf, rT, rIs, rI, rE_eq, ends]
    · have d2 : decide ((i : Int) > 0) = false := decide_eq_false (by omega)
      simp -implicitDefEqProofs only [S8f, d1, d2, ↓steps, push_cast, simprocAttr, tte]
      have hT' := hE q (by rw [h2k, forM, if_pos (by omega)])
      have hq' : q ≤ q0 + 20 := by omega
      obtain ⟨q', hqq⟩ : ∃ q', q' = q := ⟨_, rfl⟩
      rw [← hqq] at hT' hq' ⊢
      have HE : CE xs (cols.map (·.type)) 3 (exprM xs (cols.map (·.type)) 3) (wE 3) := c_mexpr hx (by simp; omega) 2 (by omega)
      have hwE : wE 3 = 110 := rfl
      refine callq [[], []] [(1000, 1000)] (c_next (n := 4) (p := q') hx (by omega) (by omega) (by omega)) ?_
      simp -implicitDefEqProofs only [↓steps, push_cast, simprocAttr, tte]
      refine bcase_intro (fun u1 => ?_) fun u1 => ?_
      · have u1' : drawn xs q' 4 = 0 := by simpa using u1
        have hU : uniM xs c q' = ([[1 + drawn xs (q' + 1) c]], q' + 2) := by rw [uniM, if_pos u1']
        refine callq [[], []] [(1000, 1000)] (c_next (n := (c : Int)) (p := q' + 1) hx (by omega) (by omega) (by omega)) ?_
        have h7 := drawn_range xs (q' + 1) (n := (c : Int)) (by omega)
        have w7 : IntKind.i64.wrap (1 + drawn xs (q' + 1) c) = 1 + drawn xs (q' + 1) c := wrap_eq (by omega) (by omega)
        simp -implicitDefEqProofs only [w7, ↓steps, push_cast, simprocAttr, tte]
        refine ⟨drawx_intro (by kernel_rfl), ?_⟩
        refine callq [[], []] [(1000, 1000)] (c_next (n := 4) (p := q' + 2) hx (by omega) (by omega) (by omega)) ?_
        simp -implicitDefEqProofs only [↓steps, push_cast, simprocAttr, tte]
        refine bcase_intro (fun v1 => ?_) fun v1 => ?_
        · have v1' : drawn xs (q' + 2) 4 = 0 := by simpa using v1
          have hX : tblM xs i q0 = (⟨nameOf nT i, cols, [0], [[1 + drawn xs (q' + 1) c]], fs, [(exprM xs (cols.map (·.type)) 3 2 (q' + 2 + 1)).1]⟩, (exprM xs (cols.map (·.type)) 3 2 (q' + 2 + 1)).2) := by
            rw [hT', tblTail, hU]; simp only [chkM, if_pos v1']
          refine callq [[0, 3, 1, 1, 2, 6]] [] (c_rtypes ⟨nameOf nT i, cols, [0], [[1 + drawn xs (q' + 1) c]], fs, []⟩ (by show cols.length ≤ _; omega)) ?_
          simp -implicitDefEqProofs only [↓steps, push_cast, simprocAttr, tte]
          refine callq [[], [1], [], []] [(1000, 1000)] (HE 2 (q' + 2 + 1) (by decide) (by omega)) ?_
          simp -implicitDefEqProofs only [↓steps, push_cast, simprocAttr, tte]
          refine ⟨drawx_intro (by kernel_rfl), ?_⟩
          refine ⟨⟨htl.symm, by omega⟩, ?_⟩
          refine gen_again hI (i + 1) k0' (by show N - (i + 1) < N - i; omega) (Weak.keepL (by simp [S8, hwi, htl, ends]) ?_ (by simp [S8, ends]))
          simp [S8, hsn, hX, htl, rowsOf, rT, rIs, rI, rE_eq, ends]
        · have v1' : ¬ drawn xs (q' + 2) 4 = 0 := by simpa using v1
          have hX : tblM xs i q0 = (⟨nameOf nT i, cols, [0], [[1 + drawn xs (q' + 1) c]], fs, []⟩, q' + 2 + 1) := by
            rw [hT', tblTail, hU]; simp only [chkM, if_neg v1']
          refine ⟨⟨htl.symm, by omega⟩, ?_⟩
          refine gen_again hI (i + 1) k0' (by show N - (i + 1) < N - i; omega) (Weak.keepL (by simp [S8, hwi, htl, ends]) ?_ (by simp [S8, ends]))
          simp [S8, hsn, hX, htl, rowsOf, rT, rIs, rI, rE_eq, ends]
      · have u1' : ¬ drawn xs q' 4 = 0 := by simpa using u1
        have hU : uniM xs c q' = ([], q' + 1) := by rw [uniM, if_neg u1']
        refine callq [[], []] [(1000, 1000)] (c_next (n := 4) (p := q' + 1) hx (by omega) (by omega) (by omega)) ?_
        simp -implicitDefEqProofs only [↓steps, push_cast, simprocAttr, tte]
        refine bcase_intro (fun v1 => ?_) fun v1 => ?_
        · have v1' : drawn xs (q' + 1) 4 = 0 := by simpa using v1
          have hX : tblM xs i q0 = (⟨nameOf nT i, cols, [0], [], fs, [(exprM xs (cols.map (·.type)) 3 2 (q' + 1 + 1)).1]⟩, (exprM xs (cols.map (·.type)) 3 2 (q' + 1 + 1)).2) := by
            rw [hT', tblTail, hU]; simp only [chkM, if_pos v1']
          refine callq [[0, 3, 1, 1, 2, 6]] [] (c_rtypes ⟨nameOf nT i, cols, [0], [], fs, []⟩ (by show cols.length ≤ _; omega)) ?_
          simp -implicitDefEqProofs only [↓steps, push_cast, simprocAttr, tte]
          refine callq [[], [1], [], []] [(1000, 1000)] (HE 2 (q' + 1 + 1) (by decide) (by omega)) ?_
          simp -implicitDefEqProofs only [↓steps, push_cast, simprocAttr, tte]
          refine ⟨drawx_intro (by kernel_rfl), ?_⟩
          refine ⟨⟨htl.symm, by omega⟩, ?_⟩
          refine gen_again hI (i + 1) k0' (by show N - (i + 1) < N - i; omega) (Weak.keepL (by simp [S8, hwi, htl, ends]) ?_ (by simp [S8, ends]))
          simp [S8, hsn, hX, htl, rowsOf, rT, rIs, rI, rE_eq, ends]
        · have v1' : ¬ drawn xs (q' + 1) 4 = 0 := by simpa using v1
          have hX : tblM xs i q0 = (⟨nameOf nT i, cols, [0], [], fs, []⟩, q' + 1 + 1) := by
            rw [hT', tblTail, hU]; simp only [chkM, if_neg v1']
          refine ⟨⟨htl.symm, by omega⟩, ?_⟩
          refine gen_again hI (i + 1) k0' (by show N - (i + 1) < N - i; omega) (Weak.keepL (by simp [S8, hwi, htl, ends]) ?_ (by simp [S8, ends]))
          simp [S8, hsn, hX, htl, rowsOf, rT, rIs, rI, rE_eq, ends]
  · have d1 : decide ((k : Int) < 2) = false := decide_eq_false (by omega)
    simp -implicitDefEqProofs only [S8f, d1, ↓steps, push_cast, simprocAttr, tte]
    have hT' := hE q (by rw [show 2 - k = 0 from by omega, forM])
    have hq' : q ≤ q0 + 20 := by omega
    obtain ⟨q', hqq⟩ : ∃ q', q' = q := ⟨_, rfl⟩
    rw [← hqq] at hT' hq' ⊢
    have HE : CE xs (cols.map (·.type)) 3 (exprM xs (cols.map (·.type)) 3) (wE 3) := c_mexpr hx (by simp; omega) 2 (by omega)
    have hwE : wE 3 = 110 := rfl
    refine callq [[], []] [(1000, 1000)] (c_next (n := 4) (p := q') hx (by omega) (by omega) (by omega)) ?_
    simp -implicitDefEqProofs only [↓steps, push_cast, simprocAttr, tte]
    refine bcase_intro (fun u1 => ?_) fun u1 => ?_
    · have u1' : drawn xs q' 4 = 0 := by simpa using u1
      have hU : uniM xs c q' = ([[1 + drawn xs (q' + 1) c]], q' + 2) := by rw [uniM, if_pos u1']
      refine callq [[], []] [(1000, 1000)] (c_next (n := (c : Int)) (p := q' + 1) hx (by omega) (by omega) (by omega)) ?_
      have h7 := drawn_range xs (q' + 1) (n := (c : Int)) (by omega)
      have w7 : IntKind.i64.wrap (1 + drawn xs (q' + 1) c) = 1 + drawn xs (q' + 1) c := wrap_eq (by omega) (by omega)
      simp -implicitDefEqProofs only [w7, ↓steps, push_cast, simprocAttr, tte]
      refine ⟨drawx_intro (by kernel_rfl), ?_⟩
      refine callq [[], []] [(1000, 1000)] (c_next (n := 4) (p := q' + 2) hx (by omega) (by omega) (by omega)) ?_
      simp -implicitDefEqProofs only [↓steps, push_cast, simprocAttr, tte]
      refine bcase_intro (fun v1 => ?_) fun v1 => ?_
      · have v1' : drawn xs (q' + 2) 4 = 0 := by simpa using v1
        have hX : tblM xs i q0 = (⟨nameOf nT i, cols, [0], [[1 + drawn xs (q' + 1) c]], fs, [(exprM xs (cols.map (·.type)) 3 2 (q' + 2 + 1)).1]⟩, (exprM xs (cols.map (·.type)) 3 2 (q' + 2 + 1)).2) := by
          rw [hT', tblTail, hU]; simp only [chkM, if_pos v1']
        refine callq [[0, 3, 1, 1, 2, 6]] [] (c_rtypes ⟨nameOf nT i, cols, [0], [[1 + drawn xs (q' + 1) c]], fs, []⟩ (by show cols.length ≤ _; omega)) ?_
        simp -implicitDefEqProofs only [↓steps, push_cast, simprocAttr, tte]
        refine callq [[], [1], [], []] [(1000, 1000)] (HE 2 (q' + 2 + 1) (by decide) (by omega)) ?_
        simp -implicitDefEqProofs only [↓steps, push_cast, simprocAttr, tte]
        refine ⟨drawx_intro (by kernel_rfl), ?_⟩
        refine ⟨⟨htl.symm, by omega⟩, ?_⟩
        refine gen_again hI (i + 1) k0' (by show N - (i + 1) < N - i; omega) (Weak.keepL (by simp [S8, hwi, htl, ends]) ?_ (by simp [S8, ends]))
        simp [S8, hsn, hX, htl, rowsOf, rT, rIs, rI, rE_eq, ends]
      · have v1' : ¬ drawn xs (q' + 2) 4 = 0 := by simpa using v1
        have hX : tblM xs i q0 = (⟨nameOf nT i, cols, [0], [[1 + drawn xs (q' + 1) c]], fs, []⟩, q' + 2 + 1) := by
          rw [hT', tblTail, hU]; simp only [chkM, if_neg v1']
        refine ⟨⟨htl.symm, by omega⟩, ?_⟩
        refine gen_again hI (i + 1) k0' (by show N - (i + 1) < N - i; omega) (Weak.keepL (by simp [S8, hwi, htl, ends]) ?_ (by simp [S8, ends]))
        simp [S8, hsn, hX, htl, rowsOf, rT, rIs, rI, rE_eq, ends]
    · have u1' : ¬ drawn xs q' 4 = 0 := by simpa using u1
      have hU : uniM xs c q' = ([], q' + 1) := by rw [uniM, if_neg u1']
      refine callq [[], []] [(1000, 1000)] (c_next (n := 4) (p := q' + 1) hx (by omega) (by omega) (by omega)) ?_
      simp -implicitDefEqProofs only [↓steps, push_cast, simprocAttr, tte]
      refine bcase_intro (fun v1 => ?_) fun v1 => ?_
      · have v1' : drawn xs (q' + 1) 4 = 0 := by simpa using v1
        have hX : tblM xs i q0 = (⟨nameOf nT i, cols, [0], [], fs, [(exprM xs (cols.map (·.type)) 3 2 (q' + 1 + 1)).1]⟩, (exprM xs (cols.map (·.type)) 3 2 (q' + 1 + 1)).2) := by
          rw [hT', tblTail, hU]; simp only [chkM, if_pos v1']
        refine callq [[0, 3, 1, 1, 2, 6]] [] (c_rtypes ⟨nameOf nT i, cols, [0], [], fs, []⟩ (by show cols.length ≤ _; omega)) ?_
        simp -implicitDefEqProofs only [↓steps, push_cast, simprocAttr, tte]
        refine callq [[], [1], [], []] [(1000, 1000)] (HE 2 (q' + 1 + 1) (by decide) (by omega)) ?_
        simp -implicitDefEqProofs only [↓steps, push_cast, simprocAttr, tte]
        refine ⟨drawx_intro (by kernel_rfl), ?_⟩
        refine ⟨⟨htl.symm, by omega⟩, ?_⟩
        refine gen_again hI (i + 1) k0' (by show N - (i + 1) < N - i; omega) (Weak.keepL (by simp [S8, hwi, htl, ends]) ?_ (by simp [S8, ends]))
        simp [S8, hsn, hX, htl, rowsOf, rT, rIs, rI, rE_eq, ends]
      · have v1' : ¬ drawn xs (q' + 1) 4 = 0 := by simpa using v1
        have hX : tblM xs i q0 = (⟨nameOf nT i, cols, [0], [], fs, []⟩, q' + 1 + 1) := by
          rw [hT', tblTail, hU]; simp only [chkM, if_neg v1']
        refine ⟨⟨htl.symm, by omega⟩, ?_⟩
        refine gen_again hI (i + 1) k0' (by show N - (i + 1) < N - i; omega) (Weak.keepL (by simp [S8, hwi, htl, ends]) ?_ (by simp [S8, ends]))
        simp [S8, hsn, hX, htl, rowsOf, rT, rIs, rI, rE_eq, ends]
end Go.Proofs.YtodoeplhcmecjaaGreatDoor
