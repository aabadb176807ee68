/- Histories and their anomalies (part Wk) -/
import Derived.Test.YthknpcpddlaapaaWj
import Derived.Test.YthknpcpddlaapaaLe
set_option linter.all false
namespace Go.Proofs.Ythknpcpddlaapaa
open Go.Am
attribute [local simp, local push_cast] num boo str ints rEv aEv rTk aTk rEg aEg aH vEv vecI vecH rEv_snoc tapeO
set_option linter.unusedVariables false
set_option maxRecDepth 100000
set_option maxHeartbeats 4000000
/-! Made histories: the slices of writes, of each key. -/
def memE (wr : List (List Hv)) : List (List (List D)) := wr.map (rowsOf rEv)
theorem memE_len (wr : List (List Hv)) : (memE wr).length = wr.length := List.length_map ..
theorem memE_at {wr : List (List Hv)} {j : Nat} (h : j < wr.length) : (memE wr)[j]? = some (rowsOf rEv (wr.getD j [])) := by
  unfold memE
  rw [List.getElem?_map, List.getD_eq_getElem?_getD, List.getElem?_eq_getElem h]; rfl
theorem memE_set (wr : List (List Hv)) (j : Nat) (l : List Hv) : memE (wr.set j l) = (memE wr).set j (rowsOf rEv l) := by unfold memE; rw [List.map_set]
def wC (wr : List (List Hv)) : List A := vecsA 100000 (memE wr)
def wO (wr : List (List Hv)) : List (Nat × Ob) := vecsL 58 5 100000 (memE wr)
theorem wC_len (wr : List (List Hv)) : (wC wr).length = wr.length := by unfold wC; rw [vecsA_length, memE_len]
theorem wC_at {wr : List (List Hv)} {n : Nat} (h : n < wr.length) : (wC wr)[n]? = some (.vec (n + 100000) (wr.getD n []).length) := by
  unfold wC; rw [vecsA_get, memE_at h, Option.map_some, rowsOf_length]
theorem wC_set (wr : List (List Hv)) (n : Nat) (l : List Hv) : (wC wr).set n (.vec (n + 100000) l.length) = wC (wr.set n l) := by
  unfold wC
  rw [memE_set, ← vecsA_set, rowsOf_length]
theorem keepO_w {f : Nat → Option Ob} {dom : Nat → Bool} {wr : List (List Hv)} (h : ∀ n, n < wr.length → f (n + 100000) = some (.vec 58 5 (rowsOf rEv (wr.getD n [])) 0)) : keepO f dom (wO wr) :=
  keepO_vecs fun n r hn => by
    have hl := (List.getElem?_eq_some_iff.1 hn).1
    rw [memE_len] at hl
    rw [memE_at hl] at hn
    cases hn
    exact h n hl
theorem keepIn_w {dom : Nat → Bool} {wr : List (List Hv)} (h : wr.length ≤ 1000) : keepIn dom (wO wr) := keepIn_vecs fun n hn => .inl (hdd_own (by omega) (by rw [memE_len] at hn; omega))
theorem look_w {wr : List (List Hv)} {n : Nat} (h : n < wr.length) : lookO (wO wr) (n + 100000) = some (.vec 58 5 (rowsOf rEv (wr.getD n [])) 0) := lookO_vecs_at _ _ _ (memE_at h)
theorem look_w_lt (wr : List (List Hv)) {k : Nat} (h : k < 100000) : lookO (wO wr) k = none := lookO_vecs_lt _ _ _ h
theorem closed_w {dom : Nat → Bool} {wr : List (List Hv)} (h : ∀ n, n < wr.length → dom (n + 100000) = true) : closedL dom (wC wr) = true := closed_vecs fun n hn => h n (by rw [memE_len] at hn; exact hn)
theorem look_far {k n : Nat} {v : Ob} {l : List (Nat × Ob)} (h : k < 100000) : lookO ((k, v) :: l) (n + 100000) = lookO l (n + 100000) := lookO_cons_ne (by omega)
/-- Where the machine stands while a history is made. -/
def mO (xs start : List Int) (s : MS) : List (Nat × Ob) :=
  (3, .var [ints start, .vec 500 s.evs.length]) :: (500, vecH s.evs) :: (2, .var [.snil, .snil]) :: (23, vecI s.st) :: (27, .var (wC s.wr)) :: (1000, tapeO xs s.p) :: wO s.wr
def nN (xs : List Int) (p : Nat) : Nat := (1 + drawn xs p 4).toNat
def tN (xs : List Int) (p : Nat) : Nat := (4 + drawn xs p 21).toNat
theorem nN_range (xs : List Int) (p : Nat) : 1 ≤ nN xs p ∧ nN xs p ≤ 4 := by
  have := drawn_range xs p (n := 4) (by omega)
  unfold nN; omega
theorem tN_range (xs : List Int) (p : Nat) : 4 ≤ tN xs p ∧ tN xs p ≤ 24 := by
  have := drawn_range xs p (n := 21) (by omega)
  unfold tN; omega
def s0M (start : List Int) (n p : Nat) : MS := ⟨[], List.replicate n 0, List.replicate start.length [], p⟩
/-- Slots and objects of the first loop. -/
def tSt (xs start : List Int) (n K : Nat) (s : MS) (j : Nat) : SL :=
  ⟨[(7, .d (.lit (.int .i64 ((K : Int) - (j : Int))))), (6, .vs 27 start.length), (5, .vec 23 n), (4, num n), (3, .ptr 3 0), (2, .ptr 2 0), (0, .ptr 1000 0)], mO xs start (turnsS xs start n K s j)⟩
theorem closed_nils (dom : Nat → Bool) : ∀ n, closedL dom (List.replicate n .snil) = true
  | 0 => rfl
  | n + 1 => by rw [List.replicate_succ, closedL, closed_nils dom n]; rfl
theorem inv0 (start : List Int) (n p : Nat) (hn4 : n ≤ 4) : InvS start n (s0M start n p) := by
  refine ⟨⟨by omega, rfl, by simp [s0M], by simp [s0M], fun j hj => ?_, fun i _ _ x hx => absurd hx (by simp [s0M]), fun i hi h1 => ?_⟩, fun i hi => .inl ?_, fun x hx => absurd hx (by simp [s0M])⟩
  · simp [s0M, List.getD_eq_getElem?_getD, hj]
  · simp [s0M, List.getD_eq_getElem?_getD, hi] at h1
  · simp [s0M, List.getD_eq_getElem?_getD, hi]
theorem drawn_dr (xs : List Int) (p : Nat) {n : Nat} (h : 0 < n) : drawn xs p (n : Int) = (drN xs p n : Nat) := by
  have := drawn_range xs p (n := (n : Int)) (by omega)
  unfold drN
  have e : xs.getD p 0 % (n : Int) = drawn xs p n := rfl
  rw [e]; omega
/-- Objects within a turn. -/
def bO (xs start : List Int) (evs : List Hv) (st : List Int) (wr : List (List Hv)) (p : Nat) : List (Nat × Ob) :=
  (3, .var [ints start, .vec 500 evs.length]) :: (500, vecH evs) :: (2, .var [.snil, .snil]) :: (23, vecI st) :: (27, .var (wC wr)) :: (1000, tapeO xs p) :: wO wr
theorem st_set' {l : List Int} {i : Nat} (h : i < l.length) (x : Int) : (rowsOf rI l).set i (D.lit (.int .i64 x) :: ((rowsOf rI l)[i]?.getD []).tail) = rowsOf rI (l.set i x) := by
  have h1 := rowsOf_getD rI l i h
  rw [List.getD_eq_getElem?_getD] at h1
  rw [h1]
  exact rowsOf_set rI l i x
def madeSt (xs : List Int) : List Int := startL xs (0 + 1) (keysN xs 0)
def madeT (xs : List Int) : MS := turnsS xs (madeSt xs) (nN xs (0 + 1 + keysN xs 0)) (tN xs (0 + 1 + keysN xs 0 + 1)) (s0M (madeSt xs) (nN xs (0 + 1 + keysN xs 0)) (0 + 1 + keysN xs 0 + 1 + 1)) (tN xs (0 + 1 + keysN xs 0 + 1))
def madeH (xs : List Int) : MS := endsS xs (madeT xs) (nN xs (0 + 1 + keysN xs 0))
theorem ends_st (xs : List Int) (s : MS) : ∀ i, (endsS xs s i).st = s.st ∧ (endsS xs s i).evs.length ≤ s.evs.length + i
  | 0 => ⟨rfl, Nat.le_refl _⟩
  | i + 1 => by
    obtain ⟨h1, h2⟩ := ends_st xs s i
    rw [endsS]
    unfold endS
    split
    · exact ⟨h1, by rw [List.length_append]; simp; omega⟩
    · exact ⟨h1, by omega⟩
theorem c_made {xs : List Int} (hx : TapeF xs) : ACall Try.prog 12 [.ptr 1000 0] [(1000, tapeO xs 0)] (aH (madeSt xs) (madeH xs).evs) [(1000, tapeO xs (madeH xs).p)] := by
  refine enterq mixed ttok Try.func12 Try.ntmps12 Try.results12 ?_
  obtain ⟨R, hR⟩ : ∃ R, R = aH (madeSt xs) (madeH xs).evs := ⟨_, rfl⟩
  obtain ⟨PE, hPE⟩ : ∃ PE, PE = (madeH xs).p := ⟨_, rfl⟩
  rw [← hR, ← hPE]
  unfold madeH madeT madeSt at hR hPE
  have hk := keysN_range xs 0
  simp -implicitDefEqProofs only [argT, ↓steps, push_cast, simprocAttr, tte]
  refine callq [[]] [(1000, 1000)] (c_start (p := 0) hx) ?_
  simp -implicitDefEqProofs only [↓steps, push_cast, simprocAttr, tte]
  have hsl := startL_len xs (0 + 1) (keysN xs 0)
  generalize hst : startL xs (0 + 1) (keysN xs 0) = start at hsl hR hPE ⊢
  generalize hKK : keysN xs 0 = K at hk hsl hR hPE ⊢
  have hra := c_range (xs := xs) (lo := 1) (hi := 4) (p := 0 + 1 + K) hx (by omega) (by omega) (by omega)
  have hn := nN_range xs (0 + 1 + K)
  have hnn : 1 + drawn xs (0 + 1 + K) (4 - 1 + 1) = (nN xs (0 + 1 + K) : Int) := by
    have := drawn_range xs (0 + 1 + K) (n := 4) (by omega)
    show 1 + drawn xs (0 + 1 + K) 4 = _
    unfold nN; omega
  rw [hnn] at hra
  refine callq [[], [], []] [(1000, 1000)] (hra) ?_
  simp -implicitDefEqProofs only [↓steps, push_cast, simprocAttr, tte]
  have ht := tN_range xs (0 + 1 + K + 1)
  have htt : 4 + drawn xs (0 + 1 + K + 1) (24 - 4 + 1) = (tN xs (0 + 1 + K + 1) : Int) := by
    have := drawn_range xs (0 + 1 + K + 1) (n := 21) (by omega)
    show 4 + drawn xs (0 + 1 + K + 1) 21 = _
    unfold tN; omega
  generalize nN xs (0 + 1 + K) = n at hn hR hPE ⊢
  refine ⟨⟨by omega, by omega, by omega⟩, ⟨by omega, by omega⟩, ?_⟩
  have hrb := c_range (xs := xs) (lo := 4) (hi := 24) (p := 0 + 1 + K + 1) hx (by omega) (by omega) (by omega)
  rw [htt] at hrb
  refine callq [[], [], []] [(1000, 1000)] (hrb) ?_
  simp -implicitDefEqProofs only [↓steps, push_cast, simprocAttr, tte]
  generalize tN xs (0 + 1 + K + 1) = T at ht hR hPE ⊢
  refine loop_genX (tSt xs start n T (s0M start n (0 + 1 + K + 1 + 1))) (fun j => T - j) (fun j => j ≤ T) 0 (Nat.zero_le _) ?_ ?_
  · have hrep : List.replicate n [D.lit (.int .i64 0)] = rowsOf rI (List.replicate n 0) := by simp [rowsOf, rI]
    rw [← hsl] at hk
    have hw0 : Weak (SL.mk [(7, .d (.lit (.int .i64 (T : Int)))), (6, .vs 27 start.length), (5, .vec 23 n), (4, num n), (3, .ptr 3 0), (2, .ptr 2 0), (0, .ptr 1000 0)] [(3, .var [ints start, .snil]), (2, .var [.snil, .snil]), (23, vecI (List.replicate n 0)), (27, .var (List.replicate start.length .snil)), (1000, tapeO xs (0 + 1 + K + 1 + 1))]).st (tSt xs start n T (s0M start n (0 + 1 + K + 1 + 1)) 0).st := by
      refine (Weak.nilCellL 3 1 500 58 5 rfl rfl rfl).trans ?_
      have e0 : turnsS xs start n T (s0M start n (0 + 1 + K + 1 + 1)) 0 = s0M start n (0 + 1 + K + 1 + 1) := rfl
      unfold tSt
      rw [e0]
      have hS : start.length = 1 ∨ start.length = 2 ∨ start.length = 3 := by omega
      unfold s0M mO wC wO
      rcases hS with h | h | h
      · rw [h]
        refine (Weak.nilCellL 27 0 100000 58 5 rfl rfl rfl).trans ?_
        exact Weak.keepL (by simp [ends]) (by simp [memE, vecsA, vecsL, rowsOf, ends]) (by simp [memE, vecsL, ends])
      · rw [h]
        refine (Weak.nilCellL 27 0 100000 58 5 rfl rfl rfl).trans ((Weak.nilCellL 27 1 100001 58 5 rfl rfl rfl).trans ?_)
        exact Weak.keepL (by simp [ends]) (by simp [memE, vecsA, vecsL, rowsOf, ends]) (by simp [memE, vecsL, ends])
      · rw [h]
        refine (Weak.nilCellL 27 0 100000 58 5 rfl rfl rfl).trans ((Weak.nilCellL 27 1 100001 58 5 rfl rfl rfl).trans ((Weak.nilCellL 27 2 100002 58 5 rfl rfl rfl).trans ?_))
        exact Weak.keepL (by simp [ends]) (by simp [memE, vecsA, vecsL, rowsOf, ends]) (by simp [memE, vecsL, ends])
    refine Weak.trans ?_ hw0
    exact Weak.keepL (by simp [ends]) (by simp [hrep, closed_nils, ends]) (by simp [ends])
  intro I hI j hj
  have hinv0 := inv0 start n (0 + 1 + K + 1 + 1) hn.2
  obtain ⟨hinv, hel⟩ := turns_inv (xs := xs) (K := T) hinv0 (by omega) (by omega) j
  have hts : turnsS xs start n T (s0M start n (0 + 1 + K + 1 + 1)) (j + 1) = turnS xs start n (T - j) (turnsS xs start n T (s0M start n (0 + 1 + K + 1 + 1)) j) := rfl
  have he0 : (s0M start n (0 + 1 + K + 1 + 1)).evs.length = 0 := rfl
  rw [he0] at hel
  unfold tSt mO at hI ⊢
  have hjT : j = T → turnsS xs start n T (s0M start n (0 + 1 + K + 1 + 1)) T = turnsS xs start n T (s0M start n (0 + 1 + K + 1 + 1)) j := fun e => by rw [e]
  generalize turnsS xs start n T (s0M start n (0 + 1 + K + 1 + 1)) j = s at hinv hel hts hjT ⊢
  have hlk : ∀ k, k < 100000 → lookO (wO s.wr) k = none := fun k h => look_w_lt s.wr h
  refine codx_step mixed ttok ?_
  simp -implicitDefEqProofs only [hlk, ↓steps, push_cast, simprocAttr, tte]
  refine bcase_intro (fun h => codx_in (codx_block ?_)) fun h => ?_
  · simp only [decide_eq_true_eq] at h
    have hj' : j < T := by omega
    have hstl := hinv.inv.stl
    have hwrl := hinv.inv.wrl
    have hi := drN_lt xs s.p (n := n) (by omega)
    have hkey := drN_lt xs (s.p + 1) (n := start.length) (by omega)
    have hturn : turnS xs start n (T - j) s = if s.st.getD (drN xs s.p n) 0 = 2 then { s with p := s.p + 2 } else actS xs start (T - j) (drN xs s.p n) (drN xs (s.p + 1) start.length) { begunS s (drN xs s.p n) with p := s.p + 2 } := rfl
    have hN1 := c_N (xs := xs) (n := (n : Int)) (p := s.p) hx (by omega) (by omega)
    rw [drawn_dr xs s.p (by omega)] at hN1
    have hN2 := c_N (xs := xs) (n := (start.length : Int)) (p := s.p + 1) hx (by omega) (by omega)
    rw [drawn_dr xs (s.p + 1) (by omega)] at hN2
    generalize drN xs s.p n = i at hi hturn hN1 ⊢
    generalize drN xs (s.p + 1) start.length = key at hkey hturn hN2 ⊢
    have hwT : IntKind.i64.wrap ((T : Int) - (j : Int) - 1) = (T : Int) - ((j + 1 : Nat) : Int) := by rw [wrap_eq (by omega) (by omega)]; omega
    have hd : (default : Int) = 0 := rfl
    refine codx_step mixed ttok ?_
    simp -implicitDefEqProofs only [hlk, ↓steps, push_cast, simprocAttr, tte]
    refine callq [[], []] [(1000, 1000)] (hN1) ?_
    simp -implicitDefEqProofs only [hlk, ↓steps, push_cast, simprocAttr, tte]
    refine callq [[], []] [(1000, 1000)] (hN2) ?_
    simp -implicitDefEqProofs only [hlk, ↓steps, push_cast, simprocAttr, tte]
    refine ⟨drawx_intro (by kernel_rfl), ?_⟩
    refine codx_step mixed ttok ?_
    simp -implicitDefEqProofs only [hlk, rI, hd, ↓steps, push_cast, simprocAttr, tte]
    refine ⟨⟨⟨by omega, by omega⟩, by omega⟩, by omega, by omega, bcase_intro (fun a => ?_) fun a => ?_⟩
    · have a' : s.st.getD i 0 = 2 := by simpa using a
      rw [if_pos a'] at hturn
      have hts2 := hts.trans hturn
      refine codx_of mixed ttok ?_
      simp -implicitDefEqProofs only [hlk, ↓steps, push_cast, simprocAttr, tte]
      exact gen_again hI (j + 1) hj' (by show T - (j + 1) < T - j; omega) (Weak.keepL (by simp [hwT, ends]) (by simp [hts2, ends]; exact ⟨closed_w fun n hn => by unfold inO; simp [look_far, look_w hn], keepO_w fun n hn => by simp [look_far, look_w hn]⟩) (by simp [ends]; exact keepIn_w (by omega)))
    have a' : ¬ s.st.getD i 0 = 2 := by simpa using a
    rw [if_neg a'] at hturn
    have hbg : begunS s i = if s.st.getD i 0 = 0 then { s with evs := s.evs ++ [⟨5, i, 0, 0, 0⟩], st := s.st.set i 1 } else s := rfl
    have hbw : (begunS s i).wr = s.wr := by unfold begunS; split <;> rfl
    have hbp : (begunS s i).p = s.p := by unfold begunS; split <;> rfl
    have hbi := begun_inv hinv hi a'
    refine codx_cut mixed ttok (⟨[(9, .d (.lit (.int .i64 key))), (8, .d (.lit (.int .i64 i))), (7, .d (.lit (.int .i64 ((T : Int) - (j : Int))))), (6, .vs 27 start.length), (5, .vec 23 n), (4, num n), (3, .ptr 3 0), (2, .ptr 2 0), (0, .ptr 1000 0)], bO xs start (begunS s i).evs (begunS s i).st s.wr (s.p + 2)⟩ : SL) ?_ ?_
    · simp -implicitDefEqProofs only [hlk, rI, hd, ↓steps, push_cast, simprocAttr, tte]
      refine ⟨⟨⟨by omega, by omega⟩, by omega⟩, by omega, by omega, bcase_intro (fun b => ⟨⟨⟨by omega, by omega⟩, by omega⟩, ⟨by omega, by omega, by omega⟩, by omega, ?_⟩) fun b => ?_⟩
      · have b' : s.st.getD i 0 = 0 := by simpa using b
        rw [if_pos b'] at hbg
        have hset := st_set' (l := s.st) (i := i) (by omega) 1
        unfold bO
        rw [hbg]
        exact Weak.keepL (by simp [ends]) (by simp [hset, ends]; exact ⟨closed_w fun n hn => by unfold inO; simp [look_far, look_w hn], keepO_w fun n hn => by simp [look_far, look_w hn]⟩) (by simp [ends]; exact keepIn_w (by omega))
      · have b' : ¬ s.st.getD i 0 = 0 := by simpa using b
        rw [if_neg b'] at hbg
        unfold bO
        rw [hbg]
        exact Weak.keepL (by simp [ends]) (by simp [ends]; exact ⟨closed_w fun n hn => by unfold inO; simp [look_far, look_w hn], keepO_w fun n hn => by simp [look_far, look_w hn]⟩) (by simp [ends]; exact keepIn_w (by omega))
    unfold bO
    generalize hB : begunS s i = B at hturn hbw hbp hbi ⊢
    rw [← hbw] at hlk ⊢
    have hbl : B.wr.length = start.length := by rw [hbw]; exact hwrl
    have hBs := hbi.1.inv.stl
    have hBe := hbi.2.2
    have hact : turnS xs start n (T - j) s = actS xs start (T - j) i key { B with p := s.p + 2 } := hturn
    unfold actS at hact
    simp only at hact
    have hN3 := c_N (xs := xs) (n := 6) (p := s.p + 2) hx (by omega) (by omega)
    have hd6 : drawn xs (s.p + 2) 6 = (drN xs (s.p + 2) 6 : Nat) := drawn_dr (n := 6) xs (s.p + 2) (by omega)
    have hd5 := drN_lt xs (s.p + 2) (n := 6) (by omega)
    rw [hd6] at hN3
    generalize drN xs (s.p + 2) 6 = d at hact hN3 hd5
    generalize s.p + 2 = q at hact hN3 ⊢
    refine codx_step mixed ttok ?_
    simp -implicitDefEqProofs only [hlk, ↓steps, push_cast, simprocAttr, tte]
    refine callq [[], []] [(1000, 1000)] (hN3) ?_
    simp -implicitDefEqProofs only [hlk, ↓steps, push_cast, simprocAttr, tte]
    refine codx_block ?_
    have hkw : B.wr.getD key [] = B.evs.filter (wrKey key) := hbi.1.inv.wrs key hkey
    have hkl : (B.wr.getD key []).length ≤ B.evs.length := by rw [hkw]; exact List.length_filter_le _ _
    have hwat := wC_at (wr := B.wr) (n := key) (by omega)
    have hlw := look_w (wr := B.wr) (n := key) (by omega)
    have hwl := wC_len B.wr
    refine codx_cut mixed ttok (⟨[(77, boo (decide (d ≤ 1))), (63, .d (.lit (.int .i64 d))), (9, .d (.lit (.int .i64 key))), (8, .d (.lit (.int .i64 i))), (7, .d (.lit (.int .i64 ((T : Int) - (j : Int))))), (6, .vs 27 start.length), (5, .vec 23 n), (4, num n), (3, .ptr 3 0), (2, .ptr 2 0), (0, .ptr 1000 0)], bO xs start B.evs B.st B.wr (q + 1)⟩ : SL) ?_ ?_
    · simp -implicitDefEqProofs only [hlk, ↓steps, push_cast, simprocAttr, tte]
      unfold bO
      refine bcase_intro (fun z => ?_) fun z => ?_
      · have e : decide (d ≤ 1) = true := decide_eq_true (by simp at z; omega)
        exact Weak.keepL (by simp [e, z, ends]) (by simp [ends]; exact ⟨closed_w fun n hn => by unfold inO; simp [look_far, look_w hn], keepO_w fun n hn => by simp [look_far, look_w hn]⟩) (by simp [ends]; exact keepIn_w (by omega))
      · have e : ((d : Int) == 1) = decide (d ≤ 1) := by rw [Bool.eq_iff_iff, beq_iff_eq, decide_eq_true_eq]; simp at z; omega
        exact Weak.keepL (by simp [e, ends]) (by simp [ends]; exact ⟨closed_w fun n hn => by unfold inO; simp [look_far, look_w hn], keepO_w fun n hn => by simp [look_far, look_w hn]⟩) (by simp [ends]; exact keepIn_w (by omega))
    unfold bO
    refine codx_cond (v := decide (d ≤ 1)) rfl (fun hd1 => ?_) (fun hd1 => ?_)
    · have hd1 : d ≤ 1 := by simpa using hd1
      rw [if_pos hd1] at hact
      refine codx_step mixed ttok ?_
      simp -implicitDefEqProofs only [hlk, rI, hd, ↓steps, push_cast, simprocAttr, tte]
      refine ⟨⟨by omega, by omega⟩, ?_⟩
      have hra : readA xs start (B.wr.getD key []) key (q + 1) = if 0 < (B.wr.getD key []).length then ((((B.wr.getD key []).getD (drN xs (q + 1) (B.wr.getD key []).length) default).value, ((B.wr.getD key []).getD (drN xs (q + 1) (B.wr.getD key []).length) default).tx), q + 2) else ((start.getD key 0, -1), q + 1) := rfl
      generalize hA : readA xs start (B.wr.getD key []) key (q + 1) = RA at hra hact
      refine codx_cut mixed ttok (⟨[(10, .ptr 10 0), (9, .d (.lit (.int .i64 key))), (8, .d (.lit (.int .i64 i))), (7, .d (.lit (.int .i64 ((T : Int) - (j : Int))))), (6, .vs 27 start.length), (5, .vec 23 n), (4, num n), (3, .ptr 3 0), (2, .ptr 2 0), (0, .ptr 1000 0)], (10, .var [num 1, num i, num key, num RA.1.1, num RA.1.2]) :: bO xs start B.evs B.st B.wr RA.2⟩ : SL) ?_ ?_
      · simp -implicitDefEqProofs only [hlk, hwat, ↓steps, push_cast, simprocAttr, tte]
        simp -implicitDefEqProofs only [hlk, hlw, ↓steps, push_cast, simprocAttr, tte]
        refine ⟨⟨by omega, by omega⟩, bcase_intro (fun z => ?_) fun z => ?_⟩
        · have hz : 0 < (B.wr.getD key []).length := by have := of_decide_eq_true z; omega
          rw [if_pos hz] at hra
          have hN4 := c_N (xs := xs) (n := ((B.wr.getD key []).length : Int)) (p := q + 1) hx (by omega) (by omega)
          rw [drawn_dr xs (q + 1) hz] at hN4
          have hdl := drN_lt xs (q + 1) hz
          generalize drN xs (q + 1) (B.wr.getD key []).length = z4 at hra hN4 hdl ⊢
          refine callq [[], []] [(1000, 1000)] (hN4) ?_
          simp -implicitDefEqProofs only [hlk, hlw, ↓steps, push_cast, simprocAttr, tte]
          refine ⟨⟨by omega, by omega⟩, by omega, drawx_intro (by kernel_rfl), ?_⟩
          rw [hra]
          unfold bO
          exact Weak.keepL (by simp [ends]) (by simp [ends]; exact ⟨closed_w fun n hn => by unfold inO; simp [look_far, look_w hn], keepO_w fun n hn => by simp [look_far, look_w hn]⟩) (by simp [ends]; exact keepIn_w (by omega))
        · have hz : ¬ 0 < (B.wr.getD key []).length := by have := of_decide_eq_false z; omega
          rw [if_neg hz] at hra
          rw [hra]
          unfold bO
          refine Weak.keepL (by simp [ends]) (by simp [ends]; exact ⟨closed_w fun n hn => by unfold inO; simp [look_far, look_w hn], keepO_w fun n hn => by simp [look_far, look_w hn]⟩) (by simp [ends]; exact keepIn_w (by omega))
      · unfold bO
        refine codx_of mixed ttok ?_
        simp -implicitDefEqProofs only [hlk, hwat, ↓steps, push_cast, simprocAttr, tte]
        simp -implicitDefEqProofs only [hlk, hlw, ↓steps, push_cast, simprocAttr, tte]
        refine ⟨⟨by omega, by omega⟩, ?_⟩
        have hts2 := hts.trans hact
        obtain ⟨L, hL⟩ : ∃ L, L = B.wr.getD key [] := ⟨_, rfl⟩
        rw [← hL] at hlw hkl hts2 ⊢
        refine loop_gen mixed ttok (fun m : Nat => (⟨[(113, .d (.lit (.int .i64 m))), (112, .d (.lit (.int .i64 L.length))), (111, .vec (key + 100000) L.length), (10, .ptr 10 0), (9, .d (.lit (.int .i64 key))), (8, .d (.lit (.int .i64 i))), (7, .d (.lit (.int .i64 ((T : Int) - (j : Int))))), (6, .vs 27 start.length), (5, .vec 23 n), (4, num n), (3, .ptr 3 0), (2, .ptr 2 0), (0, .ptr 1000 0)],
          (10, .var [num 1, num i, num key, num (ownF i (L.take m) RA.1).1, num (ownF i (L.take m) RA.1).2]) :: bO xs start B.evs B.st B.wr RA.2⟩ : SL)) (fun m => L.length - m) (fun m => m ≤ L.length) 0 (Nat.zero_le _) ?_ ?_
        · have e0 : ownF (i : Int) [] RA.1 = RA.1 := rfl
          simp only [List.take_zero, e0]
          unfold bO
          exact Weak.keepL (by simp [hlw, ends]) (by simp [ends]; exact ⟨closed_w fun n hn => by unfold inO; simp [look_far, look_w hn], keepO_w fun n hn => by simp [look_far, look_w hn]⟩) (by simp [ends]; exact keepIn_w (by omega))
        unfold bO
        intro J hJ m hm
        simp -implicitDefEqProofs only [hlk, ↓steps, push_cast, simprocAttr, tte]
        refine bcase_intro (fun g => ?_) fun g => ?_
        · simp only [decide_eq_true_eq] at g
          have hm' : m < L.length := by omega
          have hwm := wrap_succ hm' (by omega)
          have hso : ownF (i : Int) (L.take (m + 1)) RA.1 = if (L.getD m default).tx = i then ((L.getD m default).value, (i : Int)) else ownF i (L.take m) RA.1 := by
            rw [take_snoc _ _ hm']; unfold ownF; rw [List.foldl_append]; rfl
          simp -implicitDefEqProofs only [hlk, hlw, ↓steps, push_cast, simprocAttr, tte]
          generalize L.getD m default = w at hso ⊢
          refine ⟨⟨by omega, by omega⟩, hm', bcase_intro (fun z => ?_) fun z => ?_⟩
          · rw [if_pos (by simpa using z)] at hso
            exact gen_again hJ (m + 1) hm' (by show L.length - (m + 1) < L.length - m; omega) (Weak.keepL (by simp [hwm, hlw, ends]) (by simp [hso, ends]; exact ⟨closed_w fun n hn => by unfold inO; simp [look_far, look_w hn], keepO_w fun n hn => by simp [look_far, look_w hn]⟩) (by simp [ends]; exact keepIn_w (by omega)))
          · rw [if_neg (by simpa using z)] at hso
            exact gen_again hJ (m + 1) hm' (by show L.length - (m + 1) < L.length - m; omega) (Weak.keepL (by simp [hwm, hlw, ends]) (by simp [hso, ends]; exact ⟨closed_w fun n hn => by unfold inO; simp [look_far, look_w hn], keepO_w fun n hn => by simp [look_far, look_w hn]⟩) (by simp [ends]; exact keepIn_w (by omega)))
        · simp only [decide_eq_false_iff_not] at g
          obtain rfl : m = L.length := by omega
          rw [List.take_length]
          refine ⟨by omega, ?_⟩
          refine codx_of mixed ttok ?_
          simp -implicitDefEqProofs only [hlk, ↓steps, push_cast, simprocAttr, tte]
          exact gen_again hI (j + 1) hj' (by show T - (j + 1) < T - j; omega) (Weak.keepL (by simp [hwT, ends]) (by simp [hts2, ends]; exact ⟨closed_w fun n hn => by unfold inO; simp [look_far, look_w hn], keepO_w fun n hn => by simp [look_far, look_w hn]⟩) (by simp [ends]; exact keepIn_w (by omega)))
    · have hd1 : ¬ d ≤ 1 := by simpa using hd1
      rw [if_neg hd1] at hact
      refine codx_cut mixed ttok (⟨[(133, boo (decide (d ≤ 4))), (9, .d (.lit (.int .i64 key))), (8, .d (.lit (.int .i64 i))), (7, .d (.lit (.int .i64 ((T : Int) - (j : Int))))), (6, .vs 27 start.length), (5, .vec 23 n), (4, num n), (3, .ptr 3 0), (2, .ptr 2 0), (0, .ptr 1000 0)], bO xs start B.evs B.st B.wr (q + 1)⟩ : SL) ?_ ?_
      · simp -implicitDefEqProofs only [hlk, ↓steps, push_cast, simprocAttr, tte]
        unfold bO
        refine bcase_intro (fun z => ?_) fun z => ?_
        · have e : decide (d ≤ 4) = true := decide_eq_true (by simp at z; omega)
          exact Weak.keepL (by simp [e, z, ends]) (by simp [ends]; exact ⟨closed_w fun n hn => by unfold inO; simp [look_far, look_w hn], keepO_w fun n hn => by simp [look_far, look_w hn]⟩) (by simp [ends]; exact keepIn_w (by omega))
        refine bcase_intro (fun z1 => ?_) fun z1 => ?_
        · have e : decide (d ≤ 4) = true := decide_eq_true (by simp at z1; omega)
          exact Weak.keepL (by simp [e, z1, ends]) (by simp [ends]; exact ⟨closed_w fun n hn => by unfold inO; simp [look_far, look_w hn], keepO_w fun n hn => by simp [look_far, look_w hn]⟩) (by simp [ends]; exact keepIn_w (by omega))
        · have e : ((d : Int) == 4) = decide (d ≤ 4) := by rw [Bool.eq_iff_iff, beq_iff_eq, decide_eq_true_eq]; simp at z z1; omega
          exact Weak.keepL (by simp [e, ends]) (by simp [ends]; exact ⟨closed_w fun n hn => by unfold inO; simp [look_far, look_w hn], keepO_w fun n hn => by simp [look_far, look_w hn]⟩) (by simp [ends]; exact keepIn_w (by omega))
      unfold bO
      refine codx_cond (v := decide (d ≤ 4)) rfl (fun hd2 => ?_) (fun hd2 => ?_)
      · have hd2 : d ≤ 4 := by simpa using hd2
        rw [if_pos hd2] at hact
        refine codx_of mixed ttok ?_
        have hwm : IntKind.i64.wrap (IntKind.i64.wrap (100 * (i : Int)) + ((T : Int) - (j : Int))) = 100 * (i : Int) + ((T - j : Nat) : Int) := by
          rw [wrap_eq (n := 100 * (i : Int)) (by omega) (by omega), wrap_eq (by omega) (by omega)]; omega
        simp -implicitDefEqProofs only [hlk, hwm, ↓steps, push_cast, simprocAttr, tte]
        refine ⟨⟨by omega, by omega⟩, ?_⟩
        simp -implicitDefEqProofs only [hlk, hwat, ↓steps, push_cast, simprocAttr, tte]
        simp -implicitDefEqProofs only [hlk, hlw, hwat, ↓steps, push_cast, simprocAttr, tte]
        refine ⟨by omega, ⟨by omega, by omega⟩, by rw [hwl]; omega, drawx_intro (by kernel_rfl), by omega, ?_⟩
        have hts2 := hts.trans hact
        obtain ⟨w, hw⟩ : ∃ w : Hv, w = ⟨2, i, key, 100 * (i : Int) + ((T - j : Nat) : Int), 0⟩ := ⟨_, rfl⟩
        rw [← hw] at hts2 ⊢
        obtain ⟨X, hX⟩ : ∃ X, X = B.wr.getD key [] ++ [w] := ⟨_, rfl⟩
        have hXl : (B.wr.getD key []).length + 1 = X.length := by rw [hX]; simp
        rw [← hX] at hts2 ⊢
        rw [hXl]
        obtain ⟨W, hW⟩ : ∃ W, W = B.wr.set key X := ⟨_, rfl⟩
        rw [← hW] at hts2
        have hWl : W.length = B.wr.length := by rw [hW]; exact List.length_set ..
        have hput : List.take key (wC B.wr) ++ [A.vec (key + 100000) X.length] ++ List.drop (key + 1) (wC B.wr) = wC W := by
          rw [hW, ← wC_set, List.set_eq_take_append_cons_drop, if_pos (by rw [hwl]; omega)]; simp
        rw [hput]
        have hWk : W.getD key [] = X := by rw [hW, List.getD_eq_getElem?_getD, List.getElem?_set_self (by omega)]; rfl
        have hWj : ∀ m, m ≠ key → W.getD m [] = B.wr.getD m [] := fun m e => by rw [hW, List.getD_eq_getElem?_getD, List.getElem?_set_ne (fun e' => e e'.symm), ← List.getD_eq_getElem?_getD]
        have hWlk : ∀ k, k < 100000 → lookO (wO W) k = none := fun k h => look_w_lt W h
        refine codx_of mixed ttok ?_
        simp -implicitDefEqProofs only [hlk, ↓steps, push_cast, simprocAttr, tte]
        refine gen_again hI (j + 1) hj' (by show T - (j + 1) < T - j; omega) (Weak.keepL (by simp [hwT, ends]) ?_ ?_)
        · simp [hts2, ends]
          refine ⟨closed_w fun m hm => by unfold inO; simp [look_far, look_w hm], keepO_w fun m hm => ?_⟩
          by_cases q1 : m = key
          · subst q1
            rw [hWk]
            simp [look_far, lookO]
          · rw [hWj m q1]
            rw [hWl] at hm
            simp [look_far, lookO_cons_ne (show key + 100000 ≠ m + 100000 by omega), look_w hm]
        · simp [ends]
          exact ⟨.inl (by omega), keepIn_w (by omega)⟩
      · have hd2 : ¬ d ≤ 4 := by simpa using hd2
        rw [if_neg hd2] at hact
        have hpk := c_pick (xs := xs) (p := q + 1) hx [3, 3, 4] (by decide) (by decide)
        have e3 : (([3, 3, 4] : List Int).length : Int) = 3 := rfl
        have hd3 : drawn xs (q + 1) 3 = (drN xs (q + 1) 3 : Nat) := drawn_dr (n := 3) xs (q + 1) (by omega)
        have hpe : ([3, 3, 4] : List Int).getD (drN xs (q + 1) 3) default = pickE.getD (drN xs (q + 1) 3) 0 := rfl
        rw [e3, hd3, Int.toNat_natCast, hpe] at hpk
        generalize pickE.getD (drN xs (q + 1) 3) 0 = kd at hact hpk
        refine codx_of mixed ttok ?_
        simp -implicitDefEqProofs only [hlk, ↓steps, push_cast, simprocAttr, tte]
        refine ⟨⟨⟨by omega, by omega⟩, by omega⟩, ⟨by omega, by omega, by omega⟩, ?_⟩
        refine callq [[], [1]] [(1000, 1000)] (hpk) ?_
        simp -implicitDefEqProofs only [hlk, ↓steps, push_cast, simprocAttr, tte]
        refine ⟨by omega, drawx_intro (by kernel_rfl), ?_⟩
        have hts2 := hts.trans hact
        have hset := st_set' (l := B.st) (i := i) (by omega) 2
        refine codx_of mixed ttok ?_
        simp -implicitDefEqProofs only [hlk, ↓steps, push_cast, simprocAttr, tte]
        exact gen_again hI (j + 1) hj' (by show T - (j + 1) < T - j; omega) (Weak.keepL (by simp [hwT, ends]) (by simp [hts2, hset, ends]; exact ⟨closed_w fun n hn => by unfold inO; simp [look_far, look_w hn], keepO_w fun n hn => by simp [look_far, look_w hn]⟩) (by simp [ends]; exact keepIn_w (by omega)))
  · simp only [decide_eq_false_iff_not] at h
    have hjT := hjT (by omega)
    rw [hjT] at hR hPE
    have hstl := hinv.inv.stl
    clear hI I
    refine ⟨by omega, ?_⟩
    refine loop_gen mixed ttok (fun i : Nat => (⟨[(162, .d (.lit (.int .i64 i))), (161, .d (.lit (.int .i64 n))), (5, .vec 23 n), (3, .ptr 3 0), (2, .ptr 2 0), (0, .ptr 1000 0)], [(3, .var [ints start, .vec 500 (endsS xs s i).evs.length]), (500, vecH (endsS xs s i).evs), (2, .var [.snil, .snil]), (23, vecI s.st), (1000, tapeO xs (endsS xs s i).p)]⟩ : SL)) (fun i => n - i) (fun i => i ≤ n) 0 (Nat.zero_le _) ?_ ?_
    · have e0 : endsS xs s 0 = s := rfl
      simp only [e0]
      exact Weak.keepL (by simp [ends]) (by simp [ends]) (by simp [ends]; exact keepIn_w (by have := hinv.inv.wrl; omega))
    intro I hI i hi
    obtain ⟨he1, he2⟩ := ends_st xs s i
    have hsucc : endsS xs s (i + 1) = endS xs i (endsS xs s i) := rfl
    have hin : i = n → endsS xs s n = endsS xs s i := fun q => by rw [q]
    generalize endsS xs s i = e at he1 he2 hsucc hin ⊢
    have hd : (default : Int) = 0 := rfl
    simp -implicitDefEqProofs only [rI, hd, ↓steps, push_cast, simprocAttr, tte]
    refine bcase_intro (fun g => ?_) fun g => ?_
    · simp only [decide_eq_true_eq] at g
      have hi' : i < n := by omega
      have hw := wrap_succ hi' (by omega)
      unfold endS at hsucc
      rw [he1] at hsucc
      refine ⟨⟨⟨by omega, by omega⟩, by omega⟩, by omega, by omega, bcase_intro (fun z => ?_) fun z => ?_⟩
      · rw [if_pos (by simpa using z)] at hsucc
        have hpk := c_pick (xs := xs) (p := e.p) hx [3, 3, 4] (by decide) (by decide)
        have e3 : (([3, 3, 4] : List Int).length : Int) = 3 := rfl
        have hd3 : drawn xs e.p 3 = (drN xs e.p 3 : Nat) := drawn_dr (n := 3) xs e.p (by omega)
        have hpe : ([3, 3, 4] : List Int).getD (drN xs e.p 3) default = pickE.getD (drN xs e.p 3) 0 := rfl
        rw [e3, hd3, Int.toNat_natCast, hpe] at hpk
        generalize pickE.getD (drN xs e.p 3) 0 = kd at hsucc hpk
        refine callq [[], [1]] [(1000, 1000)] (hpk) ?_
        simp -implicitDefEqProofs only [↓steps, push_cast, simprocAttr, tte]
        refine ⟨by omega, drawx_intro (by kernel_rfl), ?_⟩
        exact gen_again hI (i + 1) hi' (by show n - (i + 1) < n - i; omega) (Weak.keepL (by simp [hw, ends]) (by simp [hsucc, he1, ends]) (by simp [ends]))
      · rw [if_neg (by simpa using z)] at hsucc
        exact gen_again hI (i + 1) hi' (by show n - (i + 1) < n - i; omega) (Weak.keepL (by simp [hw, ends]) (by simp [hsucc, ends]) (by simp [ends]))
    · simp only [decide_eq_false_iff_not] at g
      have hin := hin (by omega)
      rw [hin] at hR hPE
      subst hR hPE
      refine retx_of [1, 5] rfl trivial ?_ rfl rfl ?_ ?_
      · simp [rowsOf_length]
      · simp [ends]
      · simp [ends]
end Go.Proofs.Ythknpcpddlaapaa
