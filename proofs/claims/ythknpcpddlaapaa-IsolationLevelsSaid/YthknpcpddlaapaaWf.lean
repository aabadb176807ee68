/- Histories and their anomalies (part Wf) -/
import Derived.Test.YthknpcpddlaapaaWd
import Derived.Test.YthknpcpddlaapaaWe
set_option linter.all false
namespace Go.Proofs.Ythknpcpddlaapaa
open Go.Am
attribute [local simp, local push_cast] num boo str ints rEv aEv rTk aTk rEg aEg aH vEv vecI aDone boos_ren d5_take d5_drop d5_len vTk rTk_snoc vecE rEg_snoc
set_option linter.unusedVariables false
set_option maxRecDepth 100000
set_option maxHeartbeats 4000000
/-! The dependencies of a history. -/
theorem addE_ln (out : List Eg) (f t k key : Int) : (addE out f t k key).length ≤ out.length + 1 := by
  unfold addE; split
  · simp
  · omega
theorem pairs_ln (key : Int) (l : List Int) (out : List Eg) : ∀ i, (pairsE key l out i).length ≤ out.length + i
  | 0 => Nat.le_refl _
  | i + 1 => by
    have h1 := pairs_ln key l out i
    have h2 := addE_ln (pairsE key l out i) (l.getD i 0) (l.getD (i + 1) 0) 1 key
    show (addE (pairsE key l out i) (l.getD i 0) (l.getD (i + 1) 0) 1 key).length ≤ _
    omega
theorem versM_ln (evs : List Hv) (key : Int) : (versM evs key).length ≤ evs.length + 1 := versL_ln evs key evs
theorem vers_pos (evs : List Hv) (key : Int) : 0 < (versM evs key).length := by
  have : ∀ (l : List Hv) (out : List Int), 0 < out.length → 0 < (l.foldl (versStep evs key) out).length := by
    intro l
    induction l with
    | nil => exact fun out h => h
    | cons x l ih =>
      intro out h
      refine ih _ ?_
      unfold versStep
      split
      · simp
      · exact h
  exact this evs [-1] (by decide)
theorem keys_ln (evs : List Hv) : ∀ k, (keysE evs k).length ≤ k * (evs.length + 1)
  | 0 => by simp [keysE]
  | k + 1 => by
    have h1 := keys_ln evs k
    have h2 := pairs_ln k (versM evs k) (keysE evs k) ((versM evs k).length - 1)
    have h3 := versM_ln evs k
    show (pairsE k (versM evs k) (keysE evs k) ((versM evs k).length - 1)).length ≤ _
    rw [Nat.add_mul]
    omega
theorem takeE_ln (evs : List Hv) (out : List Eg) (t : Tk) : (takeE evs out t).length ≤ out.length + 2 := by
  have h1 := addE_ln out t.frm t.by' 2 t.key
  unfold takeE
  split
  · have := addE_ln (addE out t.frm t.by' 2 t.key) t.by' ((versM evs t.key).getD (ixE (versM evs t.key) t.frm + 1).toNat 0) 3 t.key
    omega
  · omega
theorem fold_ln (evs : List Hv) : ∀ (l : List Tk) (out : List Eg), (l.foldl (takeE evs) out).length ≤ out.length + 2 * l.length
  | [], out => by simp
  | t :: l, out => by
    have h1 := fold_ln evs l (takeE evs out t)
    have h2 := takeE_ln evs out t
    simp only [List.foldl_cons, List.length_cons]
    omega
def rawT (n : Nat) (evs : List Hv) (j : Nat) : List Eg := ((takesM evs).take j).foldl (takeE evs) (keysE evs n)
theorem rawT_succ {n : Nat} {evs : List Hv} {j : Nat} (h : j < (takesM evs).length) : rawT n evs (j + 1) = takeE evs (rawT n evs j) ((takesM evs).getD j default) := by
  unfold rawT
  rw [take_snoc _ _ h, List.foldl_append]; rfl
structure OkH (start : List Int) (evs : List Hv) : Prop where
  s6 : start.length ≤ 6
  e2 : evs.length ≤ 200
  tx : TxOk evs
  fr : FrOk evs
theorem ok_of {start : List Int} {evs : List Hv} (h : validH start evs = true) : OkH start evs := by
  have h1 := valid_tx h
  have h2 := valid_fr h
  unfold validH at h
  simp only [Bool.and_eq_true, decide_eq_true_eq] at h
  exact ⟨h.1.1, h.1.2, h1, h2⟩
theorem c_edges (start : List Int) (evs : List Hv) (ok : OkH start evs) : ACall Try.prog 38 [aH start evs] [] (.d (.sl 4 (rowsOf rEg (edgesM start.length evs)))) [] := by
  obtain ⟨hs6, he2, hv, hf⟩ := ok
  refine enterq mixed ttok Try.func38 Try.ntmps38 Try.results38 ?_
  generalize hr : A.d (.sl 4 (rowsOf rEg (edgesM start.length evs))) = R
  have htk : (takesM evs).length ≤ evs.length := by have := takes_ln evs evs []; simp at this; exact this
  simp -implicitDefEqProofs only [argT, ↓steps, push_cast, simprocAttr, tte]
  refine loop_gen mixed ttok (fun k : Nat => (⟨[(16, .d (.lit (.int .i64 k))), (15, .d (.lit (.int .i64 start.length))), (14, ints start), (4, .clo 57 [.ptr 3 0]), (3, .ptr 3 0), (1, .ptr 1 0)], [(3, .var [.vec 500 (keysE evs k).length]), (500, vecE (keysE evs k)), (1, .var [ints start, .d (.sl 5 (rowsOf rEv evs))])]⟩ : SL)) (fun k => start.length - k)
    (fun k => k ≤ start.length) 0 (Nat.zero_le _) ?_ ?_
  · have e0 : keysE evs 0 = [] := rfl
    refine (Weak.nilCellL 3 0 500 54 4 rfl rfl rfl).trans ?_
    simp only [e0]
    exact Weak.keepL (by simp [ends]) (by simp [rowsOf, ends]) (by simp [ends])
  intro I hI k hk
  have hkl := keys_ln evs k
  have hkb : k * (evs.length + 1) ≤ 6 * 201 := Nat.mul_le_mul (by omega) (by omega)
  simp -implicitDefEqProofs only [↓steps, push_cast, simprocAttr, tte]
  refine bcase_intro (fun h => ?_) fun h => ?_
  · simp only [decide_eq_true_eq] at h
    have h' : k < start.length := by omega
    have hw := wrap_succ h' (by omega)
    have hvl := versM_ln evs (k : Int)
    have hvp := vers_pos evs (k : Int)
    have hks : keysE evs (k + 1) = pairsE k (versM evs k) (keysE evs k) ((versM evs k).length - 1) := rfl
    refine callq [[1, 5], []] [] (c_versions start evs (k : Int) (by omega) hv) ?_
    simp -implicitDefEqProofs only [↓steps, push_cast, simprocAttr, tte]
    generalize hL : versM evs (k : Int) = L at hvl hvp hks ⊢
    refine loop_gen mixed ttok (fun i : Nat => (⟨[(7, .d (.lit (.int .i64 ((i : Int) + 1)))), (6, ints L), (5, .d (.lit (.int .i64 k))), (16, .d (.lit (.int .i64 k))), (15, .d (.lit (.int .i64 start.length))), (14, ints start), (4, .clo 57 [.ptr 3 0]), (3, .ptr 3 0), (1, .ptr 1 0)], [(3, .var [.vec 500 (pairsE k L (keysE evs k) i).length]), (500, vecE (pairsE k L (keysE evs k) i)), (1, .var [ints start, .d (.sl 5 (rowsOf rEv evs))])]⟩ : SL)) (fun i => L.length - i)
      (fun i => i + 1 ≤ L.length) 0 (by omega) ?_ ?_
    · have e0 : pairsE k L (keysE evs k) 0 = keysE evs k := rfl
      simp only [e0]
      exact Weak.keepL (by simp [ends]) (by simp [ends]) (by simp [ends])
    intro J hJ i hi
    have hpl := pairs_ln k L (keysE evs k) i
    have hwi : IntKind.i64.wrap ((i : Int) + 1 + 1) = ((i + 1 : Nat) : Int) + 1 := by rw [wrap_eq (by omega) (by omega)]; omega
    have hwj : IntKind.i64.wrap ((i : Int) + 1 - 1) = (i : Int) := by rw [wrap_eq (by omega) (by omega)]; omega
    have hd : (default : Int) = 0 := rfl
    have htn : ((i : Int) + 1).toNat = i + 1 := by omega
    simp -implicitDefEqProofs only [rI, hwj, htn, hd, Int.toNat_natCast, ↓steps, push_cast, simprocAttr, tte]
    refine bcase_intro (fun g => ?_) fun g => ?_
    · simp only [decide_eq_true_eq] at g
      have hps : pairsE k L (keysE evs k) (i + 1) = addE (pairsE k L (keysE evs k) i) (L.getD i 0) (L.getD (i + 1) 0) 1 k := rfl
      refine ⟨⟨by omega, by omega⟩, ⟨by omega, by omega⟩, ?_⟩
      have hadd := c_add (pairsE k L (keysE evs k) i) (L.getD i 0) (L.getD (i + 1) 0) 1 k (by omega)
      rw [← hps] at hadd
      refine callq [[], [], [], [], []] [(1000, 3), (1001, 500)] (hadd) ?_
      simp -implicitDefEqProofs only [↓steps, push_cast, simprocAttr, tte]
      refine ⟨drawx_intro (by kernel_rfl), ?_⟩
      exact gen_again hJ (i + 1) (by omega) (by show L.length - (i + 1) < L.length - i; omega) (Weak.keepL (by simp [hwi, ends]) (by simp [ends]) (by simp [ends]))
    · simp only [decide_eq_false_iff_not] at g
      have hie : i = L.length - 1 := by omega
      rw [← hie] at hks
      exact gen_again hI (k + 1) h' (by show start.length - (k + 1) < start.length - k; omega) (Weak.keepL (by simp [hw, ends]) (by simp [hks, ends]) (by simp [ends]))
  simp only [decide_eq_false_iff_not] at h
  obtain rfl : k = start.length := by omega
  refine callq [[1, 5]] [] (c_takes start evs (by omega) hv hf) ?_
  simp -implicitDefEqProofs only [↓steps, push_cast, simprocAttr, tte]
  have hr0 : rawT start.length evs 0 = keysE evs start.length := rfl
  have hfl := fun j => fold_ln evs ((takesM evs).take j) (keysE evs start.length)
  have hfl : ∀ j, (rawT start.length evs j).length ≤ (keysE evs start.length).length + 2 * min j (takesM evs).length := fun j => by
    have := hfl j
    rwa [List.length_take] at this
  have htc := takes_com hv
  clear hI I
  refine loop_gen mixed ttok (fun j : Nat => (⟨[(44, .d (.lit (.int .i64 j))), (43, .d (.lit (.int .i64 (takesM evs).length))), (42, .d (.sl 3 (rowsOf rTk (takesM evs)))), (4, .clo 57 [.ptr 3 0]), (3, .ptr 3 0), (1, .ptr 1 0)], [(3, .var [.vec 500 (rawT start.length evs j).length]), (500, vecE (rawT start.length evs j)), (1, .var [ints start, .d (.sl 5 (rowsOf rEv evs))])]⟩ : SL)) (fun j => (takesM evs).length - j)
    (fun j => j ≤ (takesM evs).length) 0 (Nat.zero_le _) ?_ ?_
  · simp only [hr0]
    exact Weak.keepL (by simp [ends]) (by simp [ends]) (by simp [ends])
  intro I hI j hj
  have hrl := hfl j
  simp -implicitDefEqProofs only [↓steps, push_cast, simprocAttr, tte]
  refine bcase_intro (fun g => ?_) fun g => ?_
  · simp only [decide_eq_true_eq] at g
    have hj' : j < (takesM evs).length := by omega
    have hwj := wrap_succ hj' (by omega)
    have hrs := rawT_succ (n := start.length) hj'
    refine ⟨⟨by omega, g⟩, ?_⟩
    generalize (takesM evs).getD j default = t at hrs ⊢
    have hadd := c_add (rawT start.length evs j) t.frm t.by' 2 t.key (by omega)
    refine callq [[], [], [], [], []] [(1000, 3), (1001, 500)] (hadd) ?_
    simp -implicitDefEqProofs only [↓steps, push_cast, simprocAttr, tte]
    refine callq [[1, 5], []] [] (c_versions start evs t.key (by omega) hv) ?_
    simp -implicitDefEqProofs only [↓steps, push_cast, simprocAttr, tte]
    have hvl := versM_ln evs t.key
    have hal := addE_ln (rawT start.length evs j) t.frm t.by' 2 t.key
    have hrs2 : takeE evs (rawT start.length evs j) t = if ixE (versM evs t.key) t.frm + 1 < (versM evs t.key).length
        then addE (addE (rawT start.length evs j) t.frm t.by' 2 t.key) t.by' ((versM evs t.key).getD (ixE (versM evs t.key) t.frm + 1).toNat 0) 3 t.key
        else addE (rawT start.length evs j) t.frm t.by' 2 t.key := rfl
    have hix := idx_range (versM evs t.key) t.frm
    generalize versM evs t.key = L at hvl hrs2 hix ⊢
    have hfx := fidx_lt (fun y => t.frm == y) L
    have hci := c_idxN L t.frm (by omega)
    rw [fidx_ix] at hci hfx
    refine callq [[1], []] [] (hci) ?_
    simp -implicitDefEqProofs only [↓steps, push_cast, simprocAttr, tte]
    generalize ixE L t.frm = x at hix hfx hrs2 ⊢
    have hwx : IntKind.i64.wrap (x + 1) = x + 1 := wrap_eq (by omega) (by omega)
    have hd : (default : Int) = 0 := rfl
    simp -implicitDefEqProofs only [rI, hwx, hd, ↓steps, push_cast, simprocAttr, tte]
    refine bcase_intro (fun q => ?_) fun q => ?_
    · simp only [decide_eq_true_eq] at q
      rw [if_pos q, ← hrs] at hrs2
      refine ⟨⟨by omega, q⟩, ?_⟩
      have hadd2 := c_add (addE (rawT start.length evs j) t.frm t.by' 2 t.key) t.by' (L.getD (x + 1).toNat 0) 3 t.key (by omega)
      rw [← hrs2] at hadd2
      refine callq [[], [], [], [], []] [(1000, 3), (1001, 500)] (hadd2) ?_
      simp -implicitDefEqProofs only [↓steps, push_cast, simprocAttr, tte]
      refine ⟨drawx_intro (by kernel_rfl), ?_⟩
      exact gen_again hI (j + 1) hj' (by show (takesM evs).length - (j + 1) < (takesM evs).length - j; omega) (Weak.keepL (by simp [hwj, ends]) (by simp [ends]) (by simp [ends]))
    · simp only [decide_eq_false_iff_not] at q
      rw [if_neg q, ← hrs] at hrs2
      exact gen_again hI (j + 1) hj' (by show (takesM evs).length - (j + 1) < (takesM evs).length - j; omega) (Weak.keepL (by simp [hwj, ends]) (by simp [hrs2, ends]) (by simp [ends]))
  simp only [decide_eq_false_iff_not] at g
  obtain rfl : j = (takesM evs).length := by omega
  have hraw : rawT start.length evs (takesM evs).length = rawE start.length evs := by unfold rawT rawE; rw [List.take_length]
  rw [hraw] at hrl ⊢
  generalize hO : rawE start.length evs = O at hrl ⊢
  have hOl : O.length ≤ 2000 := by omega
  refine callx_fn (fn_sort (e := 54) (o := 500) (vs := O) (by simp [lookO]) (by omega)) rfl ?_
  simp -implicitDefEqProofs only [↓steps, push_cast, simprocAttr, tte]
  have hSl := sortX_length O
  have hSe := sortX_eq O
  have hE : edgesM start.length evs = compE (sortX O) := by unfold edgesM; rw [hO, hSe]
  generalize hS : sortX O = S at hSl hE ⊢
  rw [← hSl]
  refine callx_ofV [(1000, 500)] (view_sub (o := 500) (e := 54) (wd := 4) (fz := 0) (rows := rowsOf rEg S) (by simp [lookO]) (rowsOf_length _ _).symm) (c_compactE S (by omega)) (by simp [vecE, ends, bs]) (by simp [ends, bs]) (by simp [vecE, ends]) (by simp [idsOk, lookO, updO, ren1]) ?_
  simp -implicitDefEqProofs only [↓steps, push_cast, simprocAttr, tte]
  have hdl := ddE_len S S.length
  have hcl : (cpE S).length = S.length := by unfold cpE; simp only [List.length_append, List.length_replicate]; omega
  refine ret_subD (e := 54) (wd := 4) (fz := 0) (rows := rowsOf rEg (cpE S)) trivial (by simp [lookO]) rfl (by rw [rowsOf_length]; exact hcl.symm) (by omega) ?_ trivial (by simp [ends])
  rw [← hr, hE, ← dd_comp, List.drop_zero, rowsOf_take]
  unfold cpE
  rw [List.take_left]
end Go.Proofs.Ythknpcpddlaapaa
namespace Go.Proofs.Ythknpcpddlaapaa
open Go.Am
attribute [local simp, local push_cast] num boo str ints rEv aEv rTk aTk rEg aEg aH vEv vecI aDone boos_ren d5_take d5_drop d5_len vTk rTk_snoc vecE rEg_snoc
set_option linter.unusedVariables false
set_option maxRecDepth 100000
set_option maxHeartbeats 4000000
/-! Lost updates. -/
theorem c_lost (start : List Int) (evs : List Hv) (ok : OkH start evs) : ACall Try.prog 46 [aH start evs] [] (boo (lostM evs)) [] := by
  obtain ⟨hs6, he2, hv, hf⟩ := ok
  refine enterq mixed ttok Try.func46 Try.ntmps46 Try.results46 ?_
  generalize hr : boo (lostM evs) = R
  have htk : (takesM evs).length ≤ evs.length := by have := takes_ln evs evs []; simp at this; exact this
  simp -implicitDefEqProofs only [argT, ↓steps, push_cast, simprocAttr, tte]
  refine callq [[1, 5]] [] (c_takes start evs (by omega) hv hf) ?_
  simp -implicitDefEqProofs only [↓steps, push_cast, simprocAttr, tte]
  have hL0 : lostM evs = (List.range (takesM evs).length).any fun i => ((takesM evs).take i).any fun b => lostPair evs ((takesM evs).getD i default) b := rfl
  generalize hT : takesM evs = T at htk hL0 ⊢
  refine loop_gen mixed ttok (fun i : Nat => (⟨[(13, .d (.lit (.int .i64 i))), (12, .d (.lit (.int .i64 T.length))), (11, .d (.sl 3 (rowsOf rTk T))), (3, .d (.sl 3 (rowsOf rTk T))), (1, .ptr 1 0)], [(1, .var [ints start, .d (.sl 5 (rowsOf rEv evs))])]⟩ : SL)) (fun i => T.length - i)
    (fun i => i ≤ T.length ∧ ∀ j, j < i → ((T.take j).any fun b => lostPair evs (T.getD j default) b) = false) 0 ⟨Nat.zero_le _, fun j h => absurd h (Nat.not_lt_zero _)⟩ ?_ ?_
  · exact Weak.keepL (by simp [ends]) (by simp [ends]) (by simp [ends])
  intro I hI i ⟨hi, hno⟩
  simp -implicitDefEqProofs only [↓steps, push_cast, simprocAttr, tte]
  refine bcase_intro (fun h => ?_) fun h => ?_
  · simp only [decide_eq_true_eq] at h
    have h' : i < T.length := by omega
    have hw := wrap_succ h' (by omega)
    refine ⟨⟨by omega, h⟩, ⟨by omega, by omega⟩, ?_⟩
    have hyes : ∀ m, m < i → lostPair evs (T.getD i default) (T.getD m default) = true → lostM evs = true := fun m hm hp => by
      rw [hL0, List.any_eq_true]
      refine ⟨i, List.mem_range.2 h', List.any_eq_true.2 ⟨T.getD m default, ?_, hp⟩⟩
      have : (T.take i).getD m default = T.getD m default := by rw [List.getD_eq_getElem?_getD, List.getD_eq_getElem?_getD, List.getElem?_take, if_pos hm]
      rw [← this]
      exact getD_mem (by simp; omega)
    have hmin : min i T.length = i := by omega
    generalize hA : T.getD i default = a at hyes ⊢
    refine loop_gen mixed ttok (fun m : Nat => (⟨[(22, .d (.lit (.int .i64 m))), (21, .d (.lit (.int .i64 i))), (20, .d (.sl 3 (rowsOf rTk (T.take i)))), (5, .ptr 5 0), (13, .d (.lit (.int .i64 i))), (12, .d (.lit (.int .i64 T.length))), (11, .d (.sl 3 (rowsOf rTk T))), (3, .d (.sl 3 (rowsOf rTk T))), (1, .ptr 1 0)], [(5, vTk a), (1, .var [ints start, .d (.sl 5 (rowsOf rEv evs))])]⟩ : SL)) (fun m => i - m)
      (fun m => m ≤ i ∧ ∀ j, j < m → lostPair evs a (T.getD j default) = false) 0 ⟨Nat.zero_le _, fun j h => absurd h (Nat.not_lt_zero _)⟩ ?_ ?_
    · exact Weak.keepL (by simp [hmin, ends]) (by simp [ends]) (by simp [ends])
    intro J hJ m ⟨hm, hmo⟩
    simp -implicitDefEqProofs only [↓steps, push_cast, simprocAttr, tte]
    refine bcase_intro (fun g => ?_) fun g => ?_
    · simp only [decide_eq_true_eq] at g
      have g' : m < i := by omega
      have hwm := wrap_succ g' (by omega)
      have hgm : (T.take i).getD m default = T.getD m default := by rw [List.getD_eq_getElem?_getD, List.getD_eq_getElem?_getD, List.getElem?_take, if_pos g']
      have hyes := hyes m g'
      have hagain : ∀ c, lostPair evs a (T.getD m default) = c → c = false → ∀ j, j < m + 1 → lostPair evs a (T.getD j default) = false := fun c h1 h2 j hj => by
        by_cases hjm : j = m
        · rw [hjm, h1, h2]
        · exact hmo j (by omega)
      have hlp : lostPair evs a (T.getD m default) = (((((a.by' != (T.getD m default).by') && (a.key == (T.getD m default).key)) && (a.frm == (T.getD m default).frm)) && ((versM evs a.key).contains a.by' && (versM evs a.key).contains (T.getD m default).by'))) := rfl
      rw [hgm]
      have hlt : (T.take i).length = i := by simp; omega
      refine ⟨⟨by omega, by omega⟩, ?_⟩
      generalize T.getD m default = b at hyes hagain hlp ⊢
      refine bcase_intro (fun q1 => ?_) fun q1 => ?_
      · have e : lostPair evs a b = false := by
          rw [hlp]; have : (a.by' != b.by') = false := by simpa using q1
          rw [this]; simp
        exact gen_again hJ (m + 1) ⟨by omega, hagain _ e rfl⟩ (by show i - (m + 1) < i - m; omega) (Weak.keepL (by simp [hwm, ends]) (by simp [ends]) (by simp [ends]))
      refine bcase_intro (fun q2 => ?_) fun q2 => ?_
      · have e : lostPair evs a b = false := by
          rw [hlp]; have : (a.key == b.key) = false := by simpa using q2
          rw [this]; simp
        exact gen_again hJ (m + 1) ⟨by omega, hagain _ e rfl⟩ (by show i - (m + 1) < i - m; omega) (Weak.keepL (by simp [hwm, ends]) (by simp [ends]) (by simp [ends]))
      refine bcase_intro (fun q3 => ?_) fun q3 => ?_
      · have e : lostPair evs a b = false := by
          rw [hlp]; have : (a.frm == b.frm) = false := by simpa using q3
          rw [this]; simp
        exact gen_again hJ (m + 1) ⟨by omega, hagain _ e rfl⟩ (by show i - (m + 1) < i - m; omega) (Weak.keepL (by simp [hwm, ends]) (by simp [ends]) (by simp [ends]))
      have hlp : lostPair evs a b = ((versM evs a.key).contains a.by' && (versM evs a.key).contains b.by') := by
        rw [hlp]
        have r1 : (a.by' != b.by') = true := by simpa using q1
        have r2 : (a.key == b.key) = true := by simpa using q2
        have r3 : (a.frm == b.frm) = true := by simpa using q3
        rw [r1, r2, r3]; rfl
      have hvl := versM_ln evs a.key
      refine callq [[1, 5], []] [] (c_versions start evs a.key (by omega) hv) ?_
      simp -implicitDefEqProofs only [↓steps, push_cast, simprocAttr, tte]
      generalize versM evs a.key = L at hvl hlp ⊢
      refine callq [[1], []] [] (c_conN L a.by' (by omega)) ?_
      simp -implicitDefEqProofs only [↓steps, push_cast, simprocAttr, tte]
      refine bcase_intro (fun q4 => ?_) fun q4 => ?_
      · refine callq [[1], []] [] (c_conN L b.by' (by omega)) ?_
        simp -implicitDefEqProofs only [↓steps, push_cast, simprocAttr, tte]
        refine bcase_intro (fun q5 => ?_) fun q5 => ?_
        · exact ret_d trivial (by rw [← hr, hyes (by rw [hlp, q4, q5]; rfl)]; rfl) (by simp [ends])
        · exact gen_again hJ (m + 1) ⟨by omega, hagain _ (by rw [hlp, q5]; simp) rfl⟩ (by show i - (m + 1) < i - m; omega) (Weak.keepL (by simp [hwm, ends]) (by simp [ends]) (by simp [ends]))
      · exact gen_again hJ (m + 1) ⟨by omega, hagain _ (by rw [hlp, q4]; simp) rfl⟩ (by show i - (m + 1) < i - m; omega) (Weak.keepL (by simp [hwm, ends]) (by simp [ends]) (by simp [ends]))
    · simp only [decide_eq_false_iff_not] at g
      obtain rfl : m = i := by omega
      refine gen_again hI (m + 1) ⟨h', fun j hj => ?_⟩ (by show T.length - (m + 1) < T.length - m; omega) (Weak.keepL (by simp [hw, ends]) (by simp [ends]) (by simp [ends]))
      by_cases hjm : j = m
      · subst hjm
        rw [List.any_eq_false]
        intro b hb
        obtain ⟨z, hz, rfl⟩ := List.getElem_of_mem hb
        rw [List.length_take] at hz
        have := hmo z (by omega)
        rw [hA]
        rw [List.getD_eq_getElem?_getD, List.getElem?_eq_getElem (by omega)] at this
        rw [List.getElem_take]
        simpa using this
      · exact hno j (by omega)
  · simp only [decide_eq_false_iff_not] at h
    obtain rfl : i = T.length := by omega
    have : lostM evs = false := by
      rw [hL0, List.any_eq_false]
      intro j hj
      rw [List.mem_range] at hj
      rw [hno j hj]; decide
    exact ret_d trivial (by rw [← hr, this]; rfl) (by simp [ends])
end Go.Proofs.Ythknpcpddlaapaa
