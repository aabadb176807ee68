/- Conditions over finite domains (part Wn) -/
import Derived.Test.YtiagabnddihchaaGreatDoorWm
import Derived.Test.YtiagabnddihchaaGreatDoorWd
set_option linter.all false
namespace Go.Proofs.YtiagabnddihchaaGreatDoor
open Go.Am
attribute [local simp, local push_cast] num boo str ints aV aTab aRow rRow vE
set_option linter.unusedVariables false
set_option maxRecDepth 100000
set_option maxHeartbeats 4000000
/-! The small functions of the laws. -/
theorem c_in (l : List Int) (x : Int) (hl : l.length ≤ 1000000) : ACall Tryz.prog 24 [ints l, num x] [] (boo (l.contains x)) [] := by
  refine enterq mixed ttok Tryz.func24 Tryz.ntmps24 Tryz.results24 ?_
  generalize hr : boo (l.contains x) = R
  simp -implicitDefEqProofs only [argT, ↓steps, push_cast, simprocAttr, tte]
  refine loop_count mixed ttok 5 [0, 1] [] (by simp only [pickT, ends, push_cast, simprocAttr]; rfl) (by simp only [pickO, consO_some, ends, push_cast, simprocAttr]; rfl) l.length (fun n => l.contains x = (l.drop n).contains x) (fun _ => []) (fun _ => []) rfl ?_ ?_
  · exact Weak.keepL (by simp [cst, ends]) (by simp [cst, ends]) (by simp [cst, ends])
  intro I hI n hn hi
  simp -implicitDefEqProofs only [cst, ↓steps, push_cast, simprocAttr, tte]
  refine bcase_intro (fun h => ?_) fun h => ?_
  · have h' : n < l.length := by have := of_decide_eq_true h; omega
    have hw := wrap_succ h' (by omega)
    rw [drop_cons l n h', List.contains_cons] at hi
    refine ⟨⟨by omega, by omega⟩, ?_⟩
    refine bcase_intro (fun g => ?_) fun g => ?_
    · have g' : l.getD n default = x := by simpa using g
      rw [g', beq_self_eq_true, Bool.true_or] at hi
      rw [hi] at hr
      exact ret_d trivial hr (by simp [ends])
    · have g' : ¬ l.getD n default = x := by simpa using g
      rw [beq_false_of_ne (fun e => g' e.symm), Bool.false_or] at hi
      exact cnt_again hI n rfl h' hi (by simp [hw, ends]) (by simp [hw, ends]) (by simp [hw, ends]) (by simp [hw, ends])
  have hnn : n = l.length := by have := of_decide_eq_false h; omega
  subst hnn
  rw [List.drop_length] at hi
  rw [hi] at hr
  exact ret_d trivial hr (by simp [ends])
def sameR (a b : Row) : Bool := (a.length == b.length) && (cmpR a b == 0)
theorem cmpR_self : ∀ a : Row, cmpR a a = 0
  | [] => rfl
  | x :: a => by
    rw [cmpR, if_neg]
    · exact cmpR_self a
    · rw [(cmpM_eq x x).2 rfl]; decide
theorem sameR_self (a : Row) : sameR a a = true := by rw [sameR, cmpR_self]; simp
theorem c_same23 (a b : Row) (hl : a.length ≤ 1000000) : ACall Tryz.prog 16 [aRow a, aRow b] [] (boo (sameR a b)) [] := by
  refine enterq mixed ttok Tryz.func16 Tryz.ntmps16 Tryz.results16 ?_
  generalize hr : boo (sameR a b) = R
  unfold sameR at hr
  simp -implicitDefEqProofs only [argT, ↓steps, push_cast, simprocAttr, tte]
  refine bcase_intro (fun h => ?_) fun h => ?_
  · have e : a.length = b.length := by simp only [beq_iff_eq] at h; omega
    rw [e, beq_self_eq_true, Bool.true_and] at hr
    refine callq [[3], [3]] [] (c_cmpRows a b hl) ?_
    simp -implicitDefEqProofs only [↓steps, push_cast, simprocAttr, tte]
    exact ret_d trivial hr (by simp [ends])
  · have e : ¬ a.length = b.length := by simp only [beq_eq_false_iff_ne, ne_eq] at h; omega
    rw [beq_false_of_ne e, Bool.false_and] at hr
    exact ret_d trivial hr (by simp [ends])
theorem c_implies (d : List Row) (hd : smallD d) (a b : Ex) (ha : Ok12 a) (hb : Ok12 b) : ACall Tryz.prog 21 [aTab d, aE a, aE b] [] (boo (impM d a b).2.1) [] := by
  have h := c_pimplies d hd a b ha hb
  rw [aE_eq a, aE_eq b] at h ⊢
  refine enterq mixed ttok Tryz.func21 Tryz.ntmps21 Tryz.results21 ?_
  simp -implicitDefEqProofs only [argT, aTab, ↓steps, push_cast, simprocAttr, tte]
  refine callq [[1], [0, 0, 0, 0, 0, 6], [0, 0, 0, 0, 0, 6]] [] (h) ?_
  simp -implicitDefEqProofs only [↓steps, push_cast, simprocAttr, tte]
  exact ret_d trivial rfl (by simp [ends])
/-! How many expressions there are, up to some more than 300. -/
mutual
def nodesM : Ex → Int → Int
  | .mk _ _ _ _ _ ks, n => nodesL ks (n + 1)
def nodesL : List Ex → Int → Int
  | [], n => n
  | k :: l, n => if n ≤ 300 then nodesL l (nodesM k n) else n
end
theorem nodesM_eq (e : Ex) (n : Int) : nodesM e n = nodesL e.kids (n + 1) := by cases e; rw [nodesM]; rfl
theorem nodesL_big : ∀ (l : List Ex) (n : Int), ¬ n ≤ 300 → nodesL l n = n
  | [], _, _ => by rw [nodesL]
  | k :: l, n, h => by rw [nodesL, if_neg h]
theorem nodes_range : ∀ (e : Ex) (n : Int), 0 ≤ n → n ≤ 300 → n < nodesM e n ∧ nodesM e n ≤ 301 :=
  ex_ind (p := fun e => ∀ n : Int, 0 ≤ n → n ≤ 300 → n < nodesM e n ∧ nodesM e n ≤ 301) fun e ih n h0 h3 => by
    rw [nodesM_eq]
    have key : ∀ (l : List Ex), (∀ k ∈ l, k ∈ e.kids) → ∀ m : Int, 0 ≤ m → m ≤ 301 → m ≤ nodesL l m ∧ nodesL l m ≤ 301 := by
      intro l
      induction l with
      | nil => intro _ m h1 h2; rw [nodesL]; omega
      | cons k l ihl =>
        intro hk m h1 h2
        rw [nodesL]
        split
        · have := ih k (hk k (by simp)) m h1 (by omega)
          have := ihl (fun x hx => hk x (by simp [hx])) (nodesM k m) (by omega) (by omega)
          omega
        · omega
    have := key e.kids (fun _ h => h) (n + 1) (by omega) (by omega)
    omega
theorem nodesL_drop (l : List Ex) (i : Nat) (n : Int) (h : i < l.length) (hn : n ≤ 300) : nodesL (l.drop i) n = nodesL (l.drop (i + 1)) (nodesM (l.getD i default) n) := by
  rw [drop_cons l i h, nodesL, if_pos hn]
def D1s (e : Ex) (x : Nat × Int) : SL := ⟨[(5, .d (.lit (.int .i64 x.1))), (1, num x.2), (2, .ptr 2 0)], [(2, .var (vE e))]⟩
theorem c_nodes : ∀ (e : Ex) (n : Int), 0 ≤ n → n ≤ 300 → ACall Tryz.prog 75 [aE e, num n] [] (num (nodesM e n)) [] :=
  ex_ind (p := fun e => ∀ n : Int, 0 ≤ n → n ≤ 300 → ACall Tryz.prog 75 [aE e, num n] [] (num (nodesM e n)) []) fun e ih n h0 h3 => by
  generalize hr : num (nodesM e n) = R
  rw [nodesM_eq] at hr
  rw [aE_eq]
  refine enterq mixed ttok Tryz.func75 Tryz.ntmps75 Tryz.results75 ?_
  have w1 : IntKind.i64.wrap (n + 1) = n + 1 := wrap_eq (by omega) (by omega)
  simp -implicitDefEqProofs only [argT, w1, ↓steps, push_cast, simprocAttr, tte]
  refine loop_gen mixed ttok (fun x : Nat × Int => D1s e x) (fun x => e.kids.length - x.1) (fun x => x.1 ≤ e.kids.length ∧ (x.1 : Int) < x.2 ∧ x.2 ≤ 301 ∧ nodesL e.kids (n + 1) = nodesL (e.kids.drop x.1) x.2) (0, n + 1) ⟨Nat.zero_le _, by dsimp only; omega, by dsimp only; omega, rfl⟩ ?_ ?_
  · exact Weak.keepL (by simp [D1s, ends]) (by simp [D1s, vE, ends]) (by simp [D1s, ends])
  rintro I hI ⟨i, m⟩ ⟨hi, him, hm, hg⟩
  dsimp only at hi him hm hg
  simp -implicitDefEqProofs only [D1s, vE, ↓steps, push_cast, simprocAttr, tte]
  refine bcase_intro (fun h1 => ?_) fun h1 => ?_
  · have h1' : i < e.kids.length := by simpa using h1
    refine bcase_intro (fun h2 => ?_) fun h2 => ?_
    · have h2' : m ≤ 300 := by simpa using h2
      rw [nodesL_drop _ _ _ h1' h2'] at hg
      have hb := nodes_range (e.kids.getD i default) m (by omega) h2'
      have hw : IntKind.i64.wrap ((i : Int) + 1) = ((i + 1 : Nat) : Int) := by rw [wrap_eq (by omega) (by omega)]; rfl
      refine ⟨⟨by omega, by omega⟩, ?_⟩
      refine callq [[0, 0, 0, 0, 0, 6], []] [] (ih _ (getD_mem h1') m (by omega) h2') ?_
      simp -implicitDefEqProofs only [↓steps, push_cast, simprocAttr, tte]
      exact gen_again hI (i + 1, nodesM (e.kids.getD i default) m) ⟨h1', by dsimp only; omega, hb.2, hg⟩ (by show e.kids.length - (i + 1) < e.kids.length - i; omega) (Weak.keepL (by simp [D1s, hw, ends]) (by simp [D1s, vE, ends]) (by simp [D1s, ends]))
    · have h2' : ¬ m ≤ 300 := by simpa using h2
      rw [nodesL_big _ _ h2'] at hg
      rw [hg] at hr
      exact ret_d trivial hr (by simp [ends])
  have hii : i = e.kids.length := by have := of_decide_eq_false h1; omega
  subst hii
  rw [List.drop_length, nodesL] at hg
  rw [hg] at hr
  exact ret_d trivial hr (by simp [ends])
def smallE (e : Ex) : Bool := decide (nodesM e 0 ≤ 300)
theorem c_smallE (e : Ex) : ACall Tryz.prog 27 [aE e] [] (boo (smallE e)) [] := by
  have h := c_nodes e 0 (by omega) (by omega)
  rw [aE_eq] at h ⊢
  refine enterq mixed ttok Tryz.func27 Tryz.ntmps27 Tryz.results27 ?_
  simp -implicitDefEqProofs only [argT, ↓steps, push_cast, simprocAttr, tte]
  refine callq [[0, 0, 0, 0, 0, 6], []] [] (h) ?_
  simp -implicitDefEqProofs only [↓steps, push_cast, simprocAttr, tte]
  exact ret_d trivial rfl (by simp [ends])
theorem nodes_size : ∀ (e : Ex) (n : Int), 0 ≤ n → nodesM e n ≤ 300 → nodesM e n = n + sizeT e ∧ Ok12 e :=
  ex_ind (p := fun e => ∀ n : Int, 0 ≤ n → nodesM e n ≤ 300 → nodesM e n = n + sizeT e ∧ Ok12 e) fun e ih n h0 h3 => by
    rw [nodesM_eq] at h3 ⊢
    have key : ∀ (l : List Ex), (∀ k ∈ l, k ∈ e.kids) → ∀ m : Int, 0 ≤ m → nodesL l m ≤ 300 → nodesL l m = m + sizeTs l ∧ (l.length : Int) ≤ nodesL l m - m ∧ ∀ k ∈ l, Ok12 k := by
      intro l
      induction l with
      | nil => intro _ m h1 h2; rw [nodesL, sizeTs]; simp
      | cons k l ihl =>
        intro hk m h1 h2
        rw [nodesL] at h2 ⊢
        split at h2
        · rename_i hm
          rw [if_pos hm]
          have hr := nodes_range k m h1 hm
          have hle : nodesM k m ≤ 300 := by
            by_cases q : nodesM k m ≤ 300
            · exact q
            · rw [nodesL_big _ _ q] at h2; exact h2
          obtain ⟨g1, g2⟩ := ih k (hk k (by simp)) m h1 hle
          obtain ⟨g3, g4, g5⟩ := ihl (fun x hx => hk x (by simp [hx])) (nodesM k m) (by omega) h2
          rw [sizeTs]
          refine ⟨by omega, by simp only [List.length_cons]; omega, fun x hx => ?_⟩
          rcases List.mem_cons.1 hx with rfl | hx
          · exact g2
          · exact g5 x hx
        · rename_i hm
          exact absurd h2 hm
    obtain ⟨g1, g2, g3⟩ := key e.kids (fun _ h => h) (n + 1) (by omega) h3
    rw [sizeT_eq]
    exact ⟨by omega, ⟨e, by omega, g3⟩⟩
theorem smallE_ok {e : Ex} (h : smallE e = true) : Ok12 e := (nodes_size e 0 (by omega) (of_decide_eq_true h)).2
end Go.Proofs.YtiagabnddihchaaGreatDoor
namespace Go.Proofs.YtiagabnddihchaaGreatDoor
open Go.Am
attribute [local simp, local push_cast] num boo str ints aV aTab aRow rRow vE tapeO
set_option linter.unusedVariables false
set_option maxRecDepth 100000
set_option maxHeartbeats 4000000
/-! The domains that the laws make. -/
def freshIn (l : Row) (v : Val) : Bool := l.all fun w => !sameM w v
def rowStep (xs : List Int) (typ : Int) (x : Row × Nat) : Row × Nat :=
  (if freshIn x.1 (valueF xs typ true x.2).1 = true then x.1 ++ [(valueF xs typ true x.2).1] else x.1, (valueF xs typ true x.2).2)
def rowsF (xs : List Int) (typ : Int) (p : Nat) : Nat → Row × Nat
  | 0 => ([], p)
  | k + 1 => rowStep xs typ (rowsF xs typ p k)
def pickD : List Int := [1, 1, 2, 3]
def rowD (xs : List Int) (p : Nat) : Row × Nat := rowsF xs (pickD.getD (drawn xs p 4).toNat default) (p + 2) (1 + drawn xs (p + 1) 4).toNat
def domStep (xs : List Int) (x : (List Row × Nat) × Nat) : (List Row × Nat) × Nat :=
  (if x.1.2 * (rowD xs x.2).1.length ≤ 300 then (x.1.1 ++ [(rowD xs x.2).1], x.1.2 * (rowD xs x.2).1.length) else x.1, (rowD xs x.2).2)
def domsF (xs : List Int) (p : Nat) : Nat → (List Row × Nat) × Nat
  | 0 => (([], 1), p)
  | k + 1 => domStep xs (domsF xs p k)
def domF (xs : List Int) (p : Nat) : List Row × Nat := ((domsF xs (p + 1) (drawn xs p 5).toNat).1.1, (domsF xs (p + 1) (drawn xs p 5).toNat).2)
theorem rowsF_len (xs : List Int) (typ : Int) (p : Nat) : ∀ k, (rowsF xs typ p k).1.length ≤ k
  | 0 => by simp [rowsF]
  | k + 1 => by
    have := rowsF_len xs typ p k
    rw [rowsF, rowStep]
    dsimp only
    split
    · rw [List.length_append]; simp; omega
    · omega
theorem domsF_pts (xs : List Int) (p : Nat) : ∀ k, (domsF xs p k).1.2 ≤ 300 ∧ (domsF xs p k).1.1.length ≤ k
  | 0 => by simp [domsF]
  | k + 1 => by
    have := domsF_pts xs p k
    rw [domsF, domStep]
    dsimp only
    split
    · rename_i h
      dsimp only
      rw [List.length_append]
      simp
      omega
    · omega
def O1s (xs : List Int) (N k : Nat) (x : (List Row × Nat) × Nat) : SL :=
  ⟨[(5, num ((N : Int) - k)), (4, num x.1.2), (3, .vec 500 x.1.1.length), (0, .ptr 1000 0)], [(500, .vec 32 1 (rowsOf rRow x.1.1) 0), (1000, tapeO xs x.2)]⟩
def O2s (xs : List Int) (N k : Nat) (x : (List Row × Nat) × Nat) (typ : Int) (M j : Nat) (y : Row × Nat) : SL :=
  ⟨[(8, num ((M : Int) - j)), (7, .vec 501 y.1.length), (6, num typ), (5, num ((N : Int) - k)), (4, num x.1.2), (3, .vec 500 x.1.1.length), (0, .ptr 1000 0)],
   [(500, .vec 32 1 (rowsOf rRow x.1.1) 0), (501, .vec 53 3 (rowsOf rV y.1) 0), (1000, tapeO xs y.2)]⟩
def O3s (xs : List Int) (N k : Nat) (x : (List Row × Nat) × Nat) (typ : Int) (M j : Nat) (y : Row × Nat) (v : Val) (q i : Nat) : SL :=
  ⟨[(33, num i), (32, num y.1.length), (31, .vec 501 y.1.length), (10, boo (freshIn (y.1.take i) v)), (9, .ptr 9 0), (8, num ((M : Int) - j)), (7, .vec 501 y.1.length), (6, num typ), (5, num ((N : Int) - k)), (4, num x.1.2), (3, .vec 500 x.1.1.length), (0, .ptr 1000 0)],
   [(9, .var [.d (.lit (.int .i64 v.kind)), .d (.lit (.int .i64 v.num)), .d (.lit (.string v.text))]), (500, .vec 32 1 (rowsOf rRow x.1.1) 0), (501, .vec 53 3 (rowsOf rV y.1) 0), (1000, tapeO xs q)]⟩
theorem c_domains {xs : List Int} {p : Nat} (hx : TapeF xs) : ACall Tryz.prog 9 [.ptr 1000 0] [(1000, tapeO xs p)] (aTab (domF xs p).1) [(1000, tapeO xs (domF xs p).2)] := by
  refine enterq mixed ttok Tryz.func9 Tryz.ntmps9 Tryz.results9 ?_
  unfold domF
  have h5 := drawn_range xs p (n := 5) (by omega)
  simp -implicitDefEqProofs only [argT, aTab, ↓steps, push_cast, simprocAttr, tte]
  refine callq [[], []] [(1000, 1000)] (c_N (n := 5) (p := p) hx (by omega) (by omega)) ?_
  obtain ⟨N, hN⟩ : ∃ N : Nat, drawn xs p 5 = N := ⟨(drawn xs p 5).toNat, by omega⟩
  rw [hN] at h5 ⊢
  simp -implicitDefEqProofs only [Int.toNat_natCast, ↓steps, push_cast, simprocAttr, tte]
  refine loop_gen mixed ttok (fun k : Nat => O1s xs N k (domsF xs (p + 1) k)) (fun k => N - k) (fun k => k ≤ N) 0 (Nat.zero_le _) ?_ ?_
  · exact (Weak.nilL 3 500 32 1 rfl rfl).trans (Weak.keepL (by simp [O1s, domsF, ends]) (by simp [O1s, domsF, rowsOf, ends]) (by simp [O1s, ends]))
  intro I hI k hk
  have hpt := domsF_pts xs (p + 1) k
  have hsk : domsF xs (p + 1) (k + 1) = domStep xs (domsF xs (p + 1) k) := rfl
  simp -implicitDefEqProofs only [O1s, ↓steps, push_cast, simprocAttr, tte]
  refine bcase_intro (fun h => ?_) fun h => ?_
  · have h' : k < N := by have := of_decide_eq_true h; omega
    generalize domsF xs (p + 1) k = x at hpt hsk ⊢
    have wk : IntKind.i64.wrap ((N : Int) - k - 1) = (N : Int) - ((k + 1 : Nat) : Int) := by rw [wrap_eq (by omega) (by omega)]; omega
    have h4 := drawn_range xs (x.2 + 1) (n := 4) (by omega)
    refine callq [[], [1]] [(1000, 1000)] (c_pick (p := x.2) hx pickD (by decide) (by decide)) ?_ (hargs := by simp [ends, bs, pickD, rowsOf_cons, rowsOf_nil, rI])
    have hrd : rowD xs x.2 = rowsF xs (pickD.getD (drawn xs x.2 4).toNat default) (x.2 + 2) (1 + drawn xs (x.2 + 1) 4).toNat := rfl
    rw [show ((pickD.length : Nat) : Int) = 4 from rfl]
    generalize pickD.getD (drawn xs x.2 4).toNat default = typ at hrd ⊢
    simp -implicitDefEqProofs only [↓steps, push_cast, simprocAttr, tte]
    refine callq [[], [], []] [(1000, 1000)] (c_range (lo := 1) (hi := 4) (p := x.2 + 1) hx (by omega) (by omega) (by omega)) ?_
    rw [show (4 : Int) - 1 + 1 = 4 from rfl]
    obtain ⟨M, hM⟩ : ∃ M : Nat, 1 + drawn xs (x.2 + 1) 4 = M := ⟨(1 + drawn xs (x.2 + 1) 4).toNat, by omega⟩
    rw [hM] at hrd ⊢
    rw [Int.toNat_natCast] at hrd
    have hM5 : M ≤ 4 := by omega
    simp -implicitDefEqProofs only [↓steps, push_cast, simprocAttr, tte]
    refine loop_gen mixed ttok (fun j : Nat => O2s xs N k x typ M j (rowsF xs typ (x.2 + 2) j)) (fun j => M - j) (fun j => j ≤ M) 0 (Nat.zero_le _) ?_ ?_
    · exact (Weak.nilL 7 501 53 3 rfl rfl).trans (Weak.keepL (by simp [O2s, rowsF, ends]) (by simp [O2s, rowsF, rowsOf, ends]) (by simp [O2s, ends]))
    intro J hJ j hj
    have hyl := rowsF_len xs typ (x.2 + 2) j
    have hsj : rowsF xs typ (x.2 + 2) (j + 1) = rowStep xs typ (rowsF xs typ (x.2 + 2) j) := rfl
    simp -implicitDefEqProofs only [O2s, ↓steps, push_cast, simprocAttr, tte]
    refine bcase_intro (fun g => ?_) fun g => ?_
    · have g' : j < M := by have := of_decide_eq_true g; omega
      generalize rowsF xs typ (x.2 + 2) j = y at hyl hsj ⊢
      have wj : IntKind.i64.wrap ((M : Int) - j - 1) = (M : Int) - ((j + 1 : Nat) : Int) := by rw [wrap_eq (by omega) (by omega)]; omega
      refine callq [[], [], []] [(1000, 1000)] (c_fvalue (typ := typ) (nl := true) (p := y.2) hx) ?_
      unfold rowStep at hsj
      generalize valueF xs typ true y.2 = vq at hsj ⊢
      simp -implicitDefEqProofs only [↓steps, push_cast, simprocAttr, tte]
      refine loop_gen mixed ttok (fun i : Nat => O3s xs N k x typ M j y vq.1 vq.2 i) (fun i => y.1.length - i) (fun i => i ≤ y.1.length) 0 (Nat.zero_le _) ?_ ?_
      · exact Weak.keepL (by simp [O3s, freshIn, ends]) (by simp [O3s, ends]) (by simp [O3s, ends])
      intro L hL i hi
      simp -implicitDefEqProofs only [O3s, ↓steps, push_cast, simprocAttr, tte]
      refine bcase_intro (fun q => ?_) fun q => ?_
      · have q' : i < y.1.length := by simpa using q
        have hwi := wrap_succ q' (by omega)
        have hfs : freshIn (y.1.take (i + 1)) vq.1 = (freshIn (y.1.take i) vq.1 && !sameM (y.1.getD i default) vq.1) := by
          unfold freshIn
          rw [take_snoc _ _ q', List.all_append, List.all_cons, List.all_nil, Bool.and_true]
        refine ⟨⟨by omega, by omega⟩, q', ?_⟩
        refine bcase_intro (fun r => ?_) fun r => ?_
        · rw [r, Bool.true_and] at hfs
          exact gen_again hL (i + 1) q' (by show y.1.length - (i + 1) < y.1.length - i; omega) (Weak.keepL (by simp [O3s, hwi, hfs, sameM, Bool.or_assoc, ends]) (by simp [O3s, ends]) (by simp [O3s, ends]))
        · rw [r, Bool.false_and] at hfs
          exact gen_again hL (i + 1) q' (by show y.1.length - (i + 1) < y.1.length - i; omega) (Weak.keepL (by simp [O3s, hwi, hfs, ends]) (by simp [O3s, ends]) (by simp [O3s, ends]))
      have hii : i = y.1.length := by have := of_decide_eq_false q; omega
      subst hii
      rw [List.take_length]
      refine bcase_intro (fun r => ?_) fun r => ?_
      · rw [if_pos r] at hsj
        refine ⟨by omega, ?_⟩
        exact gen_again hJ (j + 1) g' (by show M - (j + 1) < M - j; omega) (Weak.keepL (by simp [O2s, wj, hsj, ends]) (by simp [O2s, hsj, rowsOf_append, rV, ends]) (by simp [O2s, ends]))
      · rw [if_neg (by rw [r]; decide)] at hsj
        exact gen_again hJ (j + 1) g' (by show M - (j + 1) < M - j; omega) (Weak.keepL (by simp [O2s, wj, hsj, ends]) (by simp [O2s, hsj, ends]) (by simp [O2s, ends]))
    have hjj : j = M := by have := of_decide_eq_false g; omega
    subst hjj
    rw [← hrd] at hyl ⊢
    unfold domStep at hsk
    generalize rowD xs x.2 = y at hyl hsk ⊢
    obtain ⟨q, hq⟩ : ∃ q, x.1.2 * y.1.length = q := ⟨_, rfl⟩
    have hqb : q ≤ 300 * 4 := by rw [← hq]; exact Nat.mul_le_mul hpt.1 (by omega)
    have hwq : IntKind.i64.wrap ((x.1.2 : Int) * (y.1.length : Int)) = (q : Int) := by
      rw [← Int.natCast_mul, hq, wrap_eq (by omega) (by omega)]
    rw [hq] at hsk
    simp only [hwq]
    refine bcase_intro (fun r => ?_) fun r => ?_
    · rw [if_pos (by simp only [decide_eq_true_eq] at r; omega)] at hsk
      have hap : rowsOf rRow (x.1.1 ++ [y.1]) = rowsOf rRow x.1.1 ++ [[D.sl 3 (rowsOf rV y.1)]] := by simp [rowsOf, rRow]
      refine ⟨by omega, ?_⟩
      exact gen_again hI (k + 1) h' (by show N - (k + 1) < N - k; omega) (Weak.keepL (by simp [O1s, wk, hsk, ends]) (by simp [O1s, hsk, hap, ends]) (by simp [O1s, ends]))
    · rw [if_neg (by simp only [decide_eq_false_iff_not] at r; omega)] at hsk
      exact gen_again hI (k + 1) h' (by show N - (k + 1) < N - k; omega) (Weak.keepL (by simp [O1s, wk, hsk, ends]) (by simp [O1s, hsk, ends]) (by simp [O1s, ends]))
  have hkk : k = N := by have := of_decide_eq_false h; omega
  subst hkk
  refine retx_of [1] rfl trivial (by simp [rowsOf_length]) ?_ (by simp [ends]) (by simp [ends]) (by simp [ends])
  rfl
end Go.Proofs.YtiagabnddihchaaGreatDoor
namespace Go.Proofs.YtiagabnddihchaaGreatDoor
open Go.Am
attribute [local simp, local push_cast] num boo str ints aV
set_option linter.unusedVariables false
set_option maxRecDepth 100000
set_option maxHeartbeats 4000000
/-! What is made has its type, and is small. -/
mutual
def depthT : Ex → Nat
  | .mk _ _ _ _ _ ks => depthTs ks + 1
def depthTs : List Ex → Nat
  | [] => 0
  | e :: l => max (depthT e) (depthTs l)
end
theorem depthT_eq (e : Ex) : depthT e = depthTs e.kids + 1 := by cases e; rw [depthT]; rfl
theorem sizeL_T : ∀ (ks : List Ex) (n : Nat), (∀ k ∈ ks, sizeW k = sizeT k) → n + sizeTs ks ≤ 1000000 → sizeL n ks = ((n + sizeTs ks : Nat) : Int)
  | [], n, _, _ => by simp [sizeL, sizeTs]
  | k :: ks, n, h, hb => by
    rw [sizeTs] at hb ⊢
    rw [sizeL, h k (by simp), wrap_eq (by omega) (by omega), show (n : Int) + (sizeT k : Int) = ((n + sizeT k : Nat) : Int) by omega, sizeL_T ks _ (fun x hx => h x (by simp [hx])) (by omega)]
    omega
theorem sizeW_T : ∀ e : Ex, sizeT e ≤ 1000000 → sizeW e = sizeT e :=
  ex_ind (p := fun e => sizeT e ≤ 1000000 → sizeW e = sizeT e) fun e ih h => by
    rw [sizeT_eq] at h ⊢
    rw [sizeW_eq]
    exact sizeL_T e.kids 1 (fun k hk => ih k hk (by have := sizeTs_mem _ _ hk; omega)) h
theorem depthTs_mem : ∀ (l : List Ex) (e : Ex), e ∈ l → depthT e ≤ depthTs l
  | [], _, h => by simp at h
  | x :: l, e, h => by
    rw [depthTs]
    rcases List.mem_cons.1 h with rfl | h
    · omega
    · have := depthTs_mem l e h; omega
theorem depthL_T : ∀ (ks : List Ex) (n : Nat), (∀ k ∈ ks, depthW k = depthT k) → depthL n ks = ((max n (depthTs ks) : Nat) : Int)
  | [], n, _ => by simp [depthL, depthTs]
  | k :: ks, n, h => by
    rw [depthL, depthTs, h k (by simp)]
    have e : (if ((depthT k : Nat) : Int) > (n : Int) then ((depthT k : Nat) : Int) else (n : Int)) = ((max n (depthT k) : Nat) : Int) := by split <;> omega
    rw [e, depthL_T ks _ fun x hx => h x (by simp [hx])]
    omega
theorem depthW_T : ∀ e : Ex, depthT e ≤ 1000000 → depthW e = depthT e :=
  ex_ind (p := fun e => depthT e ≤ 1000000 → depthW e = depthT e) fun e ih h => by
    rw [depthT_eq] at h ⊢
    rw [depthW_eq, show (0 : Int) = ((0 : Nat) : Int) from rfl, depthL_T e.kids 0 (fun k hk => ih k hk (by have := depthTs_mem _ _ hk; omega)), wrap_eq (by omega) (by omega)]
    omega
structure Made (ts : List Int) (d : Nat) (t : Int) (e : Ex) : Prop where
  typ : typG (ownM ts) e = (t, 0)
  dep : depthT e ≤ d
  size : 3 * sizeT e + 1 ≤ 4 ^ d
  ok12 : Ok12 e
theorem Made.type {ts : List Int} {d : Nat} {t : Int} {e : Ex} (h : Made ts d t e) (hd : depthT e ≤ 24) (hs : sizeT e ≤ 200) : typeM (ownM ts) e = (t, 0) := by
  unfold typeM
  rw [sizeW_T e (by omega), depthW_T e (by omega), if_neg (by omega), if_neg (by omega)]
  exact h.typ
structure MadeL (ts : List Int) (d : Nat) (l : List Int) (ks : List Ex) : Prop where
  typ : ks.map (typG (ownM ts)) = l.map fun u => (u, (0 : Int))
  dep : ∀ k ∈ ks, depthT k ≤ d ∧ 3 * sizeT k + 1 ≤ 4 ^ d
  ok12 : ∀ k ∈ ks, Ok12 k
theorem MadeL.len {ts : List Int} {d : Nat} {l : List Int} {ks : List Ex} (h : MadeL ts d l ks) : ks.length = l.length := by have := congrArg List.length h.typ; simpa using this
theorem MadeL.nil {ts : List Int} {d : Nat} : MadeL ts d [] [] := ⟨rfl, fun k h => absurd h (by simp), fun k h => absurd h (by simp)⟩
theorem MadeL.cons {ts : List Int} {d : Nat} {t : Int} {l : List Int} {e : Ex} {ks : List Ex} (h : Made ts d t e) (h2 : MadeL ts d l ks) : MadeL ts d (t :: l) (e :: ks) :=
  ⟨by rw [List.map_cons, List.map_cons, h.typ, h2.typ], fun k hk => by
    rcases List.mem_cons.1 hk with rfl | hk
    · exact ⟨h.dep, h.size⟩
    · exact h2.dep k hk, fun k hk => by
    rcases List.mem_cons.1 hk with rfl | hk
    · exact h.ok12
    · exact h2.ok12 k hk⟩
theorem sizeTs_bd {P : Nat} : ∀ (ks : List Ex), (∀ k ∈ ks, 3 * sizeT k + 1 ≤ P) → 3 * sizeTs ks + ks.length ≤ ks.length * P
  | [], _ => by simp [sizeTs]
  | k :: ks, h => by
    have h1 := h k (by simp)
    have h2 := sizeTs_bd ks fun x hx => h x (by simp [hx])
    rw [sizeTs, List.length_cons, Nat.add_mul]
    omega
theorem depthTs_bd {d : Nat} : ∀ (ks : List Ex), (∀ k ∈ ks, depthT k ≤ d) → depthTs ks ≤ d
  | [], _ => by simp [depthTs]
  | k :: ks, h => by
    have h1 := h k (by simp)
    have h2 := depthTs_bd ks fun x hx => h x (by simp [hx])
    rw [depthTs]
    omega
theorem made_node {ts : List Int} {d : Nat} {t op ty n c : Int} {b : ByteArray} {ks : List Ex} {ks' : List Int} (h : MadeL ts d ks' ks) (hl : ks'.length ≤ 4)
    (ho : ownM ts (.mk op ty n b c ks) ks' = (t, 0)) : Made ts (d + 1) t (.mk op ty n b c ks) := by
  have hP0 : 0 < 4 ^ d := Nat.pow_pos (by omega)
  have hs : (4 : Nat) ^ (d + 1) = 4 * 4 ^ d := by rw [Nat.pow_succ]; omega
  have hlen := h.len
  obtain ⟨hk, h1, hx⟩ := h
  refine ⟨?_, ?_, ?_, ⟨_, by show ks.length ≤ 1000; omega, hx⟩⟩
  · rw [typG_eq]
    show typK (ownM ts) _ (ks.map (typG (ownM ts))) = _
    rw [hk]
    have he : ∀ l : List Int, ferr Prod.snd (l.map fun u => (u, (0 : Int))) = 0 := fun l => ferr_none _ _ fun i hi => by
      have := getD_mem hi
      obtain ⟨u, _, hu⟩ := List.mem_map.1 this
      rw [← hu]
    rw [typK, if_pos (he _), List.map_map]
    rw [show (Prod.fst ∘ fun u : Int => (u, (0 : Int))) = id from rfl, List.map_id]
    exact ho
  · rw [depthT_eq]
    have := depthTs_bd (d := d) ks fun k hk => (h1 k hk).1
    show depthTs ks + 1 ≤ d + 1
    omega
  · rw [sizeT_eq, hs]
    have := sizeTs_bd (P := 4 ^ d) ks fun k hk => (h1 k hk).2
    show 3 * (1 + sizeTs ks) + 1 ≤ _
    generalize (4 : Nat) ^ d = P at hP0 this ⊢
    have hm : ks.length * P ≤ 4 * P - (4 - ks.length) * P := by
      have : ks.length * P + (4 - ks.length) * P = 4 * P := by rw [← Nat.add_mul]; congr 1; omega
      omega
    have h4 : (4 - ks.length) ≤ (4 - ks.length) * P := Nat.le_mul_of_pos_right _ hP0
    have h5 : (4 - ks.length) * P ≤ 4 * P := Nat.mul_le_mul_right _ (by omega)
    omega
theorem Made.mono {ts : List Int} {d d' : Nat} {t : Int} {e : Ex} (h : Made ts d t e) (hd : d ≤ d') : Made ts d' t e := by
  have hP : 4 ^ d ≤ 4 ^ d' := Nat.pow_le_pow_right (by omega) hd
  obtain ⟨h1, h2, h3, h4⟩ := h
  exact ⟨h1, by omega, by omega, h4⟩
theorem bempty : ByteArray.empty.toList = [] := by simp [ByteArray.toList_eq]
theorem clean_op {op : Int} (h : 6 ≤ op) (ks : List Ex) : cleanM (.mk op 0 0 ByteArray.empty 0 ks) = true := by
  have h1 : ¬ op = 1 := by omega
  have h2 : ¬ op = 2 := by omega
  have h3 : ¬ op = 3 := by omega
  have h4 : ¬ op = 4 := by omega
  have h5 : ¬ op = 5 := by omega
  simp [cleanM, okF, noT, noN, noX, noC, Ex.op, Ex.type, Ex.num, Ex.text, Ex.col, h1, h2, h3, h4, h5, ByteArray.toList_eq]
def opOk (op : Int) (l : List Int) (t : Int) : Bool :=
  isOp op && decide (6 ≤ op) && (((l.length : Int) == (findM op).kids) || ((op == 28) && decide ((l.length : Int) > (findM op).kids))) && fitM (findM op) l &&
    (if ((findM op).own == 0) = true then l.getD (l.length - 1) default == t else (findM op).own == t)
theorem own_op {ts : List Int} {op t : Int} {l : List Int} {ks : List Ex} (h : opOk op l t = true) (hl : ks.length = l.length) : ownM ts (.mk op 0 0 ByteArray.empty 0 ks) l = (t, 0) := by
  unfold opOk at h
  simp only [Bool.and_eq_true, decide_eq_true_eq] at h
  obtain ⟨⟨⟨⟨h1, h2⟩, h3⟩, h4⟩, h5⟩ := h
  have hc : countM (.mk op 0 0 ByteArray.empty 0 ks) = true := by
    unfold countM
    simp only [Ex.op, Ex.kids, hl, h1, h3, Bool.true_and]
  have n5 : (op == 5) = false := beq_eq_false_iff_ne.2 (by omega)
  have n1 : (op == 1) = false := beq_eq_false_iff_ne.2 (by omega)
  unfold ownM
  simp only [Ex.op, h1, clean_op h2, hc, h4, n5, n1, Bool.not_true, Bool.or_self, Bool.false_and, Bool.false_eq_true, if_false]
  split at h5
  · rename_i ho
    exact (if_pos ho).trans (by rw [eq_of_beq h5])
  · rename_i ho
    exact (if_neg ho).trans (by rw [eq_of_beq h5])
theorem made_bin {ts : List Int} {d : Nat} {op t : Int} {l : List Int} {r : List Ex × Nat} (h : opOk op l t = true) (hl : l.length ≤ 4) (hm : MadeL ts d l r.1) : Made ts (d + 1) t (mkE op r).1 :=
  made_node hm hl (own_op h hm.len)
theorem made_op {ts : List Int} {d : Nat} {op t : Int} {l : List Int} {ks : List Ex} (h : opOk op l t = true) (hl : l.length ≤ 4) (hm : MadeL ts d l ks) : Made ts (d + 1) t (bin op ks) :=
  made_node hm hl (own_op h hm.len)
theorem made_flat {ts : List Int} {t op ty n c : Int} {b : ByteArray} (ho : ownM ts (.mk op ty n b c []) [] = (t, 0)) : Made ts 1 t (.mk op ty n b c []) :=
  made_node (d := 0) .nil (by simp) ho
theorem made_null (ts : List Int) {t : Int} (ht : Kn t) : Made ts 1 t (.mk 1 t 0 ByteArray.empty 0 []) := by
  refine made_flat ?_
  rcases ht with rfl | rfl | rfl <;> (simp only [ownM, cleanM, okF, noT, noN, noX, noC, Ex.op, Ex.type, Ex.num, Ex.text, Ex.col, bempty]; rfl)
theorem made_int (ts : List Int) {n : Int} (h : n ∈ intsF) : Made ts 1 1 (.mk 2 0 n ByteArray.empty 0 []) := by
  refine made_flat ?_
  simp only [intsF, List.mem_cons, List.not_mem_nil, or_false] at h
  rcases h with rfl | rfl | rfl | rfl | rfl | rfl <;> (simp only [ownM, cleanM, okF, validM, noT, noN, noX, noC, Ex.op, Ex.type, Ex.num, Ex.text, Ex.col, bempty]; rfl)
theorem made_bo (ts : List Int) {n : Int} (h : n = 0 ∨ n = 1) : Made ts 1 2 (.mk 3 0 n ByteArray.empty 0 []) := by
  refine made_flat ?_
  rcases h with rfl | rfl <;> (simp only [ownM, cleanM, okF, validM, noT, noN, noX, noC, Ex.op, Ex.type, Ex.num, Ex.text, Ex.col, bempty]; rfl)
theorem made_text (ts : List Int) {b : ByteArray} (h : b ∈ textsF) : Made ts 1 3 (.mk 4 0 0 b 0 []) := by
  refine made_flat ?_
  simp only [textsF, List.mem_cons, List.not_mem_nil, or_false] at h
  rcases h with rfl | rfl | rfl | rfl <;> simp [ownM, isOp, cleanM, okF, validM, textM, noT, noN, noX, noC, Ex.op, Ex.type, Ex.num, Ex.text, Ex.col, ByteArray.toList_eq] <;> decide
/-- The values that are drawn. -/
def vOk (k : Int) (v : Val) : Prop := v = nullV ∨ k = 1 ∧ (∃ n ∈ intsF, v = ⟨1, n, ByteArray.empty⟩) ∨ k = 2 ∧ (∃ b, v = ofV b) ∨ k = 3 ∧ ∃ b ∈ textsF, v = ⟨3, 0, b⟩
theorem valF_ok (xs : List Int) {k : Int} (hk : Kn k) (p : Nat) : vOk k (valF xs k p) := by
  have h6 := drawn_range xs p (n := 6) (by omega)
  have h4 := drawn_range xs p (n := 4) (by omega)
  have l6 : intsF.length = 6 := rfl
  have l4 : textsF.length = 4 := rfl
  unfold valF
  rcases hk with rfl | rfl | rfl
  · rw [if_pos rfl]
    exact .inr (.inl ⟨rfl, _, getD_mem (by omega), rfl⟩)
  · rw [if_neg (by decide), if_pos rfl]
    exact .inr (.inr (.inl ⟨rfl, _, rfl⟩))
  · rw [if_neg (by decide), if_neg (by decide)]
    exact .inr (.inr (.inr ⟨rfl, _, getD_mem (by omega), rfl⟩))
theorem valueF_ok (xs : List Int) {k : Int} (hk : Kn k) (nl : Bool) (p : Nat) : vOk k (valueF xs k nl p).1 := by
  unfold valueF
  split
  · split
    · exact .inl rfl
    · exact valF_ok xs hk _
  · exact valF_ok xs hk _
theorem made_const (ts : List Int) {k : Int} (hk : Kn k) {v : Val} (hv : vOk k v) : Made ts 1 k (constM v k) := by
  rcases hv with rfl | ⟨rfl, n, hn, rfl⟩ | ⟨rfl, b, rfl⟩ | ⟨rfl, b, hb, rfl⟩
  · have e : constM nullV k = .mk 1 k 0 ByteArray.empty 0 [] := by simp [constM, nullV]
    rw [e]; exact made_null ts hk
  · exact made_int ts hn
  · cases b
    · exact made_bo ts (.inl rfl)
    · exact made_bo ts (.inr rfl)
  · exact made_text ts hb
theorem made_col {ts : List Int} {j : Nat} {typ : Int} (h2 : j < ts.length) (h4 : ts.getD j default = typ) (ht : isTypeM typ = true) : Made ts 1 typ (.mk 5 0 0 ByteArray.empty (j : Int) []) := by
  refine made_flat ?_
  have hcl : cleanM (.mk 5 0 0 ByteArray.empty (j : Int) []) = true := by simp only [cleanM, okF, noT, noN, noX, noC, Ex.op, Ex.type, Ex.num, Ex.text, Ex.col, bempty]; rfl
  have hcn : countM (.mk 5 0 0 ByteArray.empty (j : Int) []) = true := rfl
  have hfi : fitM (findM 5) [] = true := rfl
  have g : (((5 : Int) == 5) && (decide ((j : Int) < 0) || decide ((j : Int) ≥ ts.length))) = false := by rw [decide_eq_false (by omega), decide_eq_false (by omega)]; rfl
  have g2 : ((((5 : Int) == 5) && !isTypeM (ts.getD ((j : Int)).toNat default)) || !fitM (findM 5) []) = false := by rw [Int.toNat_natCast, h4, ht, hfi]; rfl
  show (if (!isOp 5 || !cleanM (.mk 5 0 0 ByteArray.empty (j : Int) [])) = true then ((0, 1) : Int × Int) else if (!countM (.mk 5 0 0 ByteArray.empty (j : Int) [])) = true then (0, 9) else if (((5 : Int) == 5) && (decide ((j : Int) < 0) || decide ((j : Int) ≥ ts.length))) = true then (0, 3)
    else if ((((5 : Int) == 5) && !isTypeM (ts.getD ((j : Int)).toNat default)) || !fitM (findM 5) []) = true then (0, 4) else (ts.getD ((j : Int)).toNat default, 0)) = _
  rw [hcl, hcn, g, g2, Int.toNat_natCast, h4]
  rfl
theorem made_leaf (xs ts : List Int) {k : Int} (hk : Kn k) (p : Nat) : Made ts 1 k (leafF xs ts k p).1 := by
  unfold leafF
  split
  · rename_i hc
    split
    · have hd := drawn_range xs (p + 1) (n := ((cols ts k).length : Int)) (by omega)
      have hm : (cols ts k).getD (drawn xs (p + 1) (cols ts k).length).toNat default ∈ cols ts k := getD_mem (by omega)
      obtain ⟨j, h1, h2, h3⟩ := cols_in hm
      dsimp only
      rw [h1]
      exact made_col h2 h3 (by rcases hk with rfl | rfl | rfl <;> rfl)
    · exact made_const ts hk (valueF_ok xs hk _ _)
  · exact made_const ts hk (valueF_ok xs hk _ _)
section
variable {xs ts : List Int} {d : Nat} {f : Int → Nat → Ex × Nat} (hf : ∀ t p, Kn t → Made ts d t (f t p).1)
include hf
theorem made_one {x : Int} (hx : Kn x) (p : Nat) : MadeL ts d [x] (oneM f x p).1 := .cons (hf x _ hx) .nil
theorem made_two {x : Int} (hx : Kn x) (p : Nat) : MadeL ts d [x, x] (twoM f x p).1 := .cons (hf x _ hx) (.cons (hf x _ hx) .nil)
theorem made_three {x : Int} (hx : Kn x) (p : Nat) : MadeL ts d [2, x, x] (threeM f x p).1 := .cons (hf 2 _ (.inr (.inl rfl))) (.cons (hf x _ hx) (.cons (hf x _ hx) .nil))
theorem made_last {k : Int} (hk : Kn k) (p : Nat) : Made ts (d + 1) k (lastF xs f k p).1 := by
  unfold lastF
  split
  · refine made_bin ?_ (by simp) (made_two hf hk _)
    rcases hk with rfl | rfl | rfl <;> decide
  · refine made_bin ?_ (by simp) (made_three hf hk _)
    rcases hk with rfl | rfl | rfl <;> decide
theorem made_cond (hd1 : 1 ≤ d) (p : Nat) : Made ts (d + 1) 2 (condF xs f (leafF xs ts) p).1 := by
  have hx := pick_kn xs p
  have k2 : Kn 2 := .inr (.inl rfl)
  unfold condF
  generalize pickB.getD (drawn xs p 4).toNat default = x at hx ⊢
  dsimp only
  split
  · have h7 := drawn_range xs (p + 2) (n := 7) (by omega)
    refine made_bin ?_ (by simp) (made_two hf hx _)
    generalize drawn xs (p + 2) 7 = n at h7 ⊢
    have : n = 0 ∨ n = 1 ∨ n = 2 ∨ n = 3 ∨ n = 4 ∨ n = 5 ∨ n = 6 := by omega
    rcases this with rfl | rfl | rfl | rfl | rfl | rfl | rfl <;> rcases hx with rfl | rfl | rfl <;> decide
  split
  · have h7 := drawn_range xs (p + 2) (n := 2) (by omega)
    refine made_bin ?_ (by simp) (made_two hf k2 _)
    generalize drawn xs (p + 2) 2 = n at h7 ⊢
    have : n = 0 ∨ n = 1 := by omega
    rcases this with rfl | rfl <;> decide
  split
  · have h7 := drawn_range xs (p + 2) (n := 2) (by omega)
    refine made_bin ?_ (by simp) (made_one hf k2 _)
    generalize drawn xs (p + 2) 2 = n at h7 ⊢
    have : n = 0 ∨ n = 1 := by omega
    rcases this with rfl | rfl <;> decide
  split
  · refine made_bin ?_ (by simp) (made_one hf hx _)
    rcases hx with rfl | rfl | rfl <;> decide
  split
  · refine made_bin (l := [x, x, x]) ?_ (by simp) ?_
    · rcases hx with rfl | rfl | rfl <;> decide
    · exact .cons (hf x _ hx) (.cons ((made_leaf xs ts hx _).mono hd1) (.cons ((made_leaf xs ts hx _).mono hd1) .nil))
  · refine made_bin ?_ (by simp) (made_three hf k2 _)
    decide
theorem made_step (hd1 : 1 ≤ d) {k : Int} (hk : Kn k) (p : Nat) : Made ts (d + 1) k (stepF xs ts f k p).1 := by
  unfold stepF
  split
  · exact (made_leaf xs ts hk _).mono (by omega)
  rcases hk with rfl | rfl | rfl
  · rw [if_pos rfl]
    dsimp only
    split
    · have h7 := drawn_range xs (p + 2) (n := 5) (by omega)
      refine made_bin ?_ (by simp) (made_two hf (.inl rfl) _)
      generalize drawn xs (p + 2) 5 = n at h7 ⊢
      have : n = 0 ∨ n = 1 ∨ n = 2 ∨ n = 3 ∨ n = 4 := by omega
      rcases this with rfl | rfl | rfl | rfl | rfl <;> decide
    split
    · exact made_bin (by decide) (by simp) (made_one hf (.inl rfl) _)
    split
    · exact made_bin (by decide) (by simp) (made_one hf (.inr (.inr rfl)) _)
    · exact made_last hf (.inl rfl) _
  · rw [if_neg (by decide), if_neg (by decide)]
    exact made_cond hf hd1 _
  · rw [if_neg (by decide), if_pos rfl]
    split
    · exact made_bin (by decide) (by simp) (made_two hf (.inr (.inr rfl)) _)
    · exact made_last hf (.inr (.inr rfl)) _
end
theorem made_expr (xs ts : List Int) : ∀ (d : Nat) (k : Int), Kn k → ∀ p : Nat, Made ts (d + 1) k (exprF xs ts (d + 1) k p).1
  | 0, k, hk, p => made_leaf xs ts hk p
  | d + 1, k, hk, p => made_step (fun t q ht => made_expr xs ts d t ht q) (by omega) hk p
end Go.Proofs.YtiagabnddihchaaGreatDoor
namespace Go.Proofs.YtiagabnddihchaaGreatDoor
open Go.Am
attribute [local simp, local push_cast] num boo str ints aV aTab aRow rRow vE tapeO
set_option linter.unusedVariables false
set_option maxRecDepth 100000
set_option maxHeartbeats 4000000
/-! What is drawn as domains is one. -/
structure RowOk (l : Row) : Prop where
  ne : 0 < l.length
  ok : ∃ k, Kn k ∧ ∀ v ∈ l, vOk k v
  nd : l.Nodup
theorem vOk_kind {k : Int} (hk : Kn k) {v : Val} (h : vOk k v) : (v.kind = 0 ∨ v.kind = k) ∧ validM v = true := by
  rcases h with rfl | ⟨rfl, n, hn, rfl⟩ | ⟨rfl, b, rfl⟩ | ⟨rfl, b, hb, rfl⟩
  · refine ⟨.inl rfl, ?_⟩
    simp [validM, nullV, ByteArray.toList_eq]
  · refine ⟨.inr rfl, ?_⟩
    simp only [intsF, List.mem_cons, List.not_mem_nil, or_false] at hn
    rcases hn with rfl | rfl | rfl | rfl | rfl | rfl <;> simp [validM, ByteArray.toList_eq]
  · refine ⟨.inr rfl, ?_⟩
    cases b <;> simp [validM, ofV, ByteArray.toList_eq]
  · refine ⟨.inr rfl, ?_⟩
    simp only [textsF, List.mem_cons, List.not_mem_nil, or_false] at hb
    rcases hb with rfl | rfl | rfl | rfl <;> simp [validM, textM, ByteArray.toList_eq] <;> decide
theorem RowOk.okR {l : Row} (h : RowOk l) : okR l = true := by
  obtain ⟨k, hk, hv⟩ := h.ok
  have hne : (l.length != 0) = true := bne_iff_ne.2 (by have := h.ne; omega)
  unfold Go.Proofs.YtiagabnddihchaaGreatDoor.okR
  rw [hne, Bool.true_and]
  refine (okGo_iff l []).2 ⟨fun v hm => ⟨(vOk_kind hk (hv v hm)).2, fun w hw => absurd hw (by simp)⟩, ?_⟩
  have := h.nd
  rw [List.Nodup] at this
  refine List.Pairwise.imp_of_mem ?_ this
  intro a b ha hb hab
  have h1 := (vOk_kind hk (hv a ha)).1
  have h2 := (vOk_kind hk (hv b hb)).1
  have hs : sameM b a = false := by
    cases q : sameM b a with
    | false => rfl
    | true => exact absurd ((same_iff b a).1 q).symm hab
  unfold clash
  rw [hs, Bool.false_or]
  cases q : ((b.kind != a.kind && b.kind != 0) && a.kind != 0) with
  | false => rfl
  | true =>
    simp only [Bool.and_eq_true, bne_iff_ne] at q
    omega
theorem RowOk.kind {l : Row} (h : RowOk l) : (kindM l).2 = true := by rw [kind_ok]; exact h.okR
theorem typ_two {k : Int} : ∀ (l : Row) (t : Int), (t = 1 ∨ t = k) → (∀ v ∈ l, v.kind = 0 ∨ v.kind = k) → l.foldl (fun t v => if v.kind = 0 then t else v.kind) t = 1 ∨ l.foldl (fun t v => if v.kind = 0 then t else v.kind) t = k
  | [], t, ht, _ => ht
  | v :: l, t, ht, h => by
    rw [List.foldl_cons]
    refine typ_two l _ ?_ fun w hw => h w (by simp [hw])
    have := h v (by simp)
    split <;> omega
theorem RowOk.kn {l : Row} (h : RowOk l) : Kn (kindM l).1 := by
  obtain ⟨k, hk, hv⟩ := h.ok
  rw [← typ_kind h.kind]
  rcases typ_two (k := k) l 1 (.inl rfl) fun v hm => (vOk_kind hk (hv v hm)).1 with q | q
  · unfold typR; rw [q]; exact .inl rfl
  · unfold typR; rw [q]; exact hk
theorem rows_step (xs : List Int) {k : Int} (hk : Kn k) {x : Row × Nat} (h : (∀ v ∈ x.1, vOk k v) ∧ x.1.Nodup) : (∀ v ∈ (rowStep xs k x).1, vOk k v) ∧ (rowStep xs k x).1.Nodup ∧ 0 < (rowStep xs k x).1.length := by
  unfold rowStep
  dsimp only
  have hv := valueF_ok xs hk true x.2
  generalize (valueF xs k true x.2).1 = v at hv ⊢
  split
  · rename_i hf
    refine ⟨fun w hw => ?_, ?_, by simp⟩
    · rcases List.mem_append.1 hw with hw | hw
      · exact h.1 w hw
      · rw [List.mem_singleton] at hw; rw [hw]; exact hv
    · refine List.nodup_append.2 ⟨h.2, by simp, ?_⟩
      intro a ha b hb hab
      rw [List.mem_singleton] at hb
      subst hab
      rw [hb] at ha
      have := List.all_eq_true.1 hf v ha
      rw [(same_iff v v).2 rfl] at this
      cases this
  · rename_i hf
    refine ⟨h.1, h.2, ?_⟩
    cases hl : x.1 with
    | nil => rw [hl] at hf; exact absurd rfl hf
    | cons a l => simp
theorem rows_ok (xs : List Int) {k : Int} (hk : Kn k) (p : Nat) : ∀ n, (∀ v ∈ (rowsF xs k p n).1, vOk k v) ∧ (rowsF xs k p n).1.Nodup ∧ (0 < n → 0 < (rowsF xs k p n).1.length)
  | 0 => by simp [rowsF]
  | n + 1 => by
    have h := rows_ok xs hk p n
    have := rows_step xs hk ⟨h.1, h.2.1⟩
    exact ⟨this.1, this.2.1, fun _ => this.2.2⟩
theorem pickD_kn (xs : List Int) (p : Nat) : Kn (pickD.getD (drawn xs p 4).toNat default) := by
  have h4 := drawn_range xs p (n := 4) (by omega)
  have l4 : pickD.length = 4 := rfl
  have := getD_mem (l := pickD) (n := (drawn xs p 4).toNat) (by omega)
  generalize pickD.getD (drawn xs p 4).toNat default = x at this ⊢
  simp only [pickD, List.mem_cons, List.not_mem_nil, or_false] at this
  unfold Kn
  omega
theorem rowD_ok (xs : List Int) (p : Nat) : RowOk (rowD xs p).1 := by
  have hk := pickD_kn xs p
  have h4 := drawn_range xs (p + 1) (n := 4) (by omega)
  have := rows_ok xs hk (p + 2) (1 + drawn xs (p + 1) 4).toNat
  exact ⟨this.2.2 (by omega), ⟨_, hk, this.1⟩, this.2.1⟩
theorem prodL_snoc : ∀ (d : List Row) (l : Row), prodL (d ++ [l]) = prodL d * l.length
  | [], l => by simp [prodL]
  | x :: d, l => by rw [List.cons_append, prodL, prodL, prodL_snoc d l, Nat.mul_assoc]
theorem doms_ok (xs : List Int) (p : Nat) : ∀ n, (∀ l ∈ (domsF xs p n).1.1, RowOk l) ∧ prodL (domsF xs p n).1.1 = (domsF xs p n).1.2
  | 0 => by simp [domsF, prodL]
  | n + 1 => by
    have h := doms_ok xs p n
    rw [domsF, domStep]
    generalize domsF xs p n = x at h ⊢
    have hr := rowD_ok xs x.2
    generalize rowD xs x.2 = y at hr ⊢
    dsimp only
    split
    · refine ⟨fun l hl => ?_, ?_⟩
      · rcases List.mem_append.1 hl with hl | hl
        · exact h.1 l hl
        · rw [List.mem_singleton] at hl; rw [hl]; exact hr
      · dsimp only
        rw [prodL_snoc, h.2]
    · exact h
/-- Domains as they are made: valid, few points. -/
structure DomOk (d : List Row) : Prop where
  rows : ∀ l ∈ d, RowOk l
  len : d.length ≤ 4
  pts : prodL d ≤ 300
theorem domF_ok (xs : List Int) (p : Nat) : DomOk (domF xs p).1 := by
  have h1 := doms_ok xs (p + 1) (drawn xs p 5).toNat
  have h2 := domsF_pts xs (p + 1) (drawn xs p 5).toNat
  have h5 := drawn_range xs p (n := 5) (by omega)
  refine ⟨h1.1, by show (domsF xs (p + 1) (drawn xs p 5).toNat).1.1.length ≤ 4; omega, ?_⟩
  show prodL (domsF xs (p + 1) (drawn xs p 5).toNat).1.1 ≤ 300
  rw [h1.2]; exact h2.1
namespace DomOk
variable {d : List Row} (h : DomOk d)
include h
theorem ok : domOk d = true := by
  unfold domOk
  rw [decide_eq_true (by have := h.len; omega), Bool.true_and]
  exact List.all_eq_true.2 fun l hl => (h.rows l hl).kind
theorem full : Full d := (domOk_full h.ok).1
theorem good : GoodD d := ⟨h.full, by have := h.len; omega, by have := h.pts; omega, fun l hl => by have := len_le_prod h.full l hl; have := h.pts; omega⟩
theorem small : smallD d := ⟨by have := h.len; omega, fun l hl => by have := h.good.ll l hl; omega⟩
theorem types : typesM d = d.map fun l => (kindM l).1 := by rw [typesM, if_pos h.ok]
theorem tlen : (typesM d).length = d.length := by rw [h.types, List.length_map]
theorem pts23 : pts23 d = prodL d := pts_good h.good
theorem valid {e : Ex} (he : typeM (ownM (typesM d)) e = (2, 0)) : validC d e = 0 := by
  unfold validC
  rw [h.ok, he, if_neg (by decide), if_neg (by have := h.pts; omega), if_pos rfl, if_pos rfl]
end DomOk
end Go.Proofs.YtiagabnddihchaaGreatDoor
namespace Go.Proofs.YtiagabnddihchaaGreatDoor
open Go.Am
attribute [local simp, local push_cast] num boo str ints aV aTab aRow rRow vE tapeO
set_option linter.unusedVariables false
set_option maxRecDepth 100000
set_option maxHeartbeats 4000000
/-! The example of the chapter. -/
def iV (n : Int) : Val := ⟨1, n, ByteArray.empty⟩
def exD : List Row := [[iV 1, iV 2, nullV], [iV 1, iV 2]]
def colE (n : Int) : Ex := .mk 5 0 0 ByteArray.empty n []
def exE : Ex := bin 16 [colE 1, colE 0]
theorem exD_ok : DomOk exD := by
  refine ⟨fun l hl => ?_, by decide, by decide⟩
  have k1 : Kn 1 := .inl rfl
  have v1 : vOk 1 (iV 1) := .inr (.inl ⟨rfl, 1, by decide, rfl⟩)
  have v2 : vOk 1 (iV 2) := .inr (.inl ⟨rfl, 2, by decide, rfl⟩)
  have v3 : vOk 1 nullV := .inl rfl
  simp only [exD, List.mem_cons, List.not_mem_nil, or_false] at hl
  rcases hl with rfl | rfl
  · refine ⟨by decide, ⟨1, k1, ?_⟩, ?_⟩
    · intro v hv
      simp only [List.mem_cons, List.not_mem_nil, or_false] at hv
      rcases hv with rfl | rfl | rfl <;> assumption
    · simp [iV, nullV]
  · refine ⟨by decide, ⟨1, k1, ?_⟩, ?_⟩
    · intro v hv
      simp only [List.mem_cons, List.not_mem_nil, or_false] at hv
      rcases hv with rfl | rfl <;> assumption
    · simp [iV]
theorem exD_types : typesM exD = [1, 1] := by
  rw [exD_ok.types]
  have h1 := typ_kind (exD_ok.rows [iV 1, iV 2, nullV] (by simp [exD])).kind
  have h2 := typ_kind (exD_ok.rows [iV 1, iV 2] (by simp [exD])).kind
  show [(kindM [iV 1, iV 2, nullV]).1, (kindM [iV 1, iV 2]).1] = _
  rw [← h1, ← h2]; rfl
theorem exE_ok12 : Ok12 exE := by
  have hc : ∀ n, Ok12 (colE n) := fun n => ⟨_, by show 0 ≤ 1000; decide, fun k hk => absurd (show k ∈ ([] : List Ex) from hk) (by simp)⟩
  refine ⟨_, by decide, fun k hk => ?_⟩
  have hk : k ∈ [colE 1, colE 0] := hk
  simp only [List.mem_cons, List.not_mem_nil, or_false] at hk
  rcases hk with rfl | rfl <;> exact hc _
theorem exE_valid : validC exD exE = 0 := by
  refine exD_ok.valid ?_
  rw [exD_types]
  have m0 : Made [1, 1] 1 1 (colE 0) := made_col (j := 0) (by decide) rfl rfl
  have m1 : Made [1, 1] 1 1 (colE 1) := made_col (j := 1) (by decide) rfl rfl
  exact (made_op (l := [1, 1]) (t := 2) (op := 16) (by decide) (by decide) (.cons m1 (.cons m0 .nil))).type (by decide) (by decide)
theorem eval_col (row : List Val) (n : Int) : evalM row (colE n) = if 0 ≤ n ∧ n < row.length then row.getD n.toNat default else nullV := by
  rw [evalM_eq, evalK, if_neg (by show ¬ true = false; decide)]; rfl
theorem eval_op (row : List Val) (op : Int) (ks : List Ex) (h : 6 ≤ op) (h26 : op ≠ 26) (hc : countM (bin op ks) = true) : evalM row (bin op ks) = applyM op (ks.map (evalM row)) := by
  rw [evalM_eq, evalK_apply row (bin op ks) _ h h26 hc]; rfl
theorem exE_eval (a b : Val) : evalM [a, b] exE = lessM b a := by
  rw [exE, eval_op _ _ _ (by decide) (by decide) rfl]
  simp only [List.map_cons, List.map_nil, eval_col]
  rfl
theorem exD_at : ∀ k, k < 6 → truthAt exD exE k = [0, 0, 1, 0, 2, 2].getD k default := by
  intro k hk
  have : k = 0 ∨ k = 1 ∨ k = 2 ∨ k = 3 ∨ k = 4 ∨ k = 5 := by omega
  rcases this with rfl | rfl | rfl | rfl | rfl | rfl
  · exact (congrArg truthM (exE_eval (iV 1) (iV 1))).trans (by simp [lessM, iV, truthM, ofV, cmpM, cmpI, cmpS, nullV, bl_eq])
  · exact (congrArg truthM (exE_eval (iV 1) (iV 2))).trans (by simp [lessM, iV, truthM, ofV, cmpM, cmpI, cmpS, nullV, bl_eq])
  · exact (congrArg truthM (exE_eval (iV 2) (iV 1))).trans (by simp [lessM, iV, truthM, ofV, cmpM, cmpI, cmpS, nullV, bl_eq])
  · exact (congrArg truthM (exE_eval (iV 2) (iV 2))).trans (by simp [lessM, iV, truthM, ofV, cmpM, cmpI, cmpS, nullV, bl_eq])
  · exact (congrArg truthM (exE_eval nullV (iV 1))).trans (by simp [lessM, iV, truthM, ofV, cmpM, cmpI, cmpS, nullV, bl_eq])
  · exact (congrArg truthM (exE_eval nullV (iV 2))).trans (by simp [lessM, iV, truthM, ofV, cmpM, cmpI, cmpS, nullV, bl_eq])
theorem holds_truth (d : List Row) (e : Ex) (k : Nat) : holdsAt d e k = (truthAt d e k == 1) := rfl
theorem exD_solve : solveM exD exE = ([iV 2, iV 1], 0) := by
  have hp : prodL exD = 6 := rfl
  have : firstP (holdsAt exD exE) (prodL exD) = some 2 := by
    refine first_of (by decide) ?_ ?_
    · rw [holds_truth, exD_at 2 (by omega)]; rfl
    · intro j hj
      rw [holds_truth, exD_at j (by omega)]
      have : j = 0 ∨ j = 1 := by omega
      rcases this with rfl | rfl <;> rfl
  rw [solveM, if_neg (by rw [exE_valid]; decide), this]
  rfl
theorem cntT_eq {v w : Nat → Int} {t : Int} {n : Nat} (h : ∀ k, k < n → v k = w k) : cntT v t n = cntT w t n := by
  unfold cntT
  congr 1
  refine List.countP_congr fun k hk => ?_
  rw [h k (List.mem_range.1 hk)]
theorem exD_count : countR exD exE = [1, 3, 2, 0] := by
  have hp : prodL exD = 6 := rfl
  rw [countR, if_neg (by rw [exE_valid]; decide), hp, cntT_eq (exD_at), cntT_eq (exD_at), cntT_eq (exD_at)]
  rfl
theorem c_awake : ACall Tryz.prog 20 [] [] (boo true) [] := by
  have h1 := c_solve exD exD_ok.small exE exE_ok12
  have h2 := c_pcount exD exD_ok.small exE exE_ok12
  rw [exD_solve] at h1
  rw [exD_count] at h2
  have hs := c_same23 [iV 2, iV 1] [iV 2, iV 1] (by decide)
  rw [sameR_self] at hs
  rw [aE_eq] at h1 h2
  obtain ⟨e1, he1⟩ : ∃ e, e = colE 1 := ⟨_, rfl⟩
  obtain ⟨e0, he0⟩ : ∃ e, e = colE 0 := ⟨_, rfl⟩
  have hE : exE = bin 16 [e1, e0] := by rw [he1, he0]; rfl
  have hc1 := c_fcol 1
  have hc0 := c_fcol 0
  rw [show Ex.mk 5 0 0 ByteArray.empty 1 [] = e1 from he1.symm] at hc1
  rw [show Ex.mk 5 0 0 ByteArray.empty 0 [] = e0 from he0.symm] at hc0
  have hd := c_do 16 [e1, e0] (by simp)
  rw [← hE] at hd
  generalize exE = e at h1 h2 hd
  refine enterq mixed ttok Tryz.func20 Tryz.ntmps20 Tryz.results20 ?_
  simp -implicitDefEqProofs only [argT, ↓steps, push_cast, simprocAttr, tte]
  refine callq [[]] [] (c_fint 1) ?_
  simp -implicitDefEqProofs only [↓steps, push_cast, simprocAttr, tte]
  refine callq [[]] [] (c_fint 2) ?_
  simp -implicitDefEqProofs only [↓steps, push_cast, simprocAttr, tte]
  refine callq [[]] [] (c_fint 1) ?_
  simp -implicitDefEqProofs only [↓steps, push_cast, simprocAttr, tte]
  refine callq [[]] [] (c_fint 2) ?_
  simp -implicitDefEqProofs only [↓steps, push_cast, simprocAttr, tte]
  refine callq [[]] [] (hc1) ?_
  simp -implicitDefEqProofs only [↓steps, push_cast, simprocAttr, tte]
  refine callq [[]] [] (hc0) ?_
  simp -implicitDefEqProofs only [↓steps, push_cast, simprocAttr, tte]
  refine callq [[], [6]] [] hd ?_ (hargs := by simp [ends, bs, rE_eq, rowsOf_cons, rowsOf_nil])
  simp -implicitDefEqProofs only [↓steps, push_cast, simprocAttr, tte]
  refine callq [[1], [0, 0, 0, 0, 0, 6]] [] h1 ?_ (hargs := by simp [ends, bs, exD, iV, nullV, rowsOf_cons, rowsOf_nil, rV, rRow])
  simp -implicitDefEqProofs only [↓steps, push_cast, simprocAttr, tte]
  refine callq [[1], [0, 0, 0, 0, 0, 6]] [] h2 ?_ (hargs := by simp [ends, bs, exD, iV, nullV, rowsOf_cons, rowsOf_nil, rV, rRow])
  simp -implicitDefEqProofs only [beq_self_eq_true, ↓steps, push_cast, simprocAttr, tte]
  refine callq [[]] [] (c_fint 2) ?_
  simp -implicitDefEqProofs only [↓steps, push_cast, simprocAttr, tte]
  refine callq [[]] [] (c_fint 1) ?_
  simp -implicitDefEqProofs only [↓steps, push_cast, simprocAttr, tte]
  refine callq [[3], [3]] [] hs ?_ (hargs := by simp [ends, bs, iV, rowsOf_cons, rowsOf_nil, rV])
  simp -implicitDefEqProofs only [beq_self_eq_true, ↓steps, push_cast, simprocAttr, tte]
  exact ret_d trivial rfl (by simp [ends])
end Go.Proofs.YtiagabnddihchaaGreatDoor
namespace Go.Proofs.YtiagabnddihchaaGreatDoor
open Go.Am
attribute [local simp, local push_cast] num boo str ints aV aTab aRow rRow vE tapeO
set_option linter.unusedVariables false
set_option maxRecDepth 100000
set_option maxHeartbeats 4000000
/-! A new tape; columns; sameness; smallness. -/
theorem c_new (t : List Int) : ACall Tryz.prog 8 [ints t] [] (.ptr 1000 0) [(1000, tapeO (t.take 2000) 0)] := by
  refine enterq mixed ttok Tryz.func8 Tryz.ntmps8 Tryz.results8 ?_
  simp -implicitDefEqProofs only [argT, ↓steps, push_cast, simprocAttr, tte]
  have e : (if (2000 : Int) < (t.length : Int) then (2000 : Int) else (t.length : Int)) = ((min 2000 t.length : Nat) : Int) := by split <;> omega
  have e2 : t.take (min 2000 t.length) = t.take 2000 := by
    by_cases h : t.length ≤ 2000
    · rw [Nat.min_eq_right h, List.take_of_length_le (Nat.le_refl _), List.take_of_length_le h]
    · rw [Nat.min_eq_left (by omega)]
  rw [e, Int.toNat_natCast, e2]
  refine ⟨⟨by omega, by omega⟩, ?_⟩
  refine ret_ren 9 1000 trivial (by decide) (by decide) rfl (by simp [A.ren, renL, ren1to]) (by simp [A.closed, closedL, inO, lookO]) ?_ ?_
  · simp [renO, Ob.ren, A.ren, renL, ren1to, ends]
  · simp [renO, ren1to, ends]
def insM (l : List Int) (x : Int) : List Int :=
  match l with
  | [] => [x]
  | y :: l => if y < x then y :: insM l x else if y = x then y :: l else x :: y :: l
theorem ins_mem (x z : Int) : ∀ l : List Int, z ∈ insM l x ↔ z = x ∨ z ∈ l
  | [] => by simp [insM]
  | y :: l => by
    rw [insM]
    have := ins_mem x z l
    split
    · rw [List.mem_cons, this, List.mem_cons]; constructor <;> rintro (h | h | h) <;> simp [h]
    · split
      · rename_i h; subst h; rw [List.mem_cons]; constructor
        · rintro (h | h) <;> simp [h]
        · rintro (h | h | h) <;> simp [h]
      · rw [List.mem_cons, List.mem_cons]
theorem ins_len (x : Int) : ∀ l : List Int, (insM l x).length ≤ l.length + 1
  | [] => by simp [insM]
  | y :: l => by
    rw [insM]
    have := ins_len x l
    split
    · simp; omega
    · split <;> simp
theorem ins_eq (x : Int) : ∀ (l : List Int) (n : Nat), (∀ i, i < n → l.getD i default < x) → n ≤ l.length → insM l x = l.take n ++ insM (l.drop n) x
  | l, 0, _, _ => by simp
  | [], n + 1, _, h => by simp at h
  | y :: l, n + 1, h, hn => by
    have h0 := h 0 (by omega)
    rw [insM, if_pos (show y < x from h0), ins_eq x l n (fun i hi => h (i + 1) (by omega)) (by simpa using hn)]
    simp
theorem c_insert (l : List Int) (x : Int) (hl : l.length ≤ 1000000) : ACall Tryz.prog 62 [ints l, num x] [] (ints (insM l x)) [] := by
  refine enterq mixed ttok Tryz.func62 Tryz.ntmps62 Tryz.results62 ?_
  generalize hr : ints (insM l x) = R
  simp -implicitDefEqProofs only [argT, ↓steps, push_cast, simprocAttr, tte]
  refine loop_gen mixed ttok (fun n : Nat => ⟨[(5, .d (.lit (.int .i64 n))), (0, ints l), (1, num x)], []⟩) (fun n => l.length - n) (fun n => n ≤ l.length ∧ ∀ i, i < n → l.getD i default < x) 0 ⟨Nat.zero_le _, fun i h => absurd h (Nat.not_lt_zero _)⟩ ?_ ?_
  · exact Weak.keepL (by simp [ends]) (by simp [ends]) (by simp [ends])
  rintro I hI n ⟨hn, hi⟩
  simp -implicitDefEqProofs only [↓steps, push_cast, simprocAttr, tte]
  have tl : (l.take n).length = n := by rw [List.length_take]; omega
  refine bcase_intro (fun h1 => ?_) fun h1 => ?_
  · have h1' : n < l.length := by simpa using h1
    have hw := wrap_succ h1' (by omega)
    refine ⟨⟨by omega, by omega⟩, ?_⟩
    refine bcase_intro (fun h2 => ?_) fun h2 => ?_
    · have h2' : l.getD n default < x := by simpa using h2
      exact gen_again hI (n + 1) ⟨h1', fun i q => by
        rcases Nat.lt_or_eq_of_le (Nat.lt_succ_iff.1 q) with q | q
        · exact hi i q
        · rw [q]; exact h2'⟩ (by show l.length - (n + 1) < l.length - n; omega) (Weak.keepL (by simp [hw, ends]) (by simp [ends]) (by simp [ends]))
    · have h2' : ¬ l.getD n default < x := by simpa using h2
      rw [ins_eq x l n hi hn, drop_cons l n h1', insM, if_neg h2'] at hr
      refine bcase_intro (fun h3 => ?_) fun h3 => ?_
      · refine ⟨⟨by omega, by omega⟩, ?_⟩
        refine bcase_intro (fun h4 => ?_) fun h4 => ?_
        · have h4' : l.getD n default = x := by simpa using h4
          rw [if_pos h4', ← drop_cons l n h1', List.take_append_drop] at hr
          exact ret_d trivial hr (by simp [ends])
        · have h4' : ¬ l.getD n default = x := by simpa using h4
          rw [if_neg h4', ← drop_cons l n h1'] at hr
          refine ⟨⟨by omega, by omega⟩, by omega, by omega, ⟨by omega, by omega, by omega⟩, ⟨by simp, by simp; omega⟩, ?_⟩
          rw [List.take_of_length_le (Nat.le_refl l.length)]
          refine retx_of [1] rfl (by simp) (by simp [rowsOf_length] <;> omega) ?_ (by first | rfl | simp [ends] | (subst_vars; simp [ends])) (by simp [ends]) (by simp [ends])
          rw [← hr]; simp [ints, rowsOf_append, rowsOf_cons]
      · rw [h1] at h3; cases h3
  · have h1' : ¬ n < l.length := by simpa using h1
    have hnn : n = l.length := by omega
    rw [ins_eq x l n hi hn, hnn, List.drop_length, List.take_length, insM] at hr
    refine bcase_intro (fun h3 => ?_) fun h3 => ?_
    · rw [h1] at h3; cases h3
    · refine ⟨⟨by omega, by omega⟩, by omega, by omega, ⟨by omega, by omega, by omega⟩, ⟨by simp, by simp; omega⟩, ?_⟩
      rw [List.take_of_length_le (Nat.le_refl l.length), hnn, List.drop_length, List.take_length]
      refine retx_of [1] rfl (by simp) (by simp [rowsOf_length] <;> omega) ?_ (by first | rfl | simp [ends] | (subst_vars; simp [ends])) (by simp [ends]) (by simp [ends])
      rw [← hr]; simp [ints, rowsOf_append, rowsOf_cons]
end Go.Proofs.YtiagabnddihchaaGreatDoor
namespace Go.Proofs.YtiagabnddihchaaGreatDoor
open Go.Am
attribute [local simp, local push_cast] num boo str ints aV aTab aRow rRow vE tapeO
set_option linter.unusedVariables false
set_option maxRecDepth 100000
set_option maxHeartbeats 4000000
/-! Columns of an expression. -/
mutual
def colsM : Ex → List Int
  | .mk op _ _ _ c ks => if op = 5 then insM (colsL ks []) c else colsL ks []
def colsL : List Ex → List Int → List Int
  | [], acc => acc
  | k :: l, acc => colsL l ((colsM k).foldl insM acc)
end
theorem colsM_eq (e : Ex) : colsM e = if e.op = 5 then insM (colsL e.kids []) e.col else colsL e.kids [] := by cases e; rw [colsM]; rfl
theorem fold_ins_mem (z : Int) : ∀ (l acc : List Int), z ∈ l.foldl insM acc ↔ z ∈ l ∨ z ∈ acc
  | [], acc => by simp
  | x :: l, acc => by
    rw [List.foldl_cons, fold_ins_mem z l, ins_mem, List.mem_cons]
    constructor
    · rintro (h | h | h) <;> simp [h]
    · rintro ((h | h) | h) <;> simp [h]
theorem fold_ins_len : ∀ (l acc : List Int), (l.foldl insM acc).length ≤ l.length + acc.length
  | [], acc => by simp
  | x :: l, acc => by
    rw [List.foldl_cons]
    have := fold_ins_len l (insM acc x)
    have := ins_len x acc
    simp only [List.length_cons]
    omega
theorem colsL_mem (z : Int) : ∀ (ks : List Ex) (acc : List Int), z ∈ colsL ks acc ↔ (∃ k ∈ ks, z ∈ colsM k) ∨ z ∈ acc
  | [], acc => by simp [colsL]
  | k :: ks, acc => by
    rw [colsL, colsL_mem z ks, fold_ins_mem]
    constructor
    · rintro (⟨a, h1, h2⟩ | h | h)
      · exact .inl ⟨a, by simp [h1], h2⟩
      · exact .inl ⟨k, by simp, h⟩
      · exact .inr h
    · rintro (⟨a, h1, h2⟩ | h)
      · rcases List.mem_cons.1 h1 with rfl | h1
        · exact .inr (.inl h2)
        · exact .inl ⟨a, h1, h2⟩
      · exact .inr (.inr h)
theorem colsL_len : ∀ (ks : List Ex) (acc : List Int), (∀ k ∈ ks, (colsM k).length ≤ sizeT k) → (colsL ks acc).length ≤ sizeTs ks + acc.length
  | [], acc, _ => by simp [colsL, sizeTs]
  | k :: ks, acc, h => by
    rw [colsL, sizeTs]
    have h1 := colsL_len ks ((colsM k).foldl insM acc) fun x hx => h x (by simp [hx])
    have h2 := fold_ins_len (colsM k) acc
    have h3 := h k (by simp)
    omega
theorem colsM_len : ∀ e : Ex, (colsM e).length ≤ sizeT e :=
  ex_ind (p := fun e => (colsM e).length ≤ sizeT e) fun e ih => by
    have h := colsL_len e.kids [] ih
    simp only [List.length_nil] at h
    rw [colsM_eq, sizeT_eq]
    split
    · have := ins_len e.col (colsL e.kids []); omega
    · omega
theorem colsL_app : ∀ (a b : List Ex) (acc : List Int), colsL (a ++ b) acc = colsL b (colsL a acc)
  | [], b, acc => by rw [List.nil_append, colsL]
  | k :: a, b, acc => by rw [List.cons_append, colsL, colsL, colsL_app a b]
theorem colsL_take (ks : List Ex) (n : Nat) (h : n < ks.length) : colsL (ks.take (n + 1)) [] = (colsM (ks.getD n default)).foldl insM (colsL (ks.take n) []) := by
  rw [take_snoc _ _ h, colsL_app, colsL, colsL]
/-- A column that does not occur makes no difference. -/
theorem cols_eval {i : Nat} {v : Val} {row : List Val} : ∀ e : Ex, (i : Int) ∉ colsM e → evalM (row.set i v) e = evalM row e :=
  ex_ind (p := fun e => (i : Int) ∉ colsM e → evalM (row.set i v) e = evalM row e) fun e ih h => by
    rw [colsM_eq] at h
    have hk : ∀ k ∈ e.kids, (i : Int) ∉ colsM k := by
      intro k hk hm
      have : (i : Int) ∈ colsL e.kids [] := (colsL_mem _ _ _).2 (.inl ⟨k, hk, hm⟩)
      refine h ?_
      split
      · exact (ins_mem _ _ _).2 (.inr this)
      · exact this
    rw [evalM_eq, evalM_eq row e, show e.kids.map (evalM (row.set i v)) = e.kids.map (evalM row) from List.map_congr_left fun k hm => ih k hm (hk k hm)]
    by_cases h5 : e.op = 5
    · rw [if_pos h5] at h
      have hne : ¬ (i : Int) = e.col := fun q => h ((ins_mem _ _ _).2 (.inl q))
      simp only [evalK, List.length_set]
      have : ∀ c : Int, ¬ (i : Int) = c → 0 ≤ c → (row.set i v).getD c.toNat default = row.getD c.toNat default := by
        intro c hc h0
        rw [List.getD_eq_getElem?_getD, List.getD_eq_getElem?_getD, List.getElem?_set_ne (by omega)]
      split
      · rfl
      · repeat' split
        all_goals (first | rfl | exact this _ hne (by omega) | skip)
    · simp only [evalK, List.length_set, if_neg h5]
/-- What is relevant occurs. -/
theorem rel_cols {d : List Row} (hf : Full d) {e : Ex} {i : Nat} (hi : i < d.length) (h : depTo d e i (prodL d) = true) : (i : Int) ∈ colsM e := by
  cases q : decide ((i : Int) ∈ colsM e) with
  | true => exact of_decide_eq_true q
  | false =>
    have q := of_decide_eq_false q
    exfalso
    obtain ⟨n, hn, hd⟩ := List.any_eq_true.1 h
    unfold depAt at hd
    have hv := hf.at hi
    have hp := pt_put hf (n := n) hi (v := 0) hv
    rw [Nat.zero_mul, Nat.add_zero] at hp
    rw [valAt, valAt, hp, cols_eval e q, (same_iff _ _).2 rfl] at hd
    cases hd
def U1s (e : Ex) (n : Nat) : SL := ⟨[(4, .d (.lit (.int .i64 n))), (3, ints (colsL (e.kids.take n) [])), (1, .ptr 1 0)], [(1, .var (vE e))]⟩
def U2s (e : Ex) (n : Nat) (l : List Int) (acc : List Int) (m : Nat) : SL :=
  ⟨[(6, .d (.lit (.int .i64 m))), (5, ints l), (4, .d (.lit (.int .i64 n))), (3, ints ((l.take m).foldl insM acc)), (1, .ptr 1 0)], [(1, .var (vE e))]⟩
theorem c_columns : ∀ e : Ex, sizeT e ≤ 500000 → ACall Tryz.prog 23 [aE e] [] (ints (colsM e)) [] :=
  ex_ind (p := fun e => sizeT e ≤ 500000 → ACall Tryz.prog 23 [aE e] [] (ints (colsM e)) []) fun e ih hs => by
  generalize hr : ints (colsM e) = R
  rw [colsM_eq] at hr
  have hse := sizeT_eq e
  have hkl : e.kids.length ≤ sizeTs e.kids := by
    have : ∀ l : List Ex, l.length ≤ sizeTs l := by
      intro l
      induction l with
      | nil => simp [sizeTs]
      | cons x l ih => rw [sizeTs]; have := sizeT_pos x; simp only [List.length_cons]; omega
    exact this _
  rw [aE_eq]
  refine enterq mixed ttok Tryz.func23 Tryz.ntmps23 Tryz.results23 ?_
  simp -implicitDefEqProofs only [argT, ↓steps, push_cast, simprocAttr, tte]
  refine loop_gen mixed ttok (fun n : Nat => U1s e n) (fun n => e.kids.length - n) (fun n => n ≤ e.kids.length) 0 (Nat.zero_le _) ?_ ?_
  · exact (Weak.frzSlotL 3 1 rfl (by simp)).trans (Weak.keepL (by simp [U1s, colsL, rowsOf, ends]) (by simp [U1s, vE, ends]) (by simp [U1s, ends]))
  intro I hI n hn
  simp -implicitDefEqProofs only [U1s, vE, ↓steps, push_cast, simprocAttr, tte]
  refine bcase_intro (fun h1 => ?_) fun h1 => ?_
  · have h1' : n < e.kids.length := by simpa using h1
    have hw := wrap_succ h1' (by omega)
    have hks := sizeTs_mem _ _ (getD_mem h1')
    refine ⟨⟨by omega, by omega⟩, ?_⟩
    refine callq [[0, 0, 0, 0, 0, 6]] [] (ih _ (getD_mem h1') (by omega)) ?_
    have hts := colsL_take e.kids n h1'
    have hlk := colsM_len (e.kids.getD n default)
    have hla := colsL_len (e.kids.take n) [] fun k _ => colsM_len k
    have hst : sizeTs (e.kids.take n) ≤ sizeTs e.kids := by
      have : ∀ (l : List Ex) (n : Nat), sizeTs (l.take n) ≤ sizeTs l := by
        intro l
        induction l with
        | nil => intro n; simp [sizeTs]
        | cons x l ih => intro n; cases n with
          | zero => simp [sizeTs]
          | succ n => rw [List.take_succ_cons, sizeTs, sizeTs]; have := ih n; omega
      exact this _ _
    generalize colsM (e.kids.getD n default) = l at hts hlk ⊢
    generalize colsL (e.kids.take n) [] = acc at hts hla ⊢
    simp only [List.length_nil] at hla
    simp -implicitDefEqProofs only [↓steps, push_cast, simprocAttr, tte]
    refine loop_gen mixed ttok (fun m : Nat => U2s e n l acc m) (fun m => l.length - m) (fun m => m ≤ l.length) 0 (Nat.zero_le _) ?_ ?_
    · exact Weak.keepL (by simp [U2s, ends]) (by simp [U2s, vE, ends]) (by simp [U2s, ends])
    intro J hJ m hm
    have hfl := fold_ins_len (l.take m) acc
    have hml : (l.take m).length ≤ l.length := by rw [List.length_take]; omega
    simp -implicitDefEqProofs only [U2s, vE, ↓steps, push_cast, simprocAttr, tte]
    refine bcase_intro (fun h2 => ?_) fun h2 => ?_
    · have h2' : m < l.length := by simpa using h2
      have hwm := wrap_succ h2' (by omega)
      have hfs : (l.take (m + 1)).foldl insM acc = insM ((l.take m).foldl insM acc) (l.getD m default) := by rw [take_snoc _ _ h2', List.foldl_append]; rfl
      refine ⟨⟨by omega, by omega⟩, ?_⟩
      refine callq [[1], []] [] (c_insert ((l.take m).foldl insM acc) (l.getD m default) (by omega)) ?_
      simp -implicitDefEqProofs only [↓steps, push_cast, simprocAttr, tte]
      exact gen_again hJ (m + 1) h2' (by show l.length - (m + 1) < l.length - m; omega) (Weak.keepL (by simp [U2s, hwm, hfs, ends]) (by simp [U2s, vE, ends]) (by simp [U2s, ends]))
    · have hmm : m = l.length := by have := of_decide_eq_false h2; omega
      subst hmm
      rw [List.take_length, ← hts]
      exact gen_again hI (n + 1) h1' (by show e.kids.length - (n + 1) < e.kids.length - n; omega) (Weak.keepL (by simp [U1s, hw, ends]) (by simp [U1s, vE, ends]) (by simp [U1s, ends]))
  · have hnn : n = e.kids.length := by have := of_decide_eq_false h1; omega
    subst hnn
    rw [List.take_length]
    have hla := colsL_len e.kids [] fun k _ => colsM_len k
    simp only [List.length_nil] at hla
    refine bcase_intro (fun h3 => ?_) fun h3 => ?_
    · have h3' : e.op = 5 := by simpa using h3
      rw [if_pos h3'] at hr
      refine callq [[1], []] [] (c_insert (colsL e.kids []) e.col (by omega)) ?_
      simp -implicitDefEqProofs only [↓steps, push_cast, simprocAttr, tte]
      exact ret_d trivial hr (by simp [ends])
    · have h3' : ¬ e.op = 5 := by simpa using h3
      rw [if_neg h3'] at hr
      exact ret_d trivial hr (by simp [ends])
/-! Sameness of an expression with itself. -/
def X1s (e : Ex) (n : Nat) : SL := ⟨[(5, .d (.lit (.int .i64 n))), (2, .ptr 2 0), (3, .ptr 3 0)], [(2, .var (vE e)), (3, .var (vE e))]⟩
theorem c_sameE : ∀ e : Ex, Ok12 e → ACall Tryz.prog 31 [aE e, aE e] [] (boo true) [] :=
  ex_ind (p := fun e => Ok12 e → ACall Tryz.prog 31 [aE e, aE e] [] (boo true) []) fun e ih ho => by
  have hl := ho.kids
  rw [aE_eq]
  refine enterq mixed ttok Tryz.func31 Tryz.ntmps31 Tryz.results31 ?_
  simp -implicitDefEqProofs only [argT, bne_self_eq_false, ↓steps, push_cast, simprocAttr, tte]
  refine loop_gen mixed ttok (fun n : Nat => X1s e n) (fun n => e.kids.length - n) (fun n => n ≤ e.kids.length) 0 (Nat.zero_le _) ?_ ?_
  · exact Weak.keepL (by simp [X1s, ends]) (by simp [X1s, vE, ends]) (by simp [X1s, ends])
  intro I hI n hn
  simp -implicitDefEqProofs only [X1s, vE, ↓steps, push_cast, simprocAttr, tte]
  refine bcase_intro (fun h1 => ?_) fun h1 => ?_
  · have h1' : n < e.kids.length := by simpa using h1
    have hw := wrap_succ h1' (by omega)
    refine ⟨⟨by omega, by omega⟩, ⟨by omega, by omega⟩, ?_⟩
    refine callq [[0, 0, 0, 0, 0, 6], [0, 0, 0, 0, 0, 6]] [] (ih _ (getD_mem h1') (ho.kid (getD_mem h1'))) ?_
    simp -implicitDefEqProofs only [↓steps, push_cast, simprocAttr, tte]
    refine ⟨drawx_intro (by kernel_rfl), ?_⟩
    exact gen_again hI (n + 1) h1' (by show e.kids.length - (n + 1) < e.kids.length - n; omega) (Weak.keepL (by simp [X1s, hw, ends]) (by simp [X1s, vE, ends]) (by simp [X1s, ends]))
  exact ret_d trivial rfl (by simp [ends])
/-! Few enough. -/
def smGo : Nat → List Row → Nat
  | n, [] => n
  | n, l :: d => if n < 900 then smGo (n + l.length) d else n
def smallQ (d : List Row) : Bool := decide (smGo d.length d ≤ 200)
theorem sm_ge : ∀ (d : List Row) (n : Nat), n ≤ smGo n d
  | [], n => Nat.le_refl _
  | l :: d, n => by
    rw [smGo]
    split
    · have := sm_ge d (n + l.length); omega
    · omega
theorem sm_mem : ∀ (d : List Row) (n : Nat), smGo n d ≤ 200 → ∀ l ∈ d, l.length ≤ 200
  | [], n, _, l, hl => by simp at hl
  | x :: d, n, h, l, hl => by
    rw [smGo] at h
    split at h
    · have h1 := sm_ge d (n + x.length)
      rcases List.mem_cons.1 hl with rfl | hl
      · omega
      · exact sm_mem d _ h l hl
    · omega
theorem small_of {d : List Row} (h : smallQ d = true) : smallD d ∧ d.length ≤ 200 ∧ ∀ l ∈ d, l.length ≤ 200 := by
  have h := of_decide_eq_true h
  have h1 := sm_ge d d.length
  have h2 := sm_mem d _ h
  exact ⟨⟨by omega, fun l hl => by have := h2 l hl; omega⟩, by omega, h2⟩
def G1s (d : List Row) (x : Nat × Nat) : SL := ⟨[(4, .d (.lit (.int .i64 x.1))), (3, num x.2), (0, aTab d)], []⟩
theorem c_smallD (d : List Row) (hl : d.length ≤ 1000000000000) (hd : ∀ l ∈ d, l.length ≤ 1000000000000) : ACall Tryz.prog 33 [aTab d] [] (boo (smallQ d)) [] := by
  refine enterq mixed ttok Tryz.func33 Tryz.ntmps33 Tryz.results33 ?_
  generalize hr : boo (smallQ d) = R
  unfold smallQ at hr
  simp -implicitDefEqProofs only [argT, aTab, ↓steps, push_cast, simprocAttr, tte]
  refine loop_gen mixed ttok (fun x : Nat × Nat => G1s d x) (fun x => d.length - x.1) (fun x => x.1 ≤ d.length ∧ x.2 ≤ 2000000000000 ∧ smGo d.length d = smGo x.2 (d.drop x.1)) (0, d.length) ⟨Nat.zero_le _, by dsimp only; omega, rfl⟩ ?_ ?_
  · exact Weak.keepL (by simp [G1s, ends]) (by simp [G1s, ends]) (by simp [G1s, ends])
  rintro I hI ⟨n, m⟩ ⟨hn, hm, hg⟩
  dsimp only at hn hm hg
  simp -implicitDefEqProofs only [G1s, rRow, ↓steps, push_cast, simprocAttr, tte]
  refine bcase_intro (fun h1 => ?_) fun h1 => ?_
  · have h1' : n < d.length := by simpa using h1
    have hw : IntKind.i64.wrap ((n : Int) + 1) = ((n + 1 : Nat) : Int) := by rw [wrap_eq (by omega) (by omega)]; rfl
    have hlb := hd _ (getD_mem h1')
    rw [drop_cons d n h1', smGo] at hg
    generalize (d.getD n default).length = L at hlb hg ⊢
    refine bcase_intro (fun h2 => ?_) fun h2 => ?_
    · have h2' : m < 900 := by simp only [decide_eq_true_eq] at h2; omega
      rw [if_pos h2'] at hg
      have hwm : IntKind.i64.wrap ((m : Int) + (L : Int)) = ((m + L : Nat) : Int) := by rw [wrap_eq (by omega) (by omega)]; omega
      refine ⟨⟨by omega, by omega⟩, ?_⟩
      exact gen_again hI (n + 1, m + L) ⟨h1', by dsimp only; omega, hg⟩ (by show d.length - (n + 1) < d.length - n; omega) (Weak.keepL (by simp [G1s, hw, hwm, ends]) (by simp [G1s, ends]) (by simp [G1s, ends]))
    · have h2' : ¬ m < 900 := by simp only [decide_eq_false_iff_not] at h2; omega
      rw [if_neg h2'] at hg
      rw [hg] at hr
      exact ret_d trivial (by rw [← hr]; simp; omega) (by simp [ends])
  have hnn : n = d.length := by have := of_decide_eq_false h1; omega
  subst hnn
  rw [List.drop_length, smGo] at hg
  rw [hg] at hr
  exact ret_d trivial (by rw [← hr]; simp; omega) (by simp [ends])
end Go.Proofs.YtiagabnddihchaaGreatDoor
