/- Histories and their anomalies (part Wg) -/
import Derived.Test.YthknpcpddlaapaaWf
import Derived.Test.YthknpcpddlaapaaLe
set_option linter.all false
namespace Go.Proofs.Ythknpcpddlaapaa
open Go.Am
attribute [local simp, local push_cast] num boo str ints rEv aEv rTk aTk rEg aEg aH vEv vecI aDone boos_ren d5_take d5_drop d5_len vTk rTk_snoc vecE rEg_snoc aG gC_len gC_take gC_drop gC_closed gC_ren cellO_closed cellO_ren
set_option linter.unusedVariables false
set_option maxRecDepth 100000
set_option maxHeartbeats 4000000
/-! The anomalies. -/
theorem edges_ft {n : Nat} {evs : List Hv} (hv : TxOk evs) : FrTo (edgesM n evs) := fun e he => by
  have := edges_ok hv e he
  exact ⟨this.c1.1, this.c2.1⟩
theorem compE_ln : ∀ l : List Eg, (compE l).length ≤ l.length
  | [] => Nat.le_refl _
  | [x] => Nat.le_refl _
  | x :: y :: l => by
    have := compE_ln (y :: l)
    rw [compE]
    split
    · exact Nat.le_succ_of_le this
    · simp only [List.length_cons] at *; omega
theorem edges_ln {start : List Int} {evs : List Hv} (ok : OkH start evs) : (edgesM start.length evs).length ≤ 2000 := by
  have h1 := compE_ln (sortE (rawE start.length evs))
  have h2 : (sortE (rawE start.length evs)).length = (rawE start.length evs).length := (sortE_perm _).length_eq
  have h3 := fold_ln evs (takesM evs) (keysE evs start.length)
  have h4 := keys_ln evs start.length
  have h5 : start.length * (evs.length + 1) ≤ 6 * 201 := Nat.mul_le_mul ok.s6 (by have := ok.e2; omega)
  have h6 : (takesM evs).length ≤ evs.length := by have := takes_ln evs evs []; simp at this; exact this
  have h7 := ok.e2
  have h8 : (rawE start.length evs).length ≤ (keysE evs start.length).length + 2 * (takesM evs).length := h3
  unfold edgesM
  omega
theorem circ_ne {p a : Gr} {c : List Nat} (h : circ1 p a = some c) : c ≠ [] := by
  have hm : c ∈ circlesC (fun x y => p x y || a x y) := List.mem_of_mem_head? h
  have := (mem_circles.1 hm).2.1
  intro e
  rw [e] at this
  simp at this
theorem cell_cases (p a : Gr) : (cellO (circ1 p a) = .snil ∧ (circ1 p a).isSome = false) ∨ ∃ r rows, cellO (circ1 p a) = .d (.sl 1 (r :: rows)) ∧ (circ1 p a).isSome = true := by
  have hne := fun c => circ_ne (p := p) (a := a) (c := c)
  generalize circ1 p a = s at hne ⊢
  cases s with
  | none => exact .inl ⟨rfl, rfl⟩
  | some c =>
    cases c with
    | nil => exact absurd rfl (hne [] rfl)
    | cons x c => exact .inr ⟨_, _, rfl, rfl⟩
def hasL (E : List Eg) (evs : List Hv) : List Bool := [(circ1 (plainG E [1]) (antiG E [1])).isSome, abortedM evs, betweenM evs, (circ1 (plainG E [1, 2]) (antiG E [1, 2])).isSome, lostM evs, sing1 (plainG E [1, 2, 3]) (antiG E [1, 2, 3]), (circ1 (plainG E [1, 2, 3]) (antiG E [1, 2, 3])).isSome]
def kI (n : Int) : Value := .int .i64 n
def bagA (l : List Bool) : Value → Option Value :=
  bput (bput (bput (bput (bput (bput (bput noKeys (kI 1) (.bool (l.getD 0 false))) (kI 2) (.bool (l.getD 1 false))) (kI 3) (.bool (l.getD 2 false))) (kI 4) (.bool (l.getD 3 false))) (kI 5) (.bool (l.getD 4 false))) (kI 6) (.bool (l.getD 5 false))) (kI 7) (.bool (l.getD 6 false))
theorem head_some (l : List (List Nat)) : l.head?.isSome = !l.isEmpty := by cases l <;> rfl
theorem hasL_eq (n : Nat) (evs : List Hv) : hasL (edgesM n evs) evs = hasM n evs := by
  unfold hasL hasM circ1
  rw [head_some, head_some, head_some]
  rfl
theorem bagA_at (l : List Bool) {i : Nat} (hi : i < 7) : bagA l (.int .i64 ((i : Int) + 1)) = some (.bool (l.getD i false)) := by
  have : i = 0 ∨ i = 1 ∨ i = 2 ∨ i = 3 ∨ i = 4 ∨ i = 5 ∨ i = 6 := by omega
  rcases this with rfl | rfl | rfl | rfl | rfl | rfl | rfl <;> rfl
theorem bput_key {S : Value → Option Value} {j : Int} {v x y : Value} (h : bput S (.int .i64 j) v x = some y) : (x = .int .i64 j ∧ y = v) ∨ S x = some y := by
  unfold bput at h
  split at h
  · rename_i hs
    left
    cases x with
    | int k m =>
      simp only [sameV] at hs
      split at hs
      · rename_i hk
        subst hk
        have : m = j := by simpa using hs
        subst this
        exact ⟨rfl, by simpa using h.symm⟩
      · cases hs
    | _ => simp [sameV] at hs
  · exact .inr h
theorem bagA_key {l : List Bool} {x y : Value} (h : bagA l x = some y) : ∃ i : Nat, i < 7 ∧ x = .int .i64 ((i : Int) + 1) ∧ y = .bool (l.getD i false) := by
  unfold bagA kI at h
  rcases bput_key h with ⟨rfl, rfl⟩ | h
  · exact ⟨6, by omega, rfl, rfl⟩
  rcases bput_key h with ⟨rfl, rfl⟩ | h
  · exact ⟨5, by omega, rfl, rfl⟩
  rcases bput_key h with ⟨rfl, rfl⟩ | h
  · exact ⟨4, by omega, rfl, rfl⟩
  rcases bput_key h with ⟨rfl, rfl⟩ | h
  · exact ⟨3, by omega, rfl, rfl⟩
  rcases bput_key h with ⟨rfl, rfl⟩ | h
  · exact ⟨2, by omega, rfl, rfl⟩
  rcases bput_key h with ⟨rfl, rfl⟩ | h
  · exact ⟨1, by omega, rfl, rfl⟩
  rcases bput_key h with ⟨rfl, rfl⟩ | h
  · exact ⟨0, by omega, rfl, rfl⟩
  cases h
theorem found {l : List Bool} {es : List (Value × Value)} (hes : ∀ x y, (x, y) ∈ es ↔ bagA l x = some y) {i : Nat} (hi : i < 7) : ∃ k, mfind (.int .i64 ((i : Int) + 1)) es 0 = some (some (k, .bool (l.getD i false))) := by
  refine mfind_int es 0 (fun p hp => ?_) (fun p hp hj => ?_) ⟨_, (hes _ _).2 (bagA_at l hi), rfl⟩
  · obtain ⟨j, _, h, _⟩ := bagA_key ((hes p.1 p.2).1 hp)
    exact ⟨_, h⟩
  · have := (hes p.1 p.2).1 hp
    rw [hj, bagA_at l hi] at this
    exact (Option.some.inj this).symm
def anomT (H : List Bool) (i : Nat) : List Int := ((List.range i).filter fun i => H.getD i false).map fun (i : Nat) => ((i + 1 : Nat) : Int)
theorem anomT_succ (H : List Bool) (i : Nat) : anomT H (i + 1) = if H.getD i false = true then anomT H i ++ [((i + 1 : Nat) : Int)] else anomT H i := by
  unfold anomT
  rw [List.range_succ, List.filter_append, List.map_append]
  split
  · rename_i h
    rw [List.filter_cons, if_pos h]; rfl
  · rename_i h
    rw [List.filter_cons, if_neg h]; simp
theorem anomT_ln (H : List Bool) (i : Nat) : (anomT H i).length ≤ i := by
  unfold anomT
  rw [List.length_map]
  exact Nat.le_trans (List.length_filter_le _ _) (by simp)
theorem c_anoms (start : List Int) (evs : List Hv) (ok : OkH start evs) : ACall Try.prog 27 [aH start evs] [] (ints (anomM start.length evs)) [] := by
  refine enterX ttok Try.func27 Try.ntmps27 Try.results27 ?_
  generalize hr : ints (anomM start.length evs) = R
  have hel := edges_ln ok
  have hft := edges_ft (n := start.length) ok.tx
  refine codx_step mixed ttok ?_
  simp -implicitDefEqProofs only [argT, ↓steps, push_cast, simprocAttr, tte]
  refine codx_step mixed ttok ?_
  simp -implicitDefEqProofs only [↓steps, push_cast, simprocAttr, tte]
  refine callq [[1, 5]] [] (c_edges start evs ok) ?_
  simp -implicitDefEqProofs only [↓steps, push_cast, simprocAttr, tte]
  generalize hE : edgesM start.length evs = E at hel hft ⊢
  have hof := fun ks hk => c_of E ks (by omega) hk hft
  have h123 := hof [1, 2, 3] (by decide)
  have h12 := hof [1, 2] (by decide)
  have h1 := hof [1] (by decide)
  refine codx_step mixed ttok ?_
  simp -implicitDefEqProofs only [↓steps, push_cast, simprocAttr, tte]
  refine callq [[4], [1]] [] (h123) ?_
  simp -implicitDefEqProofs only [↓steps, push_cast, simprocAttr, tte]
  refine codx_step mixed ttok ?_
  simp -implicitDefEqProofs only [↓steps, push_cast, simprocAttr, tte]
  refine callq [[1, 5]] [] (c_odd start evs (by have := ok.e2; omega) ok.tx ok.fr) ?_
  simp -implicitDefEqProofs only [↓steps, push_cast, simprocAttr, tte]
  refine codx_cut mixed ttok (⟨[(7, .mp 20)], [(20, .bag (bagA (hasL E evs)) 7)]⟩ : SL) ?_ ?_
  · simp -implicitDefEqProofs only [↓steps, push_cast, simprocAttr, tte]
    refine callq [[4], [1]] [] (h1) ?_
    simp -implicitDefEqProofs only [↓steps, push_cast, simprocAttr, tte]
    have hc1 := c_circle (plainG E [1]) (antiG E [1])
    refine callq [[]] [] (hc1) ?_ (hz := by simp only [frzAL, frzA, frz_gC, frz_boos, List.cons_append, List.nil_append, List.append_nil]; exact rfl) (hgs := by simp [rowsOf_length] <;> omega) (hargs := by simp [ends, bs]) (hcl := by simp [ends, bs])
    rcases cell_cases (plainG E [1]) (antiG E [1]) with ⟨e1, f1⟩ | ⟨r1, l1, e1, f1⟩
    all_goals
      simp -implicitDefEqProofs only [e1, List.isEmpty_cons, ↓steps, push_cast, simprocAttr, tte]
      repeat' first | exact apart_no _ | refine apart_put rfl ?_ | apply And.intro
      refine callq [[4], [1]] [] (h12) ?_
      simp -implicitDefEqProofs only [↓steps, push_cast, simprocAttr, tte]
      have hc2 := c_circle (plainG E [1, 2]) (antiG E [1, 2])
      refine callq [[]] [] (hc2) ?_ (hz := by simp only [frzAL, frzA, frz_gC, frz_boos, List.cons_append, List.nil_append, List.append_nil]; exact rfl) (hgs := by simp [rowsOf_length] <;> omega) (hargs := by simp [ends, bs]) (hcl := by simp [ends, bs])
      rcases cell_cases (plainG E [1, 2]) (antiG E [1, 2]) with ⟨e2, f2⟩ | ⟨r2, l2, e2, f2⟩
      all_goals
        simp -implicitDefEqProofs only [e2, List.isEmpty_cons, ↓steps, push_cast, simprocAttr, tte]
        repeat' first | exact apart_no _ | refine apart_put rfl ?_ | apply And.intro
        refine callq [[1, 5]] [] (c_lost start evs ok) ?_
        simp -implicitDefEqProofs only [↓steps, push_cast, simprocAttr, tte]
        repeat' first | exact apart_no _ | refine apart_put rfl ?_ | apply And.intro
        have hs := c_single (plainG E [1, 2, 3]) (antiG E [1, 2, 3])
        refine callq [[]] [] (hs) ?_ (hz := by simp only [frzAL, frzA, frz_gC, frz_boos, List.cons_append, List.nil_append, List.append_nil]; exact rfl) (hgs := by simp [rowsOf_length] <;> omega) (hargs := by simp [ends, bs]) (hcl := by simp [ends, bs])
        simp -implicitDefEqProofs only [↓steps, push_cast, simprocAttr, tte]
        repeat' first | exact apart_no _ | refine apart_put rfl ?_ | apply And.intro
        have hc3 := c_circle (plainG E [1, 2, 3]) (antiG E [1, 2, 3])
        refine callq [[]] [] (hc3) ?_ (hz := by simp only [frzAL, frzA, frz_gC, frz_boos, List.cons_append, List.nil_append, List.append_nil]; exact rfl) (hgs := by simp [rowsOf_length] <;> omega) (hargs := by simp [ends, bs]) (hcl := by simp [ends, bs])
        rcases cell_cases (plainG E [1, 2, 3]) (antiG E [1, 2, 3]) with ⟨e3, f3⟩ | ⟨r3, l3, e3, f3⟩
        all_goals
          simp -implicitDefEqProofs only [e3, List.isEmpty_cons, ↓steps, push_cast, simprocAttr, tte]
          repeat' first | exact apart_no _ | refine apart_put rfl ?_ | apply And.intro
          all_goals first | exact drawx_intro (by kernel_rfl) | exact Weak.keepL (by simp [ends]) (by simp [bagA, hasL, kI, f1, f2, f3, Ob.closed, ends]) (by simp [ends])
  · refine codx_of mixed ttok ?_
    simp -implicitDefEqProofs only [↓steps, push_cast, simprocAttr, tte]
    have hH : hasL E evs = hasM start.length evs := by rw [← hE, hasL_eq]
    have hA : anomM start.length evs = anomT (hasL E evs) 7 := by rw [hH]; rfl
    rw [hA] at hr
    generalize hasL E evs = H at hr ⊢
    refine bag_mp (q := 20) (S := bagA H) (n := 7) rfl fun es hes => ?_
    refine loop_gen mixed ttok (fun i : Nat => (⟨[(9, .d (.lit (.int .i64 ((i : Int) + 1)))), (8, .vec 500 (anomT H i).length), (7, .mp 20)], [(20, .mp es none), (500, vecI (anomT H i))]⟩ : SL)) (fun i => 7 - i) (fun i => i ≤ 7) 0 (Nat.zero_le _) ?_ ?_
    · have e0 : anomT H 0 = [] := rfl
      refine (Weak.nilL 8 500 3 1 rfl rfl).trans ?_
      simp only [e0]
      exact Weak.keepL (by simp [ends]) (by simp [rowsOf, Ob.closed, ends]) (by simp [ends])
    intro I hI i hi
    have hln := anomT_ln H i
    have hwi : IntKind.i64.wrap ((i : Int) + 1 + 1) = ((i + 1 : Nat) : Int) + 1 := by rw [wrap_eq (by omega) (by omega)]; omega
    by_cases hi7 : i < 7
    · obtain ⟨k, hmf⟩ := found hes hi7
      have hsucc := anomT_succ H i
      simp -implicitDefEqProofs only [hmf, ↓steps, push_cast, simprocAttr, tte]
      refine bcase_intro (fun h => ?_) fun q => absurd q (by simp; omega)
      refine bcase_intro (fun g => ?_) fun g => ?_
      · rw [if_pos g] at hsucc
        refine ⟨by omega, ?_⟩
        exact gen_again hI (i + 1) hi7 (by show 7 - (i + 1) < 7 - i; omega) (Weak.keepL (by simp [hwi, hsucc, ends]) (by simp [hsucc, Ob.closed, ends]) (by simp [ends]))
      · rw [if_neg (by rw [g]; decide)] at hsucc
        exact gen_again hI (i + 1) hi7 (by show 7 - (i + 1) < 7 - i; omega) (Weak.keepL (by simp [hwi, hsucc, ends]) (by simp [hsucc, Ob.closed, ends]) (by simp [ends]))
    · obtain rfl : i = 7 := by omega
      simp -implicitDefEqProofs only [↓steps, push_cast, simprocAttr, tte]
      subst hr
      refine retx_of [1] rfl trivial ?_ rfl rfl trivial ?_
      · rw [rowsOf_length]
      · simp [ends]
end Go.Proofs.Ythknpcpddlaapaa
namespace Go.Proofs.Ythknpcpddlaapaa
open Go.Am
attribute [local simp, local push_cast] num boo str ints rEv aEv rTk aTk rEg aEg aH vEv vecI rEg_snoc aG gC_len gC_take gC_drop gC_closed gC_ren cellO_closed cellO_ren
set_option linter.unusedVariables false
set_option maxRecDepth 100000
set_option maxHeartbeats 4000000
/-! Edges, Anomalies, Anomaly, Circle, Check. -/
theorem c_Edges (start : List Int) (evs : List Hv) (h : validH start evs = true) : ACall Try.prog 23 [aH start evs] [] (.tup [.d (.sl 4 (rowsOf rEg (edgesM start.length evs))), num 0]) [] := by
  refine enterq mixed ttok Try.func23 Try.ntmps23 Try.results23 ?_
  generalize hr : A.tup [.d (.sl 4 (rowsOf rEg (edgesM start.length evs))), num 0] = R
  have ok := ok_of h
  have h1 := ok.s6
  have h2 := ok.e2
  simp -implicitDefEqProofs only [argT, ↓steps, push_cast, simprocAttr, tte]
  refine callq [[1, 5]] [] (c_valid start evs ⟨by omega, by omega⟩) ?_
  simp -implicitDefEqProofs only [h, Bool.not_true, ↓steps, push_cast, simprocAttr, tte]
  refine callq [[1, 5]] [] (c_edges start evs ok) ?_
  simp -implicitDefEqProofs only [↓steps, push_cast, simprocAttr, tte]
  exact ret_d2 trivial hr (by simp [ends])
theorem c_Anomalies (start : List Int) (evs : List Hv) (h : validH start evs = true) : ACall Try.prog 13 [aH start evs] [] (.tup [ints (anomM start.length evs), num 0]) [] := by
  refine enterq mixed ttok Try.func13 Try.ntmps13 Try.results13 ?_
  generalize hr : A.tup [ints (anomM start.length evs), num 0] = R
  have ok := ok_of h
  have h1 := ok.s6
  have h2 := ok.e2
  simp -implicitDefEqProofs only [argT, ↓steps, push_cast, simprocAttr, tte]
  refine callq [[1, 5]] [] (c_valid start evs ⟨by omega, by omega⟩) ?_
  simp -implicitDefEqProofs only [h, Bool.not_true, ↓steps, push_cast, simprocAttr, tte]
  refine callq [[1, 5]] [] (c_anoms start evs ok) ?_
  simp -implicitDefEqProofs only [↓steps, push_cast, simprocAttr, tte]
  exact ret_d2 trivial hr (by simp [ends])
theorem c_Anomaly (start : List Int) (evs : List Hv) (h : validH start evs = true) : ACall Try.prog 14 [aH start evs] [] (.tup [num ((anomM start.length evs).getD 0 0), num 0]) [] := by
  refine enterq mixed ttok Try.func14 Try.ntmps14 Try.results14 ?_
  generalize hr : A.tup [num ((anomM start.length evs).getD 0 0), num 0] = R
  have hd : (default : Int) = 0 := rfl
  simp -implicitDefEqProofs only [argT, ↓steps, push_cast, simprocAttr, tte]
  refine callq [[1, 5]] [] (c_Anomalies start evs h) ?_
  simp -implicitDefEqProofs only [↓steps, push_cast, simprocAttr, tte]
  generalize anomM start.length evs = L at hr ⊢
  simp -implicitDefEqProofs only [rI, hd, ↓steps, push_cast, simprocAttr, tte]
  refine bcase_intro (fun q => ?_) fun q => ?_
  · have : L = [] := List.eq_nil_of_length_eq_zero (by simpa using q)
    exact ret_d2 trivial (by rw [← hr, this]; rfl) (by simp [ends])
  · have : 0 < L.length := by
      rcases Nat.eq_zero_or_pos L.length with z | z
      · simp [z] at q
      · exact z
    refine ⟨by omega, ?_⟩
    exact ret_d2 trivial (by rw [← hr]; rfl) (by simp [ends])
def circM (n : Nat) (evs : List Hv) : Option (List Nat) := (circlesC (depG (edgesM n evs) [1, 2, 3])).head?
theorem c_Circle (start : List Int) (evs : List Hv) (h : validH start evs = true) :
    ACall Try.prog 24 [aH start evs] [] (.tup [match circM start.length evs with | some c => ints (toI c) | none => ints [], num (match circM start.length evs with | some _ => 0 | none => 12)]) [] := by
  refine enterq mixed ttok Try.func24 Try.ntmps24 Try.results24 ?_
  generalize hr : A.tup [match circM start.length evs with | some c => ints (toI c) | none => ints [], num (match circM start.length evs with | some _ => 0 | none => 12)] = R
  have ok := ok_of h
  have h1 := ok.s6
  have h2 := ok.e2
  have hel := edges_ln ok
  have hft := edges_ft (n := start.length) ok.tx
  have hcm : circM start.length evs = circ1 (plainG (edgesM start.length evs) [1, 2, 3]) (antiG (edgesM start.length evs) [1, 2, 3]) := rfl
  simp -implicitDefEqProofs only [argT, ↓steps, push_cast, simprocAttr, tte]
  refine callq [[1, 5]] [] (c_valid start evs ⟨by omega, by omega⟩) ?_
  simp -implicitDefEqProofs only [h, Bool.not_true, ↓steps, push_cast, simprocAttr, tte]
  refine callq [[1, 5]] [] (c_edges start evs ok) ?_
  simp -implicitDefEqProofs only [↓steps, push_cast, simprocAttr, tte]
  generalize hE : edgesM start.length evs = E at hel hft hcm ⊢
  have h123 := c_of E [1, 2, 3] (by omega) (by decide) hft
  refine callq [[4], [1]] [] (h123) ?_
  simp -implicitDefEqProofs only [↓steps, push_cast, simprocAttr, tte]
  have hc := c_circle (plainG E [1, 2, 3]) (antiG E [1, 2, 3])
  refine callq [[]] [] (hc) ?_ (hz := by simp only [frzAL, frzA, frz_gC, frz_boos, List.cons_append, List.nil_append, List.append_nil]; exact rfl) (hgs := by simp [rowsOf_length] <;> omega) (hargs := by simp [ends, bs]) (hcl := by simp [ends, bs])
  rw [hcm] at hr
  have hne := fun c => circ_ne (p := plainG E [1, 2, 3]) (a := antiG E [1, 2, 3]) (c := c)
  generalize circ1 (plainG E [1, 2, 3]) (antiG E [1, 2, 3]) = s at hr hne ⊢
  cases s with
  | none =>
    simp -implicitDefEqProofs only [cellO, ↓steps, push_cast, simprocAttr, tte]
    subst hr
    refine retx_tup [[1], []] rfl trivial (by simp) rfl rfl trivial (by simp [ends])
  | some c =>
    cases c with
    | nil => exact absurd rfl (hne [] rfl)
    | cons x c =>
      simp -implicitDefEqProofs only [cellO, toI, List.map_cons, rowsOf_cons, List.isEmpty_cons, ↓steps, push_cast, simprocAttr, tte]
      exact ret_d2 trivial (by rw [← hr]; rfl) (by simp [ends])
theorem anomM_ln (n : Nat) (evs : List Hv) : (anomM n evs).length ≤ 7 := by
  unfold anomM
  rw [List.length_map]
  exact Nat.le_trans (List.length_filter_le _ _) (by simp)
theorem c_has (l : List Int) (n : Int) (hl : l.length ≤ 1000) : ACall Try.prog 28 [num n, .ptr 1000 0] [(1000, .var [ints l])] (boo (l.contains n)) [(1000, .var [ints l])] := by
  refine enterq mixed ttok Try.func28 Try.ntmps28 Try.results28 ?_
  generalize hr : boo (l.contains n) = R
  simp -implicitDefEqProofs only [argT, ↓steps, push_cast, simprocAttr, tte]
  refine callq [[1], []] [] (c_conN l n (by omega)) ?_
  simp -implicitDefEqProofs only [↓steps, push_cast, simprocAttr, tte]
  exact ret_dO trivial (by rw [← hr]; rfl) (by simp [ends]) (by simp [ends])
theorem c_check (level : Int) (start : List Int) (evs : List Hv) (h : validH start evs = true) : ACall Try.prog 10 [num level, aH start evs] [] (boo (checkM level (anomM start.length evs))) [] := by
  refine enterX ttok Try.func10 Try.ntmps10 Try.results10 ?_
  generalize hr : boo (checkM level (anomM start.length evs)) = R
  have ok := ok_of h
  have h1 := ok.s6
  have h2 := ok.e2
  refine codx_step mixed ttok ?_
  simp -implicitDefEqProofs only [argT, ↓steps, push_cast, simprocAttr, tte]
  refine codx_step mixed ttok ?_
  simp -implicitDefEqProofs only [↓steps, push_cast, simprocAttr, tte]
  refine callq [[1, 5]] [] (c_valid start evs ⟨by omega, by omega⟩) ?_
  simp -implicitDefEqProofs only [h, Bool.not_true, ↓steps, push_cast, simprocAttr, tte]
  have hln := anomM_ln start.length evs
  refine codx_step mixed ttok ?_
  simp -implicitDefEqProofs only [↓steps, push_cast, simprocAttr, tte]
  refine callq [[1, 5]] [] (c_anoms start evs ok) ?_
  simp -implicitDefEqProofs only [↓steps, push_cast, simprocAttr, tte]
  generalize anomM start.length evs = L at hr hln ⊢
  refine codx_step mixed ttok ?_
  simp -implicitDefEqProofs only [↓steps, push_cast, simprocAttr, tte]
  have hh := fun n => c_has L n (by omega)
  refine codx_cut mixed ttok (⟨[(7, boo (basicM L)), (6, .clo 28 [.ptr 5 0]), (5, .ptr 5 0), (0, num level)], [(5, .var [ints L])]⟩ : SL) ?_ ?_
  · simp -implicitDefEqProofs only [↓steps, push_cast, simprocAttr, tte]
    refine callq [[], []] [(1000, 5)] (hh 1) ?_
    simp -implicitDefEqProofs only [↓steps, push_cast, simprocAttr, tte]
    have hbs : basicM L = (((L.contains 1 || L.contains 2) || L.contains 3) || L.contains 4) := rfl
    refine bcase_intro (fun a => ?_) fun a => ?_
    · have e : basicM L = true := by rw [hbs, a]; rfl
      exact Weak.keepL (by simp [e, ends]) (by simp [ends]) (by simp [ends])
    · refine callq [[], []] [(1000, 5)] (hh 2) ?_
      simp -implicitDefEqProofs only [↓steps, push_cast, simprocAttr, tte]
      refine bcase_intro (fun b => ?_) fun b => ?_
      · have e : basicM L = true := by rw [hbs, b]; simp
        exact Weak.keepL (by simp [e, ends]) (by simp [ends]) (by simp [ends])
      · refine callq [[], []] [(1000, 5)] (hh 3) ?_
        simp -implicitDefEqProofs only [↓steps, push_cast, simprocAttr, tte]
        refine bcase_intro (fun c => ?_) fun c => ?_
        · have e : basicM L = true := by rw [hbs, c]; simp
          exact Weak.keepL (by simp [e, ends]) (by simp [ends]) (by simp [ends])
        · refine callq [[], []] [(1000, 5)] (hh 4) ?_
          simp -implicitDefEqProofs only [↓steps, push_cast, simprocAttr, tte]
          have e : basicM L = L.contains 4 := by rw [hbs, a, b, c]; rfl
          exact Weak.keepL (by simp [e, ends]) (by simp [ends]) (by simp [ends])
  · refine codx_of mixed ttok ?_
    have hcm : checkM level L = if level = 1 then !basicM L else if level = 2 then (!basicM L && !L.contains 5) && !L.contains 6 else if level = 3 then L.length == 0 else false := rfl
    generalize basicM L = B at hcm ⊢
    simp -implicitDefEqProofs only [↓steps, push_cast, simprocAttr, tte]
    refine bcase_intro (fun a => ?_) fun a => ?_
    · rw [if_pos (by simpa using a)] at hcm
      exact ret_d trivial (by rw [← hr, hcm]; rfl) (by simp [ends])
    rw [if_neg (by simpa using a)] at hcm
    refine bcase_intro (fun b => ?_) fun b => ?_
    · rw [if_pos (by simpa using b)] at hcm
      refine bcase_intro (fun q => ?_) fun q => ?_
      · rw [q, Bool.true_and] at hcm
        refine callq [[], []] [(1000, 5)] (hh 5) ?_
        simp -implicitDefEqProofs only [↓steps, push_cast, simprocAttr, tte]
        refine bcase_intro (fun z => ?_) fun z => ?_
        · rw [z, Bool.true_and] at hcm
          refine callq [[], []] [(1000, 5)] (hh 6) ?_
          simp -implicitDefEqProofs only [↓steps, push_cast, simprocAttr, tte]
          exact ret_d trivial (by rw [← hr, hcm]; rfl) (by simp [ends])
        · rw [z, Bool.false_and] at hcm
          exact ret_d trivial (by rw [← hr, hcm]; rfl) (by simp [ends])
      · rw [q, Bool.false_and, Bool.false_and] at hcm
        exact ret_d trivial (by rw [← hr, hcm]; rfl) (by simp [ends])
    rw [if_neg (by simpa using b)] at hcm
    refine bcase_intro (fun c => ?_) fun c => ?_
    · rw [if_pos (by simpa using c)] at hcm
      have hz : ((L.length : Int) == 0) = (L.length == 0) := by rw [Bool.eq_iff_iff, beq_iff_eq, beq_iff_eq]; omega
      exact ret_d trivial (by rw [← hr, hcm, ← hz]; rfl) (by simp [ends])
    · rw [if_neg (by simpa using c)] at hcm
      exact ret_d trivial (by rw [← hr, hcm]; rfl) (by simp [ends])
end Go.Proofs.Ythknpcpddlaapaa
