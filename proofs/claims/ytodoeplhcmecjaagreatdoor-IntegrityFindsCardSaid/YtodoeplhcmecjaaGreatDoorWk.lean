/- All violations of made instances, in their order: a proof over an abstract machine of our own (part Wk) -/
import Derived.Test.YtodoeplhcmecjaaGreatDoorWe
import Derived.Test.YtodoeplhcmecjaaGreatDoorLe
import Derived.Test.YtodoeplhcmecjaaGreatDoorWh
import Derived.Test.YtodoeplhcmecjaaGreatDoorWj
set_option linter.all false
namespace Go.Proofs.YtodoeplhcmecjaaGreatDoor
open Go.Am
attribute [local simp, local push_cast] num boo str ints aV aTab aInst aS aT aC tapeO
set_option linter.unusedVariables false
set_option maxRecDepth 100000
set_option maxHeartbeats 4000000
/-- A value of a type out of few. -/
def nSmall (k : Int) : Int := if (4 : Int) < (valsM k).length then 4 else (valsM k).length
def smallM (xs : List Int) (k : Int) (nl : Bool) (p : Nat) : Val :=
  if nl = true then (valsM k).getD (drawn xs p (nSmall k)).toNat default else (valsM k).getD (1 + drawn xs p (nSmall k - 1)).toNat default
theorem nSmall_le {k : Int} (hk : k = 1 ∨ k = 2 ∨ k = 3) : 3 ≤ nSmall k ∧ nSmall k ≤ 4 ∧ nSmall k ≤ (valsM k).length := by
  have := valsM_len hk
  unfold nSmall
  split <;> omega
theorem c_msmall {xs : List Int} {k : Int} {nl : Bool} {p : Nat} (hx : TapeOk xs) (hk : k = 1 ∨ k = 2 ∨ k = 3) (hp : p ≤ 4000000000000000000) :
    ACall Tryz.prog 26 [.ptr 1000 0, num k, boo nl] [(1000, tapeO xs p)] (aV (smallM xs k nl p)) [(1000, tapeO xs (p + 1))] := by
  refine enterq mixed ttok Tryz.func26 Tryz.ntmps26 Tryz.results26 ?_
  generalize hr : aV (smallM xs k nl p) = R
  simp -implicitDefEqProofs only [argT, ↓steps, push_cast, simprocAttr, tte]
  refine callq [[]] [] (c_mvalues k) ?_
  have hl := nSmall_le hk
  simp -implicitDefEqProofs only [↓steps, push_cast, simprocAttr, tte]
  rw [show (if (4 : Int) < (valsM k).length then (4 : Int) else (valsM k).length) = nSmall k from rfl]
  refine bcase_intro (fun h => ?_) fun h => ?_
  · refine callq [[], []] [(1000, 1000)] (c_next (n := nSmall k) (p := p) hx (by omega) (by omega) hp) ?_
    have hd := drawn_range xs p (n := nSmall k) (by omega)
    simp -implicitDefEqProofs only [↓steps, push_cast, simprocAttr, tte]
    refine ⟨by omega, ?_⟩
    refine retx_of [0, 0, 0] rfl (by simp) (by simp [rowsOf_length] <;> omega) ?_ (by first | rfl | simp [ends] | (subst_vars; simp [ends])) (by simp [ends]) (by simp [ends])
    rw [← hr, smallM, if_pos h]; rfl
  · have e1 : IntKind.i64.wrap (nSmall k - 1) = nSmall k - 1 := wrap_eq (by omega) (by omega)
    simp only [e1]
    refine callq [[], []] [(1000, 1000)] (c_next (n := nSmall k - 1) (p := p) hx (by omega) (by omega) hp) ?_
    have hd := drawn_range xs p (n := nSmall k - 1) (by omega)
    have e2 : IntKind.i64.wrap (1 + drawn xs p (nSmall k - 1)) = 1 + drawn xs p (nSmall k - 1) := wrap_eq (by omega) (by omega)
    simp -implicitDefEqProofs only [↓steps, push_cast, simprocAttr, tte, e2]
    refine ⟨by omega, ?_⟩
    refine retx_of [0, 0, 0] rfl (by simp) (by simp [rowsOf_length] <;> omega) ?_ (by first | rfl | simp [ends] | (subst_vars; simp [ends])) (by simp [ends]) (by simp [ends])
    rw [← hr, smallM, if_neg (by rw [h]; decide)]; rfl
end Go.Proofs.YtodoeplhcmecjaaGreatDoor
namespace Go.Proofs.YtodoeplhcmecjaaGreatDoor
open Go.Am
attribute [local simp, local push_cast] num boo str ints aV aTab aInst aS aT aC aRow rRow rTab rC rB vT tapeO
set_option linter.unusedVariables false
set_option maxRecDepth 100000
set_option maxHeartbeats 4000000
/-! Made instances. -/
def rowS (xs : List Int) (cols : List Col) (p j : Nat) : List Val := (List.range j).map fun j => smallM xs (cols.getD j default).type true (p + j)
def rowI (xs : List Int) (cols : List Col) (p k : Nat) : Row := if 0 < drawn xs (p + cols.length) 8 then (rowS xs cols p cols.length).set 0 ⟨1, k + 1, ByteArray.empty⟩ else rowS xs cols p cols.length
def tabI (xs : List Int) (cols : List Col) (p n : Nat) : Tab2 := (List.range n).map fun k => rowI xs cols (p + k * (cols.length + 1)) k
def instTo (xs : List Int) (most : Int) (s : Sch) (p : Nat) : Nat → Inst × Nat
  | 0 => ([], p)
  | i + 1 => ((instTo xs most s p i).1 ++ [tabI xs (s.getD i default).columns ((instTo xs most s p i).2 + 1) (drawn xs (instTo xs most s p i).2 (most + 1)).toNat],
      (instTo xs most s p i).2 + 1 + (drawn xs (instTo xs most s p i).2 (most + 1)).toNat * ((s.getD i default).columns.length + 1))
def instM (xs : List Int) (most : Int) (s : Sch) (p : Nat) : Inst × Nat := instTo xs most s p s.length
theorem rowS_succ (xs : List Int) (cols : List Col) (p j : Nat) : rowS xs cols p (j + 1) = rowS xs cols p j ++ [smallM xs (cols.getD j default).type true (p + j)] := by simp [rowS, List.range_succ]
theorem rowS_len (xs : List Int) (cols : List Col) (p j : Nat) : (rowS xs cols p j).length = j := by simp [rowS]
theorem rowI_len (xs : List Int) (cols : List Col) (p k : Nat) : (rowI xs cols p k).length = cols.length := by
  unfold rowI; split
  · rw [List.length_set, rowS_len]
  · exact rowS_len ..
theorem tabI_succ (xs : List Int) (cols : List Col) (p n : Nat) : tabI xs cols p (n + 1) = tabI xs cols p n ++ [rowI xs cols (p + n * (cols.length + 1)) n] := by simp [tabI, List.range_succ]
theorem tabI_len (xs : List Int) (cols : List Col) (p n : Nat) : (tabI xs cols p n).length = n := by simp [tabI]
theorem instTo_len (xs : List Int) (most : Int) (s : Sch) (p : Nat) : ∀ i, (instTo xs most s p i).1.length = i
  | 0 => rfl
  | i + 1 => by rw [instTo, List.length_append, instTo_len xs most s p i]; rfl
theorem instTo_q (xs : List Int) {most : Int} (hm : 0 ≤ most) (hm2 : most ≤ 100) {s : Sch} (hc : ∀ T ∈ s, T.columns.length ≤ 1000) (p : Nat) : ∀ i, i ≤ s.length → (instTo xs most s p i).2 ≤ p + 200000 * i
  | 0, _ => by simp [instTo]
  | i + 1, h => by
    have ih := instTo_q xs hm hm2 hc p i (by omega)
    have hd := drawn_range xs (instTo xs most s p i).2 (n := most + 1) (by omega)
    have hcl := hc _ (getD_mem (show i < s.length by omega))
    have : (drawn xs (instTo xs most s p i).2 (most + 1)).toNat * ((s.getD i default).columns.length + 1) ≤ 100 * 1001 := Nat.mul_le_mul (by omega) (by omega)
    rw [instTo]
    simp only
    omega
/-- A table as a cell. -/
def tabC (t : Tab2) : A := .d (.sl 1 (rowsOf rRow t))
theorem get_at {D E : List A} {a : A} {i : Nat} (h : D.length = i) : (D ++ a :: E)[i]? = some a := by subst h; simp
theorem take_at {D E : List A} {a : A} {i : Nat} (h : D.length = i) : (D ++ a :: E).take i = D := by subst h; simp
theorem drop_at {D E : List A} {a : A} {i : Nat} (h : D.length = i) : (D ++ a :: E).drop (i + 1) = E := by subst h; simp
theorem set_at {D E : List A} {a b : A} {i : Nat} (h : D.length = i) : (D ++ a :: E).set i b = D ++ b :: E := by subst h; simp
theorem closedL_app {dom : Nat → Bool} : ∀ (D E : List A), closedL dom (D ++ E) = (closedL dom D && closedL dom E)
  | [], E => by simp [closedL]
  | a :: D, E => by simp [closedL, closedL_app D E, Bool.and_assoc]
theorem closedL_tabs {dom : Nat → Bool} : ∀ (ts : Inst), closedL dom (ts.map tabC) = true
  | [] => rfl
  | t :: ts => by rw [List.map_cons, closedL, closedL_tabs ts]; rfl
theorem closedL_nils {dom : Nat → Bool} : ∀ (n : Nat), closedL dom (List.replicate n .snil) = true
  | 0 => rfl
  | n + 1 => by rw [List.replicate_succ, closedL, closedL_nils n]; rfl
theorem set_row (row : List Val) (v : Val) (h : 1 ≤ row.length) : (rowsOf rV row).set 0 (.lit (.int .i64 v.kind) :: .lit (.int .i64 v.num) :: .lit (.string v.text) :: List.drop 3 ((rowsOf rV row).getD 0 [])) = rowsOf rV (row.set 0 v) := by
  cases row with
  | nil => simp at h
  | cons x l => simp [rowsOf, rV]
def tI (most : Int) : List (Nat × A) := [(0, .ptr 1000 0), (2, num most), (4, .ptr 4 0), (6, .ptr 6 0), (7, .ptr 7 0)]
def oI (xs : List Int) (s : Sch) (cs : List A) (q : Nat) : List (Nat × Ob) := [(4, vS s), (6, .var [.snil]), (7, .var [.vs 16 s.length]), (16, .var cs), (1000, tapeO xs q)]
def S4 (xs : List Int) (most : Int) (s : Sch) (cs : List A) (q i : Nat) : SL := ⟨(8, .d (.lit (.int .i64 i))) :: tI most, oI xs s cs q⟩
def R4 (xs : List Int) (most : Int) (s : Sch) (D E : List A) (i n : Nat) (rows : Tab2) (q k : Nat) : SL :=
  ⟨(10, .d (.lit (.int .i64 k))) :: (9, .d (.lit (.int .i64 n))) :: (8, .d (.lit (.int .i64 i))) :: tI most, (600, .vec 47 1 (rowsOf rRow rows) 0) :: oI xs s (D ++ .vec 600 k :: E) q⟩
def C4 (xs : List Int) (most : Int) (s : Sch) (D E : List A) (i n : Nat) (rows : Tab2) (q k : Nat) (row : List Val) (j : Nat) : SL :=
  ⟨(12, .d (.lit (.int .i64 j))) :: (11, .vec 601 j) :: (10, .d (.lit (.int .i64 k))) :: (9, .d (.lit (.int .i64 n))) :: (8, .d (.lit (.int .i64 i))) :: tI most,
   (601, .vec 57 3 (rowsOf rV row) 0) :: (600, .vec 47 1 (rowsOf rRow rows) 0) :: oI xs s (D ++ .vec 600 k :: E) q⟩
theorem c_minst {xs : List Int} {s : Sch} {p : Nat} {most : Int} (hx : TapeOk xs) (hm : 0 ≤ most) (hm2 : most ≤ 100) (hS : SmallS s) (hT : ∀ T ∈ s, 1 ≤ T.columns.length ∧ ∀ c ∈ T.columns, c.type = 1 ∨ c.type = 2 ∨ c.type = 3) (hp : p ≤ 1000000000) :
    ACall Tryz.prog 9 [.ptr 1000 0, aS s, num most] [(1000, tapeO xs p)] (aInst (instM xs most s p).1) [(1000, tapeO xs (instM xs most s p).2)] := by
  refine enterq mixed ttok Tryz.func9 Tryz.ntmps9 Tryz.results9 ?_
  have hsl := hS.len
  have hcl : ∀ T ∈ s, T.columns.length ≤ 1000 := fun T h => (hS.tab T h).cols
  simp -implicitDefEqProofs only [argT, ↓steps, push_cast, simprocAttr, tte]
  refine ⟨by omega, ?_⟩
  refine loop_gen mixed ttok (fun i : Nat => S4 xs most s ((instTo xs most s p i).1.map tabC ++ List.replicate (s.length - i) .snil) (instTo xs most s p i).2 i) (fun i => s.length - i) (fun i => i ≤ s.length) 0 (Nat.zero_le _) ?_ ?_
  · exact Weak.keepL (by simp [S4, tI, oI, ends]) (by simp [S4, oI, vS, instTo, closedL_nils, ends]) (by simp [S4, oI, ends])
  intro I hI i hi
  simp -implicitDefEqProofs only [S4, tI, oI, vS, ↓steps, push_cast, simprocAttr, tte]
  refine bcase_intro (fun h => ?_) fun h => ?_
  rotate_left
  · have hii : i = s.length := by have := of_decide_eq_false h; omega
    subst hii
    have hM : instM xs most s p = instTo xs most s p s.length := rfl
    rw [Nat.sub_self, List.replicate_zero, List.append_nil, hM]
    have hrl := instTo_len xs most s p s.length
    generalize instTo xs most s p s.length = r at hrl
    refine ret_vs1 (q := 16) (n := s.length) (xs := r.1.map fun t => .sl 1 (rowsOf rRow t)) trivial ?_ rfl ?_ ?_ ?_ ?_
    · simp only [lookO]
      rw [List.map_map]; rfl
    · rw [List.length_map, hrl]
    · simp [rowsOf, rTab]
    · simp [ends]
    · simp [ends]
  have h' : i < s.length := by have := of_decide_eq_true h; omega
  have hw := wrap_succ h' (by omega)
  have hlen := instTo_len xs most s p i
  have hq := instTo_q xs hm hm2 hcl p i hi
  have hd := drawn_range xs (instTo xs most s p i).2 (n := most + 1) (by omega)
  have wm : IntKind.i64.wrap (most + 1) = most + 1 := wrap_eq (by omega) (by omega)
  simp only [wm]
  refine callq [[], []] [(1000, 1000)] (c_next (n := most + 1) (p := (instTo xs most s p i).2) hx (by omega) (by omega) (by omega)) ?_
  simp -implicitDefEqProofs only [↓steps, push_cast, simprocAttr, tte]
  have hTm := getD_mem h'
  obtain ⟨hc1, hc2⟩ := hT _ hTm
  have hcl1 := hcl _ hTm
  have hD : ((instTo xs most s p i).1.map tabC).length = i := by rw [List.length_map, hlen]
  have hcs : (instTo xs most s p i).1.map tabC ++ List.replicate (s.length - i) A.snil = (instTo xs most s p i).1.map tabC ++ .snil :: List.replicate (s.length - (i + 1)) .snil := by
    rw [show s.length - i = (s.length - (i + 1)) + 1 by omega, List.replicate_succ]
  have hnext : instTo xs most s p (i + 1) = ((instTo xs most s p i).1 ++ [tabI xs (s.getD i default).columns ((instTo xs most s p i).2 + 1) (drawn xs (instTo xs most s p i).2 (most + 1)).toNat],
      (instTo xs most s p i).2 + 1 + (drawn xs (instTo xs most s p i).2 (most + 1)).toNat * ((s.getD i default).columns.length + 1)) := rfl
  rw [hcs]
  obtain ⟨n, hn⟩ : ∃ n : Nat, drawn xs (instTo xs most s p i).2 (most + 1) = n := ⟨(drawn xs (instTo xs most s p i).2 (most + 1)).toNat, by omega⟩
  rw [hn, Int.toNat_natCast] at hnext
  rw [hn] at hd ⊢
  have hcD : ∀ dom : Nat → Bool, closedL dom ((instTo xs most s p i).1.map tabC) = true := fun _ => closedL_tabs _
  have hcE : ∀ dom : Nat → Bool, closedL dom (List.replicate (s.length - (i + 1)) A.snil) = true := fun _ => closedL_nils _
  have hEq : List.replicate (s.length - (i + 1)) A.snil = List.replicate (s.length - (i + 1)) A.snil := rfl
  generalize hDD : (instTo xs most s p i).1.map tabC = D at hD hcD ⊢
  generalize hEE : List.replicate (s.length - (i + 1)) A.snil = E at hcE ⊢
  generalize (instTo xs most s p i).2 = q at hq hnext ⊢
  generalize hTT : s.getD i default = T at hnext hTm hc1 hc2 hcl1
  refine loop_gen mixed ttok (fun k : Nat => R4 xs most s D E i n (tabI xs T.columns (q + 1) k) (q + 1 + k * (T.columns.length + 1)) k) (fun k => n - k) (fun k => k ≤ n) 0 (Nat.zero_le _) ?_ ?_
  · refine (Weak.nilCellL 16 i 600 47 1 rfl (get_at hD) rfl).trans ?_
    rw [set_at hD]
    exact Weak.keepL (by simp [R4, tI, oI, ends]) (by simp [R4, oI, vS, tabI, rowsOf, closedL_app, hcD, hcE, ends]) (by simp [R4, oI, ends])
  intro J hJ k hk
  simp -implicitDefEqProofs only [R4, tI, oI, vS, ↓steps, push_cast, simprocAttr, tte]
  refine bcase_intro (fun g => ?_) fun g => ?_
  rotate_left
  · have hkk : k = n := by have := of_decide_eq_false g; omega
    subst hkk
    have hfin : (instTo xs most s p (i + 1)).1.map tabC ++ List.replicate (s.length - (i + 1)) A.snil = D ++ tabC (tabI xs T.columns (q + 1) k) :: E := by rw [hnext, hEE]; simp [hDD]
    have hq2 : (instTo xs most s p (i + 1)).2 = q + 1 + k * (T.columns.length + 1) := by rw [hnext]
    refine gen_again hI (i + 1) h' (by show s.length - (i + 1) < s.length - i; omega) ?_
    refine (Weak.frzCellL 16 i 1 rfl (get_at hD) rfl (by simp [rowsOf_length, tabI_len]) rfl).trans ?_
    rw [set_at hD, hfin, hq2]
    exact Weak.keepL (by simp [S4, tI, oI, hw, ends]) (by simp [S4, oI, vS, tabC, closedL_app, hcD, hcE, closedL, ends]) (by simp [S4, oI, ends])
  have g' : k < n := by have := of_decide_eq_true g; omega
  have hwk := wrap_succ g' (by omega)
  have hkm : k * (T.columns.length + 1) ≤ 100 * 1001 := Nat.mul_le_mul (by omega) (by omega)
  have hts := tabI_succ xs T.columns (q + 1) k
  generalize hP : q + 1 + k * (T.columns.length + 1) = P at hts ⊢
  have hPb : P ≤ 100000000000 := by omega
  generalize hrows : tabI xs T.columns (q + 1) k = rows at hts ⊢
  have hrl : rows.length = k := by rw [← hrows, tabI_len]
  refine loop_gen mixed ttok (fun j : Nat => C4 xs most s D E i n rows (P + j) k (rowS xs T.columns P j) j) (fun j => T.columns.length - j) (fun j => j ≤ T.columns.length) 0 (Nat.zero_le _) ?_ ?_
  · refine (Weak.nilL 11 601 57 3 rfl rfl).trans ?_
    exact Weak.keepL (by simp [C4, tI, oI, ends]) (by simp [C4, oI, vS, rowS, rowsOf, closedL_app, closedL, hcD, hcE, ends]) (by simp [C4, oI, ends])
  intro M hM j hj
  simp -implicitDefEqProofs only [C4, tI, oI, vS, ↓steps, push_cast, simprocAttr, tte]
  refine ⟨(by first | omega | trivial | (refine ⟨?_, ?_⟩ <;> first | omega | trivial | (refine ⟨?_, ?_⟩ <;> first | omega | trivial | (refine ⟨?_, ?_⟩ <;> first | omega | trivial | rfl)))), ?_⟩
  rw [hTT]
  refine bcase_intro (fun g2 => ?_) fun g2 => ?_
  · have g2' : j < T.columns.length := by have := of_decide_eq_true g2; omega
    have hwj := wrap_succ g2' (by omega)
    have hrs := rowS_succ xs T.columns P j
    refine ⟨(by first | omega | trivial | (refine ⟨?_, ?_⟩ <;> first | omega | trivial | (refine ⟨?_, ?_⟩ <;> first | omega | trivial | (refine ⟨?_, ?_⟩ <;> first | omega | trivial | rfl)))), (by first | omega | trivial | (refine ⟨?_, ?_⟩ <;> first | omega | trivial | (refine ⟨?_, ?_⟩ <;> first | omega | trivial | (refine ⟨?_, ?_⟩ <;> first | omega | trivial | rfl)))), ?_⟩
    have hk1 := hc2 _ (getD_mem g2')
    refine callq [[], [], []] [(1000, 1000)] (c_msmall (k := (T.columns.getD j default).type) (nl := true) (p := P + j) hx hk1 (by omega)) ?_
    simp -implicitDefEqProofs only [↓steps, push_cast, simprocAttr, tte]
    refine ⟨by rw [rowS_len]; omega, ?_⟩
    exact gen_again hM (j + 1) g2' (by show T.columns.length - (j + 1) < T.columns.length - j; omega) (Weak.keepL (by simp [C4, tI, oI, hwj, rowS_len, ends]) (by simp [C4, oI, vS, hrs, rowsOf, closedL_app, closedL, hcD, hcE, Nat.add_assoc, ends]) (by simp [C4, oI, ends]))
  have hjj : j = T.columns.length := by have := of_decide_eq_false g2; omega
  subst hjj
  have hrl2 := rowS_len xs T.columns P T.columns.length
  refine callq [[], []] [(1000, 1000)] (c_next (n := 8) (p := P + T.columns.length) hx (by omega) (by omega) (by omega)) ?_
  have h8 := drawn_range xs (P + T.columns.length) (n := 8) (by omega)
  simp -implicitDefEqProofs only [get_at hD, take_at hD, drop_at hD, set_at hD, ↓steps, push_cast, simprocAttr, tte]
  have hPn : q + 1 + (k + 1) * (T.columns.length + 1) = P + T.columns.length + 1 := by rw [Nat.succ_mul]; omega
  have hDl : i + 1 ≤ (D ++ A.vec 600 k :: E).length := by simp [hD]
  refine bcase_intro (fun g8 => ?_) fun g8 => ?_
  · have hrI : rowI xs T.columns P k = (rowS xs T.columns P T.columns.length).set 0 ⟨1, k + 1, ByteArray.empty⟩ := by rw [rowI, if_pos (of_decide_eq_true g8)]
    have hset := set_row (rowS xs T.columns P T.columns.length) ⟨1, k + 1, ByteArray.empty⟩ (by omega)
    have hk1 : IntKind.i64.wrap ((k : Int) + 1) = (k : Int) + 1 := wrap_eq (by omega) (by omega)
    simp only at hset
    rw [hk1, hset]
    refine ⟨⟨by omega, hrl2.symm⟩, ⟨hrl2.symm, by omega⟩, ⟨by omega, by omega⟩, by rw [rowsOf_length, List.length_set, hrl2], ⟨hrl.symm, by omega⟩, ⟨by omega, by omega⟩, hDl, drawx_intro (by kernel_rfl), ?_⟩
    exact gen_again hJ (k + 1) g' (by show n - (k + 1) < n - k; omega) (Weak.keepL (by simp [R4, tI, oI, hrl, ends]) (by simp [R4, oI, vS, hts, hrI, hPn, hrl, rowsOf, closedL_app, closedL, hcD, hcE, ends]) (by simp [R4, oI, ends]))
  · have hrI : rowI xs T.columns P k = rowS xs T.columns P T.columns.length := by rw [rowI, if_neg (of_decide_eq_false g8)]
    refine ⟨⟨by omega, by omega⟩, by rw [hrl2], ⟨hrl.symm, by omega⟩, ⟨by omega, by omega⟩, hDl, drawx_intro (by kernel_rfl), ?_⟩
    exact gen_again hJ (k + 1) g' (by show n - (k + 1) < n - k; omega) (Weak.keepL (by simp [R4, tI, oI, hwk, hrl, ends]) (by simp [R4, oI, vS, hts, hrI, hPn, hrl, rowsOf, closedL_app, closedL, hcD, hcE, ends]) (by simp [R4, oI, ends]))
end Go.Proofs.YtodoeplhcmecjaaGreatDoor
namespace Go.Proofs.YtodoeplhcmecjaaGreatDoor
open Go.Am
attribute [local simp, local push_cast] num boo str ints aV aTab aInst aS aT aC aRow rRow rTab vO rVio rB vT found rE tapeO
set_option linter.unusedVariables false
set_option maxRecDepth 100000
set_option maxHeartbeats 4000000
/-! IntegrityFinds. -/
def Typed (cs : List Col) : Prop := 1 ≤ cs.length ∧ ∀ c ∈ cs, c.type = 1 ∨ c.type = 2 ∨ c.type = 3
theorem mcols_typed (xs : List Int) (p c : Nat) : Typed (mcols xs p c) := by
  refine ⟨by rw [mcols_len]; omega, fun x hx => ?_⟩
  simp only [mcols, List.mem_cons, List.mem_map] at hx
  rcases hx with rfl | ⟨a, _, rfl⟩
  · exact .inl rfl
  · have := drawn_range xs (p + 2 * a) (n := 3) (by omega)
    simp only [mcol]
    omega
theorem Typed.snoc {cs : List Col} (h : Typed cs) {c : Col} (hc : c.type = 1 ∨ c.type = 2 ∨ c.type = 3) : Typed (cs ++ [c]) :=
  ⟨by rw [List.length_append]; have := h.1; omega, fun x hx => (List.mem_append.1 hx).elim (h.2 x) fun q => by rw [List.mem_singleton.1 q]; exact hc⟩
theorem forM_typed (xs : List Int) (i : Nat) : ∀ (n k : Nat) (cols : List Col) (fs : List Fk) (q : Nat), Typed cols → Typed (forM xs i n k cols fs q).1
  | 0, _, _, _, _, h => h
  | n + 1, k, cols, fs, q, h => by
    simp only [forM]
    split
    · exact h
    · split
      · exact forM_typed xs i n (k + 1) _ _ _ (h.snoc (.inl rfl))
      · exact h
theorem schemaM_typed (xs : List Int) (p : Nat) : ∀ T ∈ (schemaM xs p).1, 1 ≤ T.columns.length ∧ ∀ c ∈ T.columns, c.type = 1 ∨ c.type = 2 ∨ c.type = 3 := by
  have key : ∀ n, ∀ t ∈ (mtabs xs p n).1, Typed t.columns := by
    intro n
    induction n with
    | zero => simp [mtabs]
    | succ n ih =>
      intro t ht
      simp only [mtabs, List.mem_append, List.mem_singleton] at ht
      rcases ht with ht | rfl
      · exact ih t ht
      · simp only [tblM, tblTail]
        exact forM_typed _ _ _ _ _ _ _ (mcols_typed ..)
  exact key _
theorem schemaM_q (xs : List Int) : (schemaM xs 0).2 ≤ 1000000 := by
  have h3 := drawn_range xs 0 (n := 3) (by omega)
  have := mtabs_q xs 0 (1 + drawn xs 0 3).toNat
  unfold schemaM
  omega
theorem instM_small (xs : List Int) {most : Int} (hm : 0 ≤ most) (hm2 : most ≤ 100) {s : Sch} (hS : SmallS s) (p : Nat) : SmallI (instM xs most s p).1 := by
  have hl := hS.len
  have key : ∀ i, i ≤ s.length → ∀ t ∈ (instTo xs most s p i).1, t.length ≤ 1000 ∧ ∀ r ∈ t, r.length ≤ 1000 := by
    intro i
    induction i with
    | zero => simp [instTo]
    | succ i ih =>
      intro hi t ht
      simp only [instTo, List.mem_append, List.mem_singleton] at ht
      rcases ht with ht | rfl
      · exact ih (by omega) t ht
      · have hd := drawn_range xs (instTo xs most s p i).2 (n := most + 1) (by omega)
        refine ⟨by rw [tabI_len]; omega, fun r hr => ?_⟩
        simp only [tabI, List.mem_map] at hr
        obtain ⟨k, _, rfl⟩ := hr
        rw [rowI_len]
        exact (hS.tab _ (getD_mem (by omega))).cols
  exact ⟨by rw [instM, instTo_len]; omega, fun t ht => (key _ (Nat.le_refl _) t ht).1, fun t ht => (key _ (Nat.le_refl _) t ht).2⟩
theorem c_lawF (l : List Int) (hx : TapeOk l) : ACall Tryz.prog 3 [ints l] [] (boo true) [] := by
  refine enterq mixed ttok Tryz.func3 Tryz.ntmps3 Tryz.results3 ?_
  generalize hr : boo true = R
  simp -implicitDefEqProofs only [argT, ↓steps, push_cast, simprocAttr, tte]
  refine callq [[]] [(1000, 12)] (c_schema0 hx) ?_
  have hq := schemaM_q l
  obtain ⟨hS, hl1⟩ := schemaM_ok l 0
  have hT := schemaM_typed l 0
  generalize (schemaM l 0).1 = s at hS hl1 hT ⊢
  generalize (schemaM l 0).2 = q at hq ⊢
  simp -implicitDefEqProofs only [↓steps, push_cast, simprocAttr, tte]
  refine callq [[], [6], []] [(1000, 12)] (c_minst (most := 8) (p := q) hx (by omega) (by omega) hS hT (by omega)) ?_
  have hI := instM_small l (most := 8) (by omega) (by omega) hS q
  generalize (instM l 8 s q).1 = i at hI ⊢
  simp -implicitDefEqProofs only [↓steps, push_cast, simprocAttr, tte]
  have hn := vioM_len hS hI
  refine callq [[6], [1]] [] (c_vio s i hS hI good_of_valid) ?_
  simp -implicitDefEqProofs only [↓steps, push_cast, simprocAttr, tte]
  refine callq [[6], [1]] [] (c_rvio s i hS hI) ?_
  simp -implicitDefEqProofs only [↓steps, push_cast, simprocAttr, tte]
  refine callq [[5], [5]] [] (c_sameV (vioM s i).1 hn) ?_
  simp -implicitDefEqProofs only [↓steps, push_cast, simprocAttr, tte]
  refine callq [[6], [1]] [] (c_validI s i hS hI) ?_
  simp -implicitDefEqProofs only [↓steps, push_cast, simprocAttr, tte]
  refine callq [[6], [1]] [] (c_rvalidI s i hS hI) ?_
  simp -implicitDefEqProofs only [↓steps, push_cast, simprocAttr, tte]
  refine ⟨drawx_intro (by kernel_rfl), ?_⟩
  exact ret_d trivial hr (by simp [ends])
end Go.Proofs.YtodoeplhcmecjaaGreatDoor
