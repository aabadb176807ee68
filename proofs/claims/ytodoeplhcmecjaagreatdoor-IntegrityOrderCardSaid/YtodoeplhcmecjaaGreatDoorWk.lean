/- Validity does not depend on the order of rows: a proof over an abstract machine of our own (part Wk) -/
import Derived.Test.YtodoeplhcmecjaaGreatDoorWe
import Derived.Test.YtodoeplhcmecjaaGreatDoorLe
import Derived.Test.YtodoeplhcmecjaaGreatDoorWh
import Derived.Test.YtodoeplhcmecjaaGreatDoorWj
set_option linter.all false
namespace Go.Proofs.YtodoeplhcmecjaaGreatDoor
open Go.Am
attribute [local simp, local push_cast] num boo str ints aV aTab aInst aS aT aC tapeO
set_option linter.unusedVariables false
set_option maxRecDepth 100000
set_option maxHeartbeats 4000000
/-- A value of a type out of few. -/
def nSmall (k : Int) : Int := if (4 : Int) < (valsM k).length then 4 else (valsM k).length
def smallM (xs : List Int) (k : Int) (nl : Bool) (p : Nat) : Val :=
  if nl = true then (valsM k).getD (drawn xs p (nSmall k)).toNat default else (valsM k).getD (1 + drawn xs p (nSmall k - 1)).toNat default
theorem nSmall_le {k : Int} (hk : k = 1 ∨ k = 2 ∨ k = 3) : 3 ≤ nSmall k ∧ nSmall k ≤ 4 ∧ nSmall k ≤ (valsM k).length := by
  have := valsM_len hk
  unfold nSmall
  split <;> omega
theorem c_msmall {xs : List Int} {k : Int} {nl : Bool} {p : Nat} (hx : TapeOk xs) (hk : k = 1 ∨ k = 2 ∨ k = 3) (hp : p ≤ 4000000000000000000) :
    ACall Tryz.prog 26 [.ptr 1000 0, num k, boo nl] [(1000, tapeO xs p)] (aV (smallM xs k nl p)) [(1000, tapeO xs (p + 1))] := by
  refine enterq mixed ttok Tryz.func26 Tryz.ntmps26 Tryz.results26 ?_
  generalize hr : aV (smallM xs k nl p) = R
  simp -implicitDefEqProofs only [argT, ↓steps, push_cast, simprocAttr, tte]
  refine callq [[]] [] (c_mvalues k) ?_
  have hl := nSmall_le hk
  simp -implicitDefEqProofs only [↓steps, push_cast, simprocAttr, tte]
  rw [show (if (4 : Int) < (valsM k).length then (4 : Int) else (valsM k).length) = nSmall k from rfl]
  refine bcase_intro (fun h => ?_) fun h => ?_
  · refine callq [[], []] [(1000, 1000)] (c_next (n := nSmall k) (p := p) hx (by omega) (by omega) hp) ?_
    have hd := drawn_range xs p (n := nSmall k) (by omega)
    simp -implicitDefEqProofs only [↓steps, push_cast, simprocAttr, tte]
    refine ⟨by omega, ?_⟩
    refine retx_of [0, 0, 0] rfl (by simp) (by simp [rowsOf_length] <;> omega) ?_ (by first | rfl | simp [ends] | (subst_vars; simp [ends])) (by simp [ends]) (by simp [ends])
    rw [← hr, smallM, if_pos h]; rfl
  · have e1 : IntKind.i64.wrap (nSmall k - 1) = nSmall k - 1 := wrap_eq (by omega) (by omega)
    simp only [e1]
    refine callq [[], []] [(1000, 1000)] (c_next (n := nSmall k - 1) (p := p) hx (by omega) (by omega) hp) ?_
    have hd := drawn_range xs p (n := nSmall k - 1) (by omega)
    have e2 : IntKind.i64.wrap (1 + drawn xs p (nSmall k - 1)) = 1 + drawn xs p (nSmall k - 1) := wrap_eq (by omega) (by omega)
    simp -implicitDefEqProofs only [↓steps, push_cast, simprocAttr, tte, e2]
    refine ⟨by omega, ?_⟩
    refine retx_of [0, 0, 0] rfl (by simp) (by simp [rowsOf_length] <;> omega) ?_ (by first | rfl | simp [ends] | (subst_vars; simp [ends])) (by simp [ends]) (by simp [ends])
    rw [← hr, smallM, if_neg (by rw [h]; decide)]; rfl
end Go.Proofs.YtodoeplhcmecjaaGreatDoor
namespace Go.Proofs.YtodoeplhcmecjaaGreatDoor
open Go.Am
attribute [local simp, local push_cast] num boo str ints aV aTab aInst aS aT aC aRow rRow rTab rC rB vT tapeO
set_option linter.unusedVariables false
set_option maxRecDepth 100000
set_option maxHeartbeats 4000000
/-! Made instances. -/
def rowS (xs : List Int) (cols : List Col) (p j : Nat) : List Val := (List.range j).map fun j => smallM xs (cols.getD j default).type true (p + j)
def rowI (xs : List Int) (cols : List Col) (p k : Nat) : Row := if 0 < drawn xs (p + cols.length) 8 then (rowS xs cols p cols.length).set 0 ⟨1, k + 1, ByteArray.empty⟩ else rowS xs cols p cols.length
def tabI (xs : List Int) (cols : List Col) (p n : Nat) : Tab2 := (List.range n).map fun k => rowI xs cols (p + k * (cols.length + 1)) k
def instTo (xs : List Int) (most : Int) (s : Sch) (p : Nat) : Nat → Inst × Nat
  | 0 => ([], p)
  | i + 1 => ((instTo xs most s p i).1 ++ [tabI xs (s.getD i default).columns ((instTo xs most s p i).2 + 1) (drawn xs (instTo xs most s p i).2 (most + 1)).toNat],
      (instTo xs most s p i).2 + 1 + (drawn xs (instTo xs most s p i).2 (most + 1)).toNat * ((s.getD i default).columns.length + 1))
def instM (xs : List Int) (most : Int) (s : Sch) (p : Nat) : Inst × Nat := instTo xs most s p s.length
theorem rowS_succ (xs : List Int) (cols : List Col) (p j : Nat) : rowS xs cols p (j + 1) = rowS xs cols p j ++ [smallM xs (cols.getD j default).type true (p + j)] := by simp [rowS, List.range_succ]
theorem rowS_len (xs : List Int) (cols : List Col) (p j : Nat) : (rowS xs cols p j).length = j := by simp [rowS]
theorem rowI_len (xs : List Int) (cols : List Col) (p k : Nat) : (rowI xs cols p k).length = cols.length := by
  unfold rowI; split
  · rw [List.length_set, rowS_len]
  · exact rowS_len ..
theorem tabI_succ (xs : List Int) (cols : List Col) (p n : Nat) : tabI xs cols p (n + 1) = tabI xs cols p n ++ [rowI xs cols (p + n * (cols.length + 1)) n] := by simp [tabI, List.range_succ]
theorem tabI_len (xs : List Int) (cols : List Col) (p n : Nat) : (tabI xs cols p n).length = n := by simp [tabI]
theorem instTo_len (xs : List Int) (most : Int) (s : Sch) (p : Nat) : ∀ i, (instTo xs most s p i).1.length = i
  | 0 => rfl
  | i + 1 => by rw [instTo, List.length_append, instTo_len xs most s p i]; rfl
theorem instTo_q (xs : List Int) {most : Int} (hm : 0 ≤ most) (hm2 : most ≤ 100) {s : Sch} (hc : ∀ T ∈ s, T.columns.length ≤ 1000) (p : Nat) : ∀ i, i ≤ s.length → (instTo xs most s p i).2 ≤ p + 200000 * i
  | 0, _ => by simp [instTo]
  | i + 1, h => by
    have ih := instTo_q xs hm hm2 hc p i (by omega)
    have hd := drawn_range xs (instTo xs most s p i).2 (n := most + 1) (by omega)
    have hcl := hc _ (getD_mem (show i < s.length by omega))
    have : (drawn xs (instTo xs most s p i).2 (most + 1)).toNat * ((s.getD i default).columns.length + 1) ≤ 100 * 1001 := Nat.mul_le_mul (by omega) (by omega)
    rw [instTo]
    simp only
    omega
/-- A table as a cell. -/
def tabC (t : Tab2) : A := .d (.sl 1 (rowsOf rRow t))
theorem get_at {D E : List A} {a : A} {i : Nat} (h : D.length = i) : (D ++ a :: E)[i]? = some a := by subst h; simp
theorem take_at {D E : List A} {a : A} {i : Nat} (h : D.length = i) : (D ++ a :: E).take i = D := by subst h; simp
theorem drop_at {D E : List A} {a : A} {i : Nat} (h : D.length = i) : (D ++ a :: E).drop (i + 1) = E := by subst h; simp
theorem set_at {D E : List A} {a b : A} {i : Nat} (h : D.length = i) : (D ++ a :: E).set i b = D ++ b :: E := by subst h; simp
theorem closedL_app {dom : Nat → Bool} : ∀ (D E : List A), closedL dom (D ++ E) = (closedL dom D && closedL dom E)
  | [], E => by simp [closedL]
  | a :: D, E => by simp [closedL, closedL_app D E, Bool.and_assoc]
theorem closedL_tabs {dom : Nat → Bool} : ∀ (ts : Inst), closedL dom (ts.map tabC) = true
  | [] => rfl
  | t :: ts => by rw [List.map_cons, closedL, closedL_tabs ts]; rfl
theorem closedL_nils {dom : Nat → Bool} : ∀ (n : Nat), closedL dom (List.replicate n .snil) = true
  | 0 => rfl
  | n + 1 => by rw [List.replicate_succ, closedL, closedL_nils n]; rfl
theorem set_row (row : List Val) (v : Val) (h : 1 ≤ row.length) : (rowsOf rV row).set 0 (.lit (.int .i64 v.kind) :: .lit (.int .i64 v.num) :: .lit (.string v.text) :: List.drop 3 ((rowsOf rV row).getD 0 [])) = rowsOf rV (row.set 0 v) := by
  cases row with
  | nil => simp at h
  | cons x l => simp [rowsOf, rV]
def tI (most : Int) : List (Nat × A) := [(0, .ptr 1000 0), (2, num most), (4, .ptr 4 0), (6, .ptr 6 0), (7, .ptr 7 0)]
def oI (xs : List Int) (s : Sch) (cs : List A) (q : Nat) : List (Nat × Ob) := [(4, vS s), (6, .var [.snil]), (7, .var [.vs 16 s.length]), (16, .var cs), (1000, tapeO xs q)]
def S4 (xs : List Int) (most : Int) (s : Sch) (cs : List A) (q i : Nat) : SL := ⟨(8, .d (.lit (.int .i64 i))) :: tI most, oI xs s cs q⟩
def R4 (xs : List Int) (most : Int) (s : Sch) (D E : List A) (i n : Nat) (rows : Tab2) (q k : Nat) : SL :=
  ⟨(10, .d (.lit (.int .i64 k))) :: (9, .d (.lit (.int .i64 n))) :: (8, .d (.lit (.int .i64 i))) :: tI most, (600, .vec 47 1 (rowsOf rRow rows) 0) :: oI xs s (D ++ .vec 600 k :: E) q⟩
def C4 (xs : List Int) (most : Int) (s : Sch) (D E : List A) (i n : Nat) (rows : Tab2) (q k : Nat) (row : List Val) (j : Nat) : SL :=
  ⟨(12, .d (.lit (.int .i64 j))) :: (11, .vec 601 j) :: (10, .d (.lit (.int .i64 k))) :: (9, .d (.lit (.int .i64 n))) :: (8, .d (.lit (.int .i64 i))) :: tI most,
   (601, .vec 57 3 (rowsOf rV row) 0) :: (600, .vec 47 1 (rowsOf rRow rows) 0) :: oI xs s (D ++ .vec 600 k :: E) q⟩
theorem c_minst {xs : List Int} {s : Sch} {p : Nat} {most : Int} (hx : TapeOk xs) (hm : 0 ≤ most) (hm2 : most ≤ 100) (hS : SmallS s) (hT : ∀ T ∈ s, 1 ≤ T.columns.length ∧ ∀ c ∈ T.columns, c.type = 1 ∨ c.type = 2 ∨ c.type = 3) (hp : p ≤ 1000000000) :
    ACall Tryz.prog 9 [.ptr 1000 0, aS s, num most] [(1000, tapeO xs p)] (aInst (instM xs most s p).1) [(1000, tapeO xs (instM xs most s p).2)] := by
  refine enterq mixed ttok Tryz.func9 Tryz.ntmps9 Tryz.results9 ?_
  have hsl := hS.len
  have hcl : ∀ T ∈ s, T.columns.length ≤ 1000 := fun T h => (hS.tab T h).cols
  simp -implicitDefEqProofs only [argT, ↓steps, push_cast, simprocAttr, tte]
  refine ⟨by omega, ?_⟩
  refine loop_gen mixed ttok (fun i : Nat => S4 xs most s ((instTo xs most s p i).1.map tabC ++ List.replicate (s.length - i) .snil) (instTo xs most s p i).2 i) (fun i => s.length - i) (fun i => i ≤ s.length) 0 (Nat.zero_le _) ?_ ?_
  · exact Weak.keepL (by simp [S4, tI, oI, ends]) (by simp [S4, oI, vS, instTo, closedL_nils, ends]) (by simp [S4, oI, ends])
  intro I hI i hi
  simp -implicitDefEqProofs only [S4, tI, oI, vS, ↓steps, push_cast, simprocAttr, tte]
  refine bcase_intro (fun h => ?_) fun h => ?_
  rotate_left
  · have hii : i = s.length := by have := of_decide_eq_false h; omega
    subst hii
    have hM : instM xs most s p = instTo xs most s p s.length := rfl
    rw [Nat.sub_self, List.replicate_zero, List.append_nil, hM]
    have hrl := instTo_len xs most s p s.length
    generalize instTo xs most s p s.length = r at hrl
    refine ret_vs1 (q := 16) (n := s.length) (xs := r.1.map fun t => .sl 1 (rowsOf rRow t)) trivial ?_ rfl ?_ ?_ ?_ ?_
    · simp only [lookO]
      rw [List.map_map]; rfl
    · rw [List.length_map, hrl]
    · simp [rowsOf, rTab]
    · simp [ends]
    · simp [ends]
  have h' : i < s.length := by have := of_decide_eq_true h; omega
  have hw := wrap_succ h' (by omega)
  have hlen := instTo_len xs most s p i
  have hq := instTo_q xs hm hm2 hcl p i hi
  have hd := drawn_range xs (instTo xs most s p i).2 (n := most + 1) (by omega)
  have wm : IntKind.i64.wrap (most + 1) = most + 1 := wrap_eq (by omega) (by omega)
  simp only [wm]
  refine callq [[], []] [(1000, 1000)] (c_next (n := most + 1) (p := (instTo xs most s p i).2) hx (by omega) (by omega) (by omega)) ?_
  simp -implicitDefEqProofs only [↓steps, push_cast, simprocAttr, tte]
  have hTm := getD_mem h'
  obtain ⟨hc1, hc2⟩ := hT _ hTm
  have hcl1 := hcl _ hTm
  have hD : ((instTo xs most s p i).1.map tabC).length = i := by rw [List.length_map, hlen]
  have hcs : (instTo xs most s p i).1.map tabC ++ List.replicate (s.length - i) A.snil = (instTo xs most s p i).1.map tabC ++ .snil :: List.replicate (s.length - (i + 1)) .snil := by
    rw [show s.length - i = (s.length - (i + 1)) + 1 by omega, List.replicate_succ]
  have hnext : instTo xs most s p (i + 1) = ((instTo xs most s p i).1 ++ [tabI xs (s.getD i default).columns ((instTo xs most s p i).2 + 1) (drawn xs (instTo xs most s p i).2 (most + 1)).toNat],
      (instTo xs most s p i).2 + 1 + (drawn xs (instTo xs most s p i).2 (most + 1)).toNat * ((s.getD i default).columns.length + 1)) := rfl
  rw [hcs]
  obtain ⟨n, hn⟩ : ∃ n : Nat, drawn xs (instTo xs most s p i).2 (most + 1) = n := ⟨(drawn xs (instTo xs most s p i).2 (most + 1)).toNat, by omega⟩
  rw [hn, Int.toNat_natCast] at hnext
  rw [hn] at hd ⊢
  have hcD : ∀ dom : Nat → Bool, closedL dom ((instTo xs most s p i).1.map tabC) = true := fun _ => closedL_tabs _
  have hcE : ∀ dom : Nat → Bool, closedL dom (List.replicate (s.length - (i + 1)) A.snil) = true := fun _ => closedL_nils _
  have hEq : List.replicate (s.length - (i + 1)) A.snil = List.replicate (s.length - (i + 1)) A.snil := rfl
  generalize hDD : (instTo xs most s p i).1.map tabC = D at hD hcD ⊢
  generalize hEE : List.replicate (s.length - (i + 1)) A.snil = E at hcE ⊢
  generalize (instTo xs most s p i).2 = q at hq hnext ⊢
  generalize hTT : s.getD i default = T at hnext hTm hc1 hc2 hcl1
  refine loop_gen mixed ttok (fun k : Nat => R4 xs most s D E i n (tabI xs T.columns (q + 1) k) (q + 1 + k * (T.columns.length + 1)) k) (fun k => n - k) (fun k => k ≤ n) 0 (Nat.zero_le _) ?_ ?_
  · refine (Weak.nilCellL 16 i 600 47 1 rfl (get_at hD) rfl).trans ?_
    rw [set_at hD]
    exact Weak.keepL (by simp [R4, tI, oI, ends]) (by simp [R4, oI, vS, tabI, rowsOf, closedL_app, hcD, hcE, ends]) (by simp [R4, oI, ends])
  intro J hJ k hk
  simp -implicitDefEqProofs only [R4, tI, oI, vS, ↓steps, push_cast, simprocAttr, tte]
  refine bcase_intro (fun g => ?_) fun g => ?_
  rotate_left
  · have hkk : k = n := by have := of_decide_eq_false g; omega
    subst hkk
    have hfin : (instTo xs most s p (i + 1)).1.map tabC ++ List.replicate (s.length - (i + 1)) A.snil = D ++ tabC (tabI xs T.columns (q + 1) k) :: E := by rw [hnext, hEE]; simp [hDD]
    have hq2 : (instTo xs most s p (i + 1)).2 = q + 1 + k * (T.columns.length + 1) := by rw [hnext]
    refine gen_again hI (i + 1) h' (by show s.length - (i + 1) < s.length - i; omega) ?_
    refine (Weak.frzCellL 16 i 1 rfl (get_at hD) rfl (by simp [rowsOf_length, tabI_len]) rfl).trans ?_
    rw [set_at hD, hfin, hq2]
    exact Weak.keepL (by simp [S4, tI, oI, hw, ends]) (by simp [S4, oI, vS, tabC, closedL_app, hcD, hcE, closedL, ends]) (by simp [S4, oI, ends])
  have g' : k < n := by have := of_decide_eq_true g; omega
  have hwk := wrap_succ g' (by omega)
  have hkm : k * (T.columns.length + 1) ≤ 100 * 1001 := Nat.mul_le_mul (by omega) (by omega)
  have hts := tabI_succ xs T.columns (q + 1) k
  generalize hP : q + 1 + k * (T.columns.length + 1) = P at hts ⊢
  have hPb : P ≤ 100000000000 := by omega
  generalize hrows : tabI xs T.columns (q + 1) k = rows at hts ⊢
  have hrl : rows.length = k := by rw [← hrows, tabI_len]
  refine loop_gen mixed ttok (fun j : Nat => C4 xs most s D E i n rows (P + j) k (rowS xs T.columns P j) j) (fun j => T.columns.length - j) (fun j => j ≤ T.columns.length) 0 (Nat.zero_le _) ?_ ?_
  · refine (Weak.nilL 11 601 57 3 rfl rfl).trans ?_
    exact Weak.keepL (by simp [C4, tI, oI, ends]) (by simp [C4, oI, vS, rowS, rowsOf, closedL_app, closedL, hcD, hcE, ends]) (by simp [C4, oI, ends])
  intro M hM j hj
  simp -implicitDefEqProofs only [C4, tI, oI, vS, ↓steps, push_cast, simprocAttr, tte]
  refine ⟨(by first | omega | trivial | (refine ⟨?_, ?_⟩ <;> first | omega | trivial | (refine ⟨?_, ?_⟩ <;> first | omega | trivial | (refine ⟨?_, ?_⟩ <;> first | omega | trivial | rfl)))), ?_⟩
  rw [hTT]
  refine bcase_intro (fun g2 => ?_) fun g2 => ?_
  · have g2' : j < T.columns.length := by have := of_decide_eq_true g2; omega
    have hwj := wrap_succ g2' (by omega)
    have hrs := rowS_succ xs T.columns P j
    refine ⟨(by first | omega | trivial | (refine ⟨?_, ?_⟩ <;> first | omega | trivial | (refine ⟨?_, ?_⟩ <;> first | omega | trivial | (refine ⟨?_, ?_⟩ <;> first | omega | trivial | rfl)))), (by first | omega | trivial | (refine ⟨?_, ?_⟩ <;> first | omega | trivial | (refine ⟨?_, ?_⟩ <;> first | omega | trivial | (refine ⟨?_, ?_⟩ <;> first | omega | trivial | rfl)))), ?_⟩
    have hk1 := hc2 _ (getD_mem g2')
    refine callq [[], [], []] [(1000, 1000)] (c_msmall (k := (T.columns.getD j default).type) (nl := true) (p := P + j) hx hk1 (by omega)) ?_
    simp -implicitDefEqProofs only [↓steps, push_cast, simprocAttr, tte]
    refine ⟨by rw [rowS_len]; omega, ?_⟩
    exact gen_again hM (j + 1) g2' (by show T.columns.length - (j + 1) < T.columns.length - j; omega) (Weak.keepL (by simp [C4, tI, oI, hwj, rowS_len, ends]) (by simp [C4, oI, vS, hrs, rowsOf, closedL_app, closedL, hcD, hcE, Nat.add_assoc, ends]) (by simp [C4, oI, ends]))
  have hjj : j = T.columns.length := by have := of_decide_eq_false g2; omega
  subst hjj
  have hrl2 := rowS_len xs T.columns P T.columns.length
  refine callq [[], []] [(1000, 1000)] (c_next (n := 8) (p := P + T.columns.length) hx (by omega) (by omega) (by omega)) ?_
  have h8 := drawn_range xs (P + T.columns.length) (n := 8) (by omega)
  simp -implicitDefEqProofs only [get_at hD, take_at hD, drop_at hD, set_at hD, ↓steps, push_cast, simprocAttr, tte]
  have hPn : q + 1 + (k + 1) * (T.columns.length + 1) = P + T.columns.length + 1 := by rw [Nat.succ_mul]; omega
  have hDl : i + 1 ≤ (D ++ A.vec 600 k :: E).length := by simp [hD]
  refine bcase_intro (fun g8 => ?_) fun g8 => ?_
  · have hrI : rowI xs T.columns P k = (rowS xs T.columns P T.columns.length).set 0 ⟨1, k + 1, ByteArray.empty⟩ := by rw [rowI, if_pos (of_decide_eq_true g8)]
    have hset := set_row (rowS xs T.columns P T.columns.length) ⟨1, k + 1, ByteArray.empty⟩ (by omega)
    have hk1 : IntKind.i64.wrap ((k : Int) + 1) = (k : Int) + 1 := wrap_eq (by omega) (by omega)
    simp only at hset
    rw [hk1, hset]
    refine ⟨⟨by omega, hrl2.symm⟩, ⟨hrl2.symm, by omega⟩, ⟨by omega, by omega⟩, by rw [rowsOf_length, List.length_set, hrl2], ⟨hrl.symm, by omega⟩, ⟨by omega, by omega⟩, hDl, drawx_intro (by kernel_rfl), ?_⟩
    exact gen_again hJ (k + 1) g' (by show n - (k + 1) < n - k; omega) (Weak.keepL (by simp [R4, tI, oI, hrl, ends]) (by simp [R4, oI, vS, hts, hrI, hPn, hrl, rowsOf, closedL_app, closedL, hcD, hcE, ends]) (by simp [R4, oI, ends]))
  · have hrI : rowI xs T.columns P k = rowS xs T.columns P T.columns.length := by rw [rowI, if_neg (of_decide_eq_false g8)]
    refine ⟨⟨by omega, by omega⟩, by rw [hrl2], ⟨hrl.symm, by omega⟩, ⟨by omega, by omega⟩, hDl, drawx_intro (by kernel_rfl), ?_⟩
    exact gen_again hJ (k + 1) g' (by show n - (k + 1) < n - k; omega) (Weak.keepL (by simp [R4, tI, oI, hwk, hrl, ends]) (by simp [R4, oI, vS, hts, hrI, hPn, hrl, rowsOf, closedL_app, closedL, hcD, hcE, ends]) (by simp [R4, oI, ends]))
end Go.Proofs.YtodoeplhcmecjaaGreatDoor
namespace Go.Proofs.YtodoeplhcmecjaaGreatDoor
open Go.Am
attribute [local simp, local push_cast] num boo str ints aV aTab aInst aS aT aC aRow rRow rTab vO rVio rB vT found rE tapeO
set_option linter.unusedVariables false
set_option maxRecDepth 100000
set_option maxHeartbeats 4000000
/-! IntegrityFinds. -/
def Typed (cs : List Col) : Prop := 1 ≤ cs.length ∧ ∀ c ∈ cs, c.type = 1 ∨ c.type = 2 ∨ c.type = 3
theorem mcols_typed (xs : List Int) (p c : Nat) : Typed (mcols xs p c) := by
  refine ⟨by rw [mcols_len]; omega, fun x hx => ?_⟩
  simp only [mcols, List.mem_cons, List.mem_map] at hx
  rcases hx with rfl | ⟨a, _, rfl⟩
  · exact .inl rfl
  · have := drawn_range xs (p + 2 * a) (n := 3) (by omega)
    simp only [mcol]
    omega
theorem Typed.snoc {cs : List Col} (h : Typed cs) {c : Col} (hc : c.type = 1 ∨ c.type = 2 ∨ c.type = 3) : Typed (cs ++ [c]) :=
  ⟨by rw [List.length_append]; have := h.1; omega, fun x hx => (List.mem_append.1 hx).elim (h.2 x) fun q => by rw [List.mem_singleton.1 q]; exact hc⟩
theorem forM_typed (xs : List Int) (i : Nat) : ∀ (n k : Nat) (cols : List Col) (fs : List Fk) (q : Nat), Typed cols → Typed (forM xs i n k cols fs q).1
  | 0, _, _, _, _, h => h
  | n + 1, k, cols, fs, q, h => by
    simp only [forM]
    split
    · exact h
    · split
      · exact forM_typed xs i n (k + 1) _ _ _ (h.snoc (.inl rfl))
      · exact h
theorem schemaM_typed (xs : List Int) (p : Nat) : ∀ T ∈ (schemaM xs p).1, 1 ≤ T.columns.length ∧ ∀ c ∈ T.columns, c.type = 1 ∨ c.type = 2 ∨ c.type = 3 := by
  have key : ∀ n, ∀ t ∈ (mtabs xs p n).1, Typed t.columns := by
    intro n
    induction n with
    | zero => simp [mtabs]
    | succ n ih =>
      intro t ht
      simp only [mtabs, List.mem_append, List.mem_singleton] at ht
      rcases ht with ht | rfl
      · exact ih t ht
      · simp only [tblM, tblTail]
        exact forM_typed _ _ _ _ _ _ _ (mcols_typed ..)
  exact key _
theorem schemaM_q (xs : List Int) : (schemaM xs 0).2 ≤ 1000000 := by
  have h3 := drawn_range xs 0 (n := 3) (by omega)
  have := mtabs_q xs 0 (1 + drawn xs 0 3).toNat
  unfold schemaM
  omega
theorem instM_small (xs : List Int) {most : Int} (hm : 0 ≤ most) (hm2 : most ≤ 100) {s : Sch} (hS : SmallS s) (p : Nat) : SmallI (instM xs most s p).1 := by
  have hl := hS.len
  have key : ∀ i, i ≤ s.length → ∀ t ∈ (instTo xs most s p i).1, t.length ≤ 1000 ∧ ∀ r ∈ t, r.length ≤ 1000 := by
    intro i
    induction i with
    | zero => simp [instTo]
    | succ i ih =>
      intro hi t ht
      simp only [instTo, List.mem_append, List.mem_singleton] at ht
      rcases ht with ht | rfl
      · exact ih (by omega) t ht
      · have hd := drawn_range xs (instTo xs most s p i).2 (n := most + 1) (by omega)
        refine ⟨by rw [tabI_len]; omega, fun r hr => ?_⟩
        simp only [tabI, List.mem_map] at hr
        obtain ⟨k, _, rfl⟩ := hr
        rw [rowI_len]
        exact (hS.tab _ (getD_mem (by omega))).cols
  exact ⟨by rw [instM, instTo_len]; omega, fun t ht => (key _ (Nat.le_refl _) t ht).1, fun t ht => (key _ (Nat.le_refl _) t ht).2⟩
end Go.Proofs.YtodoeplhcmecjaaGreatDoor
namespace Go.Proofs.YtodoeplhcmecjaaGreatDoor
open Go.Am
set_option linter.unusedVariables false
set_option maxRecDepth 100000
/-! Validity does not depend on the order of rows. -/
theorem cell_nil (T : Tbl) (k : Int) (n c : Nat) (v : Val) : cellVio T k n c v = [] ↔ cellVio T k 0 c v = [] := by
  unfold cellVio
  split
  · simp
  · split <;> simp
theorem cells_nil (T : Tbl) (k : Int) (n : Nat) : ∀ (r : List Val) (c : Nat), cellsVio T k n r c = [] ↔ cellsVio T k 0 r c = []
  | [], _ => Iff.rfl
  | v :: r, c => by rw [cellsVio, cellsVio, List.append_eq_nil_iff, List.append_eq_nil_iff, cell_nil, cells_nil T k n r (c + 1)]
theorem row_nil (T : Tbl) (k : Int) (n : Nat) (r : Row) : rowVio T k n r = [] ↔ rowVio T k 0 r = [] := by
  unfold rowVio
  split
  · simp
  · exact cells_nil ..
theorem rows_nil (T : Tbl) (k : Int) : ∀ (rows : List Row) (n : Nat), rowsVio T k rows n = [] ↔ ∀ r ∈ rows, rowVio T k 0 r = []
  | [], _ => by simp [rowsVio]
  | r :: rs, n => by rw [rowsVio, List.append_eq_nil_iff, row_nil, rows_nil T k rs (n + 1)]; simp
def keptT (cols : List Int) (nulls : Bool) (rows : List Row) : List ByteArray := (rows.filter (keepR cols nulls)).map fun r => textL (partM r cols)
theorem key_nil (kind table index : Int) (cols : List Int) (nulls : Bool) : ∀ (rows : List Row) (n : Nat) (es : List (ByteArray × Int)),
    keyGo kind table index cols nulls rows n es = [] ↔ (keptT cols nulls rows).Nodup ∧ ∀ t ∈ keptT cols nulls rows, findS t es = none
  | [], _, _ => by simp [keyGo, keptT]
  | r :: rs, n, es => by
    rw [keyGo]
    by_cases hk : (!nulls && (partM r cols).any isNull) = true
    · have hf : keepR cols nulls r = false := by rw [keepR, hk]; rfl
      rw [if_pos hk, key_nil kind table index cols nulls rs]
      simp only [keptT, List.filter_cons, hf, Bool.false_eq_true, if_false]
    · have hf : keepR cols nulls r = true := by
        rw [keepR]
        cases q : (!nulls && (partM r cols).any isNull)
        · rfl
        · exact absurd q hk
      have hc : keptT cols nulls (r :: rs) = textL (partM r cols) :: keptT cols nulls rs := by simp only [keptT, List.filter_cons, hf, if_true, List.map_cons]
      rw [if_neg hk, hc]
      cases hs : findS (textL (partM r cols)) es with
      | some o =>
        simp only [List.nodup_cons, List.mem_cons, forall_eq_or_imp, hs]
        simp
      | none =>
        simp only
        rw [key_nil kind table index cols nulls rs]
        simp only [List.nodup_cons, List.mem_cons, forall_eq_or_imp, hs, true_and, findS_snoc]
        constructor
        · rintro ⟨h1, h2⟩
          refine ⟨⟨fun hm => ?_, h1⟩, fun t ht => ?_⟩
          · have := h2 _ hm
            rw [hs] at this
            simp at this
          · have := h2 t ht
            cases q : findS t es with
            | none => rfl
            | some o => rw [q] at this; simp at this
        · rintro ⟨⟨h1, h2⟩, h3⟩
          refine ⟨h2, fun t ht => ?_⟩
          rw [h3 t ht]
          simp only
          rw [if_neg]
          intro e
          exact h1 (e ▸ ht)
theorem keptT_perm {cols : List Int} {nulls : Bool} {a b : List Row} (h : a.Perm b) : (keptT cols nulls a).Perm (keptT cols nulls b) := (h.filter _).map _
theorem key_perm (kind table index : Int) (cols : List Int) (nulls : Bool) {a b : List Row} (h : a.Perm b) : keyM kind table index cols nulls a = [] ↔ keyM kind table index cols nulls b = [] := by
  rw [keyM, keyM, key_nil, key_nil, (keptT_perm h).nodup_iff]
  simp [findS]
theorem uniq_perm (k : Int) {a b : List Row} (h : a.Perm b) : ∀ (us : List (List Int)) (n : Nat), uniqsM k a us n = [] ↔ uniqsM k b us n = []
  | [], _ => Iff.rfl
  | u :: us, n => by rw [uniqsM, uniqsM, List.append_eq_nil_iff, List.append_eq_nil_iff, key_perm _ _ _ _ _ h, uniq_perm k h us (n + 1)]
theorem forGo_nil (table index : Int) (cols : List Int) (ks : List ByteArray) : ∀ (rows : List Row) (n : Nat), forGo table index cols ks rows n = [] ↔ ∀ r ∈ rows, (partM r cols).any isNull = true ∨ textL (partM r cols) ∈ ks
  | [], _ => by simp [forGo]
  | r :: rs, n => by
    rw [forGo]
    by_cases h1 : (partM r cols).any isNull = true
    · rw [if_pos h1, forGo_nil table index cols ks rs]
      exact ⟨fun g q hq => (List.mem_cons.1 hq).elim (fun e => .inl (e ▸ h1)) (g q), fun g q hq => g q (List.mem_cons_of_mem _ hq)⟩
    · by_cases h2 : textL (partM r cols) ∈ ks
      · rw [if_neg h1, if_pos h2, forGo_nil table index cols ks rs]
        exact ⟨fun g q hq => (List.mem_cons.1 hq).elim (fun e => .inr (e ▸ h2)) (g q), fun g q hq => g q (List.mem_cons_of_mem _ hq)⟩
      · rw [if_neg h1, if_neg h2]
        constructor
        · intro h; cases h
        · intro h; exact ((h r List.mem_cons_self).elim h1 h2).elim
theorem foreign_perm (table index : Int) (cols : List Int) (bad : Bool) (prim : List Int) {a b x y : List Row} (h : a.Perm b) (hx : x.Perm y) : foreignM table index cols bad prim x a = [] ↔ foreignM table index cols bad prim y b = [] := by
  unfold foreignM
  split
  · exact Iff.rfl
  · rw [forGo_nil, forGo_nil]
    have hm : ∀ t, t ∈ (x.map fun r => textL (partM r prim)) ↔ t ∈ (y.map fun r => textL (partM r prim)) := fun t => (hx.map _).mem_iff
    simp only [hm]
    exact ⟨fun g r hr => g r (h.mem_iff.2 hr), fun g r hr => g r (h.mem_iff.1 hr)⟩
theorem chkR_nil (k : Int) (x : Nat) (e : Ex) : ∀ (rows : List Row) (n : Nat), chkR k x e rows n = [] ↔ ∀ r ∈ rows, truthM (evalM r e) ≠ 0
  | [], _ => by simp [chkR]
  | r :: rs, n => by
    rw [chkR, List.append_eq_nil_iff, chkR_nil k x e rs (n + 1), chk1]
    by_cases h : truthM (evalM r e) = 0 <;> simp [h]
theorem chk_perm (k : Int) {a b : List Row} (h : a.Perm b) : ∀ (es : List Ex) (n : Nat), chksM k a es n = [] ↔ chksM k b es n = []
  | [], _ => Iff.rfl
  | e :: es, n => by
    rw [chksM, chksM, List.append_eq_nil_iff, List.append_eq_nil_iff, chk_perm k h es (n + 1), chkR_nil, chkR_nil]
    exact and_congr ⟨fun g r hr => g r (h.mem_iff.2 hr), fun g r hr => g r (h.mem_iff.1 hr)⟩ Iff.rfl
theorem for_perm {s : Sch} {i j : Inst} {b : List Bool} {k : Nat} (h : ∀ k, (i.getD k default).Perm (j.getD k default)) : ∀ (fs : List Fk) (n : Nat), forsM s i b k fs n = [] ↔ forsM s j b k fs n = []
  | [], _ => Iff.rfl
  | f :: fs, n => by rw [forsM, forsM, List.append_eq_nil_iff, List.append_eq_nil_iff, for_perm h fs (n + 1), forM1, forM1, foreign_perm _ _ _ _ _ (h k) (h _)]
theorem tab_perm {s : Sch} {i j : Inst} {b : List Bool} {k : Nat} (h : ∀ k, (i.getD k default).Perm (j.getD k default)) : tabM s i b k = [] ↔ tabM s j b k = [] := by
  unfold tabM
  rw [List.append_eq_nil_iff, List.append_eq_nil_iff, rows_nil, rows_nil]
  refine and_congr ⟨fun g r hr => g r ((h k).mem_iff.2 hr), fun g r hr => g r ((h k).mem_iff.1 hr)⟩ ?_
  split
  · exact Iff.rfl
  · rw [consM, consM]
    simp only [List.append_eq_nil_iff]
    rw [key_perm _ _ _ _ _ (h k), uniq_perm _ (h k), for_perm h, chk_perm _ (h k)]
theorem all_perm {s : Sch} {i j : Inst} {b : List Bool} (h : ∀ k, (i.getD k default).Perm (j.getD k default)) (n : Nat) : allM s i b n = [] ↔ allM s j b n = [] := by
  unfold allM
  rw [List.flatMap_eq_nil_iff, List.flatMap_eq_nil_iff]
  exact ⟨fun g k hk => (tab_perm h).1 (g k hk), fun g k hk => (tab_perm h).2 (g k hk)⟩
theorem any_perm {p : Row → Bool} {a b : List Row} (h : a.Perm b) : a.any p = b.any p := by
  rw [Bool.eq_iff_iff, List.any_eq_true, List.any_eq_true]
  exact ⟨fun ⟨x, h1, h2⟩ => ⟨x, h.mem_iff.1 h1, h2⟩, fun ⟨x, h1, h2⟩ => ⟨x, h.mem_iff.2 h1, h2⟩⟩
theorem bads_perm {s : Sch} {i j : Inst} (h : ∀ k, (i.getD k default).Perm (j.getD k default)) : badsM s i = badsM s j := by
  unfold badsM
  refine List.map_congr_left fun k _ => ?_
  exact any_perm (h k)
theorem valid_perm {s : Sch} {i j : Inst} (hl : i.length = j.length) (h : ∀ k, (i.getD k default).Perm (j.getD k default)) : validI s i = validI s j := by
  unfold validI vioM
  split
  · rfl
  · rw [hl]
    split
    · rfl
    · simp only
      rw [bads_perm h]
      congr 1
      rw [Bool.eq_iff_iff, beq_iff_eq, beq_iff_eq, List.length_eq_zero_iff, List.length_eq_zero_iff]
      exact all_perm h _
theorem valid_rev (s : Sch) (i : Inst) : validI s (i.map List.reverse) = validI s i := by
  refine valid_perm (by simp) fun k => ?_
  have : (i.map List.reverse).getD k default = (i.getD k default).reverse := by
    simp only [List.getD_eq_getElem?_getD, List.getElem?_map]
    cases i[k]? <;> rfl
  rw [this]
  exact List.reverse_perm _
end Go.Proofs.YtodoeplhcmecjaaGreatDoor
namespace Go.Proofs.YtodoeplhcmecjaaGreatDoor
open Go.Am
attribute [local simp, local push_cast] num boo str ints aV aTab aInst aS aT aC aRow rRow rTab vO rVio rB vT found rE tapeO rows_empty
set_option linter.unusedVariables false
set_option maxRecDepth 100000
set_option maxHeartbeats 4000000
/-! IntegrityOrder. -/
theorem rev_take (l : List Row) {m : Nat} (h : m < l.length) : l.reverse.take (m + 1) = l.reverse.take m ++ [l.getD ((l.length : Int) - 1 - m).toNat default] := by
  rw [take_snoc l.reverse m (by simpa using h)]
  congr 2
  have e : ((l.length : Int) - 1 - m).toNat = l.length - 1 - m := by omega
  rw [e]
  simp [List.getD_eq_getElem?_getD, List.getElem?_reverse h]
def tO : List (Nat × A) := [(4, .ptr 4 0), (5, .ptr 5 0), (6, .ptr 6 0)]
def oO (s : Sch) (i : Inst) (cs : List A) : List (Nat × Ob) := [(4, vS s), (5, vI i), (6, .var [.vs 21 i.length]), (21, .var cs)]
def S7 (s : Sch) (i : Inst) (k : Nat) : SL := ⟨(7, .d (.lit (.int .i64 k))) :: tO, oO s i ((i.take k).map (fun t => tabC t.reverse) ++ List.replicate (i.length - k) .snil)⟩
def R7 (s : Sch) (i : Inst) (D E : List A) (k L : Nat) (tab : Tab2) (m : Nat) : SL :=
  ⟨(8, .d (.lit (.int .i64 ((L : Int) - 1 - m)))) :: (7, .d (.lit (.int .i64 k))) :: tO, (600, .vec 47 1 (rowsOf rRow (tab.reverse.take m)) 0) :: oO s i (D ++ .vec 600 m :: E)⟩
theorem closedL_revs {dom : Nat → Bool} : ∀ (ts : Inst), closedL dom (ts.map fun t => tabC t.reverse) = true
  | [] => rfl
  | t :: ts => by rw [List.map_cons, closedL, closedL_revs ts]; rfl
theorem c_lawO (l : List Int) (hx : TapeOk l) : ACall Tryz.prog 7 [ints l] [] (boo true) [] := by
  refine enterq mixed ttok Tryz.func7 Tryz.ntmps7 Tryz.results7 ?_
  generalize hr : boo true = R
  simp -implicitDefEqProofs only [argT, ↓steps, push_cast, simprocAttr, tte]
  refine callq [[]] [(1000, 12)] (c_schema0 hx) ?_
  have hq := schemaM_q l
  obtain ⟨hS, hl1⟩ := schemaM_ok l 0
  have hT := schemaM_typed l 0
  generalize (schemaM l 0).1 = s at hS hl1 hT ⊢
  generalize (schemaM l 0).2 = q at hq ⊢
  simp -implicitDefEqProofs only [↓steps, push_cast, simprocAttr, tte]
  refine callq [[], [6], []] [(1000, 12)] (c_minst (most := 4) (p := q) hx (by omega) (by omega) hS hT (by omega)) ?_
  have hI := instM_small l (most := 4) (by omega) (by omega) hS q
  generalize (instM l 4 s q).1 = i at hI ⊢
  have hil := hI.len
  have hsl := hS.len
  simp -implicitDefEqProofs only [↓steps, push_cast, simprocAttr, tte]
  refine ⟨by omega, ?_⟩
  refine loopx_weak ?_
  refine loop_gen mixed ttok (fun k : Nat => S7 s i k) (fun k => i.length - k) (fun k => k ≤ i.length) 0 (Nat.zero_le _) ?_ ?_
  · exact Weak.keepL (by simp [S7, tO, oO, ends]) (by simp [S7, oO, vS, vI, closedL_nils, ends]) (by simp [S7, oO, ends])
  intro I hIk k hk
  simp -implicitDefEqProofs only [S7, tO, oO, vS, vI, ↓steps, push_cast, simprocAttr, tte]
  refine bcase_intro (fun h => ?_) fun h => ?_
  rotate_left
  · have hkk : k = i.length := by have := of_decide_eq_false h; omega
    subst hkk
    have hxs : ((i.take i.length).map (fun t => tabC t.reverse) ++ List.replicate (i.length - i.length) A.snil) = (i.map fun t => (.sl 1 (rowsOf rRow t.reverse) : D)).map .d := by simp [tabC]
    have hrt : ((i.map fun t => (.sl 1 (rowsOf rRow t.reverse) : D)).map fun x => [x]) = rowsOf rTab (i.map List.reverse) := by simp [rowsOf, rTab]
    rw [hxs]
    refine ⟨⟨[(4, .ptr 4 0), (5, .ptr 5 0), (6, .ptr 6 0)], [(4, vS s), (5, vI i), (6, .var [.d (.sl 1 (rowsOf rTab (i.map List.reverse)))])]⟩, ?_, ?_⟩
    · rw [← hrt]
      exact Weak.keepVsCell 6 (q := 21) (n := i.length) (xs := i.map fun t => (.sl 1 (rowsOf rRow t.reverse) : D)) rfl rfl rfl rfl (by simp) (by simp [ends]) (by simp [vS, vI, ends]) (by simp [ends])
    have hJ : SmallI (i.map List.reverse) := by
      obtain ⟨a1, a2, a3⟩ := hI
      refine ⟨by simpa using a1, fun t ht => ?_, fun t ht r hr => ?_⟩
      · obtain ⟨u, hu, rfl⟩ := List.mem_map.1 ht
        rw [List.length_reverse]; exact a2 u hu
      · obtain ⟨u, hu, rfl⟩ := List.mem_map.1 ht
        exact a3 u hu r (List.mem_reverse.1 hr)
    have hv := valid_rev s i
    generalize i.map List.reverse = j at hJ hv ⊢
    have hE := emptyI_small (n := s.length) hsl
    have hcj := c_validI s j hS hJ
    rw [hv] at hcj
    simp -implicitDefEqProofs only [vS, vI, ↓steps, push_cast, simprocAttr, tte]
    refine ⟨⟨by omega, by omega, by omega⟩, ?_⟩
    refine callq [[6], [1]] [] (c_validI s i hS hI) ?_
    simp -implicitDefEqProofs only [↓steps, push_cast, simprocAttr, tte]
    refine callq [[6], [1]] [] (hcj) ?_
    simp -implicitDefEqProofs only [↓steps, push_cast, simprocAttr, tte]
    refine callq [[6], [1]] [] (c_validI s i hS hI) ?_
    simp -implicitDefEqProofs only [↓steps, push_cast, simprocAttr, tte]
    refine callq [[6], [1]] [] (c_rvalidI s i hS hI) ?_
    simp -implicitDefEqProofs only [↓steps, push_cast, simprocAttr, tte]
    refine callq [[6], [1]] [] (c_validI s (emptyI s.length) hS hE) ?_
    simp -implicitDefEqProofs only [↓steps, push_cast, simprocAttr, tte]
    refine callq [[6], [1]] [] (c_rvalidI s (emptyI s.length) hS hE) ?_
    simp -implicitDefEqProofs only [↓steps, push_cast, simprocAttr, tte]
    refine ⟨drawx_intro (by kernel_rfl), ?_⟩
    exact ret_d trivial hr (by simp [ends])
  have h' : k < i.length := by have := of_decide_eq_true h; omega
  have hw := wrap_succ h' (by omega)
  have htl := hI.tab _ (getD_mem h')
  refine ⟨(by first | omega | trivial | (refine ⟨?_, ?_⟩ <;> first | omega | trivial | (refine ⟨?_, ?_⟩ <;> first | omega | trivial | (refine ⟨?_, ?_⟩ <;> first | omega | trivial | rfl)))), ?_⟩
  generalize htt : i.getD k default = tab at htl
  have hw0 : IntKind.i64.wrap ((tab.length : Int) - 1) = (tab.length : Int) - 1 - (0 : Nat) := by rw [wrap_eq (by omega) (by omega)]; omega
  have hD : ((i.take k).map fun t => tabC t.reverse).length = k := by rw [List.length_map, List.length_take]; omega
  have hcs : (i.take k).map (fun t => tabC t.reverse) ++ List.replicate (i.length - k) A.snil = (i.take k).map (fun t => tabC t.reverse) ++ .snil :: List.replicate (i.length - (k + 1)) .snil := by
    rw [show i.length - k = (i.length - (k + 1)) + 1 by omega, List.replicate_succ]
  have hnext : (i.take (k + 1)).map (fun t => tabC t.reverse) ++ List.replicate (i.length - (k + 1)) A.snil = (i.take k).map (fun t => tabC t.reverse) ++ tabC tab.reverse :: List.replicate (i.length - (k + 1)) .snil := by
    rw [take_snoc i k h', htt]; simp
  rw [hcs]
  have hcD : ∀ dom : Nat → Bool, closedL dom ((i.take k).map fun t => tabC t.reverse) = true := fun _ => closedL_revs _
  have hcE : ∀ dom : Nat → Bool, closedL dom (List.replicate (i.length - (k + 1)) A.snil) = true := fun _ => closedL_nils _
  generalize (i.take k).map (fun t => tabC t.reverse) = D at hD hcD hnext ⊢
  obtain ⟨E, hEE⟩ : ∃ E, List.replicate (i.length - (k + 1)) A.snil = E := ⟨_, rfl⟩
  rw [hEE] at hcE ⊢
  refine loop_gen mixed ttok (fun m : Nat => R7 s i D E k tab.length tab m) (fun m => tab.length - m) (fun m => m ≤ tab.length) 0 (Nat.zero_le _) ?_ ?_
  · refine (Weak.nilCellL 21 k 600 47 1 rfl (get_at hD) rfl).trans ?_
    rw [set_at hD, hw0]
    exact Weak.keepL (by simp [R7, tO, oO, ends]) (by simp [R7, oO, vS, vI, rowsOf, closedL_app, closedL, hcD, hcE, ends]) (by simp [R7, oO, ends])
  intro J hJ m hm
  simp -implicitDefEqProofs only [R7, tO, oO, vS, vI, get_at hD, take_at hD, drop_at hD, set_at hD, ↓steps, push_cast, simprocAttr, tte]
  refine bcase_intro (fun g => ?_) fun g => ?_
  rotate_left
  · have hmm : m = tab.length := by have := of_decide_eq_false g; omega
    refine gen_again hIk (k + 1) h' (by show i.length - (k + 1) < i.length - k; omega) ?_
    refine (Weak.frzCellL 21 k 1 rfl (get_at hD) rfl (by simp [rowsOf_length]; omega) rfl).trans ?_
    have hfull : tab.reverse.take m = tab.reverse := by rw [List.take_of_length_le (by simp; omega)]
    rw [set_at hD, hfull]
    exact Weak.keepL (by simp [S7, tO, oO, hw, ends]) (by simp only [S7]; rw [hnext, hEE]; simp [oO, vS, vI, tabC, closedL_app, closedL, hcD, hcE, ends]) (by simp [S7, oO, ends])
  have g' : m < tab.length := by have := of_decide_eq_true g; omega
  have hwm : IntKind.i64.wrap ((tab.length : Int) - 1 - m - 1) = (tab.length : Int) - 1 - ((m + 1 : Nat) : Int) := by rw [wrap_eq (by omega) (by omega)]; omega
  have hrv := rev_take tab g'
  have hrl : (tab.reverse.take m).length = m := by simp; omega
  have hDl : k + 1 ≤ (D ++ A.vec 600 m :: E).length := by simp [hD]
  refine ⟨⟨by omega, by omega⟩, ⟨by omega, by omega⟩, ⟨by omega, by rw [htt]; omega⟩, ⟨hrl.symm, by omega⟩, ⟨by omega, by omega⟩, hDl, drawx_intro (by kernel_rfl), ?_⟩
  rw [htt]
  exact gen_again hJ (m + 1) g' (by show tab.length - (m + 1) < tab.length - m; omega) (Weak.keepL (by simp [R7, tO, oO, hwm, ends]) (by simp only [R7, hrv]; simp [oO, vS, vI, hrl, rowsOf, closedL_app, closedL, hcD, hcE, ends]) (by simp [R7, oO, ends]))
end Go.Proofs.YtodoeplhcmecjaaGreatDoor
