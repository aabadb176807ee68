/- Each operation of expressions with operands, and each operator of queries, stands at the root for some tape: a proof over an abstract machine of our own (part Wa) -/
import Derived.Test.YtampbaaiddbacaaDoorW0
import Derived.Shelf.Strings.Search3
import Derived.Test.YtampbaaiddbacaaDoorLd
set_option linter.all false
namespace Go.Proofs.YtampbaaiddbacaaDoor
open Go.Proofs Go.Shelf
def Tryd.lays144_ren : Go.Shelf.Ren := ⟨fun | 144 => 34 | 143 => 57 | 219 => 71 | 217 => 81 | 225 => 82 | 224 => 83 | 267 => 84 | 266 => 91 | 314 => 92 | n => n, fun | 9 => 9 | 4 => 4 | 3 => 3 | 5 => 5 | 46 => 142 | 146 => 150 | 51 => 149 | n => n, fun | 1 => 1 | n => n⟩
theorem Tryd.lays144 : Go.Proofs.Lays.n144 Tryd.prog Tryd.lays144_ren := {
  mixed := by kernel_rfl
  f143 := Tryd.func57.trans (congrArg some (by kernel_rfl))
  f144 := Tryd.func34.trans (congrArg some (by kernel_rfl))
  f217 := Tryd.func81.trans (congrArg some (by kernel_rfl))
  f219 := Tryd.func71.trans (congrArg some (by kernel_rfl))
  f224 := Tryd.func83.trans (congrArg some (by kernel_rfl))
  f225 := Tryd.func82.trans (congrArg some (by kernel_rfl))
  f266 := Tryd.func91.trans (congrArg some (by kernel_rfl))
  f267 := Tryd.func84.trans (congrArg some (by kernel_rfl))
  f314 := Tryd.func92.trans (congrArg some (by kernel_rfl))
  t3 := Tryd.underlying3
  a3 := Tryd.isAgg3
  z3 := Tryd.sizeOf3
  v3 := Tryd.zeroValue3
  t4 := Tryd.underlying4
  a4 := Tryd.isAgg4
  z4 := Tryd.sizeOf4
  v4 := Tryd.zeroValue4
  t5 := Tryd.underlying5
  a5 := Tryd.isAgg5
  z5 := Tryd.sizeOf5
  v5 := Tryd.zeroValue5
  t9 := Tryd.underlying9
  a9 := Tryd.isAgg9
  z9 := Tryd.sizeOf9
  v9 := Tryd.zeroValue9
  t46 := Tryd.underlying142
  a46 := Tryd.isAgg142
  z46 := Tryd.sizeOf142
  v46 := Tryd.zeroValue142
  t51 := Tryd.underlying149
  a51 := Tryd.isAgg149
  z51 := Tryd.sizeOf149
  v51 := Tryd.zeroValue149
  t146 := Tryd.underlying150
  a146 := Tryd.isAgg150
  z146 := Tryd.sizeOf150
  v146 := Tryd.zeroValue150
  g1 := by kernel_rfl }
open Go.RowKit Go.Lib in
/-- strings.Contains: "Contains reports whether substr is within s.": AT A substr OF ONE BYTE c: IT RETURNS 'decide (0 ≤ Lib.indexByte s c)'; the world is as it was. (LAID: no walk: one application.) -/
theorem Tryd.strings_Contains (s sub : ByteArray) (m : Int) (w : World) (hs : s.size < 4294967281) (hm : w.cell? ⟨1, 0, none⟩ = some (.int .i64 m)) :
    Calls Tryd.prog 34 #[.string s, .string sub] w fun e w' => e = .returned (.bool (Lib.contains s.data.toList sub.data.toList)) ∧ w' = w := Any.strings_Contains Tryd.lays144 s sub m w hs hm
end Go.Proofs.YtampbaaiddbacaaDoor
namespace Go.Proofs.YtampbaaiddbacaaDoor
open Go.Am
attribute [local simp, local push_cast] num boo str ints aV aTab aInst aS
set_option linter.unusedVariables false
set_option maxRecDepth 100000
set_option maxHeartbeats 4000000
theorem c_contains (s sub : ByteArray) (hs : s.size < 4294967281) : ACall Tryd.prog 34 [str s, str sub] [] (boo (Lib.contains s.data.toList sub.data.toList)) [] :=
  ACall.of_still Tryd.func34 rfl rfl fun w vs E hr hg => by
    simp only [repL, str, A.rep, D.rep] at hr
    obtain ⟨_, _, rfl, ⟨rfl, _⟩, _, _, rfl, ⟨rfl, _⟩, rfl⟩ := hr
    obtain ⟨m, hm⟩ := hg 1 (by simp [Tab.ints, tabs])
    exact (Tryd.strings_Contains s sub m w hs hm).mono fun e w' h => ⟨_, h.1, by simp [D.rep, one], h.2⟩
def letM (c : Int) : Bool := decide (c ≥ 97) && decide (c ≤ 122)
theorem c_letter (c : Int) : ACall Tryd.prog 33 [.d (.lit (.int .u8 c))] [] (boo (letM c)) [] := by
  refine enterq mixed ttok Tryd.func33 Tryd.ntmps33 Tryd.results33 ?_
  generalize hr : boo (letM c) = R
  simp -implicitDefEqProofs only [argT, ↓steps, push_cast, simprocAttr, tte]
  refine bcase_intro (fun h => ?_) fun h => ?_
  · exact ret_d trivial (by rw [← hr, letM, h, Bool.true_and]; rfl) (by simp [ends])
  · exact ret_d trivial (by rw [← hr, letM, h, Bool.false_and]; rfl) (by simp [ends])
/-- The reserved words, in one text. -/
def resv : ByteArray := ⟨#[32, 115, 101, 108, 101, 99, 116, 32, 100, 105, 115, 116, 105, 110, 99, 116, 32, 97, 108, 108, 32, 102, 114, 111, 109, 32, 119, 104, 101, 114, 101, 32, 103, 114, 111, 117, 112, 32, 98, 121, 32, 104, 97, 118, 105, 110, 103, 32, 97, 115, 32, 111, 110, 32, 117, 110, 105, 111, 110, 32, 101, 120, 99, 101, 112, 116, 32, 105, 110, 116, 101, 114, 115, 101, 99, 116, 32, 106, 111, 105, 110, 32, 105, 110, 110, 101, 114, 32, 108, 101, 102, 116, 32, 114, 105, 103, 104, 116, 32, 102, 117, 108, 108, 32, 99, 114, 111, 115, 115, 32, 115, 101, 109, 105, 32, 97, 110, 116, 105, 32, 97, 110, 100, 32, 111, 114, 32, 110, 111, 116, 32, 105, 115, 32, 110, 117, 108, 108, 32, 116, 114, 117, 101, 32, 102, 97, 108, 115, 101, 32, 105, 110, 32, 99, 97, 115, 101, 32, 119, 104, 101, 110, 32, 116, 104, 101, 110, 32, 101, 108, 115, 101, 32, 101, 110, 100, 32, 118, 97, 108, 117, 101, 115, 32, 116, 97, 98, 108, 101, 32, 112, 114, 105, 109, 97, 114, 121, 32, 117, 110, 105, 113, 117, 101, 32, 102, 111, 114, 101, 105, 103, 110, 32, 114, 101, 102, 101, 114, 101, 110, 99, 101, 115, 32, 99, 104, 101, 99, 107, 32, 105, 110, 116, 32, 98, 111, 111, 108, 32, 116, 101, 120, 116, 32, 99, 111, 117, 110, 116, 32, 115, 117, 109, 32, 109, 105, 110, 32, 109, 97, 120, 32, 99, 111, 97, 108, 101, 115, 99, 101, 32, 108, 101, 110, 103, 116, 104, 32, 115, 97, 109, 101, 32, 109, 111, 100, 32]⟩
/-- The bytes of a text that are no bytes of a name. -/
def badM (c : Int) : Bool := (!letM c && (decide (c < 48) || decide (c > 57))) && (c != 95)
def bytesI (s : ByteArray) : List Int := s.data.toList.map fun u => (u.toNat : Int)
def hasW (s : ByteArray) : Bool := Lib.contains resv.data.toList (⟨#[32]⟩ ++ s ++ ⟨#[32]⟩ : ByteArray).data.toList
def nameP (s : ByteArray) : Bool := ((!(s.toList == [] || decide (s.size > 16)) && letM ((s.data[0]?.getD 0).toNat : Nat)) && !hasW s) && (bytesI s).all fun c => !badM c
theorem bytesI_length (s : ByteArray) : (bytesI s).length = s.size := by show (List.map _ _).length = s.data.size; rw [List.length_map, Array.length_toList]
theorem bytesI_getD (s : ByteArray) (n : Nat) (h : n < s.size) : (bytesI s).getD n default = ((s.data.getD n 0).toNat : Nat) := by
  have h' : n < s.data.size := h
  simp only [bytesI, List.getD_eq_getElem?_getD, List.getElem?_map, Array.getElem?_toList]
  rw [Array.getD_eq_getD_getElem?, Array.getElem?_eq_getElem h']; rfl
theorem resv_size : resv.size = 287 := rfl
theorem c_name (s : ByteArray) : ACall Tryd.prog 18 [str s] [] (boo (nameP s)) [] := by
  obtain ⟨b, hb⟩ : ∃ b, hasW s = b := ⟨_, rfl⟩
  have hc : ACall Tryd.prog 34 [str resv, str (⟨#[32]⟩ ++ s ++ ⟨#[32]⟩)] [] (boo b) [] := by rw [← hb]; exact c_contains _ _ (by rw [resv_size]; omega)
  refine enterq mixed ttok Tryd.func18 Tryd.ntmps18 Tryd.results18 ?_
  generalize hr : boo (nameP s) = R
  have hM : nameP s = (((!(s.toList == [] || decide (s.size > 16)) && letM ((s.data[0]?.getD 0).toNat : Nat)) && !b) && (bytesI s).all fun c => !badM c) := by rw [nameP, hb]
  have he : (ByteArray.mk #[]).toList = [] := by simp [ByteArray.toList_eq]
  simp -implicitDefEqProofs only [argT, he, ↓steps, push_cast, simprocAttr, tte]
  refine bcase_intro (fun h1 => ?_) fun h1 => ?_
  · have : nameP s = false := by rw [hM, h1]; rfl
    exact ret_d trivial (by rw [← hr, this]; rfl) (by simp [ends])
  refine bcase_intro (fun h2 => ?_) fun h2 => ?_
  · have : nameP s = false := by simp only [decide_eq_true_eq] at h2; rw [hM, decide_eq_true (by omega : s.size > 16), Bool.or_true]; rfl
    exact ret_d trivial (by rw [← hr, this]; rfl) (by simp [ends])
  have hne : s.size ≠ 0 := by
    intro h0
    have : s = ⟨#[]⟩ := by
      apply ByteArray.ext
      exact Array.eq_empty_of_size_eq_zero h0
    rw [this] at h1
    simp [he] at h1
  simp only [decide_eq_false_iff_not] at h2
  refine ⟨by omega, ?_⟩
  refine callq [[0]] [] (c_letter ((s.data[0]?.getD 0).toNat : Nat)) ?_
  simp -implicitDefEqProofs only [↓steps, push_cast, simprocAttr, tte]
  refine bcase_intro (fun h3 => ?_) fun h3 => ?_
  · have : nameP s = false := by simp only [Bool.not_eq_true'] at h3; rw [hM, h3]; simp
    exact ret_d trivial (by rw [← hr, this]; rfl) (by simp [ends])
  simp only [Bool.not_eq_false'] at h3
  have hsz : (⟨#[32]⟩ ++ s : ByteArray).size = s.size + 1 := by simp [ByteArray.size_append]; rw [Nat.add_comm]; rfl
  refine ⟨by show ((1 + s.size : Nat) : Int) ≤ _; omega, by rw [hsz]; show ((s.size + 1 + 1 : Nat) : Int) ≤ _; omega, ?_⟩
  change callx _ _ _ _ _ [A.d (.lit (.string resv)), _] _ _ _ _ _
  generalize resv = rv at hc ⊢
  refine callq [[0], [0]] [] (hc) ?_
  simp -implicitDefEqProofs only [↓steps, push_cast, simprocAttr, tte]
  refine bcase_intro (fun h4 => ?_) fun h4 => ?_
  · have : nameP s = false := by rw [hM, h4]; simp
    exact ret_d trivial (by rw [← hr, this]; rfl) (by simp [ends])
  have hM2 : nameP s = (bytesI s).all fun c => !badM c := by rw [hM, h1, h3, h4, decide_eq_false (by omega)]; rfl
  refine loop_count mixed ttok 26 [0, 25] [] (by simp only [pickT, ends, push_cast, simprocAttr]; rfl) (by simp only [pickO, consO_some, ends, push_cast, simprocAttr]; rfl) s.size (fun n => ((bytesI s).drop n).all (fun c => !badM c) = (bytesI s).all fun c => !badM c) (fun _ => []) (fun _ => []) rfl ?_ ?_
  · exact Weak.keepL (by simp [cst, ends]) (by simp [cst, ends]) (by simp [cst, ends])
  intro I hI n hn hi
  simp -implicitDefEqProofs only [cst, ↓steps, push_cast, simprocAttr, tte]
  refine bcase_intro (fun k => ?_) fun k => ?_
  · simp only [decide_eq_true_eq] at k
    have k' : n < s.size := by omega
    have hw := wrap_succ k' (by omega)
    rw [drop_cons _ n (by rw [bytesI_length]; exact k'), List.all_cons, bytesI_getD s n k'] at hi
    refine ⟨by omega, ?_⟩
    generalize hcc : (((s.data.getD n 0).toNat : Nat) : Int) = c at hi ⊢
    have bad : badM c = true → nameP s = false := fun h => by rw [hM2, ← hi, h]; rfl
    have good : badM c = false → ((bytesI s).drop (n + 1)).all (fun c => !badM c) = (bytesI s).all fun c => !badM c := fun h => by rw [← hi, h]; rfl
    refine callq [[0]] [] (c_letter c) ?_
    simp -implicitDefEqProofs only [↓steps, push_cast, simprocAttr, tte]
    refine bcase_intro (fun g1 => ?_) fun g1 => ?_
    · refine bcase_intro (fun g2 => ?_) fun g2 => ?_
      · refine bcase_intro (fun g3 => ?_) fun g3 => ?_
        · exact ret_d trivial (by rw [← hr, bad (by rw [badM, g1, g2, g3]; rfl)]; rfl) (by simp [ends])
        · exact cnt_again hI n rfl k' (good (by rw [badM, g3, Bool.and_false])) (by simp [hw, ends]) (by simp [hw, ends]) (by simp [hw, ends]) (by simp [hw, ends])
      · refine bcase_intro (fun g4 => ?_) fun g4 => ?_
        · refine bcase_intro (fun g3 => ?_) fun g3 => ?_
          · exact ret_d trivial (by rw [← hr, bad (by rw [badM, g1, g2, g3, g4]; rfl)]; rfl) (by simp [ends])
          · exact cnt_again hI n rfl k' (good (by rw [badM, g3, Bool.and_false])) (by simp [hw, ends]) (by simp [hw, ends]) (by simp [hw, ends]) (by simp [hw, ends])
        · exact cnt_again hI n rfl k' (good (by rw [badM, g1, g2, g4]; rfl)) (by simp [hw, ends]) (by simp [hw, ends]) (by simp [hw, ends]) (by simp [hw, ends])
    · exact cnt_again hI n rfl k' (good (by rw [badM, g1]; rfl)) (by simp [hw, ends]) (by simp [hw, ends]) (by simp [hw, ends]) (by simp [hw, ends])
  · simp only [decide_eq_false_iff_not] at k
    obtain rfl : n = s.size := by omega
    have : nameP s = true := by rw [hM2, ← hi, List.drop_eq_nil_of_le (by rw [bytesI_length]; omega)]; rfl
    exact ret_d trivial (by rw [← hr, this]; rfl) (by simp [ends])
end Go.Proofs.YtampbaaiddbacaaDoor
namespace Go.Proofs.YtampbaaiddbacaaDoor
open Go.Am
attribute [local simp, local push_cast] num boo str ints aV aTab aInst aS
set_option linter.unusedVariables false
set_option maxRecDepth 100000
set_option maxHeartbeats 4000000
def aT (t : Tbl) : A := .agg [.d (.lit (.string t.name)), .d (.sl 3 (rowsOf rC t.columns)), .d (.sl 1 (rowsOf rI t.primary)), .d (.sl 1 (rowsOf rIs t.uniques)), .d (.sl 2 (rowsOf rF t.foreigns)), .d (.sl 6 (rowsOf rE t.checks))]
def aC (c : Col) : A := .agg [.d (.lit (.string c.name)), .d (.lit (.int .i64 c.type)), .d (.lit (.bool c.nullable))]
attribute [local simp, local push_cast] aT aC
theorem c_find1 (t : Tbl) (name : ByteArray) : ACall Tryd.prog 36 [aT t, .ptr 1000 0] [(1000, .var [str name])] (boo (t.name.toList == name.toList)) [(1000, .var [str name])] := by
  refine enterq mixed ttok Tryd.func36 Tryd.ntmps36 Tryd.results36 ?_
  generalize hr : boo (t.name.toList == name.toList) = R
  simp -implicitDefEqProofs only [argT, ↓steps, push_cast, simprocAttr, tte]
  refine retx_of [0] rfl (by simp) (by simp [rowsOf_length] <;> omega) ?_ (by first | rfl | simp [ends] | (subst_vars; simp [ends])) (by simp [ends]) (by simp [ends])
  exact hr
theorem c_idxT (l : List Tbl) (name : ByteArray) (hl : l.length ≤ 1000000000) :
    ACall Tryd.prog 35 [.d (.sl 6 (rowsOf rT l)), .clo 36 [.ptr 1000 0]] [(1000, .var [str name])] (num (fidx (fun t => t.name.toList == name.toList) l)) [(1000, .var [str name])] := by
  refine enterq mixed ttok Tryd.func35 Tryd.ntmps35 Tryd.results35 ?_
  generalize hr : num (fidx (fun t => t.name.toList == name.toList) l) = R
  simp -implicitDefEqProofs only [argT, ↓steps, push_cast, simprocAttr, tte]
  refine loop_count mixed ttok 8 [0, 1, 6, 7] [1000] (by simp only [pickT, ends, push_cast, simprocAttr]; rfl) (by simp only [pickO, consO_some, ends, push_cast, simprocAttr]; rfl) l.length (fun n => ∀ i, i < n → ((l.getD i default).name.toList == name.toList) = false) (fun _ => []) (fun _ => []) (fun i h => absurd h (Nat.not_lt_zero _)) ?_ ?_
  · exact Weak.keepL (by simp [cst, ends]) (by simp [cst, ends]) (by simp [cst, ends])
  intro I hI n hn hi
  simp -implicitDefEqProofs only [cst, ↓steps, push_cast, simprocAttr, tte]
  refine bcase_intro (fun h => ?_) fun h => ?_
  · simp only [decide_eq_true_eq] at h
    have h' : n < l.length := by omega
    have hw := wrap_succ h' (by omega)
    refine ⟨(by first | omega | trivial | (refine ⟨?_, ?_⟩ <;> first | omega | trivial | (refine ⟨?_, ?_⟩ <;> first | omega | trivial | (refine ⟨?_, ?_⟩ <;> first | omega | trivial | rfl)))), ?_⟩
    refine callq [[0, 3, 1, 1, 2, 6], []] [(1000, 1000)] (c_find1 (l.getD n default) name) ?_
    simp -implicitDefEqProofs only [↓steps, push_cast, simprocAttr, tte]
    refine bcase_intro (fun g => ?_) fun g => ?_
    · refine retx_of [0] rfl (by simp) (by simp [rowsOf_length] <;> omega) ?_ (by first | rfl | simp [ends] | (subst_vars; simp [ends])) (by simp [ends]) (by simp [ends])
      rw [← hr, fidx_at _ l n h' hi g]; rfl
    · exact cnt_again hI n rfl h' (fun i h2 => if h3 : i = n then by rw [h3]; exact g else hi i (by omega)) (by simp [hw, ends]) (by simp [hw, ends]) (by simp [hw, ends]) (by simp [hw, ends])
  · simp only [decide_eq_false_iff_not] at h
    obtain rfl : n = l.length := by omega
    refine retx_of [0] rfl (by simp) (by simp [rowsOf_length] <;> omega) ?_ (by first | rfl | simp [ends] | (subst_vars; simp [ends])) (by simp [ends]) (by simp [ends])
    rw [← hr, fidx_none _ l hi]; rfl
theorem c_col1 (t : Col) (name : ByteArray) : ACall Tryd.prog 59 [aC t, .ptr 1000 0] [(1000, .var [str name])] (boo (t.name.toList == name.toList)) [(1000, .var [str name])] := by
  refine enterq mixed ttok Tryd.func59 Tryd.ntmps59 Tryd.results59 ?_
  generalize hr : boo (t.name.toList == name.toList) = R
  simp -implicitDefEqProofs only [argT, ↓steps, push_cast, simprocAttr, tte]
  refine retx_of [0] rfl (by simp) (by simp [rowsOf_length] <;> omega) ?_ (by first | rfl | simp [ends] | (subst_vars; simp [ends])) (by simp [ends]) (by simp [ends])
  exact hr
theorem c_idxC (l : List Col) (name : ByteArray) (hl : l.length ≤ 1000000000) :
    ACall Tryd.prog 58 [.d (.sl 3 (rowsOf rC l)), .clo 59 [.ptr 1000 0]] [(1000, .var [str name])] (num (fidx (fun t => t.name.toList == name.toList) l)) [(1000, .var [str name])] := by
  refine enterq mixed ttok Tryd.func58 Tryd.ntmps58 Tryd.results58 ?_
  generalize hr : num (fidx (fun t => t.name.toList == name.toList) l) = R
  simp -implicitDefEqProofs only [argT, ↓steps, push_cast, simprocAttr, tte]
  refine loop_count mixed ttok 8 [0, 1, 6, 7] [1000] (by simp only [pickT, ends, push_cast, simprocAttr]; rfl) (by simp only [pickO, consO_some, ends, push_cast, simprocAttr]; rfl) l.length (fun n => ∀ i, i < n → ((l.getD i default).name.toList == name.toList) = false) (fun _ => []) (fun _ => []) (fun i h => absurd h (Nat.not_lt_zero _)) ?_ ?_
  · exact Weak.keepL (by simp [cst, ends]) (by simp [cst, ends]) (by simp [cst, ends])
  intro I hI n hn hi
  simp -implicitDefEqProofs only [cst, ↓steps, push_cast, simprocAttr, tte]
  refine bcase_intro (fun h => ?_) fun h => ?_
  · simp only [decide_eq_true_eq] at h
    have h' : n < l.length := by omega
    have hw := wrap_succ h' (by omega)
    refine ⟨(by first | omega | trivial | (refine ⟨?_, ?_⟩ <;> first | omega | trivial | (refine ⟨?_, ?_⟩ <;> first | omega | trivial | (refine ⟨?_, ?_⟩ <;> first | omega | trivial | rfl)))), ?_⟩
    refine callq [[0, 0, 0], []] [(1000, 1000)] (c_col1 (l.getD n default) name) ?_
    simp -implicitDefEqProofs only [↓steps, push_cast, simprocAttr, tte]
    refine bcase_intro (fun g => ?_) fun g => ?_
    · refine retx_of [0] rfl (by simp) (by simp [rowsOf_length] <;> omega) ?_ (by first | rfl | simp [ends] | (subst_vars; simp [ends])) (by simp [ends]) (by simp [ends])
      rw [← hr, fidx_at _ l n h' hi g]; rfl
    · exact cnt_again hI n rfl h' (fun i h2 => if h3 : i = n then by rw [h3]; exact g else hi i (by omega)) (by simp [hw, ends]) (by simp [hw, ends]) (by simp [hw, ends]) (by simp [hw, ends])
  · simp only [decide_eq_false_iff_not] at h
    obtain rfl : n = l.length := by omega
    refine retx_of [0] rfl (by simp) (by simp [rowsOf_length] <;> omega) ?_ (by first | rfl | simp [ends] | (subst_vars; simp [ends])) (by simp [ends]) (by simp [ends])
    rw [← hr, fidx_none _ l hi]; rfl
def byT (l : List Tbl) (name : ByteArray) : Int := fidx (fun t => t.name.toList == name.toList) l
def byC (l : List Col) (name : ByteArray) : Int := fidx (fun t => t.name.toList == name.toList) l
/-- What is found: the place (0, where there is none), and whether there is one. -/
def found (k : Int) : A := .tup [num (if 0 > k then 0 else k), boo (decide (k ≥ 0))]
theorem c_find (s : Sch) (name : ByteArray) (hl : s.length ≤ 1000000000) : ACall Tryd.prog 19 [aS s, str name] [] (found (byT s name)) [] := by
  refine enterq mixed ttok Tryd.func19 Tryd.ntmps19 Tryd.results19 ?_
  generalize hr : found (byT s name) = R
  simp -implicitDefEqProofs only [argT, ↓steps, push_cast, simprocAttr, tte]
  refine callq [[6], []] [(1000, 3)] (c_idxT s name hl) ?_
  simp -implicitDefEqProofs only [↓steps, push_cast, simprocAttr, tte]
  exact ret_d2 trivial (by rw [← hr, found, byT]; rfl) (by simp [ends])
theorem c_column (t : Tbl) (name : ByteArray) (hl : t.columns.length ≤ 1000000000) : ACall Tryd.prog 37 [aT t, str name] [] (found (byC t.columns name)) [] := by
  refine enterq mixed ttok Tryd.func37 Tryd.ntmps37 Tryd.results37 ?_
  generalize hr : found (byC t.columns name) = R
  simp -implicitDefEqProofs only [argT, ↓steps, push_cast, simprocAttr, tte]
  refine callq [[3], []] [(1000, 3)] (c_idxC t.columns name hl) ?_
  simp -implicitDefEqProofs only [↓steps, push_cast, simprocAttr, tte]
  exact ret_d2 trivial (by rw [← hr, found, byC]; rfl) (by simp [ends])
def typesOf (t : Tbl) : List Int := t.columns.map (·.type)
end Go.Proofs.YtampbaaiddbacaaDoor
namespace Go.Proofs.YtampbaaiddbacaaDoor
open Go.Am
attribute [local simp, local push_cast] num boo str ints aV aTab aInst aS aT aC
set_option linter.unusedVariables false
set_option maxRecDepth 100000
set_option maxHeartbeats 4000000
theorem c_types (t : Tbl) (hl : t.columns.length ≤ 1000000000) : ACall Tryd.prog 40 [aT t] [] (ints (typesOf t)) [] := by
  refine enterq mixed ttok Tryd.func40 Tryd.ntmps40 Tryd.results40 ?_
  generalize hr : ints (typesOf t) = R
  simp -implicitDefEqProofs only [argT, ↓steps, push_cast, simprocAttr, tte]
  refine loop_count mixed ttok 9 [7, 8] [] (by simp only [pickT, ends, push_cast, simprocAttr]; rfl) (by simp only [pickO, consO_some, ends, push_cast, simprocAttr]; rfl) t.columns.length (fun _ => True) (fun n => [(3, .vec 500 n)]) (fun n => [(500, .vec 3 1 (rowsOf rI ((t.columns.take n).map (·.type))) 0)]) trivial ?_ ?_
  · exact (Weak.nilL 3 500 3 1 rfl rfl).trans (Weak.keepL (by simp [cst, ends]) (by simp [cst, ends]) (by simp [cst, ends]))
  intro I hI n hn hi
  have hl2 : ((t.columns.take n).map (·.type)).length = n := by simp; omega
  simp -implicitDefEqProofs only [cst, ↓steps, push_cast, simprocAttr, tte]
  refine bcase_intro (fun h => ?_) fun h => ?_
  · simp only [decide_eq_true_eq] at h
    have h' : n < t.columns.length := by omega
    have hw := wrap_succ h' (by omega)
    have ht : (t.columns.take (n + 1)).map (·.type) = (t.columns.take n).map (·.type) ++ [(t.columns.getD n default).type] := by rw [take_snoc _ _ h', List.map_append]; rfl
    refine ⟨(by first | omega | trivial | (refine ⟨?_, ?_⟩ <;> first | omega | trivial | (refine ⟨?_, ?_⟩ <;> first | omega | trivial | (refine ⟨?_, ?_⟩ <;> first | omega | trivial | rfl)))), ⟨hl2.symm, by rw [hl2]; omega⟩, ?_⟩
    exact cnt_again hI n rfl h' trivial (by simp [hw, ht, hl2, rowsOf_append, Nat.min_eq_left hn, ends]) (by simp [hw, ht, hl2, rowsOf_append, Nat.min_eq_left hn, ends]) (by simp [hw, ht, hl2, rowsOf_append, Nat.min_eq_left hn, ends]) (by simp [hw, ht, hl2, rowsOf_append, Nat.min_eq_left hn, ends])
  · simp only [decide_eq_false_iff_not] at h
    obtain rfl : n = t.columns.length := by omega
    refine retx_of [1] rfl (by simp) (by simp [rowsOf_length] <;> omega) ?_ (by first | rfl | simp [ends] | (subst_vars; simp [ends])) (by simp [ends]) (by simp [ends])
    rw [← hr, typesOf, List.take_length]; rfl
theorem c_indexI (l : List Int) (v : Int) (hl : l.length ≤ 1000000000) : ACall Tryd.prog 85 [ints l, num v] [] (num (fidx (fun x => v == x) l)) [] := by
  refine enterq mixed ttok Tryd.func85 Tryd.ntmps85 Tryd.results85 ?_
  generalize hr : num (fidx (fun x => v == x) l) = R
  simp -implicitDefEqProofs only [argT, ↓steps, push_cast, simprocAttr, tte]
  refine loop_count mixed ttok 8 [0, 1, 6, 7] [] (by simp only [pickT, ends, push_cast, simprocAttr]; rfl) (by simp only [pickO, consO_some, ends, push_cast, simprocAttr]; rfl) l.length (fun n => ∀ i, i < n → (v == l.getD i default) = false) (fun _ => []) (fun _ => []) (fun i h => absurd h (Nat.not_lt_zero _)) ?_ ?_
  · exact Weak.keepL (by simp [cst, ends]) (by simp [cst, ends]) (by simp [cst, ends])
  intro I hI n hn hi
  simp -implicitDefEqProofs only [cst, ↓steps, push_cast, simprocAttr, tte]
  refine bcase_intro (fun h => ?_) fun h => ?_
  · simp only [decide_eq_true_eq] at h
    have h' : n < l.length := by omega
    have hw := wrap_succ h' (by omega)
    refine ⟨(by first | omega | trivial | (refine ⟨?_, ?_⟩ <;> first | omega | trivial | (refine ⟨?_, ?_⟩ <;> first | omega | trivial | (refine ⟨?_, ?_⟩ <;> first | omega | trivial | rfl)))), ?_⟩
    refine bcase_intro (fun g => ?_) fun g => ?_
    · exact ret_d trivial (by rw [← hr, fidx_at _ l n h' hi g]; rfl) (by simp [ends])
    · exact cnt_again hI n rfl h' (fun i h2 => if h3 : i = n then by rw [h3]; exact g else hi i (by omega)) (by simp [hw, ends]) (by simp [hw, ends]) (by simp [hw, ends]) (by simp [hw, ends])
  · simp only [decide_eq_false_iff_not] at h
    obtain rfl : n = l.length := by omega
    exact ret_d trivial (by rw [← hr, fidx_none _ l hi]; rfl) (by simp [ends])
theorem has_fidx (l : List Int) (v : Int) : decide (fidx (fun x => v == x) l ≥ 0) = l.contains v := by
  have h := fidx_neg (fun x => v == x) l
  rw [List.contains_eq_any_beq]
  cases ha : l.any (fun x => v == x) with
  | false => rw [ha] at h; simp at h; simp; omega
  | true => rw [ha] at h; simp at h; simp; omega
theorem c_containsI (l : List Int) (v : Int) (hl : l.length ≤ 1000000000) : ACall Tryd.prog 72 [ints l, num v] [] (boo (l.contains v)) [] := by
  refine enterq mixed ttok Tryd.func72 Tryd.ntmps72 Tryd.results72 ?_
  generalize hr : boo (l.contains v) = R
  simp -implicitDefEqProofs only [argT, ↓steps, push_cast, simprocAttr, tte]
  refine callq [[1], [0]] [] (c_indexI l v hl) ?_
  simp -implicitDefEqProofs only [↓steps, push_cast, simprocAttr, tte]
  exact ret_d trivial (by rw [← hr, ← has_fidx]; rfl) (by simp [ends])
/-- One column of a key: there is such a column, and it isn't named before. -/
def okAt (c : Nat) (l : List Int) (i : Nat) : Bool := (decide (0 ≤ l.getD i default) && decide (l.getD i default < c)) && !(l.take i).contains (l.getD i default)
def okKey (c : Nat) (l : List Int) : Bool := (List.range l.length).all (okAt c l) && !l.isEmpty
theorem all_range {p : Nat → Bool} {N : Nat} : (List.range N).all p = true ↔ ∀ i, i < N → p i = true := by simp [List.all_eq_true]
theorem bad_range {p : Nat → Bool} {N n : Nat} (h : n < N) (hp : p n = false) : (List.range N).all p = false := by
  cases hq : (List.range N).all p with
  | false => rfl
  | true => rw [all_range.1 hq n h] at hp; cases hp
theorem c_key (t : Tbl) (l : List Int) (hl : l.length ≤ 1000000000) : ACall Tryd.prog 60 [aT t, ints l] [] (num (if okKey t.columns.length l then 0 else 6)) [] := by
  refine enterq mixed ttok Tryd.func60 Tryd.ntmps60 Tryd.results60 ?_
  generalize hr : num (if okKey t.columns.length l then 0 else 6) = R
  simp -implicitDefEqProofs only [argT, ↓steps, push_cast, simprocAttr, tte]
  refine loop_count mixed ttok 9 [1, 2, 7, 8] [2] (by simp only [pickT, ends, push_cast, simprocAttr]; rfl) (by simp only [pickO, consO_some, ends, push_cast, simprocAttr]; rfl) l.length (fun n => ∀ i, i < n → okAt t.columns.length l i = true) (fun _ => []) (fun _ => []) (fun i h => absurd h (Nat.not_lt_zero _)) ?_ ?_
  · exact Weak.keepL (by simp [cst, ends]) (by simp [cst, ends]) (by simp [cst, ends])
  intro I hI n hn hi
  have bad : n < l.length → okAt t.columns.length l n = false → okKey t.columns.length l = false := fun h1 h2 => by rw [okKey, bad_range h1 h2]; rfl
  simp -implicitDefEqProofs only [cst, ↓steps, push_cast, simprocAttr, tte]
  refine bcase_intro (fun h => ?_) fun h => ?_
  · simp only [decide_eq_true_eq] at h
    have h' : n < l.length := by omega
    have hw := wrap_succ h' (by omega)
    have bad := bad h'
    refine ⟨(by first | omega | trivial | (refine ⟨?_, ?_⟩ <;> first | omega | trivial | (refine ⟨?_, ?_⟩ <;> first | omega | trivial | (refine ⟨?_, ?_⟩ <;> first | omega | trivial | rfl)))), ?_⟩
    refine bcase_intro (fun g1 => ?_) fun g1 => ?_
    · have := bad (by simp only [decide_eq_true_eq] at g1; rw [okAt, decide_eq_false (by omega)]; rfl)
      exact ret_d trivial (by rw [← hr, this]; rfl) (by simp [ends])
    refine bcase_intro (fun g2 => ?_) fun g2 => ?_
    · have := bad (by simp only [decide_eq_true_eq] at g2; rw [okAt, decide_eq_false (by omega : ¬ l.getD n default < t.columns.length), Bool.and_false]; rfl)
      exact ret_d trivial (by rw [← hr, this]; rfl) (by simp [ends])
    simp only [decide_eq_false_iff_not] at g1 g2
    refine ⟨(by first | omega | trivial | (refine ⟨?_, ?_⟩ <;> first | omega | trivial | (refine ⟨?_, ?_⟩ <;> first | omega | trivial | (refine ⟨?_, ?_⟩ <;> first | omega | trivial | rfl)))), ?_⟩
    refine callq [[1], [0]] [] (c_containsI (l.take n) (l.getD n default) (by simp; omega)) ?_
    simp -implicitDefEqProofs only [↓steps, push_cast, simprocAttr, tte]
    refine bcase_intro (fun g3 => ?_) fun g3 => ?_
    · have := bad (by rw [okAt, g3, Bool.not_true, Bool.and_false])
      exact ret_d trivial (by rw [← hr, this]; rfl) (by simp [ends])
    · exact cnt_again hI n rfl h' (fun i h2 => if h3 : i = n then by rw [h3, okAt, g3, decide_eq_true (by omega), decide_eq_true (by omega)]; rfl else hi i (by omega)) (by simp [hw, ends]) (by simp [hw, ends]) (by simp [hw, ends]) (by simp [hw, ends])
  · simp only [decide_eq_false_iff_not] at h
    obtain rfl : n = l.length := by omega
    refine bcase_intro (fun g => ?_) fun g => ?_
    · have : okKey t.columns.length l = false := by
        have : l = [] := by simpa using g
        rw [this]; rfl
      exact ret_d trivial (by rw [← hr, this]; rfl) (by simp [ends])
    · have : okKey t.columns.length l = true := by
        rw [okKey, all_range.2 hi]
        cases l with
        | nil => simp at g
        | cons _ _ => rfl
      exact ret_d trivial (by rw [← hr, this]; rfl) (by simp [ends])
end Go.Proofs.YtampbaaiddbacaaDoor
namespace Go.Proofs.YtampbaaiddbacaaDoor
open Go.Am
attribute [local simp, local push_cast] num boo str ints aV aTab aInst aS aT aC
set_option linter.unusedVariables false
set_option maxRecDepth 100000
set_option maxHeartbeats 4000000
theorem c_clone (l : List (List Int)) (hl : l.length ≤ 1000000) : ACall Tryd.prog 63 [.d (.sl 1 (rowsOf rIs l))] [] (.vec 1000 l.length) [(1000, .vec 22 1 (rowsOf rIs l) 0)] := by
  refine enterq mixed ttok Tryd.func63 Tryd.ntmps63 Tryd.results63 ?_
  cases l with
  | nil =>
    simp -implicitDefEqProofs only [argT, rowsOf_nil, List.isEmpty_nil, if_true, ↓steps, push_cast, simprocAttr, tte]
    exact ⟨ret_nil 22 1 trivial trivial, ret_vec 5 trivial (by omega) rfl rfl ⟨.inl (by omega), .inl (by omega), trivial⟩⟩
  | cons x l =>
    simp only [List.length_cons] at hl
    simp -implicitDefEqProofs only [argT, rowsOf_cons, List.isEmpty_cons, ↓steps, push_cast, simprocAttr, tte]
    exact ⟨by omega, ret_vec 5 trivial (by omega) rfl rfl ⟨.inl (by omega), .inl (by omega), trivial⟩⟩
/-- A table's cells, as a variable's. -/
def vT (t : Tbl) : Ob := .var [.d (.lit (.string t.name)), .d (.sl 3 (rowsOf rC t.columns)), .d (.sl 1 (rowsOf rI t.primary)), .d (.sl 1 (rowsOf rIs t.uniques)), .d (.sl 2 (rowsOf rF t.foreigns)), .d (.sl 6 (rowsOf rE t.checks))]
def nullAt (t : Tbl) (k : Int) : Bool := (t.columns.getD k.toNat default).nullable
def inC (t : Tbl) (k : Int) : Prop := 0 ≤ k ∧ k < t.columns.length
theorem c_keys1 (t : Tbl) (k : Int) (hk : inC t k) : ACall Tryd.prog 62 [num k, .ptr 1000 0] [(1000, vT t)] (boo (nullAt t k)) [(1000, vT t)] := by
  refine enterq mixed ttok Tryd.func62 Tryd.ntmps62 Tryd.results62 ?_
  generalize hr : boo (nullAt t k) = R
  obtain ⟨h1, h2⟩ := hk
  simp -implicitDefEqProofs only [argT, vT, ↓steps, push_cast, simprocAttr, tte]
  refine ⟨(by first | omega | trivial | (refine ⟨?_, ?_⟩ <;> first | omega | trivial | (refine ⟨?_, ?_⟩ <;> first | omega | trivial | (refine ⟨?_, ?_⟩ <;> first | omega | trivial | rfl)))), ?_⟩
  refine retx_of [0] rfl (by simp) (by simp [rowsOf_length] <;> omega) ?_ (by first | rfl | simp [ends] | (subst_vars; simp [ends])) (by simp [ends]) (by simp [ends])
  exact hr
theorem c_idxK (l : List Int) (t : Tbl) (hl : l.length ≤ 1000000000) (hk : ∀ k ∈ l, inC t k) :
    ACall Tryd.prog 73 [ints l, .clo 62 [.ptr 1000 0]] [(1000, vT t)] (num (fidx (nullAt t) l)) [(1000, vT t)] := by
  refine enterq mixed ttok Tryd.func73 Tryd.ntmps73 Tryd.results73 ?_
  generalize hr : num (fidx (nullAt t) l) = R
  simp -implicitDefEqProofs only [argT, vT, ↓steps, push_cast, simprocAttr, tte]
  refine loop_count mixed ttok 8 [0, 1, 6, 7] [1000] (by simp only [pickT, ends, push_cast, simprocAttr]; rfl) (by simp only [pickO, consO_some, ends, push_cast, simprocAttr]; rfl) l.length (fun n => ∀ i, i < n → nullAt t (l.getD i default) = false) (fun _ => []) (fun _ => []) (fun i h => absurd h (Nat.not_lt_zero _)) ?_ ?_
  · exact Weak.keepL (by simp [cst, ends]) (by simp [cst, ends]) (by simp [cst, ends])
  intro I hI n hn hi
  simp -implicitDefEqProofs only [cst, ↓steps, push_cast, simprocAttr, tte]
  refine bcase_intro (fun h => ?_) fun h => ?_
  · simp only [decide_eq_true_eq] at h
    have h' : n < l.length := by omega
    have hw := wrap_succ h' (by omega)
    refine ⟨(by first | omega | trivial | (refine ⟨?_, ?_⟩ <;> first | omega | trivial | (refine ⟨?_, ?_⟩ <;> first | omega | trivial | (refine ⟨?_, ?_⟩ <;> first | omega | trivial | rfl)))), ?_⟩
    have hc := c_keys1 t (l.getD n default) (hk _ (getD_mem h'))
    unfold vT at hc
    refine callq [[0], []] [(1000, 1000)] (hc) ?_
    simp -implicitDefEqProofs only [↓steps, push_cast, simprocAttr, tte]
    refine bcase_intro (fun g => ?_) fun g => ?_
    · refine retx_of [0] rfl (by simp) (by simp [rowsOf_length] <;> omega) ?_ (by first | rfl | simp [ends] | (subst_vars; simp [ends])) (by simp [ends]) (by simp [ends])
      rw [← hr, fidx_at _ l n h' hi g]; rfl
    · exact cnt_again hI n rfl h' (fun i h2 => if h3 : i = n then by rw [h3]; exact g else hi i (by omega)) (by simp [hw, ends]) (by simp [hw, ends]) (by simp [hw, ends]) (by simp [hw, ends])
  · simp only [decide_eq_false_iff_not] at h
    obtain rfl : n = l.length := by omega
    refine retx_of [0] rfl (by simp) (by simp [rowsOf_length] <;> omega) ?_ (by first | rfl | simp [ends] | (subst_vars; simp [ends])) (by simp [ends]) (by simp [ends])
    rw [← hr, fidx_none _ l hi]; rfl
theorem any_fidx {α : Type} (p : α → Bool) (l : List α) : decide (fidx p l ≥ 0) = l.any p := by
  have h := fidx_neg p l
  cases ha : l.any p with
  | false => rw [ha] at h; simp only [iff_true] at h; exact decide_eq_false (by omega)
  | true => rw [ha] at h; simp only [Bool.true_eq_false, iff_false] at h; exact decide_eq_true (by omega)
theorem c_containsK (l : List Int) (t : Tbl) (hl : l.length ≤ 1000000000) (hk : ∀ k ∈ l, inC t k) :
    ACall Tryd.prog 61 [ints l, .clo 62 [.ptr 1000 0]] [(1000, vT t)] (boo (l.any (nullAt t))) [(1000, vT t)] := by
  refine enterq mixed ttok Tryd.func61 Tryd.ntmps61 Tryd.results61 ?_
  generalize hr : boo (l.any (nullAt t)) = R
  simp -implicitDefEqProofs only [argT, vT, ↓steps, push_cast, simprocAttr, tte]
  have hc := c_idxK l t hl hk
  unfold vT at hc
  refine callq [[1], []] [(1000, 1000)] (hc) ?_
  simp -implicitDefEqProofs only [↓steps, push_cast, simprocAttr, tte]
  refine retx_of [0] rfl (by simp) (by simp [rowsOf_length] <;> omega) ?_ (by first | rfl | simp [ends] | (subst_vars; simp [ends])) (by simp [ends]) (by simp [ends])
  rw [← hr, ← any_fidx]; rfl
/-- A table whose lists are short. -/
structure SmallT (t : Tbl) : Prop where
  cols : t.columns.length ≤ 1000
  prim : t.primary.length ≤ 1000
  uniq : t.uniques.length ≤ 1000
  uniqs : ∀ u ∈ t.uniques, u.length ≤ 1000
  fors : t.foreigns.length ≤ 1000
  forss : ∀ f ∈ t.foreigns, f.columns.length ≤ 1000
  chk : t.checks.length ≤ 1000
  chks : ∀ e ∈ t.checks, Ok12 e
def moreKeys (t : Tbl) : List (List Int) := t.uniques ++ t.foreigns.map (·.columns)
def keysM (t : Tbl) : Int := if okKey t.columns.length t.primary then if t.primary.any (nullAt t) then 4 else if (moreKeys t).all (okKey t.columns.length) then 0 else 6 else 6
theorem okKey_in {t : Tbl} {l : List Int} (h : okKey t.columns.length l = true) : ∀ k ∈ l, inC t k := by
  intro k hk
  obtain ⟨i, hi, rfl⟩ := List.getElem_of_mem hk
  simp only [okKey, Bool.and_eq_true] at h
  have := all_range.1 h.1 i hi
  simp only [okAt, Bool.and_eq_true, decide_eq_true_eq, List.getD_eq_getElem?_getD, List.getElem?_eq_getElem hi, Option.getD_some] at this
  exact this.1
theorem c_keys (t : Tbl) (ht : SmallT t) : ACall Tryd.prog 38 [aT t] [] (num (keysM t)) [] := by
  refine enterq mixed ttok Tryd.func38 Tryd.ntmps38 Tryd.results38 ?_
  generalize hr : num (keysM t) = R
  have hp := ht.prim
  have hU := ht.uniq
  have hF := ht.fors
  simp -implicitDefEqProofs only [argT, ↓steps, push_cast, simprocAttr, tte]
  refine callq [[0, 3, 1, 1, 2, 6], [1]] [] (c_key t t.primary (by omega)) ?_
  simp -implicitDefEqProofs only [↓steps, push_cast, simprocAttr, tte]
  cases hk : okKey t.columns.length t.primary with
  | false =>
    simp only [hk, Bool.false_eq_true, if_false]
    refine bcase_intro (fun h => ?_) (fun h => absurd h (by decide))
    exact ret_d trivial (by rw [← hr, keysM, hk]; rfl) (by simp [ends])
  | true =>
  simp only [hk, if_true]
  refine bcase_intro (fun h => absurd h (by decide)) (fun _ => ?_)
  have hc := c_containsK t.primary t (by omega) (okKey_in hk)
  unfold vT at hc
  refine callq [[1], []] [(1000, 1)] (hc) ?_
  simp -implicitDefEqProofs only [↓steps, push_cast, simprocAttr, tte]
  refine bcase_intro (fun g => ?_) fun g => ?_
  · exact ret_d trivial (by rw [← hr, keysM, hk, g]; rfl) (by simp [ends])
  refine callq [[1]] [(1000, 600)] (c_clone t.uniques (by omega)) ?_
  simp -implicitDefEqProofs only [↓steps, push_cast, simprocAttr, tte]
  have hM : keysM t = if (moreKeys t).all (okKey t.columns.length) then 0 else 6 := by rw [keysM, hk, g]; rfl
  refine loop_count mixed ttok 27 [1, 25, 26] [1] (by simp only [pickT, ends, push_cast, simprocAttr]; rfl) (by simp only [pickO, consO_some, ends, push_cast, simprocAttr]; rfl) t.foreigns.length (fun _ => True) (fun n => [(4, .vec 600 (t.uniques.length + n))]) (fun n => [(600, .vec 22 1 (rowsOf rIs (t.uniques ++ (t.foreigns.take n).map (·.columns))) 0)]) trivial ?_ ?_
  · exact Weak.keepL (by simp [cst, ends]) (by simp [cst, ends]) (by simp [cst, ends])
  intro I hI n hn hi
  have hl2 : (t.uniques ++ (t.foreigns.take n).map (·.columns)).length = t.uniques.length + n := by simp; omega
  simp -implicitDefEqProofs only [cst, ↓steps, push_cast, simprocAttr, tte]
  refine bcase_intro (fun h => ?_) fun h => ?_
  · simp only [decide_eq_true_eq] at h
    have h' : n < t.foreigns.length := by omega
    have hw := wrap_succ h' (by omega)
    have hs : (t.foreigns.take (n + 1)).map (·.columns) = (t.foreigns.take n).map (·.columns) ++ [(t.foreigns.getD n default).columns] := by rw [take_snoc _ _ h', List.map_append]; rfl
    refine ⟨(by first | omega | trivial | (refine ⟨?_, ?_⟩ <;> first | omega | trivial | (refine ⟨?_, ?_⟩ <;> first | omega | trivial | (refine ⟨?_, ?_⟩ <;> first | omega | trivial | rfl)))), ⟨hl2.symm, by rw [hl2]; omega⟩, ?_⟩
    exact cnt_again hI n rfl h' trivial (by simp [hw, hs, hl2, rowsOf_append, Nat.min_eq_left hn, Nat.add_assoc, ends]) (by simp [hw, hs, hl2, rowsOf_append, Nat.min_eq_left hn, Nat.add_assoc, ends]) (by simp [hw, hs, hl2, rowsOf_append, Nat.min_eq_left hn, Nat.add_assoc, ends]) (by simp [hw, hs, hl2, rowsOf_append, Nat.min_eq_left hn, Nat.add_assoc, ends])
  simp only [decide_eq_false_iff_not] at h
  obtain rfl : n = t.foreigns.length := by omega
  clear hI
  have hL : t.uniques ++ (t.foreigns.take t.foreigns.length).map (·.columns) = moreKeys t := by rw [List.take_length, moreKeys]
  have hll : (moreKeys t).length = t.uniques.length + t.foreigns.length := by rw [← hL]; exact hl2
  rw [hL]
  refine ⟨hll.symm, ?_⟩
  rw [← hll]
  refine loop_count mixed ttok 39 [1, 37, 38] [1, 600] (by simp only [pickT, ends, push_cast, simprocAttr]; rfl) (by simp only [pickO, consO_some, ends, push_cast, simprocAttr]; rfl) (moreKeys t).length (fun n => ∀ i, i < n → okKey t.columns.length ((moreKeys t).getD i default) = true) (fun _ => []) (fun _ => []) (fun i h => absurd h (Nat.not_lt_zero _)) ?_ ?_
  · exact Weak.keepL (by simp [cst, hll, ends]) (by simp [cst, ends]) (by simp [cst, ends])
  intro I hI n hn hi
  simp -implicitDefEqProofs only [cst, ↓steps, push_cast, simprocAttr, tte]
  refine bcase_intro (fun h => ?_) fun h => ?_
  · simp only [decide_eq_true_eq] at h
    have h' : n < (moreKeys t).length := by omega
    have hw := wrap_succ h' (by omega)
    refine ⟨(by first | omega | trivial | (refine ⟨?_, ?_⟩ <;> first | omega | trivial | (refine ⟨?_, ?_⟩ <;> first | omega | trivial | (refine ⟨?_, ?_⟩ <;> first | omega | trivial | rfl)))), h', ?_⟩
    have hlen : ((moreKeys t).getD n default).length ≤ 1000 := by
      have hm := getD_mem h'
      generalize (moreKeys t).getD n default = x at hm ⊢
      simp only [moreKeys, List.mem_append, List.mem_map] at hm
      rcases hm with hm | ⟨f, hf, rfl⟩
      · exact ht.uniqs _ hm
      · exact ht.forss f hf
    refine callq [[0, 3, 1, 1, 2, 6], [1]] [] (c_key t ((moreKeys t).getD n default) (by omega)) ?_
    simp -implicitDefEqProofs only [↓steps, push_cast, simprocAttr, tte]
    cases hk2 : okKey t.columns.length ((moreKeys t).getD n default) with
    | false =>
      simp only [hk2, Bool.false_eq_true, if_false]
      refine bcase_intro (fun h => ?_) (fun h => absurd h (by decide))
      have : (moreKeys t).all (okKey t.columns.length) = false := by
        rw [List.all_eq_false]
        exact ⟨_, getD_mem h', by rw [hk2]; decide⟩
      exact ret_d trivial (by rw [← hr, hM, this]; rfl) (by simp [ends])
    | true =>
      simp only [hk2, if_true]
      refine bcase_intro (fun h => absurd h (by decide)) (fun _ => ?_)
      exact cnt_again hI n rfl h' (fun i h2 => if h3 : i = n then by rw [h3]; exact hk2 else hi i (by omega)) (by simp [hw, ends]) (by simp [hw, ends]) (by simp [hw, ends]) (by simp [hw, ends])
  · simp only [decide_eq_false_iff_not] at h
    have hn' : n = (moreKeys t).length := by omega
    have : (moreKeys t).all (okKey t.columns.length) = true := by
      rw [List.all_eq_true]
      intro x hx
      obtain ⟨i, hi2, rfl⟩ := List.getElem_of_mem hx
      have := hi i (by omega)
      rwa [List.getD_eq_getElem?_getD, List.getElem?_eq_getElem hi2] at this
    exact ret_d trivial (by rw [← hr, hM, this]; rfl) (by simp [ends])
end Go.Proofs.YtampbaaiddbacaaDoor
namespace Go.Proofs.YtampbaaiddbacaaDoor
open Go.Am
attribute [local simp, local push_cast] num boo str ints aV aTab aInst aS aT aC
set_option linter.unusedVariables false
set_option maxRecDepth 100000
set_option maxHeartbeats 4000000
/-- A letter that is not printed. -/
def oddR (c : Int) : Bool := (decide (c < 32) || decide (c > 126)) || c == 39
theorem c_text1 (c : Int) : ACall Tryd.prog 90 [.d (.lit (.int .i32 c))] [] (boo (oddR c)) [] := by
  refine enterq mixed ttok Tryd.func90 Tryd.ntmps90 Tryd.results90 ?_
  generalize hr : boo (oddR c) = R
  simp -implicitDefEqProofs only [argT, ↓steps, push_cast, simprocAttr, tte]
  refine bcase_intro (fun h1 => ?_) fun h1 => ?_
  · exact ret_d trivial (by rw [← hr, oddR, h1, Bool.true_or, Bool.true_or]; rfl) (by simp [ends])
  refine bcase_intro (fun h2 => ?_) fun h2 => ?_
  · exact ret_d trivial (by rw [← hr, oddR, h1, h2, Bool.or_true, Bool.true_or]; rfl) (by simp [ends])
  · exact ret_d trivial (by rw [← hr, oddR, h1, h2, Bool.or_false, Bool.false_or]; rfl) (by simp [ends])
/-- A text from a place on: has it a letter that is not printed? (At n steps.) -/
def oddFrom (s : ByteArray) (p : Nat) : Nat → Int
  | 0 => -1
  | n + 1 => if p < s.size then (if oddR (Utf8.decode s p).1 then p else oddFrom s (p + (Utf8.decode s p).2) n) else -1
theorem dec_pos (s : ByteArray) (p : Nat) : 0 < (Utf8.decode s p).2 := by
  unfold Utf8.decode
  simp only []
  repeat' split
  all_goals simp
theorem oddFrom_more (s : ByteArray) : ∀ (n p m : Nat), s.size - p ≤ n → n ≤ m → oddFrom s p n = oddFrom s p m
  | 0, p, m, h, _ => by
    cases m with
    | zero => rfl
    | succ m => simp only [oddFrom]; rw [if_neg (by omega)]
  | n + 1, p, 0, h, h2 => by omega
  | n + 1, p, m + 1, h, h2 => by
    simp only [oddFrom]
    have := dec_pos s p
    rw [oddFrom_more s n (p + (Utf8.decode s p).2) m (by omega) (by omega)]
def oddIdx (s : ByteArray) (p : Nat) : Int := oddFrom s p s.size
theorem oddIdx_eq (s : ByteArray) (p : Nat) : oddIdx s p = if p < s.size then (if oddR (Utf8.decode s p).1 then (p : Int) else oddIdx s (p + (Utf8.decode s p).2)) else -1 := by
  unfold oddIdx
  rw [oddFrom_more s s.size p (s.size + 1) (by omega) (by omega)]
  rfl
theorem c_indexF (s : ByteArray) : ACall Tryd.prog 93 [str s, .clo 90 [], boo true] [] (num (oddIdx s 0)) [] := by
  refine enterq mixed ttok Tryd.func93 Tryd.ntmps93 Tryd.results93 ?_
  generalize hr : num (oddIdx s 0) = R
  simp -implicitDefEqProofs only [argT, ↓steps, push_cast, simprocAttr, tte]
  refine loop_intro mixed ttok (fun p : { p : Nat // oddIdx s p = oddIdx s 0 } => (⟨[(10, .itr 10), (1, .clo 90 []), (2, boo true)], [(10, .it s p.1)]⟩ : SL)) (fun p => s.size - p.1) ⟨0, rfl⟩ ?_ fun ⟨p, hp⟩ => ?_
  · exact Weak.keepL (by simp [ends]) (by simp [ends]) (by simp [ends])
  generalize hI : (fun p : { p : Nat // oddIdx s p = oddIdx s 0 } => (⟨[(10, .itr 10), (1, .clo 90 []), (2, boo true)], [(10, .it s p.1)]⟩ : SL)) = I
  rw [oddIdx_eq] at hp
  by_cases h : p < s.size
  · rw [if_pos h] at hp
    simp -implicitDefEqProofs only [nextOf_lt h, ↓steps, push_cast, simprocAttr, tte]
    refine callq [[0]] [] (c_text1 (Utf8.decode s p).1) ?_
    simp -implicitDefEqProofs only [↓steps, push_cast, simprocAttr, tte]
    refine bcase_intro (fun g => ?_) fun g => ?_
    · have g' : oddR (Utf8.decode s p).1 = true := by simpa [eqEff] using g
      rw [g', if_pos rfl] at hp
      exact ret_d trivial (by rw [← hr, ← hp]; rfl) (by simp [ends])
    · have g' : oddR (Utf8.decode s p).1 = false := by simpa [eqEff] using g
      rw [g', if_neg (by decide)] at hp
      have := dec_pos s p
      refine loopK_again (⟨p + (Utf8.decode s p).2, hp⟩ : { p : Nat // oddIdx s p = oddIdx s 0 }) (by show s.size - (p + (Utf8.decode s p).2) < s.size - p; omega) ?_ ?_ ?_ <;> subst hI
      · simp [ends]
      · simp [ends]
      · simp [ends]
  · rw [if_neg h] at hp
    simp -implicitDefEqProofs only [nextOf_ge h, ↓steps, push_cast, simprocAttr, tte]
    exact ret_d trivial (by rw [← hr, ← hp]; rfl) (by simp [ends])
theorem c_indexFunc (s : ByteArray) : ACall Tryd.prog 89 [str s, .clo 90 []] [] (num (oddIdx s 0)) [] := by
  refine enterq mixed ttok Tryd.func89 Tryd.ntmps89 Tryd.results89 ?_
  generalize hr : num (oddIdx s 0) = R
  simp -implicitDefEqProofs only [argT, ↓steps, push_cast, simprocAttr, tte]
  refine callq [[0], [], [0]] [] (c_indexF s) ?_
  simp -implicitDefEqProofs only [↓steps, push_cast, simprocAttr, tte]
  exact ret_d trivial (by rw [← hr]; rfl) (by simp [ends])
def textM (s : ByteArray) : Bool := decide (s.size ≤ 24) && decide (oddIdx s 0 < 0)
theorem c_vtext (s : ByteArray) : ACall Tryd.prog 79 [str s] [] (boo (textM s)) [] := by
  refine enterq mixed ttok Tryd.func79 Tryd.ntmps79 Tryd.results79 ?_
  generalize hr : boo (textM s) = R
  have hM : decide ((s.size : Int) ≤ 24) = decide (s.size ≤ 24) := decide_eq_decide.2 (by omega)
  simp -implicitDefEqProofs only [argT, hM, ↓steps, push_cast, simprocAttr, tte]
  refine bcase_intro (fun h => ?_) fun h => ?_
  · refine callq [[0], []] [] (c_indexFunc s) ?_
    simp -implicitDefEqProofs only [↓steps, push_cast, simprocAttr, tte]
    exact ret_d trivial (by rw [← hr, textM, h, Bool.true_and]; rfl) (by simp [ends])
  · exact ret_d trivial (by rw [← hr, textM, h, Bool.false_and]; rfl) (by simp [ends])
/-- The values that there are. -/
def validM (v : Val) : Bool :=
  if v.kind = 0 then (v.num == 0) && (v.text.toList == [])
  else if v.kind = 1 then (decide (v.num ≥ -1000000000000) && decide (v.num ≤ 1000000000000)) && (v.text.toList == [])
  else if v.kind = 2 then ((v.num == 0) || (v.num == 1)) && (v.text.toList == [])
  else if v.kind = 3 then (v.num == 0) && textM v.text
  else false
theorem c_valid (v : Val) : ACall Tryd.prog 68 [aV v] [] (boo (validM v)) [] := by
  refine enterq mixed ttok Tryd.func68 Tryd.ntmps68 Tryd.results68 ?_
  generalize hr : boo (validM v) = R
  have he : (ByteArray.mk #[]).toList = [] := by simp [ByteArray.toList_eq]
  simp -implicitDefEqProofs only [argT, he, ↓steps, push_cast, simprocAttr, tte]
  refine bcase_intro (fun k0 => ?_) fun k0 => ?_
  · have hk : v.kind = 0 := by simpa using k0
    have hM : validM v = ((v.num == 0) && (v.text.toList == [])) := by rw [validM, if_pos hk]
    refine bcase_intro (fun g => ?_) fun g => ?_
    · exact ret_d trivial (by rw [← hr, hM, g, Bool.true_and]; rfl) (by simp [ends])
    · exact ret_d trivial (by rw [← hr, hM, g, Bool.false_and]; rfl) (by simp [ends])
  have hk0 : ¬ v.kind = 0 := by simpa using k0
  refine bcase_intro (fun k1 => ?_) fun k1 => ?_
  · have hk : v.kind = 1 := by simpa using k1
    have hM : validM v = ((decide (v.num ≥ -1000000000000) && decide (v.num ≤ 1000000000000)) && (v.text.toList == [])) := by rw [validM, if_neg hk0, if_pos hk]
    refine bcase_intro (fun g => ?_) fun g => ?_
    · refine bcase_intro (fun g2 => ?_) fun g2 => ?_
      · exact ret_d trivial (by rw [← hr, hM, g, g2, Bool.true_and, Bool.true_and]; rfl) (by simp [ends])
      · exact ret_d trivial (by rw [← hr, hM, g, g2, Bool.true_and, Bool.false_and]; rfl) (by simp [ends])
    · exact ret_d trivial (by rw [← hr, hM, g, Bool.false_and, Bool.false_and]; rfl) (by simp [ends])
  have hk1 : ¬ v.kind = 1 := by simpa using k1
  refine bcase_intro (fun k2 => ?_) fun k2 => ?_
  · have hk : v.kind = 2 := by simpa using k2
    have hM : validM v = (((v.num == 0) || (v.num == 1)) && (v.text.toList == [])) := by rw [validM, if_neg hk0, if_neg hk1, if_pos hk]
    refine bcase_intro (fun g => ?_) fun g => ?_
    · exact ret_d trivial (by rw [← hr, hM, g, Bool.true_or, Bool.true_and]; rfl) (by simp [ends])
    · refine bcase_intro (fun g2 => ?_) fun g2 => ?_
      · exact ret_d trivial (by rw [← hr, hM, g, g2, Bool.false_or, Bool.true_and]; rfl) (by simp [ends])
      · exact ret_d trivial (by rw [← hr, hM, g, g2, Bool.false_or, Bool.false_and]; rfl) (by simp [ends])
  have hk2 : ¬ v.kind = 2 := by simpa using k2
  refine bcase_intro (fun k3 => ?_) fun k3 => ?_
  · have hk : v.kind = 3 := by simpa using k3
    have hM : validM v = ((v.num == 0) && textM v.text) := by rw [validM, if_neg hk0, if_neg hk1, if_neg hk2, if_pos hk]
    refine bcase_intro (fun g => ?_) fun g => ?_
    · refine callq [[0]] [] (c_vtext v.text) ?_
      simp -implicitDefEqProofs only [↓steps, push_cast, simprocAttr, tte]
      exact ret_d trivial (by rw [← hr, hM, g, Bool.true_and]; rfl) (by simp [ends])
    · exact ret_d trivial (by rw [← hr, hM, g, Bool.false_and]; rfl) (by simp [ends])
  · have hk3 : ¬ v.kind = 3 := by simpa using k3
    have hM : validM v = false := by rw [validM, if_neg hk0, if_neg hk1, if_neg hk2, if_neg hk3]
    exact ret_d trivial (by rw [← hr, hM]; rfl) (by simp [ends])
end Go.Proofs.YtampbaaiddbacaaDoor
namespace Go.Proofs.YtampbaaiddbacaaDoor
open Go.Am
attribute [local simp, local push_cast] num boo str ints aV aTab aInst aS aT aC
set_option linter.unusedVariables false
set_option maxRecDepth 100000
set_option maxHeartbeats 4000000
end Go.Proofs.YtampbaaiddbacaaDoor
namespace Go.Proofs.YtampbaaiddbacaaDoor
open Go.Am
attribute [local simp, local push_cast] num boo str ints aV aTab aInst aS aT aC
set_option linter.unusedVariables false
set_option maxRecDepth 100000
set_option maxHeartbeats 4000000
theorem depthL_snoc (e : Ex) : ∀ (l : List Ex) (n : Int), depthL n (l ++ [e]) = (if depthW e > depthL n l then depthW e else depthL n l)
  | [], n => by simp [depthL]
  | x :: l, n => by simp only [List.cons_append, depthL]; exact depthL_snoc e l _
theorem c_size : ∀ e : Ex, Ok12 e → ACall Tryd.prog 47 [aE e] [] (num (sizeW e)) [] :=
  ex_ind (p := fun e => Ok12 e → ACall Tryd.prog 47 [aE e] [] (num (sizeW e)) []) fun e ih ho => by
  refine enterq mixed ttok Tryd.func47 Tryd.ntmps47 Tryd.results47 ?_
  generalize hr : num (sizeW e) = R
  have hl := ho.kids
  simp -implicitDefEqProofs only [argT, ↓steps, push_cast, simprocAttr, tte]
  refine loop_count mixed ttok 9 [7, 8] [] (by simp only [pickT, ends, push_cast, simprocAttr]; rfl) (by simp only [pickO, consO_some, ends, push_cast, simprocAttr]; rfl) e.kids.length (fun n => sizeL (sizeL 1 (e.kids.take n)) (e.kids.drop n) = sizeL 1 e.kids) (fun n => [(3, num (sizeL 1 (e.kids.take n)))]) (fun _ => []) rfl ?_ ?_
  · exact Weak.keepL (by simp [cst, sizeL, ends]) (by simp [cst, ends]) (by simp [cst, ends])
  intro I hI n hn hi
  simp -implicitDefEqProofs only [cst, ↓steps, push_cast, simprocAttr, tte]
  refine bcase_intro (fun h => ?_) fun h => ?_
  · simp only [decide_eq_true_eq] at h
    have h' : n < e.kids.length := by omega
    have hw := wrap_succ h' (by omega)
    have ht := sizeL_snoc (e.kids.getD n default) (e.kids.take n) 1
    rw [← take_snoc _ _ h'] at ht
    refine ⟨(by first | omega | trivial | (refine ⟨?_, ?_⟩ <;> first | omega | trivial | (refine ⟨?_, ?_⟩ <;> first | omega | trivial | (refine ⟨?_, ?_⟩ <;> first | omega | trivial | rfl)))), ?_⟩
    refine callq [[0, 0, 0, 0, 0, 6]] [] (ih _ (getD_mem h') (ho.kid (getD_mem h'))) ?_
    simp -implicitDefEqProofs only [↓steps, push_cast, simprocAttr, tte]
    exact cnt_again hI n rfl h' (by rw [drop_cons _ n h', sizeL] at hi; rw [ht]; exact hi) (by simp [hw, ht, ends]) (by simp [hw, ht, ends]) (by simp [hw, ht, ends]) (by simp [hw, ht, ends])
  · simp only [decide_eq_false_iff_not] at h
    obtain rfl : n = e.kids.length := by omega
    exact ret_d trivial (by rw [← hr, sizeW_eq, List.take_length]; rfl) (by simp [ends])
theorem c_depth : ∀ e : Ex, Ok12 e → ACall Tryd.prog 64 [aE e] [] (num (depthW e)) [] :=
  ex_ind (p := fun e => Ok12 e → ACall Tryd.prog 64 [aE e] [] (num (depthW e)) []) fun e ih ho => by
  refine enterq mixed ttok Tryd.func64 Tryd.ntmps64 Tryd.results64 ?_
  generalize hr : num (depthW e) = R
  have hl := ho.kids
  simp -implicitDefEqProofs only [argT, ↓steps, push_cast, simprocAttr, tte]
  refine loop_count mixed ttok 9 [7, 8] [] (by simp only [pickT, ends, push_cast, simprocAttr]; rfl) (by simp only [pickO, consO_some, ends, push_cast, simprocAttr]; rfl) e.kids.length (fun n => depthL (depthL 0 (e.kids.take n)) (e.kids.drop n) = depthL 0 e.kids) (fun n => [(3, num (depthL 0 (e.kids.take n)))]) (fun _ => []) rfl ?_ ?_
  · exact Weak.keepL (by simp [cst, depthL, ends]) (by simp [cst, ends]) (by simp [cst, ends])
  intro I hI n hn hi
  simp -implicitDefEqProofs only [cst, ↓steps, push_cast, simprocAttr, tte]
  refine bcase_intro (fun h => ?_) fun h => ?_
  · simp only [decide_eq_true_eq] at h
    have h' : n < e.kids.length := by omega
    have hw := wrap_succ h' (by omega)
    have ht := depthL_snoc (e.kids.getD n default) (e.kids.take n) 0
    rw [← take_snoc _ _ h'] at ht
    refine ⟨(by first | omega | trivial | (refine ⟨?_, ?_⟩ <;> first | omega | trivial | (refine ⟨?_, ?_⟩ <;> first | omega | trivial | (refine ⟨?_, ?_⟩ <;> first | omega | trivial | rfl)))), ?_⟩
    refine callq [[0, 0, 0, 0, 0, 6]] [] (ih _ (getD_mem h') (ho.kid (getD_mem h'))) ?_
    simp -implicitDefEqProofs only [↓steps, push_cast, simprocAttr, tte]
    exact cnt_again hI n rfl h' (by rw [drop_cons _ n h', depthL] at hi; rw [ht]; exact hi) (by simp [hw, ht, ends]) (by simp [hw, ht, ends]) (by simp [hw, ht, ends]) (by simp [hw, ht, ends])
  · simp only [decide_eq_false_iff_not] at h
    obtain rfl : n = e.kids.length := by omega
    exact ret_d trivial (by rw [← hr, depthW_eq, List.take_length]; rfl) (by simp [ends])
theorem c_isType (k : Int) : ACall Tryd.prog 76 [num k] [] (boo ((k == 1 || k == 2) || k == 3)) [] := by
  refine enterq mixed ttok Tryd.func76 Tryd.ntmps76 Tryd.results76 ?_
  generalize hr : boo ((k == 1 || k == 2) || k == 3) = R
  simp -implicitDefEqProofs only [argT, ↓steps, push_cast, simprocAttr, tte]
  refine bcase_intro (fun h1 => ?_) fun h1 => ?_
  · exact ret_d trivial (by rw [← hr, h1, Bool.true_or, Bool.true_or]; rfl) (by simp [ends])
  refine bcase_intro (fun h2 => ?_) fun h2 => ?_
  · exact ret_d trivial (by rw [← hr, h1, h2, Bool.or_true, Bool.true_or]; rfl) (by simp [ends])
  · exact ret_d trivial (by rw [← hr, h1, h2, Bool.or_false, Bool.false_or]; rfl) (by simp [ends])
/-- What an operation is; and whether there is one. -/
def opAt (op : Int) : OpD := opTab.getD op.toNat default
def isOp (op : Int) : Bool := decide (1 ≤ op) && decide (op ≤ 28)
def findM (op : Int) : OpD := if isOp op then opAt op else default
def aOp (o : OpD) : A := .agg [.d (.lit (.string o.word)), .d (.lit (.int .i64 o.kids)), .d (.lit (.int .i64 o.types)), .d (.lit (.int .i64 o.own))]
theorem flat4 : ∀ (l : List OpD) (n j : Nat), j < 4 → n < l.length → (List.map A.d (l.map rOp).flatten)[n * 4 + j]? = ((rOp (l.getD n default)).map A.d)[j]?
  | [], n, j, hj, h => by simp at h
  | o :: l, 0, j, hj, _ => by
    rw [List.map_cons, List.flatten_cons, List.map_append, Nat.zero_mul, Nat.zero_add, List.getElem?_append_left (by simpa [rOp] using hj)]
    rfl
  | o :: l, n + 1, j, hj, h => by
    rw [List.map_cons, List.flatten_cons, List.map_append, List.getElem?_append_right (by simp [rOp]; omega)]
    have : (n + 1) * 4 + j - (List.map A.d (rOp o)).length = n * 4 + j := by simp [rOp]; omega
    rw [this, flat4 l n j hj (by simpa using h)]
    simp
theorem flat4_drop : ∀ (l : List OpD) (n : Nat), n < l.length → ((List.map A.d (l.map rOp).flatten).drop (n * 4)).take 4 = (rOp (l.getD n default)).map A.d
  | [], n, h => by simp at h
  | o :: l, 0, _ => by
    rw [List.map_cons, List.flatten_cons, List.map_append, Nat.zero_mul, List.drop_zero, List.take_append_of_le_length (by simp [rOp])]
    simp [rOp]
  | o :: l, n + 1, h => by
    rw [List.map_cons, List.flatten_cons, List.map_append]
    have : (n + 1) * 4 = (List.map A.d (rOp o)).length + n * 4 := by simp [rOp]; omega
    rw [this, List.drop_append]
    simp only [List.drop_eq_nil_of_le (Nat.le_add_right _ _), Nat.add_sub_cancel_left, List.nil_append]
    rw [flat4_drop l n (by simpa using h)]
    simp
theorem word_some : ∀ n : Nat, 1 ≤ n → n < 29 → ((opTab.getD n default).word.toList == []) = false := by
  have h : (List.range 29).all (fun n => decide (n = 0) || !(opTab.getD n default).word.data.toList.isEmpty) = true := by decide
  intro n h1 h2
  have := all_range.1 h n h2
  rw [decide_eq_false (by omega), Bool.false_or] at this
  rw [ByteArray.toList_eq]
  cases hw : (opTab.getD n default).word.data.toList with
  | nil => rw [hw] at this; cases this
  | cons _ _ => rfl
theorem c_ofind (op : Int) : ACall Tryd.prog 86 [num op] [] (.tup [aOp (findM op), boo (isOp op)]) [] := by
  refine enterq mixed ttok Tryd.func86 Tryd.ntmps86 Tryd.results86 ?_
  generalize hr : A.tup [aOp (findM op), boo (isOp op)] = R
  have he : (ByteArray.mk #[]).toList = [] := by simp [ByteArray.toList_eq]
  by_cases ho : 0 ≤ op ∧ op < 29
  · obtain ⟨h0, h29⟩ := ho
    have h1 : (List.map A.d opRow)[op.toNat * 4]? = some (.d (.lit (.string (opAt op).word))) := by
      have := flat4 opTab op.toNat 0 (by omega) (by rw [opTab_length]; omega)
      rw [Nat.add_zero] at this
      exact this
    have h4 := flat4_drop opTab op.toNat (by rw [opTab_length]; omega)
    have h3 : ((List.map A.d opRow).drop (op.toNat * 4)).take 4 = [.d (.lit (.string (opAt op).word)), .d (.lit (.int .i64 (opAt op).kids)), .d (.lit (.int .i64 (opAt op).types)), .d (.lit (.int .i64 (opAt op).own))] := h4
    simp -implicitDefEqProofs only [argT, tab0, he, h1, h3, ↓steps, push_cast, simprocAttr, tte]
    refine bcase_intro (fun h => absurd h (by simp; omega)) fun _ => bcase_intro (fun h => absurd h (by simp; omega)) fun _ => ?_
    refine ⟨⟨h0, by omega⟩, ?_⟩
    subst hr
    by_cases hz : op = 0
    · subst hz
      have hw : ((opAt 0).word.toList == []) = true := by rw [ByteArray.toList_eq]; rfl
      refine bcase_intro (fun _ => ?_) fun h => absurd h (by rw [hw]; decide)
      refine retx_tup [[0, 0, 0, 0], [0]] rfl (by simp) (by simp [rowsOf_length] <;> omega) ?_ (by first | rfl | simp [ends] | (subst_vars; simp [ends])) (by simp [ends]) (by simp [ends])
      rfl
    · have hw : ((opAt op).word.toList == []) = false := word_some op.toNat (by omega) (by omega)
      refine bcase_intro (fun h => absurd h (by rw [hw]; decide)) fun _ => ?_
      have hy : isOp op = true := by rw [isOp, decide_eq_true (by omega), decide_eq_true (by omega)]; rfl
      have hlen : (List.map A.d opRow).length = 116 := rfl
      refine ⟨⟨h0, by omega⟩, by rw [hlen]; omega, ?_⟩
      rw [findM, hy]
      refine retx_tup [[0, 0, 0, 0], [0]] rfl (by simp) (by simp [rowsOf_length] <;> omega) ?_ (by first | rfl | simp [ends] | (subst_vars; simp [ends])) (by simp [ends]) (by simp [ends])
      rfl
  · have hn : isOp op = false := by
      rw [isOp, Bool.and_eq_false_iff, decide_eq_false_iff_not, decide_eq_false_iff_not]; omega
    simp -implicitDefEqProofs only [argT, tab0, he, ↓steps, push_cast, simprocAttr, tte]
    have hf : A.tup [aOp default, boo false] = R := by rw [← hr, findM, hn]; rfl
    subst hf
    refine bcase_intro (fun g => ?_) fun g => ?_
    · refine retx_tup [[0, 0, 0, 0], [0]] rfl (by simp) (by simp [rowsOf_length] <;> omega) ?_ (by first | rfl | simp [ends] | (subst_vars; simp [ends])) (by simp [ends]) (by simp [ends])
      rfl
    · refine bcase_intro (fun _ => ?_) fun h => absurd h (by simp at g; simp; omega)
      refine retx_tup [[0, 0, 0, 0], [0]] rfl (by simp) (by simp [rowsOf_length] <;> omega) ?_ (by first | rfl | simp [ends] | (subst_vars; simp [ends])) (by simp [ends]) (by simp [ends])
      rfl
end Go.Proofs.YtampbaaiddbacaaDoor
namespace Go.Proofs.YtampbaaiddbacaaDoor
open Go.Am
attribute [local simp, local push_cast] num boo str ints aV aTab aInst aS aT aC
set_option linter.unusedVariables false
set_option maxRecDepth 100000
set_option maxHeartbeats 4000000
/-- Has an expression as many operands as its operation has? -/
def countM (e : Ex) : Bool := isOp e.op && (((e.kids.length : Int) == (findM e.op).kids) || ((e.op == 28) && decide ((e.kids.length : Int) > (findM e.op).kids)))
theorem c_known (e : Ex) : ACall Tryd.prog 74 [aE e] [] (.tup [aOp (findM e.op), boo (isOp e.op), boo (countM e)]) [] := by
  refine enterq mixed ttok Tryd.func74 Tryd.ntmps74 Tryd.results74 ?_
  obtain ⟨c, hc⟩ : ∃ c, countM e = c := ⟨_, rfl⟩
  rw [hc]
  have hM := hc
  rw [countM] at hM
  simp -implicitDefEqProofs only [argT, ↓steps, push_cast, simprocAttr, tte]
  refine callq [[0]] [] (c_ofind e.op) ?_
  generalize findM e.op = o at hM ⊢
  simp -implicitDefEqProofs only [aOp, ↓steps, push_cast, simprocAttr, tte]
  have fin : ∀ b : Bool, b = c → A.tup [aOp o, boo (isOp e.op), boo b] = A.tup [aOp o, boo (isOp e.op), boo c] := fun b h => by rw [h]
  refine bcase_intro (fun g => ?_) fun g => ?_
  · rw [g, Bool.true_and] at hM
    refine bcase_intro (fun g1 => ?_) fun g1 => ?_
    · rw [g1, Bool.true_or] at hM
      refine ⟨drawx_intro (by kernel_rfl), ?_⟩
      subst hM
      refine retx_tup [[0, 0, 0, 0], [0], [0]] rfl (by simp) (by simp [rowsOf_length] <;> omega) ?_ (by first | rfl | simp [ends] | (subst_vars; simp [ends])) (by simp [ends]) (by simp [ends])
      simp only [g]
    · rw [g1, Bool.false_or] at hM
      refine bcase_intro (fun g2 => ?_) fun g2 => ?_
      · rw [g2, Bool.true_and] at hM
        refine ⟨drawx_intro (by kernel_rfl), ?_⟩
        subst hM
        refine retx_tup [[0, 0, 0, 0], [0], [0]] rfl (by simp) (by simp [rowsOf_length] <;> omega) ?_ (by first | rfl | simp [ends] | (subst_vars; simp [ends])) (by simp [ends]) (by simp [ends])
        simp only [g]
      · rw [g2, Bool.false_and] at hM
        refine ⟨drawx_intro (by kernel_rfl), ?_⟩
        subst hM
        refine retx_tup [[0, 0, 0, 0], [0], [0]] rfl (by simp) (by simp [rowsOf_length] <;> omega) ?_ (by first | rfl | simp [ends] | (subst_vars; simp [ends])) (by simp [ends]) (by simp [ends])
        simp only [g]
  · rw [g, Bool.false_and] at hM
    refine ⟨drawx_intro (by kernel_rfl), ?_⟩
    subst hM
    refine retx_tup [[0, 0, 0, 0], [0], [0]] rfl (by simp) (by simp [rowsOf_length] <;> omega) ?_ (by first | rfl | simp [ends] | (subst_vars; simp [ends])) (by simp [ends]) (by simp [ends])
    simp only [g]
def okF (e : Ex) : Bool :=
  if e.op = 1 then ((e.type == 1 || e.type == 2) || e.type == 3) else if e.op = 2 then validM ⟨1, e.num, ByteArray.empty⟩ else if e.op = 3 then validM ⟨2, e.num, ByteArray.empty⟩
  else if e.op = 4 then validM ⟨3, 0, e.text⟩ else true
def noT (e : Ex) : Bool := if e.op = 1 then true else e.type == 0
def noN (e : Ex) : Bool := if e.op = 2 then true else if e.op = 3 then true else e.num == 0
def noX (e : Ex) : Bool := if e.op = 4 then true else e.text.toList == []
def noC (e : Ex) : Bool := if e.op = 5 then true else e.col == 0
def cleanM (e : Ex) : Bool := (((okF e && noT e) && noN e) && noX e) && noC e
theorem c_clean (e : Ex) : ACall Tryd.prog 75 [aE e] [] (boo (cleanM e)) [] := by
  refine enterq mixed ttok Tryd.func75 Tryd.ntmps75 Tryd.results75 ?_
  generalize hr : boo (cleanM e) = R
  have he : (ByteArray.mk #[]).toList = [] := by simp [ByteArray.toList_eq]
  have he2 : ByteArray.empty.toList = [] := by simp [ByteArray.toList_eq]
  have hh : (([] : List UInt8) == []) = true := rfl
  have h00 : ((0 : Int) == 0) = true := rfl
  simp -implicitDefEqProofs only [argT, he, hh, h00, ↓steps, push_cast, simprocAttr, tte]
  refine bcase_intro (fun k1 => ?_) fun k1 => ?_
  · have hk : e.op = 1 := by simpa using k1
    have hM : cleanM e = ((((((e.type == 1 || e.type == 2) || e.type == 3) && true) && (e.num == 0)) && (e.text.toList == [])) && (e.col == 0)) := by simp [cleanM, okF, noT, noN, noX, noC, hk]
    refine callq [[0]] [] (c_isType e.type) ?_
    simp -implicitDefEqProofs only [he, hh, h00, ↓steps, push_cast, simprocAttr, tte]
    repeat' first | (refine bcase_intro (fun _ => ?_) fun _ => ?_) | exact ret_d trivial (by rw [← hr, hM]; simp only [*, Bool.true_and, Bool.and_true, Bool.false_and, boo]) (by simp [ends])
  refine bcase_intro (fun k2 => ?_) fun k2 => ?_
  · have hk : e.op = 2 := by simpa using k2
    have hM : cleanM e = ((((validM ⟨1, e.num, ByteArray.empty⟩ && (e.type == 0)) && true) && (e.text.toList == [])) && (e.col == 0)) := by simp [cleanM, okF, noT, noN, noX, noC, hk]
    refine callq [[0, 0, 0]] [] (c_valid ⟨1, e.num, ByteArray.empty⟩) ?_
    simp -implicitDefEqProofs only [he, he2, hh, h00, ↓steps, push_cast, simprocAttr, tte]
    repeat' first | (refine bcase_intro (fun _ => ?_) fun _ => ?_) | exact ret_d trivial (by rw [← hr, hM]; simp only [*, Bool.true_and, Bool.and_true, Bool.false_and, boo]) (by simp [ends])
  refine bcase_intro (fun k3 => ?_) fun k3 => ?_
  · have hk : e.op = 3 := by simpa using k3
    have hM : cleanM e = ((((validM ⟨2, e.num, ByteArray.empty⟩ && (e.type == 0)) && true) && (e.text.toList == [])) && (e.col == 0)) := by simp [cleanM, okF, noT, noN, noX, noC, hk]
    refine callq [[0, 0, 0]] [] (c_valid ⟨2, e.num, ByteArray.empty⟩) ?_
    simp -implicitDefEqProofs only [he, he2, hh, h00, ↓steps, push_cast, simprocAttr, tte]
    repeat' first | (refine bcase_intro (fun _ => ?_) fun _ => ?_) | exact ret_d trivial (by rw [← hr, hM]; simp only [*, Bool.true_and, Bool.and_true, Bool.false_and, boo]) (by simp [ends])
  refine bcase_intro (fun k4 => ?_) fun k4 => ?_
  · have hk : e.op = 4 := by simpa using k4
    have hM : cleanM e = ((((validM ⟨3, 0, e.text⟩ && (e.type == 0)) && (e.num == 0)) && true) && (e.col == 0)) := by simp [cleanM, okF, noT, noN, noX, noC, hk]
    refine callq [[0, 0, 0]] [] (c_valid ⟨3, 0, e.text⟩) ?_
    simp -implicitDefEqProofs only [he, he2, hh, h00, ↓steps, push_cast, simprocAttr, tte]
    repeat' first | (refine bcase_intro (fun _ => ?_) fun _ => ?_) | exact ret_d trivial (by rw [← hr, hM]; simp only [*, Bool.true_and, Bool.and_true, Bool.false_and, boo]) (by simp [ends])
  refine bcase_intro (fun k5 => ?_) fun k5 => ?_
  · have hk : e.op = 5 := by simpa using k5
    have hM : cleanM e = ((((true && (e.type == 0)) && (e.num == 0)) && (e.text.toList == [])) && true) := by simp [cleanM, okF, noT, noN, noX, noC, hk]
    repeat' first | (refine bcase_intro (fun _ => ?_) fun _ => ?_) | exact ret_d trivial (by rw [← hr, hM]; simp only [*, Bool.true_and, Bool.and_true, Bool.false_and, boo]) (by simp [ends])
  have hk1 : ¬ e.op = 1 := by simpa using k1
  have hk2 : ¬ e.op = 2 := by simpa using k2
  have hk3 : ¬ e.op = 3 := by simpa using k3
  have hk4 : ¬ e.op = 4 := by simpa using k4
  have hk5 : ¬ e.op = 5 := by simpa using k5
  have hM : cleanM e = ((((true && (e.type == 0)) && (e.num == 0)) && (e.text.toList == [])) && (e.col == 0)) := by simp [cleanM, okF, noT, noN, noX, noC, hk1, hk2, hk3, hk4, hk5]
  repeat' first | (refine bcase_intro (fun _ => ?_) fun _ => ?_) | exact ret_d trivial (by rw [← hr, hM]; simp only [*, Bool.true_and, Bool.and_true, Bool.false_and, boo]) (by simp [ends])
end Go.Proofs.YtampbaaiddbacaaDoor
