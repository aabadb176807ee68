/- Whether an instance can be asked about a schema: a proof over an abstract machine of our own (part Wc) -/
import Derived.Test.YtkccdfaelbepeaaDoorWb
set_option linter.all false

namespace Go.Proofs.YtkccdfaelbepeaaDoor
open Go.Am
set_option linter.unusedVariables false
set_option maxRecDepth 100000
set_option maxHeartbeats 4000000

def depsTo (s : Sch) (l : List Fk) : List Int := l.foldl (fun acc f => addK acc (byT s f.table)) []
def ms1 (s : Sch) (n : Nat) : List (Option (List Int)) := (List.range s.length).map fun i => if i < n then some (depsTo s (s.getD i default).foreigns) else none
theorem ms1_length (s : Sch) (n : Nat) : (ms1 s n).length = s.length := by simp [ms1]
theorem ms1_zero (s : Sch) : ms1 s 0 = List.replicate s.length none := by
  apply List.ext_getElem?
  intro j
  simp only [ms1, Nat.not_lt_zero, if_false, List.getElem?_map, List.getElem?_replicate]
  by_cases hj : j < s.length
  · rw [List.getElem?_range hj, if_pos hj]; rfl
  · rw [List.getElem?_eq_none (by simp; omega), if_neg hj]; rfl
theorem ms1_succ (s : Sch) (n : Nat) (h : n < s.length) : (ms1 s n).set n (some (depsTo s (s.getD n default).foreigns)) = ms1 s (n + 1) := by
  apply List.ext_getElem?
  intro j
  rw [List.getElem?_set, ms1_length]
  by_cases hj : n = j
  · subst hj; simp [ms1, h]
  · simp only [hj, if_false, ms1, List.getElem?_map]
    by_cases hl : j < s.length
    · rw [List.getElem?_range hl]
      simp only [Option.map_some]
      congr 1
      by_cases h1 : j < n
      · rw [if_pos h1, if_pos (by omega)]
      · rw [if_neg h1, if_neg (by omega)]
    · rw [List.getElem?_eq_none (by simp; omega)]; rfl
theorem depsTo_succ (s : Sch) (l : List Fk) (n : Nat) (h : n < l.length) : depsTo s (l.take (n + 1)) = addK (depsTo s (l.take n)) (byT s (l.getD n default).table) := by
  rw [take_snoc _ _ h, depsTo, List.foldl_append]; rfl

/-! States with maps. -/
theorem lookO_m700 {ms : List (Option (List Int))} {k : Nat} (h : k < 700) : lookO (mapsL 700 ms) k = none := lookO_maps_lt ms h
theorem closedL_set {dom : Nat → Bool} {a : A} (ha : a.closed dom = true) : ∀ (l : List A) (n : Nat), closedL dom l = true → closedL dom (l.set n a) = true
  | [], _, h => h
  | x :: l, 0, h => by simp only [closedL, List.set_cons_zero, Bool.and_eq_true] at h ⊢; exact ⟨ha, h.2⟩
  | x :: l, n + 1, h => by simp only [closedL, List.set_cons_succ, Bool.and_eq_true] at h ⊢; exact ⟨h.1, closedL_set ha l n h.2⟩
theorem renL_set (r : Nat → Nat) (a : A) : ∀ (l : List A) (n : Nat), renL r (l.set n a) = (renL r l).set n (a.ren r)
  | [], _ => rfl
  | x :: l, 0 => rfl
  | x :: l, n + 1 => by simp only [List.set_cons_succ, renL]; rw [renL_set r a l n]
theorem renO_maps {a b : Nat} : ∀ {ms : List (Option (List Int))} {c : Nat}, a < c → renO a b (mapsL c ms) = mapsL c ms
  | [], _, _ => rfl
  | none :: l, c, h => by rw [mapsL]; exact renO_maps (by omega)
  | some ks :: l, c, h => by rw [mapsL, renO, renO_maps (by omega)]; simp only [ren1to, Ob.ren]; rw [if_neg (by omega)]
theorem in700 {dom : Nat → Bool} {ms : List (Option (List Int))} (h : ms.length ≤ 6) : keepIn dom (mapsL 700 ms) := keepIn_maps fun n ks hn => .inl (by have := (List.getElem?_eq_some_iff.1 hn).1; omega)
theorem splice_set {α : Type} (l : List α) (n : Nat) (x : α) (h : n < l.length) : l.take n ++ [x] ++ l.drop (n + 1) = l.set n x := by rw [List.set_eq_take_append_cons_drop, if_pos h, List.append_assoc]; rfl
def vS (s : Sch) : Ob := .var [.d (.sl 6 (rowsOf rT s))]
theorem keep_a {f : Nat → Option Ob} {s : Sch} {ms : List (Option (List Int))} (h1 : f 1 = some (vS s)) (h2 : f 18 = some (.var (mapsA 700 ms))) (h3 : ∀ n ks, ms[n]? = some (some ks) → f (700 + n) = some (.mp (encM ks))) :
    keepO f (inO ((1, vS s) :: mobs 18 700 ms)) ((1, vS s) :: mobs 18 700 ms) :=
  ⟨⟨h1, rfl⟩, ⟨h2, closed_maps fun n ks h => inO_cons_r (mobs_in h)⟩, keepO_maps h3⟩
/-- The numbers of the called function's objects. -/
def rM (i : Nat) : Nat := if i = 1000 then 18 else i - 301
theorem rM_at (n : Nat) : rM (1001 + n) = 700 + n := by simp only [rM]; rw [if_neg (by omega)]; omega
theorem mobs_big {ms : List (Option (List Int))} : ∀ x ∈ (mobs 1000 1001 ms).map (·.1), 1000 ≤ x := by
  intro x hx
  rw [mobs, List.map_cons, List.mem_cons] at hx
  rcases hx with hx | hx
  · omega
  · obtain ⟨n, _, rfl, _⟩ := ids_maps hx; omega
theorem mobs_nodup {ms : List (Option (List Int))} (h : ms.length ≤ 6) : (((mobs 1000 1001 ms).map (·.1)).map rM).Nodup := by
  rw [mobs, List.map_cons, List.map_cons]
  refine List.nodup_cons.2 ⟨fun hm => ?_, ?_⟩
  · obtain ⟨x, hx, he⟩ := List.mem_map.1 hm
    obtain ⟨n, _, rfl, _⟩ := ids_maps hx
    rw [rM_at] at he
    simp [rM] at he
    omega
  · have hN : ∀ {ms : List (Option (List Int))} {b : Nat}, 1001 ≤ b → (((mapsL b ms).map (·.1)).map rM).Nodup := by
      intro ms
      induction ms with
      | nil => intro b _; exact List.Pairwise.nil
      | cons m l ih =>
        intro b hb
        cases m with
        | none => rw [mapsL]; exact ih (by omega)
        | some ks =>
          rw [mapsL, List.map_cons, List.map_cons]
          refine List.nodup_cons.2 ⟨fun hm => ?_, ih (by omega)⟩
          obtain ⟨x, hx, he⟩ := List.mem_map.1 hm
          obtain ⟨n, _, rfl, _⟩ := ids_maps hx
          simp only [rM] at he
          rw [if_neg (by omega), if_neg (by omega)] at he
          omega
    exact hN (Nat.le_refl _)
theorem mobs_nodup0 {ms : List (Option (List Int))} (h : ms.length ≤ 6) : ((mobs 1000 1001 ms).map (·.1)).Nodup := by
  have := mobs_nodup h
  generalize (mobs 1000 1001 ms).map (·.1) = l at this
  induction l with
  | nil => exact List.Pairwise.nil
  | cons x l ih =>
    rw [List.map_cons] at this
    obtain ⟨h1, h2⟩ := List.nodup_cons.1 this
    exact List.nodup_cons.2 ⟨fun hm => h1 (List.mem_map.2 ⟨x, hm, rfl⟩), ih h2⟩
theorem keep_c {f : Nat → Option Ob} {s : Sch} {ms : List (Option (List Int))} {x : Nat × Ob} (h1 : f 1 = some (vS s)) (h2 : f 18 = some (.var (mapsA 700 ms))) (h3 : ∀ n ks, ms[n]? = some (some ks) → f (700 + n) = some (.mp (encM ks))) :
    keepO f (inO (x :: (1, vS s) :: mobs 18 700 ms)) ((1, vS s) :: mobs 18 700 ms) :=
  ⟨⟨h1, rfl⟩, ⟨h2, closed_maps fun n ks h => inO_cons_r (inO_cons_r (mobs_in h))⟩, keepO_maps h3⟩
theorem keep_b {f : Nat → Option Ob} {s : Sch} {ms : List (Option (List Int))} {es : List (Value × Value)} {k : Nat} (h1 : f 1 = some (vS s)) (h29 : f 29 = some (.mp es)) (h2 : f 18 = some (.var ((mapsA 700 ms).set k (.mp 29)))) (h3 : ∀ n ks, ms[n]? = some (some ks) → f (700 + n) = some (.mp (encM ks))) :
    keepO f (inO ((1, vS s) :: (29, .mp es) :: (18, .var ((mapsA 700 ms).set k (.mp 29))) :: mapsL 700 ms)) ((1, vS s) :: (29, .mp es) :: (18, .var ((mapsA 700 ms).set k (.mp 29))) :: mapsL 700 ms) :=
  ⟨⟨h1, rfl⟩, ⟨h29, rfl⟩, ⟨h2, closedL_set (a := .mp 29) (by simp only [A.closed]; exact inO_cons_r inO_cons_l) _ _ (closed_maps fun n ks h => inO_cons_r (inO_cons_r (inO_cons_r (inO_maps 700 h))))⟩, keepO_maps h3⟩

/-! The law of the order: what it places next, and what it has placed. -/
def fks (s : Sch) (i : Nat) : List Fk := (s.getD i default).foreigns
def freeAt (s : Sch) (p : List Int) (i : Nat) : Bool := !p.contains (i : Int) && (fks s i).all fun f => p.contains (byT s f.table)
def pickM (s : Sch) (p : List Int) : Int := fidx (freeAt s p) (List.range s.length)
def picks (s : Sch) : Nat → List Int
  | 0 => []
  | n + 1 => picks s n ++ [pickM s (picks s n)]
theorem picks_length (s : Sch) : ∀ n, (picks s n).length = n
  | 0 => rfl
  | n + 1 => by rw [picks, List.length_append, picks_length s n]; rfl
def orderOk (s : Sch) : Bool := (List.range s.length).all fun n => decide (0 ≤ pickM s (picks s n))
def orderE (s : Sch) : Int := if orderOk s then 0 else 7
def orderP (s : Sch) : List Int := if orderOk s then picks s s.length else []
def msA (s : Sch) (p : List Int) : List (Option (List Int)) := (List.range s.length).map fun i : Nat => if p.contains (i : Int) then none else some ((depsTo s (fks s i)).filter fun k => !p.contains k)
theorem msA_length (s : Sch) (p : List Int) : (msA s p).length = s.length := by simp [msA]
theorem msA_nil (s : Sch) : ms1 s s.length = msA s [] := by
  unfold ms1 msA
  apply List.map_congr_left
  intro i hi
  rw [if_pos (by simpa using hi)]
  have : ((depsTo s (fks s i)).filter fun k => !([] : List Int).contains k) = depsTo s (fks s i) := List.filter_eq_self.2 fun _ _ => rfl
  rw [if_neg (by simp), this]
  rfl
theorem fidx_map {α β : Type} (p : β → Bool) (g : α → β) : ∀ l : List α, fidx p (l.map g) = fidx (fun x => p (g x)) l
  | [] => rfl
  | x :: l => by simp only [List.map_cons, fidx, fidx_map p g l]
theorem fidx_congr {α : Type} {p q : α → Bool} : ∀ l : List α, (∀ x ∈ l, p x = q x) → fidx p l = fidx q l
  | [], _ => rfl
  | x :: l, h => by simp only [fidx, h x (by simp), fidx_congr l fun y hy => h y (by simp [hy])]
theorem addK_mem (ks : List Int) (k x : Int) : x ∈ addK ks k ↔ x ∈ ks ∨ x = k := by
  unfold addK
  by_cases h : ks.contains k = true
  · rw [if_pos h]
    have : k ∈ ks := by simpa using h
    exact ⟨.inl, fun hx => hx.elim id fun e => e ▸ this⟩
  · rw [if_neg h]; simp
theorem addK_nodup {ks : List Int} (h : ks.Nodup) (k : Int) : (addK ks k).Nodup := by
  unfold addK
  by_cases h2 : ks.contains k = true
  · rwa [if_pos h2]
  · rw [if_neg h2]
    have : k ∉ ks := by simpa using h2
    exact List.nodup_append.2 ⟨h, List.nodup_cons.2 ⟨by simp, List.Pairwise.nil⟩, fun a ha b hb => by simp at hb; subst hb; exact fun e => this (e ▸ ha)⟩
theorem depsTo_mem (s : Sch) (l : List Fk) (x : Int) : x ∈ depsTo s l ↔ ∃ f ∈ l, byT s f.table = x := by
  have : ∀ (l : List Fk) (acc : List Int), x ∈ l.foldl (fun acc f => addK acc (byT s f.table)) acc ↔ x ∈ acc ∨ ∃ f ∈ l, byT s f.table = x := by
    intro l
    induction l with
    | nil => intro acc; simp
    | cons f l ih => intro acc; rw [List.foldl_cons, ih, addK_mem]; simp [eq_comm, or_assoc]
  rw [depsTo, this]; simp
theorem depsTo_nodup (s : Sch) (l : List Fk) : (depsTo s l).Nodup := by
  have : ∀ (l : List Fk) (acc : List Int), acc.Nodup → (l.foldl (fun acc f => addK acc (byT s f.table)) acc).Nodup := by
    intro l
    induction l with
    | nil => intro acc h; exact h
    | cons f l ih => intro acc h; exact ih _ (addK_nodup h _)
  exact this l [] List.Pairwise.nil
theorem pick_msA (s : Sch) (p : List Int) : fidx freeM (msA s p) = pickM s p := by
  rw [msA, fidx_map, pickM]
  refine fidx_congr _ fun i _ => ?_
  rw [freeAt]
  by_cases h : p.contains (i : Int) = true
  · rw [if_pos h, h]; rfl
  · have h2 : p.contains (i : Int) = false := by simpa using h
    rw [if_neg h, h2]
    simp only [freeM, Bool.not_false, Bool.true_and]
    rw [Bool.eq_iff_iff]
    simp only [beq_iff_eq, List.length_eq_zero_iff, List.filter_eq_nil_iff, List.all_eq_true, Bool.not_eq_true', Bool.not_eq_false]
    constructor
    · intro hh f hf; exact hh _ ((depsTo_mem s _ _).2 ⟨f, hf, rfl⟩)
    · intro hh k hk; obtain ⟨f, hf, rfl⟩ := (depsTo_mem s _ _).1 hk; exact hh f hf
def dropK (k : Int) (m : Option (List Int)) : Option (List Int) := m.map (·.erase k)
/-- The maps, when the first j have lost a key. -/
def msJ (k : Int) (ms : List (Option (List Int))) (j : Nat) : List (Option (List Int)) := (ms.take j).map (dropK k) ++ ms.drop j
theorem msJ_length (k : Int) (ms : List (Option (List Int))) (j : Nat) : (msJ k ms j).length = ms.length := by simp [msJ]; omega
theorem msJ_get (k : Int) (ms : List (Option (List Int))) (j : Nat) (h : j < ms.length) : (msJ k ms j)[j]? = ms[j]? := by
  rw [msJ, List.getElem?_append_right (by simp; omega), List.getElem?_drop]
  congr 1
  simp; omega
theorem msJ_succ (k : Int) (ms : List (Option (List Int))) (j : Nat) (m : Option (List Int)) (h : j < ms.length) (hm : ms[j]? = some m) : msJ k ms (j + 1) = (msJ k ms j).set j (dropK k m) := by
  have hg : ms[j] = m := by rw [List.getElem?_eq_getElem h] at hm; simpa using hm
  rw [msJ, msJ, List.take_succ_eq_append_getElem h, List.drop_eq_getElem_cons h, hg, List.map_append, List.set_append_right (h := by simp; omega)]
  have : j - (List.map (dropK k) (List.take j ms)).length = 0 := by simp; omega
  rw [this]
  simp
theorem msJ_all (s : Sch) (p : List Int) (k : Int) (h0 : 0 ≤ k) : msJ k ((msA s p).set k.toNat none) s.length = msA s (p ++ [k]) := by
  have hl : ((msA s p).set k.toNat none).length = s.length := by rw [List.length_set, msA_length]
  rw [msJ, ← hl, List.take_length, List.drop_length, List.append_nil]
  apply List.ext_getElem?
  intro i
  simp only [List.getElem?_map, List.getElem?_set, msA_length]
  by_cases hi : i < s.length
  · have he : k.toNat = i ↔ k = (i : Int) := by omega
    have hg : (msA s p)[i]? = some (if p.contains (i : Int) then none else some ((depsTo s (fks s i)).filter fun k => !p.contains k)) := by simp only [msA, List.getElem?_map]; rw [List.getElem?_range hi]; rfl
    have hg2 : (msA s (p ++ [k]))[i]? = some (if (p ++ [k]).contains (i : Int) then none else some ((depsTo s (fks s i)).filter fun x => !(p ++ [k]).contains x)) := by simp only [msA, List.getElem?_map]; rw [List.getElem?_range hi]; rfl
    rw [hg2, hg]
    by_cases hk : k = (i : Int)
    · have hc : (p ++ [k]).contains (i : Int) = true := by simp [hk]
      rw [if_pos (he.2 hk), if_pos (by omega), hc]; rfl
    · have hc : (p ++ [k]).contains (i : Int) = p.contains (i : Int) := by rw [Bool.eq_iff_iff]; simp; exact fun e => absurd e.symm hk
      rw [if_neg (fun e => hk (he.1 e)), hc]
      by_cases hp : p.contains (i : Int) = true
      · rw [if_pos hp, if_pos hp]; rfl
      · rw [if_neg hp, if_neg hp]
        simp only [Option.map_some, dropK]
        rw [List.Nodup.erase_eq_filter ((depsTo_nodup s (fks s i)).filter _), List.filter_filter]
        congr 2
        apply List.filter_congr
        intro x _
        rw [Bool.eq_iff_iff]; simp [and_comm]
  · have e1 : (msA s p)[i]? = none := List.getElem?_eq_none (by rw [msA_length]; omega)
    have e2 : (msA s (p ++ [k]))[i]? = none := List.getElem?_eq_none (by rw [msA_length]; omega)
    rw [e1, e2]
    split
    · rw [if_neg (by omega)]; rfl
    · rfl
theorem c_order (s : Sch) (hs : s.length ≤ 6) (hf : ∀ t ∈ s, t.foreigns.length ≤ 1000) (hall : ∀ t ∈ s, ∀ f ∈ t.foreigns, 0 ≤ byT s f.table) :
    ACall Tryd.prog 33 [aS s] [] (.tup [ints (orderP s), num (orderE s)]) [] := by
  refine ACall.enter mixed ttok Tryd.func33 rfl rfl _ Tryd.ntmps33 (Nat.le_of_ble_eq_true rfl) (by kernel_rfl) _ (congrArg Array.toList Tryd.results33) ?_
  generalize hr : A.tup [ints (orderP s), num (orderE s)] = R
  simp -implicitDefEqProofs only [argT, ↓steps, push_cast, reduceIte, Nat.reduceEqDiff, Nat.reduceAdd, Nat.reduceMul, Nat.reduceLT, Nat.reduceLeDiff, Int.reduceToNat, Int.reduceLE, Int.reduceLT, reduceCtorEq, tte, num, boo, str, ints, aV, aTab, aInst, aS, aT, aC, found, pairA, aFk, vT, lookO_m700]
  refine ⟨by omega, ?_⟩
  refine loop_countO mixed ttok 22 [1, 4, 20, 21] (by simp only [pickT, ends, ite_true, ite_false, reduceIte, Nat.reduceEqDiff, Nat.reduceLeDiff, Nat.reduceLT, Nat.reduceAdd, reduceCtorEq, num, boo, str, ints, aV, aTab, aInst, aS, aT, aC, found, pairA, aFk, vT, lookO_m700]; rfl) [] s.length (fun _ => True) (fun _ => []) (fun n => (1, vS s) :: mobs 18 700 (ms1 s n)) trivial ?_ ?_
  · refine Weak.keepL (by simp [cst, mobs, ends, ite_true, ite_false, reduceIte, Nat.reduceEqDiff, Nat.reduceLeDiff, Nat.reduceLT, Nat.reduceAdd, reduceCtorEq, num, boo, str, ints, aV, aTab, aInst, aS, aT, aC, found, pairA, aFk, vT, lookO_m700]) ?_ (by simp [cst, ends, ite_true, ite_false, reduceIte, Nat.reduceEqDiff, Nat.reduceLeDiff, Nat.reduceLT, Nat.reduceAdd, reduceCtorEq, num, boo, str, ints, aV, aTab, aInst, aS, aT, aC, found, pairA, aFk, vT, lookO_m700])
    simp only [cst, List.append_nil]
    refine keep_a rfl ?_ fun n ks h => ?_
    · rw [ms1_zero, mapsA_none]; rfl
    · rw [ms1_zero, List.getElem?_replicate] at h; split at h <;> cases h
  intro I hI n hn hi
  simp -implicitDefEqProofs only [cst, mobs, vS, List.append_nil, ↓steps, push_cast, reduceIte, Nat.reduceEqDiff, Nat.reduceAdd, Nat.reduceMul, Nat.reduceLT, Nat.reduceLeDiff, Int.reduceToNat, Int.reduceLE, Int.reduceLT, reduceCtorEq, tte, num, boo, str, ints, aV, aTab, aInst, aS, aT, aC, found, pairA, aFk, vT, lookO_m700]
  refine bcase_intro (fun h => ?_) fun h => ?_
  · simp only [decide_eq_true_eq] at h
    have h' : n < s.length := by omega
    refine ⟨(by first | omega | trivial | (refine ⟨?_, ?_⟩ <;> first | omega | trivial | (refine ⟨?_, ?_⟩ <;> first | omega | trivial | (refine ⟨?_, ?_⟩ <;> first | omega | trivial | rfl)))), ?_⟩
    refine ⟨⟨by omega, by omega⟩, by rw [mapsA_length, ms1_length]; omega, ?_⟩
    have hml : n < (mapsA 700 (ms1 s n)).length := by rw [mapsA_length, ms1_length]; omega
    rw [splice_set _ _ _ hml]
    have hlF := hf _ (getD_mem h')
    have hallF := hall _ (getD_mem h')
    generalize hF : (List.getD s n default).foreigns = F at hlF hallF
    refine loop_countO mixed ttok 34 [1, 4, 5, 20, 21, 22, 32, 33] (by simp only [pickT, ends, ite_true, ite_false, reduceIte, Nat.reduceEqDiff, Nat.reduceLeDiff, Nat.reduceLT, Nat.reduceAdd, reduceCtorEq, num, boo, str, ints, aV, aTab, aInst, aS, aT, aC, found, pairA, aFk, vT, lookO_m700]; rfl) [] F.length (fun _ => True) (fun _ => [])
      (fun k => (1, vS s) :: (29, .mp (encM (depsTo s (F.take k)))) :: (18, .var ((mapsA 700 (ms1 s n)).set n (.mp 29))) :: mapsL 700 (ms1 s n)) trivial ?_ ?_
    · refine Weak.keepL (by simp [cst, ends, ite_true, ite_false, reduceIte, Nat.reduceEqDiff, Nat.reduceLeDiff, Nat.reduceLT, Nat.reduceAdd, reduceCtorEq, num, boo, str, ints, aV, aTab, aInst, aS, aT, aC, found, pairA, aFk, vT, lookO_m700]) ?_ ?_
      · simp only [cst, List.append_nil]
        exact keep_b rfl rfl rfl fun i ks hi => by simp only [ends, ite_true, ite_false, reduceIte, Nat.reduceEqDiff, Nat.reduceLeDiff, Nat.reduceLT, Nat.reduceAdd, reduceCtorEq, num, boo, str, ints, aV, aTab, aInst, aS, aT, aC, found, pairA, aFk, vT, lookO_m700, vS]; rw [if_neg (by omega), if_neg (by omega), if_neg (by omega), if_neg (by omega), if_neg (by omega), if_neg (by omega)]; exact lookO_maps_at 700 hi
      · simp [cst, keepIn, in700 (show (ms1 s n).length ≤ 6 by rw [ms1_length]; exact hs)]
    intro J hJ k hk _
    simp -implicitDefEqProofs only [cst, vS, List.append_nil, ↓steps, push_cast, reduceIte, Nat.reduceEqDiff, Nat.reduceAdd, Nat.reduceMul, Nat.reduceLT, Nat.reduceLeDiff, Int.reduceToNat, Int.reduceLE, Int.reduceLT, reduceCtorEq, tte, num, boo, str, ints, aV, aTab, aInst, aS, aT, aC, found, pairA, aFk, vT, lookO_m700]
    refine bcase_intro (fun g => ?_) fun g => ?_
    · simp only [decide_eq_true_eq] at g
      have k' : k < F.length := by omega
      have hw := wrap_succ k' (by omega)
      refine ⟨(by first | omega | trivial | (refine ⟨?_, ?_⟩ <;> first | omega | trivial | (refine ⟨?_, ?_⟩ <;> first | omega | trivial | (refine ⟨?_, ?_⟩ <;> first | omega | trivial | rfl)))), ?_⟩
      refine callx_of [[6], [0]] [] rfl (c_find s (F.getD k default).table (by omega)) (by first | (simp; done) | (simp [rowsOf_length]; done) | (simp [rowsOf_length]; omega)) (by first | (simp only [ends, ite_true, ite_false, reduceIte, Nat.reduceEqDiff, Nat.reduceLeDiff, Nat.reduceLT, Nat.reduceAdd, reduceCtorEq, num, boo, str, ints, aV, aTab, aInst, aS, aT, aC, found, pairA, aFk, vT, lookO_m700, num, boo, str, aE_eq, aV]; done) | simp [ends, ite_true, ite_false, reduceIte, Nat.reduceEqDiff, Nat.reduceLeDiff, Nat.reduceLT, Nat.reduceAdd, reduceCtorEq, num, boo, str, ints, aV, aTab, aInst, aS, aT, aC, found, pairA, aFk, vT, lookO_m700, num, boo, str, aE_eq, aV]) (by first | rfl | (simp only [ends, ite_true, ite_false, reduceIte, Nat.reduceEqDiff, Nat.reduceLeDiff, Nat.reduceLT, Nat.reduceAdd, reduceCtorEq, num, boo, str, ints, aV, aTab, aInst, aS, aT, aC, found, pairA, aFk, vT, lookO_m700, num, boo, str, aE_eq, aV]; done) | simp [ends, ite_true, ite_false, reduceIte, Nat.reduceEqDiff, Nat.reduceLeDiff, Nat.reduceLT, Nat.reduceAdd, reduceCtorEq, num, boo, str, ints, aV, aTab, aInst, aS, aT, aC, found, pairA, aFk, vT, lookO_m700, num, boo, str, aE_eq, aV]) (by simp only [ends, ite_true, ite_false, reduceIte, Nat.reduceEqDiff, Nat.reduceLeDiff, Nat.reduceLT, Nat.reduceAdd, reduceCtorEq, num, boo, str, ints, aV, aTab, aInst, aS, aT, aC, found, pairA, aFk, vT, lookO_m700]) (by simp [idsOk, lookO, updO, ren1]) ?_
      simp -implicitDefEqProofs only [↓steps, push_cast, reduceIte, Nat.reduceEqDiff, Nat.reduceAdd, Nat.reduceMul, Nat.reduceLT, Nat.reduceLeDiff, Int.reduceToNat, Int.reduceLE, Int.reduceLT, reduceCtorEq, tte, num, boo, str, ints, aV, aTab, aInst, aS, aT, aC, found, pairA, aFk, vT, lookO_m700]
      have hge := hallF _ (getD_mem k')
      refine bcase_intro (fun h => absurd h (by rw [decide_eq_true hge]; decide)) fun _ => ?_
      refine ⟨⟨by omega, by omega⟩, ?_⟩
      rw [List.getElem?_set_self hml]
      simp -implicitDefEqProofs only [if_neg (show ¬ 0 > byT s (F.getD k default).table by omega), mput_enc, ↓steps, push_cast, reduceIte, Nat.reduceEqDiff, Nat.reduceAdd, Nat.reduceMul, Nat.reduceLT, Nat.reduceLeDiff, Int.reduceToNat, Int.reduceLE, Int.reduceLT, reduceCtorEq, tte, num, boo, str, ints, aV, aTab, aInst, aS, aT, aC, found, pairA, aFk, vT, lookO_m700]
      refine cnt_againW hJ k rfl k' trivial (Weak.keepL (by simp [cst, hw, ends, ite_true, ite_false, reduceIte, Nat.reduceEqDiff, Nat.reduceLeDiff, Nat.reduceLT, Nat.reduceAdd, reduceCtorEq, num, boo, str, ints, aV, aTab, aInst, aS, aT, aC, found, pairA, aFk, vT, lookO_m700]) ?_ ?_)
      · simp only [cst, List.append_nil]
        exact keep_b rfl (by rw [depsTo_succ s F k k']; rfl) rfl fun i ks hi => by simp only [ends, ite_true, ite_false, reduceIte, Nat.reduceEqDiff, Nat.reduceLeDiff, Nat.reduceLT, Nat.reduceAdd, reduceCtorEq, num, boo, str, ints, aV, aTab, aInst, aS, aT, aC, found, pairA, aFk, vT, lookO_m700, vS]; rw [if_neg (by omega), if_neg (by omega), if_neg (by omega), if_neg (by omega), if_neg (by omega), if_neg (by omega)]; exact lookO_maps_at 700 hi
      · simp [cst, keepIn, in700 (show (ms1 s n).length ≤ 6 by rw [ms1_length]; exact hs)]
    · simp only [decide_eq_false_iff_not] at g
      obtain rfl : k = F.length := by omega
      clear hJ
      have hwn := wrap_succ h' (by omega)
      rw [List.take_length]
      refine cnt_againW hI n rfl h' trivial ?_
      refine (Weak.keepL (σ := ⟨[(22, .d (.lit (.int .i64 (n + 1 : Nat)))), (1, .ptr 1 0), (4, .vs 18 s.length), (20, .d (.sl 6 (rowsOf rT s))), (21, .d (.lit (.int .i64 s.length)))],
        (1, vS s) :: (29, .mp (encM (depsTo s F))) :: (18, .var ((mapsA 700 (ms1 s n)).set n (.mp 29))) :: mapsL 700 (ms1 s n)⟩) (by simp [hwn, ends, ite_true, ite_false, reduceIte, Nat.reduceEqDiff, Nat.reduceLeDiff, Nat.reduceLT, Nat.reduceAdd, reduceCtorEq, num, boo, str, ints, aV, aTab, aInst, aS, aT, aC, found, pairA, aFk, vT, lookO_m700]) ?_ ?_).trans ?_
      · exact keep_b rfl rfl rfl fun i ks hi => by simp only [ends, ite_true, ite_false, reduceIte, Nat.reduceEqDiff, Nat.reduceLeDiff, Nat.reduceLT, Nat.reduceAdd, reduceCtorEq, num, boo, str, ints, aV, aTab, aInst, aS, aT, aC, found, pairA, aFk, vT, lookO_m700]; rw [if_neg (by omega), if_neg (by omega), if_neg (by omega)]; exact lookO_maps_at 700 hi
      · simp [keepIn, in700 (show (ms1 s n).length ≤ 6 by rw [ms1_length]; exact hs)]
      refine (Weak.ren 29 (700 + n) (by omega) (by omega) ?_).trans ?_
      · rw [lookO_cons_ne (by omega), lookO_cons_ne (by omega), lookO_cons_ne (by omega), lookO_maps, if_pos (by omega), show 700 + n - 700 = n by omega, show (ms1 s n)[n]? = some none by simp [ms1, h']]
      have hrn : ∀ i, i < (ms1 s n).length → ren1to 29 (700 + n) (700 + i) = 700 + i := fun i _ => by simp only [ren1to]; rw [if_neg (by omega)]
      have hset : (mapsA 700 (ms1 s n)).set n (.mp (700 + n)) = mapsA 700 (ms1 s (n + 1)) := by
        rw [← ms1_succ s n h', ← mapsA_set]; rfl
      simp only [renT, renO, A.ren, Ob.ren, renL_set, renL_maps hrn, renO_maps (show 29 < 700 by omega), hF, vS, renL]
      have e1 : ren1to 29 (700 + n) 29 = 700 + n := by simp [ren1to]
      have e2 : ren1to 29 (700 + n) 1 = 1 := by simp [ren1to]
      have e3 : ren1to 29 (700 + n) 18 = 18 := by simp [ren1to]
      rw [e1, e2, e3, hset]
      refine Weak.keepL (by simp [cst, mobs, ends, ite_true, ite_false, reduceIte, Nat.reduceEqDiff, Nat.reduceLeDiff, Nat.reduceLT, Nat.reduceAdd, reduceCtorEq, num, boo, str, ints, aV, aTab, aInst, aS, aT, aC, found, pairA, aFk, vT, lookO_m700]) ?_ ?_
      · simp only [cst, List.append_nil]
        refine keep_a rfl (by simp only [ends, ite_true, ite_false, reduceIte, Nat.reduceEqDiff, Nat.reduceLeDiff, Nat.reduceLT, Nat.reduceAdd, reduceCtorEq, num, boo, str, ints, aV, aTab, aInst, aS, aT, aC, found, pairA, aFk, vT, lookO_m700]; rw [if_neg (by omega)]) fun i ks hi => ?_
        rw [← ms1_succ s n h', List.getElem?_set] at hi
        simp only [ends, ite_true, ite_false, reduceIte, Nat.reduceEqDiff, Nat.reduceLeDiff, Nat.reduceLT, Nat.reduceAdd, reduceCtorEq, num, boo, str, ints, aV, aTab, aInst, aS, aT, aC, found, pairA, aFk, vT, lookO_m700]
        rw [if_neg (by omega)]
        by_cases hin : n = i
        · subst hin
          rw [if_pos rfl, ms1_length, if_pos h', hF] at hi
          rw [if_pos rfl]
          simp only [Option.some.injEq] at hi
          rw [hi]
        · rw [if_neg hin] at hi
          rw [if_neg (by omega), if_neg (by omega)]
          exact lookO_maps_at 700 hi
      · refine ⟨.inl (by omega), .inl (by omega), .inl (by omega), in700 (by rw [ms1_length]; exact hs)⟩
  simp only [decide_eq_false_iff_not] at h
  obtain rfl : n = s.length := by omega
  clear hI hi hn h I
  rw [msA_nil]
  refine loop_countO mixed ttok 57 [1, 4, 55, 56] (by simp only [pickT, ends, ite_true, ite_false, reduceIte, Nat.reduceEqDiff, Nat.reduceLeDiff, Nat.reduceLT, Nat.reduceAdd, reduceCtorEq, num, boo, str, ints, aV, aTab, aInst, aS, aT, aC, found, pairA, aFk, vT, lookO_m700]; rfl) [] s.length (fun n => ∀ i, i < n → 0 ≤ pickM s (picks s i)) (fun n => [(11, .vec 500 n)])
    (fun n => (500, .vec 3 1 (rowsOf rI (picks s n)) 0) :: (1, vS s) :: mobs 18 700 (msA s (picks s n))) (fun i h => absurd h (Nat.not_lt_zero _)) ?_ ?_
  · refine (Weak.nilL 11 500 3 1 rfl (by simp [lookO, lookO_m700])).trans (Weak.keepL (by simp [cst, mobs, ends, ite_true, ite_false, reduceIte, Nat.reduceEqDiff, Nat.reduceLeDiff, Nat.reduceLT, Nat.reduceAdd, reduceCtorEq, num, boo, str, ints, aV, aTab, aInst, aS, aT, aC, found, pairA, aFk, vT, lookO_m700]) ?_ ?_)
    · simp only [cst, List.append_nil]
      refine ⟨⟨rfl, rfl⟩, keep_c rfl rfl fun i ks hi => ?_⟩
      simp only [ends, ite_true, ite_false, reduceIte, Nat.reduceEqDiff, Nat.reduceLeDiff, Nat.reduceLT, Nat.reduceAdd, reduceCtorEq, num, boo, str, ints, aV, aTab, aInst, aS, aT, aC, found, pairA, aFk, vT, lookO_m700]
      rw [if_neg (by omega), if_neg (by omega), if_neg (by omega)]
      exact lookO_maps_at 700 hi
    · simp [cst, keepIn, in700 (show (msA s []).length ≤ 6 by rw [msA_length]; exact hs)]
  intro I hI n hn hi
  have hpl := picks_length s n
  simp -implicitDefEqProofs only [cst, mobs, vS, List.append_nil, List.cons_append, List.nil_append, ↓steps, push_cast, reduceIte, Nat.reduceEqDiff, Nat.reduceAdd, Nat.reduceMul, Nat.reduceLT, Nat.reduceLeDiff, Int.reduceToNat, Int.reduceLE, Int.reduceLT, reduceCtorEq, tte, num, boo, str, ints, aV, aTab, aInst, aS, aT, aC, found, pairA, aFk, vT, lookO_m700]
  refine bcase_intro (fun h => ?_) fun h => ?_
  · simp only [decide_eq_true_eq] at h
    have h' : n < s.length := by omega
    refine callx_same [[], []] rM rfl (c_idxM (msA s (picks s n)) (by rw [msA_length]; exact hs)) rfl (by simp) (by simp only [msA_length]; rfl) rfl ?_ ?_ ?_ ?_ ?_
    · refine ⟨⟨?_, closed_maps fun i ks hi => mobs_in hi⟩, hosL_maps fun i ks hi => ?_⟩
      · simp only [Ob.ren]
        rw [renL_maps (b' := 700) fun i _ => rM_at i]
        rfl
      · rw [rM_at, lookO_cons_ne (by omega), lookO_cons_ne (by omega), lookO_cons_ne (by omega)]; exact lookO_maps_at 700 hi
    · exact mobs_big
    · exact mobs_nodup (by rw [msA_length]; exact hs)
    · exact mobs_nodup0 (by rw [msA_length]; exact hs)
    rw [pick_msA]
    simp -implicitDefEqProofs only [↓steps, push_cast, reduceIte, Nat.reduceEqDiff, Nat.reduceAdd, Nat.reduceMul, Nat.reduceLT, Nat.reduceLeDiff, Int.reduceToNat, Int.reduceLE, Int.reduceLT, reduceCtorEq, tte, num, boo, str, ints, aV, aTab, aInst, aS, aT, aC, found, pairA, aFk, vT, lookO_m700]
    have hM6 : (msA s (picks s n)).length ≤ 6 := by rw [msA_length]; exact hs
    refine bcase_intro (fun hneg => ?_) fun hneg => ?_
    · have hneg' : ¬ 0 ≤ pickM s (picks s n) := by have := of_decide_eq_true hneg; omega
      have hno : orderOk s = false := bad_range h' (decide_eq_false hneg')
      have hR : A.tup [ints [], num 7] = R := by rw [← hr, orderP, orderE, hno]; rfl
      subst hR
      refine retx_tup [[1], [0]] rfl trivial ⟨trivial, trivial, trivial⟩ rfl rfl trivial ?_
      exact ⟨.inl (by omega), .inl (by omega), .inl (by omega), in700 hM6⟩
    have hge : 0 ≤ pickM s (picks s n) := by have := of_decide_eq_false hneg; omega
    have hlt : pickM s (picks s n) < s.length := by have := fidx_lt (freeAt s (picks s n)) (List.range s.length); rw [List.length_range] at this; exact this
    have hinv : ∀ i, i < n + 1 → 0 ≤ pickM s (picks s i) := fun i h2 => if h3 : i = n then by rw [h3]; exact hge else hi i (by omega)
    have hpk : picks s (n + 1) = picks s n ++ [pickM s (picks s n)] := rfl
    refine ⟨⟨hpl.symm, by omega⟩, ⟨hge, hlt⟩, by rw [mapsA_length, msA_length]; omega, ?_⟩
    have hfin := msJ_all s (picks s n) (pickM s (picks s n)) hge
    rw [splice_set _ _ _ (by rw [mapsA_length, msA_length]; omega), show A.d (D.lit (Value.map none)) = cellM (700 + (pickM s (picks s n)).toNat) none from rfl, mapsA_set]
    have hq : ∀ (i : Nat) (ks : List Int), ((msA s (picks s n)).set (pickM s (picks s n)).toNat none)[i]? = some (some ks) → (msA s (picks s n))[i]? = some (some ks) := by
      intro i ks hq
      rw [List.getElem?_set] at hq
      split at hq
      · split at hq <;> cases hq
      · exact hq
    have hQ6 : ((msA s (picks s n)).set (pickM s (picks s n)).toNat none).length = s.length := by rw [List.length_set, msA_length]
    rw [← hpk] at hfin
    generalize hms : msA s (picks s n) = ms at hq hM6
    rw [hms] at hQ6 hfin
    generalize hQ : ms.set (pickM s (picks s n)).toNat none = Q at hq hQ6 hfin
    generalize hk : pickM s (picks s n) = k at hge hlt
    rw [hk] at hpk hfin hQ
    refine loop_countO mixed ttok 72 [1, 4, 11, 12, 55, 56, 57, 70, 71] (by simp only [pickT, ends, ite_true, ite_false, reduceIte, Nat.reduceEqDiff, Nat.reduceLeDiff, Nat.reduceLT, Nat.reduceAdd, reduceCtorEq, num, boo, str, ints, aV, aTab, aInst, aS, aT, aC, found, pairA, aFk, vT, lookO_m700]; rfl) [] s.length (fun _ => True) (fun _ => [])
      (fun j => (500, .vec 3 1 (rowsOf rI (picks s (n + 1))) 0) :: (1, vS s) :: mobs 18 700 (msJ k Q j)) trivial ?_ ?_
    · refine Weak.keepL (by simp [cst, mobs, ends, ite_true, ite_false, reduceIte, Nat.reduceEqDiff, Nat.reduceLeDiff, Nat.reduceLT, Nat.reduceAdd, reduceCtorEq, num, boo, str, ints, aV, aTab, aInst, aS, aT, aC, found, pairA, aFk, vT, lookO_m700]) ?_ ?_
      · simp only [cst, List.append_nil]
        refine ⟨⟨by rw [hpk, ← rowsI_snoc]; rfl, rfl⟩, keep_c rfl rfl fun i ks hi => ?_⟩
        simp only [ends, ite_true, ite_false, reduceIte, Nat.reduceEqDiff, Nat.reduceLeDiff, Nat.reduceLT, Nat.reduceAdd, reduceCtorEq, num, boo, str, ints, aV, aTab, aInst, aS, aT, aC, found, pairA, aFk, vT, lookO_m700]
        repeat rw [if_neg (by omega)]
        exact lookO_maps_at 700 (hq i ks hi)
      · simp [cst, keepIn, in700 hM6]
    intro J hJ j hj _
    simp -implicitDefEqProofs only [cst, mobs, vS, List.append_nil, List.cons_append, List.nil_append, ↓steps, push_cast, reduceIte, Nat.reduceEqDiff, Nat.reduceAdd, Nat.reduceMul, Nat.reduceLT, Nat.reduceLeDiff, Int.reduceToNat, Int.reduceLE, Int.reduceLT, reduceCtorEq, tte, num, boo, str, ints, aV, aTab, aInst, aS, aT, aC, found, pairA, aFk, vT, lookO_m700]
    have hw1 := fun (j' : j < s.length) => wrap_succ j' (by omega)
    refine bcase_intro (fun g => ?_) fun g => ?_
    · simp only [decide_eq_true_eq] at g
      have j' : j < s.length := by omega
      have hw := wrap_succ j' (by omega)
      refine ⟨(by first | omega | trivial | (refine ⟨?_, ?_⟩ <;> first | omega | trivial | (refine ⟨?_, ?_⟩ <;> first | omega | trivial | (refine ⟨?_, ?_⟩ <;> first | omega | trivial | rfl)))), ?_⟩
      have hQj : Q[j]? = some (Q.getD j default) := by rw [List.getD_eq_getElem?_getD, List.getElem?_eq_getElem (by omega)]; rfl
      generalize hm : Q.getD j default = m at hQj
      have hJs := msJ_succ k Q j m (by omega) hQj
      have hJj : (msJ k Q j)[j]? = some m := by rw [msJ_get k Q j (by omega)]; exact hQj
      have hJl := msJ_length k Q j
      have hJ6 : (msJ k Q j).length ≤ 6 := by omega
      have hset : mapsA 700 (msJ k Q (j + 1)) = mapsA 700 (msJ k Q j) := by
        rw [hJs, ← mapsA_set]
        apply List.ext_getElem?
        intro i
        rw [List.getElem?_set, mapsA_length]
        split
        · rename_i he
          subst he
          rw [if_pos (by omega), mapsA_get, hJj]
          cases m <;> rfl
        · rfl
      have hoth : ∀ i ks, i ≠ j → (msJ k Q (j + 1))[i]? = some (some ks) → (msJ k Q j)[i]? = some (some ks) := fun i ks hij hi => by
        rw [hJs, List.getElem?_set, if_neg (fun e => hij e.symm)] at hi; exact hi
      have hown : (msJ k Q (j + 1))[j]? = some (dropK k m) := by rw [hJs, List.getElem?_set, if_pos rfl, if_pos (by omega)]
      rw [mapsA_get, hJj]
      cases m with
      | none =>
        simp -implicitDefEqProofs only [cellM, Option.map_some, ↓steps, push_cast, reduceIte, Nat.reduceEqDiff, Nat.reduceAdd, Nat.reduceMul, Nat.reduceLT, Nat.reduceLeDiff, Int.reduceToNat, Int.reduceLE, Int.reduceLT, reduceCtorEq, tte, num, boo, str, ints, aV, aTab, aInst, aS, aT, aC, found, pairA, aFk, vT, lookO_m700]
        refine cnt_againW hJ j rfl j' trivial (Weak.keepL (by simp [cst, mobs, hw, ends, ite_true, ite_false, reduceIte, Nat.reduceEqDiff, Nat.reduceLeDiff, Nat.reduceLT, Nat.reduceAdd, reduceCtorEq, num, boo, str, ints, aV, aTab, aInst, aS, aT, aC, found, pairA, aFk, vT, lookO_m700]) ?_ ?_)
        · simp only [cst, List.append_nil]
          refine ⟨⟨rfl, rfl⟩, keep_c rfl (by rw [hset]; rfl) fun i ks hi => ?_⟩
          simp only [ends, ite_true, ite_false, reduceIte, Nat.reduceEqDiff, Nat.reduceLeDiff, Nat.reduceLT, Nat.reduceAdd, reduceCtorEq, num, boo, str, ints, aV, aTab, aInst, aS, aT, aC, found, pairA, aFk, vT, lookO_m700]
          repeat rw [if_neg (by omega)]
          by_cases hij : i = j
          · subst hij; rw [hown] at hi; cases hi
          · exact lookO_maps_at 700 (hoth i ks hij hi)
        · simp [cst, keepIn, in700 hJ6]
      | some ks0 =>
        have n500 : (500 = 700 + j) = False := eq_false (by omega)
        have n1 : (1 = 700 + j) = False := eq_false (by omega)
        have n18 : (18 = 700 + j) = False := eq_false (by omega)
        simp -implicitDefEqProofs only [cellM, Option.map_some, lookO_maps_at 700 hJj, n500, n1, n18, mdel_enc, ↓steps, push_cast, reduceIte, Nat.reduceEqDiff, Nat.reduceAdd, Nat.reduceMul, Nat.reduceLT, Nat.reduceLeDiff, Int.reduceToNat, Int.reduceLE, Int.reduceLT, reduceCtorEq, tte, num, boo, str, ints, aV, aTab, aInst, aS, aT, aC, found, pairA, aFk, vT, lookO_m700]
        refine cnt_againW hJ j rfl j' trivial (Weak.keepL (by simp [cst, mobs, hw, ends, ite_true, ite_false, reduceIte, Nat.reduceEqDiff, Nat.reduceLeDiff, Nat.reduceLT, Nat.reduceAdd, reduceCtorEq, num, boo, str, ints, aV, aTab, aInst, aS, aT, aC, found, pairA, aFk, vT, lookO_m700]) ?_ ?_)
        · simp only [cst, List.append_nil]
          refine ⟨⟨by rw [lookO_cons_ne (by omega)]; rfl, rfl⟩, keep_c (by rw [lookO_cons_ne (by omega)]; rfl) (by rw [hset, lookO_cons_ne (by omega)]; rfl) fun i ks hi => ?_⟩
          by_cases hij : i = j
          · subst hij
            rw [hown] at hi
            simp only [dropK, Option.map_some, Option.some.injEq] at hi
            subst hi
            simp [lookO]
          · simp only [ends, ite_true, ite_false, reduceIte, Nat.reduceEqDiff, Nat.reduceLeDiff, Nat.reduceLT, Nat.reduceAdd, reduceCtorEq, num, boo, str, ints, aV, aTab, aInst, aS, aT, aC, found, pairA, aFk, vT, lookO_m700]
            repeat rw [if_neg (by omega)]
            exact lookO_maps_at 700 (hoth i ks hij hi)
        · exact ⟨.inl (by omega), .inl (by omega), .inl (by omega), .inl (by omega), in700 hJ6⟩
    · simp only [decide_eq_false_iff_not] at g
      obtain rfl : j = s.length := by omega
      rw [hfin]
      clear hJ J
      have hwn := wrap_succ h' (by omega)
      refine cnt_againW hI n rfl h' hinv (Weak.keepL (by simp [cst, mobs, hwn, hpl, ends, ite_true, ite_false, reduceIte, Nat.reduceEqDiff, Nat.reduceLeDiff, Nat.reduceLT, Nat.reduceAdd, reduceCtorEq, num, boo, str, ints, aV, aTab, aInst, aS, aT, aC, found, pairA, aFk, vT, lookO_m700]) ?_ ?_)
      · simp only [cst, List.append_nil]
        refine ⟨⟨rfl, rfl⟩, keep_c rfl rfl fun i ks hi => ?_⟩
        simp only [ends, ite_true, ite_false, reduceIte, Nat.reduceEqDiff, Nat.reduceLeDiff, Nat.reduceLT, Nat.reduceAdd, reduceCtorEq, num, boo, str, ints, aV, aTab, aInst, aS, aT, aC, found, pairA, aFk, vT, lookO_m700]
        repeat rw [if_neg (by omega)]
        exact lookO_maps_at 700 hi
      · exact ⟨.inl (by omega), .inl (by omega), .inl (by omega), in700 (by rw [msA_length]; exact hs)⟩
  · simp only [decide_eq_false_iff_not] at h
    obtain rfl : n = s.length := by omega
    have hok : orderOk s = true := all_range.2 fun i hi2 => decide_eq_true (hi i hi2)
    have hR : A.tup [ints (picks s s.length), num 0] = R := by rw [← hr, orderP, orderE, hok]; rfl
    subst hR
    refine retx_tup [[1], [0]] rfl trivial ⟨(rowsOf_length rI (picks s s.length)).trans hpl |>.symm, trivial, trivial⟩ rfl rfl trivial ?_
    exact ⟨.inl (by omega), .inl (by omega), .inl (by omega), .inl (by omega), in700 (by rw [msA_length]; exact hs)⟩
end Go.Proofs.YtkccdfaelbepeaaDoor

namespace Go.Proofs.YtkccdfaelbepeaaDoor
open Go.Am
set_option linter.unusedVariables false
set_option maxRecDepth 100000
set_option maxHeartbeats 4000000

def tabErr (s : Sch) (i : Nat) : Int :=
  if !nameP (s.getD i default).name then 3 else if posOf (byT s (s.getD i default).name) < i then 5 else tableM (s.getD i default)
def refErr (s : Sch) (t : Tbl) : Int := ferr (refM s t) t.foreigns
def validS (s : Sch) : Int :=
  if (s.length : Int) > 6 then 8
  else if ferrN (tabErr s) s.length ≠ 0 then ferrN (tabErr s) s.length
  else if ferr (refErr s) s ≠ 0 then ferr (refErr s) s else orderE s
structure SmallS (s : Sch) : Prop where
  len : s.length ≤ 1000
  tab : ∀ t ∈ s, SmallT t

theorem tableM_keys {t : Tbl} (h : tableM t = 0) : keysM t = 0 := by
  by_cases hk : keysM t = 0
  · exact hk
  · exfalso
    revert h
    simp only [tableM]
    repeat' split
    all_goals first | (intro h; omega) | (intro h; exact absurd h (by assumption))
theorem keysM_ok {t : Tbl} (h : keysM t = 0) : okKey t.columns.length t.primary = true ∧ t.primary.any (nullAt t) = false ∧ (moreKeys t).all (okKey t.columns.length) = true := by
  unfold keysM at h
  split at h
  · rename_i h1
    split at h
    · cases h
    · rename_i h2
      split at h
      · rename_i h3; exact ⟨h1, by simpa using h2, h3⟩
      · cases h
  · cases h
theorem table_prim {t : Tbl} (h : tableM t = 0) : ∀ k ∈ t.primary, inC t k := okKey_in (keysM_ok (tableM_keys h)).1
theorem table_fors {t : Tbl} (h : tableM t = 0) : ∀ f ∈ t.foreigns, ∀ k ∈ f.columns, inC t k := fun f hf =>
  okKey_in (List.all_eq_true.1 (keysM_ok (tableM_keys h)).2.2 f.columns (by simp only [moreKeys, List.mem_append, List.mem_map]; exact .inr ⟨f, hf, rfl⟩))
theorem tabErr_table {s : Sch} {i : Nat} (h : tabErr s i = 0) : tableM (s.getD i default) = 0 := by
  unfold tabErr at h
  split at h
  · cases h
  · split at h
    · cases h
    · exact h
theorem ferr_zero {α : Type} {f : α → Int} : ∀ {l : List α}, ferr f l = 0 → ∀ x ∈ l, f x = 0
  | [], _, x, hx => by simp at hx
  | y :: l, h, x, hx => by
    simp only [ferr] at h
    split at h
    · rename_i h0
      rcases List.mem_cons.1 hx with rfl | hx
      · exact h0
      · exact ferr_zero h x hx
    · rename_i h0; exact absurd h h0
theorem refM_at {s : Sch} {t : Tbl} {f : Fk} (h : refM s t f = 0) : 0 ≤ byT s f.table := by
  unfold refM at h
  split at h
  · cases h
  · omega
theorem mem_getD {α : Type} [Inhabited α] {l : List α} {x : α} (h : x ∈ l) : ∃ i, i < l.length ∧ l.getD i default = x := by
  obtain ⟨i, hi, rfl⟩ := List.getElem_of_mem h
  exact ⟨i, hi, by rw [List.getD_eq_getElem?_getD, List.getElem?_eq_getElem hi]; rfl⟩

theorem c_svalid (s : Sch) (hs : SmallS s) : ACall Tryd.prog 13 [aS s] [] (num (validS s)) [] := by
  refine ACall.enter mixed ttok Tryd.func13 rfl rfl _ Tryd.ntmps13 (Nat.le_of_ble_eq_true rfl) (by kernel_rfl) _ (congrArg Array.toList Tryd.results13) ?_
  generalize hr : num (validS s) = R
  have hl := hs.len
  simp -implicitDefEqProofs only [argT, ↓steps, push_cast, reduceIte, Nat.reduceEqDiff, Nat.reduceAdd, Nat.reduceMul, Nat.reduceLT, Nat.reduceLeDiff, Int.reduceToNat, Int.reduceLE, Int.reduceLT, reduceCtorEq, tte, num, boo, str, ints, aV, aTab, aInst, aS, aT, aC, found, pairA, aFk, vT]
  refine bcase_intro (fun h0 => ?_) fun h0 => ?_
  · exact ret_d trivial (by rw [← hr, validS, if_pos (of_decide_eq_true h0)]; rfl) (by simp only [ends, ite_true, ite_false, reduceIte, Nat.reduceEqDiff, Nat.reduceLeDiff, Nat.reduceLT, Nat.reduceAdd, reduceCtorEq, num, boo, str, ints, aV, aTab, aInst, aS, aT, aC, found, pairA, aFk, vT])
  have h0' : ¬ (s.length : Int) > 6 := of_decide_eq_false h0
  have hM : validS s = if ferrN (tabErr s) s.length ≠ 0 then ferrN (tabErr s) s.length
      else if ferr (refErr s) s ≠ 0 then ferr (refErr s) s else orderE s := by rw [validS, if_neg h0']
  refine loop_count mixed ttok 22 [1, 20, 21] [1] (by simp only [pickT, ends, ite_true, ite_false, reduceIte, Nat.reduceEqDiff, Nat.reduceLeDiff, Nat.reduceLT, Nat.reduceAdd, reduceCtorEq, num, boo, str, ints, aV, aTab, aInst, aS, aT, aC, found, pairA, aFk, vT]; rfl) (by simp only [pickO, consO_some, ends, ite_true, ite_false, reduceIte, Nat.reduceEqDiff, Nat.reduceLeDiff, Nat.reduceLT, Nat.reduceAdd, reduceCtorEq, num, boo, str, ints, aV, aTab, aInst, aS, aT, aC, found, pairA, aFk, vT]; rfl) s.length (fun n => ∀ i, i < n → tabErr s i = 0) (fun _ => []) (fun _ => []) (fun i h => absurd h (Nat.not_lt_zero _)) ?_ ?_
  · exact Weak.keepL (by simp [cst, ends, ite_true, ite_false, reduceIte, Nat.reduceEqDiff, Nat.reduceLeDiff, Nat.reduceLT, Nat.reduceAdd, reduceCtorEq, num, boo, str, ints, aV, aTab, aInst, aS, aT, aC, found, pairA, aFk, vT]) (by simp [cst, ends, ite_true, ite_false, reduceIte, Nat.reduceEqDiff, Nat.reduceLeDiff, Nat.reduceLT, Nat.reduceAdd, reduceCtorEq, num, boo, str, ints, aV, aTab, aInst, aS, aT, aC, found, pairA, aFk, vT]) (by simp [cst, ends, ite_true, ite_false, reduceIte, Nat.reduceEqDiff, Nat.reduceLeDiff, Nat.reduceLT, Nat.reduceAdd, reduceCtorEq, num, boo, str, ints, aV, aTab, aInst, aS, aT, aC, found, pairA, aFk, vT])
  intro I hI n hn hi
  simp -implicitDefEqProofs only [cst, ↓steps, push_cast, reduceIte, Nat.reduceEqDiff, Nat.reduceAdd, Nat.reduceMul, Nat.reduceLT, Nat.reduceLeDiff, Int.reduceToNat, Int.reduceLE, Int.reduceLT, reduceCtorEq, tte, num, boo, str, ints, aV, aTab, aInst, aS, aT, aC, found, pairA, aFk, vT]
  refine bcase_intro (fun h => ?_) fun h => ?_
  · simp only [decide_eq_true_eq] at h
    have h' : n < s.length := by omega
    have hw := wrap_succ h' (by omega)
    have hE : tabErr s n ≠ 0 → num (tabErr s n) = R := fun hne => by
      have := ferrN_at h' hi hne
      rw [← hr, hM, this, if_pos hne]
    have hg : s.getD n default ∈ s := getD_mem h'
    refine ⟨(by first | omega | trivial | (refine ⟨?_, ?_⟩ <;> first | omega | trivial | (refine ⟨?_, ?_⟩ <;> first | omega | trivial | (refine ⟨?_, ?_⟩ <;> first | omega | trivial | rfl)))), ?_⟩
    refine callx_of [[0]] [] rfl (c_name (s.getD n default).name) (by first | (simp; done) | (simp [rowsOf_length]; done) | (simp [rowsOf_length]; omega)) (by first | (simp only [ends, ite_true, ite_false, reduceIte, Nat.reduceEqDiff, Nat.reduceLeDiff, Nat.reduceLT, Nat.reduceAdd, reduceCtorEq, num, boo, str, ints, aV, aTab, aInst, aS, aT, aC, found, pairA, aFk, vT, num, boo, str, aE_eq, aV]; done) | simp [ends, ite_true, ite_false, reduceIte, Nat.reduceEqDiff, Nat.reduceLeDiff, Nat.reduceLT, Nat.reduceAdd, reduceCtorEq, num, boo, str, ints, aV, aTab, aInst, aS, aT, aC, found, pairA, aFk, vT, num, boo, str, aE_eq, aV]) (by first | rfl | (simp only [ends, ite_true, ite_false, reduceIte, Nat.reduceEqDiff, Nat.reduceLeDiff, Nat.reduceLT, Nat.reduceAdd, reduceCtorEq, num, boo, str, ints, aV, aTab, aInst, aS, aT, aC, found, pairA, aFk, vT, num, boo, str, aE_eq, aV]; done) | simp [ends, ite_true, ite_false, reduceIte, Nat.reduceEqDiff, Nat.reduceLeDiff, Nat.reduceLT, Nat.reduceAdd, reduceCtorEq, num, boo, str, ints, aV, aTab, aInst, aS, aT, aC, found, pairA, aFk, vT, num, boo, str, aE_eq, aV]) (by simp only [ends, ite_true, ite_false, reduceIte, Nat.reduceEqDiff, Nat.reduceLeDiff, Nat.reduceLT, Nat.reduceAdd, reduceCtorEq, num, boo, str, ints, aV, aTab, aInst, aS, aT, aC, found, pairA, aFk, vT]) (by simp [idsOk, lookO, updO, ren1]) ?_
    simp -implicitDefEqProofs only [↓steps, push_cast, reduceIte, Nat.reduceEqDiff, Nat.reduceAdd, Nat.reduceMul, Nat.reduceLT, Nat.reduceLeDiff, Int.reduceToNat, Int.reduceLE, Int.reduceLT, reduceCtorEq, tte, num, boo, str, ints, aV, aTab, aInst, aS, aT, aC, found, pairA, aFk, vT]
    refine bcase_intro (fun g1 => ?_) fun g1 => ?_
    · have hc : tabErr s n = 3 := if_pos g1
      exact ret_d trivial (by rw [← hE (by rw [hc]; decide), hc]; rfl) (by simp only [ends, ite_true, ite_false, reduceIte, Nat.reduceEqDiff, Nat.reduceLeDiff, Nat.reduceLT, Nat.reduceAdd, reduceCtorEq, num, boo, str, ints, aV, aTab, aInst, aS, aT, aC, found, pairA, aFk, vT])
    refine callx_of [[6], [0]] [] rfl (c_find s (s.getD n default).name (by omega)) (by first | (simp; done) | (simp [rowsOf_length]; done) | (simp [rowsOf_length]; omega)) (by first | (simp only [ends, ite_true, ite_false, reduceIte, Nat.reduceEqDiff, Nat.reduceLeDiff, Nat.reduceLT, Nat.reduceAdd, reduceCtorEq, num, boo, str, ints, aV, aTab, aInst, aS, aT, aC, found, pairA, aFk, vT, num, boo, str, aE_eq, aV]; done) | simp [ends, ite_true, ite_false, reduceIte, Nat.reduceEqDiff, Nat.reduceLeDiff, Nat.reduceLT, Nat.reduceAdd, reduceCtorEq, num, boo, str, ints, aV, aTab, aInst, aS, aT, aC, found, pairA, aFk, vT, num, boo, str, aE_eq, aV]) (by first | rfl | (simp only [ends, ite_true, ite_false, reduceIte, Nat.reduceEqDiff, Nat.reduceLeDiff, Nat.reduceLT, Nat.reduceAdd, reduceCtorEq, num, boo, str, ints, aV, aTab, aInst, aS, aT, aC, found, pairA, aFk, vT, num, boo, str, aE_eq, aV]; done) | simp [ends, ite_true, ite_false, reduceIte, Nat.reduceEqDiff, Nat.reduceLeDiff, Nat.reduceLT, Nat.reduceAdd, reduceCtorEq, num, boo, str, ints, aV, aTab, aInst, aS, aT, aC, found, pairA, aFk, vT, num, boo, str, aE_eq, aV]) (by simp only [ends, ite_true, ite_false, reduceIte, Nat.reduceEqDiff, Nat.reduceLeDiff, Nat.reduceLT, Nat.reduceAdd, reduceCtorEq, num, boo, str, ints, aV, aTab, aInst, aS, aT, aC, found, pairA, aFk, vT]) (by simp [idsOk, lookO, updO, ren1]) ?_
    simp -implicitDefEqProofs only [↓steps, push_cast, reduceIte, Nat.reduceEqDiff, Nat.reduceAdd, Nat.reduceMul, Nat.reduceLT, Nat.reduceLeDiff, Int.reduceToNat, Int.reduceLE, Int.reduceLT, reduceCtorEq, tte, num, boo, str, ints, aV, aTab, aInst, aS, aT, aC, found, pairA, aFk, vT]
    refine bcase_intro (fun g2 => ?_) fun g2 => ?_
    · have hc : tabErr s n = 5 := by rw [tabErr, if_neg (by rw [g1]; decide)]; exact if_pos (of_decide_eq_true g2)
      exact ret_d trivial (by rw [← hE (by rw [hc]; decide), hc]; rfl) (by simp only [ends, ite_true, ite_false, reduceIte, Nat.reduceEqDiff, Nat.reduceLeDiff, Nat.reduceLT, Nat.reduceAdd, reduceCtorEq, num, boo, str, ints, aV, aTab, aInst, aS, aT, aC, found, pairA, aFk, vT])
    have hcB : tabErr s n = tableM (s.getD n default) := by rw [tabErr, if_neg (by rw [g1]; decide)]; exact if_neg (of_decide_eq_false g2)
    refine callx_of [[0, 3, 1, 1, 2, 6]] [] rfl (c_table (s.getD n default) (hs.tab _ hg)) (by first | (simp; done) | (simp [rowsOf_length]; done) | (simp [rowsOf_length]; omega)) (by first | (simp only [ends, ite_true, ite_false, reduceIte, Nat.reduceEqDiff, Nat.reduceLeDiff, Nat.reduceLT, Nat.reduceAdd, reduceCtorEq, num, boo, str, ints, aV, aTab, aInst, aS, aT, aC, found, pairA, aFk, vT, num, boo, str, aE_eq, aV]; done) | simp [ends, ite_true, ite_false, reduceIte, Nat.reduceEqDiff, Nat.reduceLeDiff, Nat.reduceLT, Nat.reduceAdd, reduceCtorEq, num, boo, str, ints, aV, aTab, aInst, aS, aT, aC, found, pairA, aFk, vT, num, boo, str, aE_eq, aV]) (by first | rfl | (simp only [ends, ite_true, ite_false, reduceIte, Nat.reduceEqDiff, Nat.reduceLeDiff, Nat.reduceLT, Nat.reduceAdd, reduceCtorEq, num, boo, str, ints, aV, aTab, aInst, aS, aT, aC, found, pairA, aFk, vT, num, boo, str, aE_eq, aV]; done) | simp [ends, ite_true, ite_false, reduceIte, Nat.reduceEqDiff, Nat.reduceLeDiff, Nat.reduceLT, Nat.reduceAdd, reduceCtorEq, num, boo, str, ints, aV, aTab, aInst, aS, aT, aC, found, pairA, aFk, vT, num, boo, str, aE_eq, aV]) (by simp only [ends, ite_true, ite_false, reduceIte, Nat.reduceEqDiff, Nat.reduceLeDiff, Nat.reduceLT, Nat.reduceAdd, reduceCtorEq, num, boo, str, ints, aV, aTab, aInst, aS, aT, aC, found, pairA, aFk, vT]) (by simp [idsOk, lookO, updO, ren1]) ?_
    simp -implicitDefEqProofs only [↓steps, push_cast, reduceIte, Nat.reduceEqDiff, Nat.reduceAdd, Nat.reduceMul, Nat.reduceLT, Nat.reduceLeDiff, Int.reduceToNat, Int.reduceLE, Int.reduceLT, reduceCtorEq, tte, num, boo, str, ints, aV, aTab, aInst, aS, aT, aC, found, pairA, aFk, vT]
    refine bcase_intro (fun g3 => ?_) fun g3 => ?_
    · have g3' : tabErr s n ≠ 0 := by rw [hcB]; simpa using g3
      exact ret_d trivial (by rw [← hE g3', hcB]; rfl) (by simp only [ends, ite_true, ite_false, reduceIte, Nat.reduceEqDiff, Nat.reduceLeDiff, Nat.reduceLT, Nat.reduceAdd, reduceCtorEq, num, boo, str, ints, aV, aTab, aInst, aS, aT, aC, found, pairA, aFk, vT])
    · have g3' : tabErr s n = 0 := by rw [hcB]; simpa using g3
      exact cnt_again hI n rfl h' (fun i h2 => if h3 : i = n then by rw [h3]; exact g3' else hi i (by omega)) (by simp only [hw, ends, ite_true, ite_false, reduceIte, Nat.reduceEqDiff, Nat.reduceLeDiff, Nat.reduceLT, Nat.reduceAdd, reduceCtorEq, num, boo, str, ints, aV, aTab, aInst, aS, aT, aC, found, pairA, aFk, vT]) (by simp [hw, ends, ite_true, ite_false, reduceIte, Nat.reduceEqDiff, Nat.reduceLeDiff, Nat.reduceLT, Nat.reduceAdd, reduceCtorEq, num, boo, str, ints, aV, aTab, aInst, aS, aT, aC, found, pairA, aFk, vT]) (by simp [hw, ends, ite_true, ite_false, reduceIte, Nat.reduceEqDiff, Nat.reduceLeDiff, Nat.reduceLT, Nat.reduceAdd, reduceCtorEq, num, boo, str, ints, aV, aTab, aInst, aS, aT, aC, found, pairA, aFk, vT]) (by simp [hw, ends, ite_true, ite_false, reduceIte, Nat.reduceEqDiff, Nat.reduceLeDiff, Nat.reduceLT, Nat.reduceAdd, reduceCtorEq, num, boo, str, ints, aV, aTab, aInst, aS, aT, aC, found, pairA, aFk, vT])
  simp only [decide_eq_false_iff_not] at h
  obtain rfl : n = s.length := by omega
  have hM2 : validS s = if ferr (refErr s) s ≠ 0 then ferr (refErr s) s else orderE s := by rw [hM, ferrN_none hi, if_neg (by decide)]
  have htab : ∀ t ∈ s, tableM t = 0 := fun t ht => by
    obtain ⟨i, h1, h2⟩ := mem_getD ht
    rw [← h2]; exact tabErr_table (hi i h1)
  clear hI hM h hi hn I
  refine loop_count mixed ttok 50 [1, 48, 49] [1] (by simp only [pickT, ends, ite_true, ite_false, reduceIte, Nat.reduceEqDiff, Nat.reduceLeDiff, Nat.reduceLT, Nat.reduceAdd, reduceCtorEq, num, boo, str, ints, aV, aTab, aInst, aS, aT, aC, found, pairA, aFk, vT]; rfl) (by simp only [pickO, consO_some, ends, ite_true, ite_false, reduceIte, Nat.reduceEqDiff, Nat.reduceLeDiff, Nat.reduceLT, Nat.reduceAdd, reduceCtorEq, num, boo, str, ints, aV, aTab, aInst, aS, aT, aC, found, pairA, aFk, vT]; rfl) s.length (fun n => ∀ i, i < n → refErr s (s.getD i default) = 0) (fun _ => []) (fun _ => []) (fun i h => absurd h (Nat.not_lt_zero _)) ?_ ?_
  · exact Weak.keepL (by simp [cst, ends, ite_true, ite_false, reduceIte, Nat.reduceEqDiff, Nat.reduceLeDiff, Nat.reduceLT, Nat.reduceAdd, reduceCtorEq, num, boo, str, ints, aV, aTab, aInst, aS, aT, aC, found, pairA, aFk, vT]) (by simp [cst, ends, ite_true, ite_false, reduceIte, Nat.reduceEqDiff, Nat.reduceLeDiff, Nat.reduceLT, Nat.reduceAdd, reduceCtorEq, num, boo, str, ints, aV, aTab, aInst, aS, aT, aC, found, pairA, aFk, vT]) (by simp [cst, ends, ite_true, ite_false, reduceIte, Nat.reduceEqDiff, Nat.reduceLeDiff, Nat.reduceLT, Nat.reduceAdd, reduceCtorEq, num, boo, str, ints, aV, aTab, aInst, aS, aT, aC, found, pairA, aFk, vT])
  intro I hI n hn hi
  simp -implicitDefEqProofs only [cst, ↓steps, push_cast, reduceIte, Nat.reduceEqDiff, Nat.reduceAdd, Nat.reduceMul, Nat.reduceLT, Nat.reduceLeDiff, Int.reduceToNat, Int.reduceLE, Int.reduceLT, reduceCtorEq, tte, num, boo, str, ints, aV, aTab, aInst, aS, aT, aC, found, pairA, aFk, vT]
  refine bcase_intro (fun h => ?_) fun h => ?_
  · simp only [decide_eq_true_eq] at h
    have h' : n < s.length := by omega
    have hw := wrap_succ h' (by omega)
    have hg : s.getD n default ∈ s := getD_mem h'
    have hE : refErr s (s.getD n default) ≠ 0 → num (refErr s (s.getD n default)) = R := fun hne => by
      have := ferr_at (refErr s) s n h' hi hne
      rw [← hr, hM2, this, if_pos hne]
    refine ⟨(by first | omega | trivial | (refine ⟨?_, ?_⟩ <;> first | omega | trivial | (refine ⟨?_, ?_⟩ <;> first | omega | trivial | (refine ⟨?_, ?_⟩ <;> first | omega | trivial | rfl)))), ?_⟩
    generalize hu : s.getD n default = u at hg hE
    have hT := hs.tab u hg
    have hTf := hT.fors
    refine loop_count mixed ttok 57 [1, 9, 48, 49, 50, 55, 56] [1, 9] (by simp only [pickT, ends, ite_true, ite_false, reduceIte, Nat.reduceEqDiff, Nat.reduceLeDiff, Nat.reduceLT, Nat.reduceAdd, reduceCtorEq, num, boo, str, ints, aV, aTab, aInst, aS, aT, aC, found, pairA, aFk, vT]; rfl) (by simp only [pickO, consO_some, ends, ite_true, ite_false, reduceIte, Nat.reduceEqDiff, Nat.reduceLeDiff, Nat.reduceLT, Nat.reduceAdd, reduceCtorEq, num, boo, str, ints, aV, aTab, aInst, aS, aT, aC, found, pairA, aFk, vT]; rfl) u.foreigns.length (fun k => ∀ i, i < k → refM s u (u.foreigns.getD i default) = 0) (fun _ => []) (fun _ => []) (fun i h => absurd h (Nat.not_lt_zero _)) ?_ ?_
    · exact Weak.keepL (by simp [cst, ends, ite_true, ite_false, reduceIte, Nat.reduceEqDiff, Nat.reduceLeDiff, Nat.reduceLT, Nat.reduceAdd, reduceCtorEq, num, boo, str, ints, aV, aTab, aInst, aS, aT, aC, found, pairA, aFk, vT]) (by simp [cst, ends, ite_true, ite_false, reduceIte, Nat.reduceEqDiff, Nat.reduceLeDiff, Nat.reduceLT, Nat.reduceAdd, reduceCtorEq, num, boo, str, ints, aV, aTab, aInst, aS, aT, aC, found, pairA, aFk, vT]) (by simp [cst, ends, ite_true, ite_false, reduceIte, Nat.reduceEqDiff, Nat.reduceLeDiff, Nat.reduceLT, Nat.reduceAdd, reduceCtorEq, num, boo, str, ints, aV, aTab, aInst, aS, aT, aC, found, pairA, aFk, vT])
    intro J hJ k hk hki
    simp -implicitDefEqProofs only [cst, ↓steps, push_cast, reduceIte, Nat.reduceEqDiff, Nat.reduceAdd, Nat.reduceMul, Nat.reduceLT, Nat.reduceLeDiff, Int.reduceToNat, Int.reduceLE, Int.reduceLT, reduceCtorEq, tte, num, boo, str, ints, aV, aTab, aInst, aS, aT, aC, found, pairA, aFk, vT]
    refine bcase_intro (fun g => ?_) fun g => ?_
    · simp only [decide_eq_true_eq] at g
      have k' : k < u.foreigns.length := by omega
      have hwk := wrap_succ k' (by omega)
      have hfm : u.foreigns.getD k default ∈ u.foreigns := getD_mem k'
      refine ⟨(by first | omega | trivial | (refine ⟨?_, ?_⟩ <;> first | omega | trivial | (refine ⟨?_, ?_⟩ <;> first | omega | trivial | (refine ⟨?_, ?_⟩ <;> first | omega | trivial | rfl)))), ?_⟩
      refine callx_of [[6], [0, 3, 1, 1, 2, 6], [1, 0]] [] rfl (c_reference s u (u.foreigns.getD k default) hl (hT.forss _ hfm) (table_fors (htab u hg) _ hfm) (fun v hv => table_prim (htab v hv))) (by first | (simp; done) | (simp [rowsOf_length]; done) | (simp [rowsOf_length]; omega)) (by first | (simp only [ends, ite_true, ite_false, reduceIte, Nat.reduceEqDiff, Nat.reduceLeDiff, Nat.reduceLT, Nat.reduceAdd, reduceCtorEq, num, boo, str, ints, aV, aTab, aInst, aS, aT, aC, found, pairA, aFk, vT, num, boo, str, aE_eq, aV]; done) | simp [ends, ite_true, ite_false, reduceIte, Nat.reduceEqDiff, Nat.reduceLeDiff, Nat.reduceLT, Nat.reduceAdd, reduceCtorEq, num, boo, str, ints, aV, aTab, aInst, aS, aT, aC, found, pairA, aFk, vT, num, boo, str, aE_eq, aV]) (by first | rfl | (simp only [ends, ite_true, ite_false, reduceIte, Nat.reduceEqDiff, Nat.reduceLeDiff, Nat.reduceLT, Nat.reduceAdd, reduceCtorEq, num, boo, str, ints, aV, aTab, aInst, aS, aT, aC, found, pairA, aFk, vT, num, boo, str, aE_eq, aV]; done) | simp [ends, ite_true, ite_false, reduceIte, Nat.reduceEqDiff, Nat.reduceLeDiff, Nat.reduceLT, Nat.reduceAdd, reduceCtorEq, num, boo, str, ints, aV, aTab, aInst, aS, aT, aC, found, pairA, aFk, vT, num, boo, str, aE_eq, aV]) (by simp only [ends, ite_true, ite_false, reduceIte, Nat.reduceEqDiff, Nat.reduceLeDiff, Nat.reduceLT, Nat.reduceAdd, reduceCtorEq, num, boo, str, ints, aV, aTab, aInst, aS, aT, aC, found, pairA, aFk, vT]) (by simp [idsOk, lookO, updO, ren1]) ?_
      simp -implicitDefEqProofs only [↓steps, push_cast, reduceIte, Nat.reduceEqDiff, Nat.reduceAdd, Nat.reduceMul, Nat.reduceLT, Nat.reduceLeDiff, Int.reduceToNat, Int.reduceLE, Int.reduceLT, reduceCtorEq, tte, num, boo, str, ints, aV, aTab, aInst, aS, aT, aC, found, pairA, aFk, vT]
      refine bcase_intro (fun g3 => ?_) fun g3 => ?_
      · have g3' : refM s u (u.foreigns.getD k default) ≠ 0 := by simpa using g3
        have hc : refErr s u = refM s u (u.foreigns.getD k default) := ferr_at (refM s u) u.foreigns k k' hki g3'
        exact ret_d trivial (by rw [← hE (by rw [hc]; exact g3'), hc]; rfl) (by simp only [ends, ite_true, ite_false, reduceIte, Nat.reduceEqDiff, Nat.reduceLeDiff, Nat.reduceLT, Nat.reduceAdd, reduceCtorEq, num, boo, str, ints, aV, aTab, aInst, aS, aT, aC, found, pairA, aFk, vT])
      · have g3' : refM s u (u.foreigns.getD k default) = 0 := by simpa using g3
        exact cnt_again hJ k rfl k' (fun i h2 => if h3 : i = k then by rw [h3]; exact g3' else hki i (by omega)) (by simp only [hwk, ends, ite_true, ite_false, reduceIte, Nat.reduceEqDiff, Nat.reduceLeDiff, Nat.reduceLT, Nat.reduceAdd, reduceCtorEq, num, boo, str, ints, aV, aTab, aInst, aS, aT, aC, found, pairA, aFk, vT]) (by simp [hwk, ends, ite_true, ite_false, reduceIte, Nat.reduceEqDiff, Nat.reduceLeDiff, Nat.reduceLT, Nat.reduceAdd, reduceCtorEq, num, boo, str, ints, aV, aTab, aInst, aS, aT, aC, found, pairA, aFk, vT]) (by simp [hwk, ends, ite_true, ite_false, reduceIte, Nat.reduceEqDiff, Nat.reduceLeDiff, Nat.reduceLT, Nat.reduceAdd, reduceCtorEq, num, boo, str, ints, aV, aTab, aInst, aS, aT, aC, found, pairA, aFk, vT]) (by simp [hwk, ends, ite_true, ite_false, reduceIte, Nat.reduceEqDiff, Nat.reduceLeDiff, Nat.reduceLT, Nat.reduceAdd, reduceCtorEq, num, boo, str, ints, aV, aTab, aInst, aS, aT, aC, found, pairA, aFk, vT])
    · simp only [decide_eq_false_iff_not] at g
      obtain rfl : k = u.foreigns.length := by omega
      have hz : refErr s u = 0 := ferr_none (refM s u) u.foreigns hki
      exact cnt_again hI n rfl h' (fun i h2 => if h3 : i = n then by rw [h3, hu]; exact hz else hi i (by omega)) (by simp only [hw, ends, ite_true, ite_false, reduceIte, Nat.reduceEqDiff, Nat.reduceLeDiff, Nat.reduceLT, Nat.reduceAdd, reduceCtorEq, num, boo, str, ints, aV, aTab, aInst, aS, aT, aC, found, pairA, aFk, vT]) (by simp [hw, ends, ite_true, ite_false, reduceIte, Nat.reduceEqDiff, Nat.reduceLeDiff, Nat.reduceLT, Nat.reduceAdd, reduceCtorEq, num, boo, str, ints, aV, aTab, aInst, aS, aT, aC, found, pairA, aFk, vT]) (by simp [hw, ends, ite_true, ite_false, reduceIte, Nat.reduceEqDiff, Nat.reduceLeDiff, Nat.reduceLT, Nat.reduceAdd, reduceCtorEq, num, boo, str, ints, aV, aTab, aInst, aS, aT, aC, found, pairA, aFk, vT]) (by simp [hw, ends, ite_true, ite_false, reduceIte, Nat.reduceEqDiff, Nat.reduceLeDiff, Nat.reduceLT, Nat.reduceAdd, reduceCtorEq, num, boo, str, ints, aV, aTab, aInst, aS, aT, aC, found, pairA, aFk, vT])
  simp only [decide_eq_false_iff_not] at h
  obtain rfl : n = s.length := by omega
  clear hI
  have hz : ferr (refErr s) s = 0 := ferr_none (refErr s) s hi
  have hall : ∀ t ∈ s, ∀ f ∈ t.foreigns, 0 ≤ byT s f.table := fun t ht f hf => refM_at (ferr_zero (ferr_zero hz t ht) f hf)
  refine callx_of [[6]] [] rfl (c_order s (by omega) (fun t ht => (hs.tab t ht).fors) hall) (by first | (simp; done) | (simp [rowsOf_length]; done) | (simp [rowsOf_length]; omega)) (by first | (simp only [ends, ite_true, ite_false, reduceIte, Nat.reduceEqDiff, Nat.reduceLeDiff, Nat.reduceLT, Nat.reduceAdd, reduceCtorEq, num, boo, str, ints, aV, aTab, aInst, aS, aT, aC, found, pairA, aFk, vT, num, boo, str, aE_eq, aV]; done) | simp [ends, ite_true, ite_false, reduceIte, Nat.reduceEqDiff, Nat.reduceLeDiff, Nat.reduceLT, Nat.reduceAdd, reduceCtorEq, num, boo, str, ints, aV, aTab, aInst, aS, aT, aC, found, pairA, aFk, vT, num, boo, str, aE_eq, aV]) (by first | rfl | (simp only [ends, ite_true, ite_false, reduceIte, Nat.reduceEqDiff, Nat.reduceLeDiff, Nat.reduceLT, Nat.reduceAdd, reduceCtorEq, num, boo, str, ints, aV, aTab, aInst, aS, aT, aC, found, pairA, aFk, vT, num, boo, str, aE_eq, aV]; done) | simp [ends, ite_true, ite_false, reduceIte, Nat.reduceEqDiff, Nat.reduceLeDiff, Nat.reduceLT, Nat.reduceAdd, reduceCtorEq, num, boo, str, ints, aV, aTab, aInst, aS, aT, aC, found, pairA, aFk, vT, num, boo, str, aE_eq, aV]) (by simp only [ends, ite_true, ite_false, reduceIte, Nat.reduceEqDiff, Nat.reduceLeDiff, Nat.reduceLT, Nat.reduceAdd, reduceCtorEq, num, boo, str, ints, aV, aTab, aInst, aS, aT, aC, found, pairA, aFk, vT]) (by simp [idsOk, lookO, updO, ren1]) ?_
  simp -implicitDefEqProofs only [↓steps, push_cast, reduceIte, Nat.reduceEqDiff, Nat.reduceAdd, Nat.reduceMul, Nat.reduceLT, Nat.reduceLeDiff, Int.reduceToNat, Int.reduceLE, Int.reduceLT, reduceCtorEq, tte, num, boo, str, ints, aV, aTab, aInst, aS, aT, aC, found, pairA, aFk, vT]
  exact ret_d trivial (by rw [← hr, hM2, if_neg (by rw [hz]; decide)]; rfl) (by simp only [ends, ite_true, ite_false, reduceIte, Nat.reduceEqDiff, Nat.reduceLeDiff, Nat.reduceLT, Nat.reduceAdd, reduceCtorEq, num, boo, str, ints, aV, aTab, aInst, aS, aT, aC, found, pairA, aFk, vT])
end Go.Proofs.YtkccdfaelbepeaaDoor

namespace Go.Proofs.YtkccdfaelbepeaaDoor
open Go.Am
set_option linter.unusedVariables false
set_option maxRecDepth 100000
set_option maxHeartbeats 4000000

def badV (c : Col) (v : Val) : Bool := !validM v || ((v.kind != 0) && (v.kind != c.type))
def rowErr (t : Tbl) (r : Row) : Int := if (r.length : Int) ≠ t.columns.length then 9 else if (List.range r.length).all (fun j => !badV (t.columns.getD j default) (r.getD j default)) then 0 else 4
def tabF (t : Tbl) (l : Tab2) : Int := if (l.length : Int) > 200 then 8 else ferr (rowErr t) l
def instF (s : Sch) (i : Inst) (n : Nat) : Int := tabF (s.getD n default) (i.getD n default)
def fitsM (s : Sch) (i : Inst) : Int :=
  if validS s ≠ 0 then validS s else if (i.length : Int) ≠ s.length then 9 else ferrN (instF s i) s.length
structure SmallI (i : Inst) : Prop where
  len : i.length ≤ 1000
  tab : ∀ l ∈ i, l.length ≤ 1000
  row : ∀ l ∈ i, ∀ r ∈ l, r.length ≤ 1000
theorem eqN_of {a b : Nat} (h : ((a : Int) != (b : Int)) = false) : ¬ (a : Int) ≠ b := by have := eq_nat h; omega
theorem neN_of {a b : Nat} (h : ((a : Int) != (b : Int)) = true) : (a : Int) ≠ b := by have := ne_nat h; omega

theorem c_fits (s : Sch) (inst : Inst) (hs : SmallS s) (hi : SmallI inst) : ACall Tryd.prog 7 [aS s, aInst inst] [] (num (fitsM s inst)) [] := by
  refine ACall.enter mixed ttok Tryd.func7 rfl rfl _ Tryd.ntmps7 (Nat.le_of_ble_eq_true rfl) (by kernel_rfl) _ (congrArg Array.toList Tryd.results7) ?_
  generalize hr : num (fitsM s inst) = R
  have hl := hs.len
  have hli := hi.len
  simp -implicitDefEqProofs only [argT, ↓steps, push_cast, reduceIte, Nat.reduceEqDiff, Nat.reduceAdd, Nat.reduceMul, Nat.reduceLT, Nat.reduceLeDiff, Int.reduceToNat, Int.reduceLE, Int.reduceLT, reduceCtorEq, tte, num, boo, str, ints, aV, aTab, aInst, aS, aT, aC, found, pairA, aFk, vT, rTab, rRow]
  refine callx_of [[6]] [] rfl (c_svalid s hs) (by first | (simp; done) | (simp [rowsOf_length]; done) | (simp [rowsOf_length]; omega)) (by first | (simp only [ends, ite_true, ite_false, reduceIte, Nat.reduceEqDiff, Nat.reduceLeDiff, Nat.reduceLT, Nat.reduceAdd, reduceCtorEq, num, boo, str, ints, aV, aTab, aInst, aS, aT, aC, found, pairA, aFk, vT, rTab, rRow, num, boo, str, aE_eq, aV]; done) | simp [ends, ite_true, ite_false, reduceIte, Nat.reduceEqDiff, Nat.reduceLeDiff, Nat.reduceLT, Nat.reduceAdd, reduceCtorEq, num, boo, str, ints, aV, aTab, aInst, aS, aT, aC, found, pairA, aFk, vT, rTab, rRow, num, boo, str, aE_eq, aV]) (by first | rfl | (simp only [ends, ite_true, ite_false, reduceIte, Nat.reduceEqDiff, Nat.reduceLeDiff, Nat.reduceLT, Nat.reduceAdd, reduceCtorEq, num, boo, str, ints, aV, aTab, aInst, aS, aT, aC, found, pairA, aFk, vT, rTab, rRow, num, boo, str, aE_eq, aV]; done) | simp [ends, ite_true, ite_false, reduceIte, Nat.reduceEqDiff, Nat.reduceLeDiff, Nat.reduceLT, Nat.reduceAdd, reduceCtorEq, num, boo, str, ints, aV, aTab, aInst, aS, aT, aC, found, pairA, aFk, vT, rTab, rRow, num, boo, str, aE_eq, aV]) (by simp only [ends, ite_true, ite_false, reduceIte, Nat.reduceEqDiff, Nat.reduceLeDiff, Nat.reduceLT, Nat.reduceAdd, reduceCtorEq, num, boo, str, ints, aV, aTab, aInst, aS, aT, aC, found, pairA, aFk, vT, rTab, rRow]) (by simp [idsOk, lookO, updO, ren1]) ?_
  simp -implicitDefEqProofs only [↓steps, push_cast, reduceIte, Nat.reduceEqDiff, Nat.reduceAdd, Nat.reduceMul, Nat.reduceLT, Nat.reduceLeDiff, Int.reduceToNat, Int.reduceLE, Int.reduceLT, reduceCtorEq, tte, num, boo, str, ints, aV, aTab, aInst, aS, aT, aC, found, pairA, aFk, vT, rTab, rRow]
  refine bcase_intro (fun h0 => ?_) fun h0 => ?_
  · have h0' : validS s ≠ 0 := by simpa using h0
    exact ret_d trivial (by rw [← hr, fitsM, if_pos h0']; rfl) (by simp only [ends, ite_true, ite_false, reduceIte, Nat.reduceEqDiff, Nat.reduceLeDiff, Nat.reduceLT, Nat.reduceAdd, reduceCtorEq, num, boo, str, ints, aV, aTab, aInst, aS, aT, aC, found, pairA, aFk, vT, rTab, rRow])
  have h0' : ¬ validS s ≠ 0 := by simpa using h0
  refine bcase_intro (fun h1 => ?_) fun h1 => ?_
  · exact ret_d trivial (by rw [← hr, fitsM, if_neg h0', if_pos (neN_of h1)]; rfl) (by simp only [ends, ite_true, ite_false, reduceIte, Nat.reduceEqDiff, Nat.reduceLeDiff, Nat.reduceLT, Nat.reduceAdd, reduceCtorEq, num, boo, str, ints, aV, aTab, aInst, aS, aT, aC, found, pairA, aFk, vT, rTab, rRow])
  have hlen := eq_nat h1
  have hM : fitsM s inst = ferrN (instF s inst) s.length := by rw [fitsM, if_neg h0', if_neg (eqN_of h1)]
  refine loop_count mixed ttok 27 [2, 3, 25, 26] [2, 3] (by simp only [pickT, ends, ite_true, ite_false, reduceIte, Nat.reduceEqDiff, Nat.reduceLeDiff, Nat.reduceLT, Nat.reduceAdd, reduceCtorEq, num, boo, str, ints, aV, aTab, aInst, aS, aT, aC, found, pairA, aFk, vT, rTab, rRow]; rfl) (by simp only [pickO, consO_some, ends, ite_true, ite_false, reduceIte, Nat.reduceEqDiff, Nat.reduceLeDiff, Nat.reduceLT, Nat.reduceAdd, reduceCtorEq, num, boo, str, ints, aV, aTab, aInst, aS, aT, aC, found, pairA, aFk, vT, rTab, rRow]; rfl) s.length (fun n => ∀ i, i < n → instF s inst i = 0) (fun _ => []) (fun _ => []) (fun i h => absurd h (Nat.not_lt_zero _)) ?_ ?_
  · exact Weak.keepL (by simp [cst, ends, ite_true, ite_false, reduceIte, Nat.reduceEqDiff, Nat.reduceLeDiff, Nat.reduceLT, Nat.reduceAdd, reduceCtorEq, num, boo, str, ints, aV, aTab, aInst, aS, aT, aC, found, pairA, aFk, vT, rTab, rRow]) (by simp [cst, ends, ite_true, ite_false, reduceIte, Nat.reduceEqDiff, Nat.reduceLeDiff, Nat.reduceLT, Nat.reduceAdd, reduceCtorEq, num, boo, str, ints, aV, aTab, aInst, aS, aT, aC, found, pairA, aFk, vT, rTab, rRow]) (by simp [cst, ends, ite_true, ite_false, reduceIte, Nat.reduceEqDiff, Nat.reduceLeDiff, Nat.reduceLT, Nat.reduceAdd, reduceCtorEq, num, boo, str, ints, aV, aTab, aInst, aS, aT, aC, found, pairA, aFk, vT, rTab, rRow])
  intro I hI n hn hii
  simp -implicitDefEqProofs only [cst, ↓steps, push_cast, reduceIte, Nat.reduceEqDiff, Nat.reduceAdd, Nat.reduceMul, Nat.reduceLT, Nat.reduceLeDiff, Int.reduceToNat, Int.reduceLE, Int.reduceLT, reduceCtorEq, tte, num, boo, str, ints, aV, aTab, aInst, aS, aT, aC, found, pairA, aFk, vT, rTab, rRow]
  refine bcase_intro (fun h => ?_) fun h => ?_
  · simp only [decide_eq_true_eq] at h
    have h' : n < s.length := by omega
    have hw := wrap_succ h' (by omega)
    have hE : instF s inst n ≠ 0 → num (instF s inst n) = R := fun hne => by
      have := ferrN_at h' hii hne
      rw [← hr, hM, this]
    have hzero : instF s inst n = 0 → ∀ i, i < n + 1 → instF s inst i = 0 := fun hz i h2 => if h3 : i = n then by rw [h3]; exact hz else hii i (by omega)
    have hgt : s.getD n default ∈ s := getD_mem h'
    have hgl : inst.getD n default ∈ inst := getD_mem (by omega)
    have hll := hi.tab _ hgl
    have hlr := hi.row _ hgl
    have hTc := (hs.tab _ hgt).cols
    unfold instF at hE hzero
    generalize hT : s.getD n default = T at hE hTc hzero
    generalize hL : inst.getD n default = L at hE hll hlr hzero
    refine ⟨(by first | omega | trivial | (refine ⟨?_, ?_⟩ <;> first | omega | trivial | (refine ⟨?_, ?_⟩ <;> first | omega | trivial | (refine ⟨?_, ?_⟩ <;> first | omega | trivial | rfl)))), by omega, ?_⟩
    refine bcase_intro (fun h2 => ?_) fun h2 => ?_
    · have hc : tabF T L = 8 := if_pos (of_decide_eq_true h2)
      exact ret_d trivial (by rw [← hE (by rw [hc]; decide), hc]; rfl) (by simp only [ends, ite_true, ite_false, reduceIte, Nat.reduceEqDiff, Nat.reduceLeDiff, Nat.reduceLT, Nat.reduceAdd, reduceCtorEq, num, boo, str, ints, aV, aTab, aInst, aS, aT, aC, found, pairA, aFk, vT, rTab, rRow])
    have hcT : tabF T L = ferr (rowErr T) L := if_neg (of_decide_eq_false h2)
    rw [hcT] at hE hzero
    refine ⟨by omega, ?_⟩
    refine loop_count mixed ttok 45 [2, 3, 7, 25, 26, 27, 43, 44] [2, 3, 7] (by simp only [pickT, ends, ite_true, ite_false, reduceIte, Nat.reduceEqDiff, Nat.reduceLeDiff, Nat.reduceLT, Nat.reduceAdd, reduceCtorEq, num, boo, str, ints, aV, aTab, aInst, aS, aT, aC, found, pairA, aFk, vT, rTab, rRow]; rfl) (by simp only [pickO, consO_some, ends, ite_true, ite_false, reduceIte, Nat.reduceEqDiff, Nat.reduceLeDiff, Nat.reduceLT, Nat.reduceAdd, reduceCtorEq, num, boo, str, ints, aV, aTab, aInst, aS, aT, aC, found, pairA, aFk, vT, rTab, rRow]; rfl) L.length (fun k => ∀ i, i < k → rowErr T (L.getD i default) = 0) (fun _ => []) (fun _ => []) (fun i h => absurd h (Nat.not_lt_zero _)) ?_ ?_
    · exact Weak.keepL (by simp [cst, ends, ite_true, ite_false, reduceIte, Nat.reduceEqDiff, Nat.reduceLeDiff, Nat.reduceLT, Nat.reduceAdd, reduceCtorEq, num, boo, str, ints, aV, aTab, aInst, aS, aT, aC, found, pairA, aFk, vT, rTab, rRow]) (by simp [cst, ends, ite_true, ite_false, reduceIte, Nat.reduceEqDiff, Nat.reduceLeDiff, Nat.reduceLT, Nat.reduceAdd, reduceCtorEq, num, boo, str, ints, aV, aTab, aInst, aS, aT, aC, found, pairA, aFk, vT, rTab, rRow]) (by simp [cst, ends, ite_true, ite_false, reduceIte, Nat.reduceEqDiff, Nat.reduceLeDiff, Nat.reduceLT, Nat.reduceAdd, reduceCtorEq, num, boo, str, ints, aV, aTab, aInst, aS, aT, aC, found, pairA, aFk, vT, rTab, rRow])
    intro J hJ k hk hki
    simp -implicitDefEqProofs only [cst, ↓steps, push_cast, reduceIte, Nat.reduceEqDiff, Nat.reduceAdd, Nat.reduceMul, Nat.reduceLT, Nat.reduceLeDiff, Int.reduceToNat, Int.reduceLE, Int.reduceLT, reduceCtorEq, tte, num, boo, str, ints, aV, aTab, aInst, aS, aT, aC, found, pairA, aFk, vT, rTab, rRow]
    refine bcase_intro (fun g => ?_) fun g => ?_
    · simp only [decide_eq_true_eq] at g
      have k' : k < L.length := by omega
      have hwk := wrap_succ k' (by omega)
      have hrm : L.getD k default ∈ L := getD_mem k'
      have hrl := hlr _ hrm
      have hE2 : rowErr T (L.getD k default) ≠ 0 → num (rowErr T (L.getD k default)) = R := fun hne => by
        have := ferr_at (rowErr T) L k k' hki hne
        rw [← hE (by rw [this]; exact hne), this]
      have hzero2 : rowErr T (L.getD k default) = 0 → ∀ i, i < k + 1 → rowErr T (L.getD i default) = 0 := fun hz i h2 => if h3 : i = k then by rw [h3]; exact hz else hki i (by omega)
      generalize hW : L.getD k default = W at hE2 hzero2 hrl
      refine ⟨(by first | omega | trivial | (refine ⟨?_, ?_⟩ <;> first | omega | trivial | (refine ⟨?_, ?_⟩ <;> first | omega | trivial | (refine ⟨?_, ?_⟩ <;> first | omega | trivial | rfl)))), ?_⟩
      refine bcase_intro (fun h3 => ?_) fun h3 => ?_
      · have hc : rowErr T W = 9 := if_pos (neN_of h3)
        exact ret_d trivial (by rw [← hE2 (by rw [hc]; decide), hc]; rfl) (by simp only [ends, ite_true, ite_false, reduceIte, Nat.reduceEqDiff, Nat.reduceLeDiff, Nat.reduceLT, Nat.reduceAdd, reduceCtorEq, num, boo, str, ints, aV, aTab, aInst, aS, aT, aC, found, pairA, aFk, vT, rTab, rRow])
      have hWl := eq_nat h3
      have hcW : rowErr T W = if (List.range W.length).all (fun j => !badV (T.columns.getD j default) (W.getD j default)) then 0 else 4 := if_neg (eqN_of h3)
      refine loop_count mixed ttok 57 [2, 3, 7, 25, 26, 27, 43, 44, 45, 55, 56] [2, 3, 7] (by simp only [pickT, ends, ite_true, ite_false, reduceIte, Nat.reduceEqDiff, Nat.reduceLeDiff, Nat.reduceLT, Nat.reduceAdd, reduceCtorEq, num, boo, str, ints, aV, aTab, aInst, aS, aT, aC, found, pairA, aFk, vT, rTab, rRow]; rfl) (by simp only [pickO, consO_some, ends, ite_true, ite_false, reduceIte, Nat.reduceEqDiff, Nat.reduceLeDiff, Nat.reduceLT, Nat.reduceAdd, reduceCtorEq, num, boo, str, ints, aV, aTab, aInst, aS, aT, aC, found, pairA, aFk, vT, rTab, rRow]; rfl) W.length (fun j => ∀ i, i < j → (!badV (T.columns.getD i default) (W.getD i default)) = true) (fun _ => []) (fun _ => []) (fun i h => absurd h (Nat.not_lt_zero _)) ?_ ?_
      · exact Weak.keepL (by simp [cst, ends, ite_true, ite_false, reduceIte, Nat.reduceEqDiff, Nat.reduceLeDiff, Nat.reduceLT, Nat.reduceAdd, reduceCtorEq, num, boo, str, ints, aV, aTab, aInst, aS, aT, aC, found, pairA, aFk, vT, rTab, rRow]) (by simp [cst, ends, ite_true, ite_false, reduceIte, Nat.reduceEqDiff, Nat.reduceLeDiff, Nat.reduceLT, Nat.reduceAdd, reduceCtorEq, num, boo, str, ints, aV, aTab, aInst, aS, aT, aC, found, pairA, aFk, vT, rTab, rRow]) (by simp [cst, ends, ite_true, ite_false, reduceIte, Nat.reduceEqDiff, Nat.reduceLeDiff, Nat.reduceLT, Nat.reduceAdd, reduceCtorEq, num, boo, str, ints, aV, aTab, aInst, aS, aT, aC, found, pairA, aFk, vT, rTab, rRow])
      intro Q hQ j hj hji
      simp -implicitDefEqProofs only [cst, ↓steps, push_cast, reduceIte, Nat.reduceEqDiff, Nat.reduceAdd, Nat.reduceMul, Nat.reduceLT, Nat.reduceLeDiff, Int.reduceToNat, Int.reduceLE, Int.reduceLT, reduceCtorEq, tte, num, boo, str, ints, aV, aTab, aInst, aS, aT, aC, found, pairA, aFk, vT, rTab, rRow]
      refine bcase_intro (fun q => ?_) fun q => ?_
      · simp only [decide_eq_true_eq] at q
        have j' : j < W.length := by omega
        have hwj := wrap_succ j' (by omega)
        refine ⟨(by first | omega | trivial | (refine ⟨?_, ?_⟩ <;> first | omega | trivial | (refine ⟨?_, ?_⟩ <;> first | omega | trivial | (refine ⟨?_, ?_⟩ <;> first | omega | trivial | rfl)))), ?_⟩
        have hbad : badV (T.columns.getD j default) (W.getD j default) = true → num 4 = R := fun hb => by
          have : rowErr T W = 4 := by rw [hcW, bad_range (n := j) j' (by rw [hb]; rfl)]; rfl
          rw [← hE2 (by rw [this]; decide), this]
        have hgood : badV (T.columns.getD j default) (W.getD j default) = false → ∀ i, i < j + 1 → (!badV (T.columns.getD i default) (W.getD i default)) = true := fun hb i h2 => if h3 : i = j then by rw [h3, hb]; rfl else hji i (by omega)
        refine callx_of [[0, 0, 0]] [] rfl (c_valid (W.getD j default)) (by first | (simp; done) | (simp [rowsOf_length]; done) | (simp [rowsOf_length]; omega)) (by first | (simp only [ends, ite_true, ite_false, reduceIte, Nat.reduceEqDiff, Nat.reduceLeDiff, Nat.reduceLT, Nat.reduceAdd, reduceCtorEq, num, boo, str, ints, aV, aTab, aInst, aS, aT, aC, found, pairA, aFk, vT, rTab, rRow, num, boo, str, aE_eq, aV]; done) | simp [ends, ite_true, ite_false, reduceIte, Nat.reduceEqDiff, Nat.reduceLeDiff, Nat.reduceLT, Nat.reduceAdd, reduceCtorEq, num, boo, str, ints, aV, aTab, aInst, aS, aT, aC, found, pairA, aFk, vT, rTab, rRow, num, boo, str, aE_eq, aV]) (by first | rfl | (simp only [ends, ite_true, ite_false, reduceIte, Nat.reduceEqDiff, Nat.reduceLeDiff, Nat.reduceLT, Nat.reduceAdd, reduceCtorEq, num, boo, str, ints, aV, aTab, aInst, aS, aT, aC, found, pairA, aFk, vT, rTab, rRow, num, boo, str, aE_eq, aV]; done) | simp [ends, ite_true, ite_false, reduceIte, Nat.reduceEqDiff, Nat.reduceLeDiff, Nat.reduceLT, Nat.reduceAdd, reduceCtorEq, num, boo, str, ints, aV, aTab, aInst, aS, aT, aC, found, pairA, aFk, vT, rTab, rRow, num, boo, str, aE_eq, aV]) (by simp only [ends, ite_true, ite_false, reduceIte, Nat.reduceEqDiff, Nat.reduceLeDiff, Nat.reduceLT, Nat.reduceAdd, reduceCtorEq, num, boo, str, ints, aV, aTab, aInst, aS, aT, aC, found, pairA, aFk, vT, rTab, rRow]) (by simp [idsOk, lookO, updO, ren1]) ?_
        simp -implicitDefEqProofs only [↓steps, push_cast, reduceIte, Nat.reduceEqDiff, Nat.reduceAdd, Nat.reduceMul, Nat.reduceLT, Nat.reduceLeDiff, Int.reduceToNat, Int.reduceLE, Int.reduceLT, reduceCtorEq, tte, num, boo, str, ints, aV, aTab, aInst, aS, aT, aC, found, pairA, aFk, vT, rTab, rRow]
        refine bcase_intro (fun v1 => ?_) fun v1 => ?_
        · refine ⟨drawx_intro (by kernel_rfl), ?_⟩
          exact ret_d trivial (hbad (by rw [badV, v1, Bool.true_or])) (by simp only [ends, ite_true, ite_false, reduceIte, Nat.reduceEqDiff, Nat.reduceLeDiff, Nat.reduceLT, Nat.reduceAdd, reduceCtorEq, num, boo, str, ints, aV, aTab, aInst, aS, aT, aC, found, pairA, aFk, vT, rTab, rRow])
        refine bcase_intro (fun v2 => ?_) fun v2 => ?_
        · refine ⟨by omega, drawx_intro (by kernel_rfl), ?_⟩
          refine bcase_intro (fun v3 => ?_) fun v3 => ?_
          · exact ret_d trivial (hbad (by rw [badV, v2, v3]; simp)) (by simp only [ends, ite_true, ite_false, reduceIte, Nat.reduceEqDiff, Nat.reduceLeDiff, Nat.reduceLT, Nat.reduceAdd, reduceCtorEq, num, boo, str, ints, aV, aTab, aInst, aS, aT, aC, found, pairA, aFk, vT, rTab, rRow])
          · exact cnt_again hQ j rfl j' (hgood (by rw [badV, v1, v3]; simp)) (by simp only [hwj, ends, ite_true, ite_false, reduceIte, Nat.reduceEqDiff, Nat.reduceLeDiff, Nat.reduceLT, Nat.reduceAdd, reduceCtorEq, num, boo, str, ints, aV, aTab, aInst, aS, aT, aC, found, pairA, aFk, vT, rTab, rRow]) (by simp [hwj, ends, ite_true, ite_false, reduceIte, Nat.reduceEqDiff, Nat.reduceLeDiff, Nat.reduceLT, Nat.reduceAdd, reduceCtorEq, num, boo, str, ints, aV, aTab, aInst, aS, aT, aC, found, pairA, aFk, vT, rTab, rRow]) (by simp [hwj, ends, ite_true, ite_false, reduceIte, Nat.reduceEqDiff, Nat.reduceLeDiff, Nat.reduceLT, Nat.reduceAdd, reduceCtorEq, num, boo, str, ints, aV, aTab, aInst, aS, aT, aC, found, pairA, aFk, vT, rTab, rRow]) (by simp [hwj, ends, ite_true, ite_false, reduceIte, Nat.reduceEqDiff, Nat.reduceLeDiff, Nat.reduceLT, Nat.reduceAdd, reduceCtorEq, num, boo, str, ints, aV, aTab, aInst, aS, aT, aC, found, pairA, aFk, vT, rTab, rRow])
        · refine ⟨drawx_intro (by kernel_rfl), ?_⟩
          exact cnt_again hQ j rfl j' (hgood (by rw [badV, v1, v2]; simp)) (by simp only [hwj, ends, ite_true, ite_false, reduceIte, Nat.reduceEqDiff, Nat.reduceLeDiff, Nat.reduceLT, Nat.reduceAdd, reduceCtorEq, num, boo, str, ints, aV, aTab, aInst, aS, aT, aC, found, pairA, aFk, vT, rTab, rRow]) (by simp [hwj, ends, ite_true, ite_false, reduceIte, Nat.reduceEqDiff, Nat.reduceLeDiff, Nat.reduceLT, Nat.reduceAdd, reduceCtorEq, num, boo, str, ints, aV, aTab, aInst, aS, aT, aC, found, pairA, aFk, vT, rTab, rRow]) (by simp [hwj, ends, ite_true, ite_false, reduceIte, Nat.reduceEqDiff, Nat.reduceLeDiff, Nat.reduceLT, Nat.reduceAdd, reduceCtorEq, num, boo, str, ints, aV, aTab, aInst, aS, aT, aC, found, pairA, aFk, vT, rTab, rRow]) (by simp [hwj, ends, ite_true, ite_false, reduceIte, Nat.reduceEqDiff, Nat.reduceLeDiff, Nat.reduceLT, Nat.reduceAdd, reduceCtorEq, num, boo, str, ints, aV, aTab, aInst, aS, aT, aC, found, pairA, aFk, vT, rTab, rRow])
      · simp only [decide_eq_false_iff_not] at q
        obtain rfl : j = W.length := by omega
        have hz : rowErr T W = 0 := by rw [hcW, all_range.2 hji]; rfl
        exact cnt_again hJ k rfl k' (hzero2 hz) (by simp only [hwk, ends, ite_true, ite_false, reduceIte, Nat.reduceEqDiff, Nat.reduceLeDiff, Nat.reduceLT, Nat.reduceAdd, reduceCtorEq, num, boo, str, ints, aV, aTab, aInst, aS, aT, aC, found, pairA, aFk, vT, rTab, rRow]) (by simp [hwk, ends, ite_true, ite_false, reduceIte, Nat.reduceEqDiff, Nat.reduceLeDiff, Nat.reduceLT, Nat.reduceAdd, reduceCtorEq, num, boo, str, ints, aV, aTab, aInst, aS, aT, aC, found, pairA, aFk, vT, rTab, rRow]) (by simp [hwk, ends, ite_true, ite_false, reduceIte, Nat.reduceEqDiff, Nat.reduceLeDiff, Nat.reduceLT, Nat.reduceAdd, reduceCtorEq, num, boo, str, ints, aV, aTab, aInst, aS, aT, aC, found, pairA, aFk, vT, rTab, rRow]) (by simp [hwk, ends, ite_true, ite_false, reduceIte, Nat.reduceEqDiff, Nat.reduceLeDiff, Nat.reduceLT, Nat.reduceAdd, reduceCtorEq, num, boo, str, ints, aV, aTab, aInst, aS, aT, aC, found, pairA, aFk, vT, rTab, rRow])
    · simp only [decide_eq_false_iff_not] at g
      obtain rfl : k = L.length := by omega
      exact cnt_again hI n rfl h' (hzero (ferr_none (rowErr T) L hki)) (by simp only [hw, ends, ite_true, ite_false, reduceIte, Nat.reduceEqDiff, Nat.reduceLeDiff, Nat.reduceLT, Nat.reduceAdd, reduceCtorEq, num, boo, str, ints, aV, aTab, aInst, aS, aT, aC, found, pairA, aFk, vT, rTab, rRow]) (by simp [hw, ends, ite_true, ite_false, reduceIte, Nat.reduceEqDiff, Nat.reduceLeDiff, Nat.reduceLT, Nat.reduceAdd, reduceCtorEq, num, boo, str, ints, aV, aTab, aInst, aS, aT, aC, found, pairA, aFk, vT, rTab, rRow]) (by simp [hw, ends, ite_true, ite_false, reduceIte, Nat.reduceEqDiff, Nat.reduceLeDiff, Nat.reduceLT, Nat.reduceAdd, reduceCtorEq, num, boo, str, ints, aV, aTab, aInst, aS, aT, aC, found, pairA, aFk, vT, rTab, rRow]) (by simp [hw, ends, ite_true, ite_false, reduceIte, Nat.reduceEqDiff, Nat.reduceLeDiff, Nat.reduceLT, Nat.reduceAdd, reduceCtorEq, num, boo, str, ints, aV, aTab, aInst, aS, aT, aC, found, pairA, aFk, vT, rTab, rRow])
  · simp only [decide_eq_false_iff_not] at h
    obtain rfl : n = s.length := by omega
    exact ret_d trivial (by rw [← hr, hM, ferrN_none hii]; rfl) (by simp only [ends, ite_true, ite_false, reduceIte, Nat.reduceEqDiff, Nat.reduceLeDiff, Nat.reduceLT, Nat.reduceAdd, reduceCtorEq, num, boo, str, ints, aV, aTab, aInst, aS, aT, aC, found, pairA, aFk, vT, rTab, rRow])
end Go.Proofs.YtkccdfaelbepeaaDoor

namespace Go.Proofs.YtkccdfaelbepeaaDoor
open Go.Am
set_option linter.unusedVariables false
set_option maxRecDepth 100000
set_option maxHeartbeats 4000000

theorem c_all (l : List Int) (v : Int) (hl : l.length ≤ 1000000000) : ACall Tryd.prog 149 [ints l, num v] [] (boo (l.all fun x => x == v)) [] := by
  refine ACall.enter mixed ttok Tryd.func149 rfl rfl _ Tryd.ntmps149 (Nat.le_of_ble_eq_true rfl) (by kernel_rfl) _ (congrArg Array.toList Tryd.results149) ?_
  generalize hr : boo (l.all fun x => x == v) = R
  simp -implicitDefEqProofs only [argT, ↓steps, push_cast, reduceIte, Nat.reduceEqDiff, Nat.reduceAdd, Nat.reduceMul, Nat.reduceLT, Nat.reduceLeDiff, Int.reduceToNat, Int.reduceLE, Int.reduceLT, reduceCtorEq, tte, num, boo, str, ints, aV, aTab, aInst, aS, aT, aC, found, pairA, aFk, vT]
  refine loop_count mixed ttok 5 [0, 1] [] (by simp only [pickT, ends, ite_true, ite_false, reduceIte, Nat.reduceEqDiff, Nat.reduceLeDiff, Nat.reduceLT, Nat.reduceAdd, reduceCtorEq, num, boo, str, ints, aV, aTab, aInst, aS, aT, aC, found, pairA, aFk, vT]; rfl) (by simp only [pickO, consO_some, ends, ite_true, ite_false, reduceIte, Nat.reduceEqDiff, Nat.reduceLeDiff, Nat.reduceLT, Nat.reduceAdd, reduceCtorEq, num, boo, str, ints, aV, aTab, aInst, aS, aT, aC, found, pairA, aFk, vT]; rfl) l.length (fun n => ∀ i, i < n → (l.getD i default == v) = true) (fun _ => []) (fun _ => []) (fun i h => absurd h (Nat.not_lt_zero _)) ?_ ?_
  · exact Weak.keepL (by simp [cst, ends, ite_true, ite_false, reduceIte, Nat.reduceEqDiff, Nat.reduceLeDiff, Nat.reduceLT, Nat.reduceAdd, reduceCtorEq, num, boo, str, ints, aV, aTab, aInst, aS, aT, aC, found, pairA, aFk, vT]) (by simp [cst, ends, ite_true, ite_false, reduceIte, Nat.reduceEqDiff, Nat.reduceLeDiff, Nat.reduceLT, Nat.reduceAdd, reduceCtorEq, num, boo, str, ints, aV, aTab, aInst, aS, aT, aC, found, pairA, aFk, vT]) (by simp [cst, ends, ite_true, ite_false, reduceIte, Nat.reduceEqDiff, Nat.reduceLeDiff, Nat.reduceLT, Nat.reduceAdd, reduceCtorEq, num, boo, str, ints, aV, aTab, aInst, aS, aT, aC, found, pairA, aFk, vT])
  intro I hI n hn hi
  simp -implicitDefEqProofs only [cst, ↓steps, push_cast, reduceIte, Nat.reduceEqDiff, Nat.reduceAdd, Nat.reduceMul, Nat.reduceLT, Nat.reduceLeDiff, Int.reduceToNat, Int.reduceLE, Int.reduceLT, reduceCtorEq, tte, num, boo, str, ints, aV, aTab, aInst, aS, aT, aC, found, pairA, aFk, vT]
  refine bcase_intro (fun h => ?_) fun h => ?_
  · simp only [decide_eq_true_eq] at h
    have h' : n < l.length := by omega
    have hw := wrap_succ h' (by omega)
    refine ⟨(by first | omega | trivial | (refine ⟨?_, ?_⟩ <;> first | omega | trivial | (refine ⟨?_, ?_⟩ <;> first | omega | trivial | (refine ⟨?_, ?_⟩ <;> first | omega | trivial | rfl)))), ?_⟩
    refine bcase_intro (fun g => ?_) fun g => ?_
    · have : (l.all fun x => x == v) = false := by
        rw [List.all_eq_false]; exact ⟨_, getD_mem h', by simpa using g⟩
      exact ret_d trivial (by rw [← hr, this]; rfl) (by simp only [ends, ite_true, ite_false, reduceIte, Nat.reduceEqDiff, Nat.reduceLeDiff, Nat.reduceLT, Nat.reduceAdd, reduceCtorEq, num, boo, str, ints, aV, aTab, aInst, aS, aT, aC, found, pairA, aFk, vT])
    · have g' : (l.getD n default == v) = true := by simpa using g
      exact cnt_again hI n rfl h' (fun i h2 => if h3 : i = n then by rw [h3]; exact g' else hi i (by omega)) (by simp only [hw, ends, ite_true, ite_false, reduceIte, Nat.reduceEqDiff, Nat.reduceLeDiff, Nat.reduceLT, Nat.reduceAdd, reduceCtorEq, num, boo, str, ints, aV, aTab, aInst, aS, aT, aC, found, pairA, aFk, vT]) (by simp [hw, ends, ite_true, ite_false, reduceIte, Nat.reduceEqDiff, Nat.reduceLeDiff, Nat.reduceLT, Nat.reduceAdd, reduceCtorEq, num, boo, str, ints, aV, aTab, aInst, aS, aT, aC, found, pairA, aFk, vT]) (by simp [hw, ends, ite_true, ite_false, reduceIte, Nat.reduceEqDiff, Nat.reduceLeDiff, Nat.reduceLT, Nat.reduceAdd, reduceCtorEq, num, boo, str, ints, aV, aTab, aInst, aS, aT, aC, found, pairA, aFk, vT]) (by simp [hw, ends, ite_true, ite_false, reduceIte, Nat.reduceEqDiff, Nat.reduceLeDiff, Nat.reduceLT, Nat.reduceAdd, reduceCtorEq, num, boo, str, ints, aV, aTab, aInst, aS, aT, aC, found, pairA, aFk, vT])
  · simp only [decide_eq_false_iff_not] at h
    obtain rfl : n = l.length := by omega
    have : (l.all fun x => x == v) = true := by
      rw [List.all_eq_true]; intro x hx
      obtain ⟨i, h1, rfl⟩ := mem_getD hx
      exact hi i h1
    exact ret_d trivial (by rw [← hr, this]; rfl) (by simp only [ends, ite_true, ite_false, reduceIte, Nat.reduceEqDiff, Nat.reduceLeDiff, Nat.reduceLT, Nat.reduceAdd, reduceCtorEq, num, boo, str, ints, aV, aTab, aInst, aS, aT, aC, found, pairA, aFk, vT])
def kidsR (op n : Int) : Bool :=
  if op ≤ 5 then n == 0 else if (((op == 11 || op == 13) || op == 21) || op == 24) || op == 25 then n == 1
  else if op == 26 then n == 3 else if op == 28 then decide (n ≥ 2) else n == 2
theorem c_rkids (op n : Int) : ACall Tryd.prog 51 [num op, num n] [] (boo (kidsR op n)) [] := by
  refine ACall.enter mixed ttok Tryd.func51 rfl rfl _ Tryd.ntmps51 (Nat.le_of_ble_eq_true rfl) (by kernel_rfl) _ (congrArg Array.toList Tryd.results51) ?_
  generalize hr : boo (kidsR op n) = R
  simp -implicitDefEqProofs only [argT, ↓steps, push_cast, reduceIte, Nat.reduceEqDiff, Nat.reduceAdd, Nat.reduceMul, Nat.reduceLT, Nat.reduceLeDiff, Int.reduceToNat, Int.reduceLE, Int.reduceLT, reduceCtorEq, tte, num, boo, str, ints, aV, aTab, aInst, aS, aT, aC, found, pairA, aFk, vT]
  refine bcase_intro (fun h1 => ?_) fun h1 => ?_
  · exact ret_d trivial (by rw [← hr, kidsR, if_pos (of_decide_eq_true h1)]; rfl) (by simp only [ends, ite_true, ite_false, reduceIte, Nat.reduceEqDiff, Nat.reduceLeDiff, Nat.reduceLT, Nat.reduceAdd, reduceCtorEq, num, boo, str, ints, aV, aTab, aInst, aS, aT, aC, found, pairA, aFk, vT])
  have hk : kidsR op n = if (((op == 11 || op == 13) || op == 21) || op == 24) || op == 25 then n == 1 else if op == 26 then n == 3 else if op == 28 then decide (n ≥ 2) else n == 2 := if_neg (of_decide_eq_false h1)
  repeat' first
    | exact ret_d trivial (by rw [← hr, hk]; simp only [*, Bool.true_or, Bool.or_true, Bool.or_false, Bool.false_or, Bool.false_eq_true, if_true, if_false, boo]) (by simp only [ends, ite_true, ite_false, reduceIte, Nat.reduceEqDiff, Nat.reduceLeDiff, Nat.reduceLT, Nat.reduceAdd, reduceCtorEq, num, boo, str, ints, aV, aTab, aInst, aS, aT, aC, found, pairA, aFk, vT])
    | (refine bcase_intro (fun _ => ?_) fun _ => ?_)
theorem op_cases {op : Int} (h : isOp op = true) : ∃ n : Nat, n < 29 ∧ 1 ≤ n ∧ op = n := by
  simp only [isOp, Bool.and_eq_true, decide_eq_true_eq] at h
  exact ⟨op.toNat, by omega, by omega, by omega⟩
set_option synthInstance.maxSize 4000 in
set_option synthInstance.maxHeartbeats 400000 in
theorem kids_tab0 : ∀ n ∈ List.range 29, n = 0 ∨ (n = 1 ∨ n = 2 ∨ n = 3 ∨ n = 4 ∨ n = 5) ∧ (opTab.getD n default).kids = 0 ∨ (n = 11 ∨ n = 13 ∨ n = 21 ∨ n = 24 ∨ n = 25) ∧ (opTab.getD n default).kids = 1 ∨
    n = 26 ∧ (opTab.getD n default).kids = 3 ∨ n = 28 ∧ (opTab.getD n default).kids = 2 ∨
    (n = 6 ∨ n = 7 ∨ n = 8 ∨ n = 9 ∨ n = 10 ∨ n = 12 ∨ n = 14 ∨ n = 15 ∨ n = 16 ∨ n = 17 ∨ n = 18 ∨ n = 19 ∨ n = 20 ∨ n = 22 ∨ n = 23 ∨ n = 27) ∧ (opTab.getD n default).kids = 2 := by decide
theorem kids_tab (n : Nat) (h1 : n < 29) (h2 : 1 ≤ n) : (((n : Int) ≤ 5 ↔ (opTab.getD n default).kids = 0) ∧ (((((n : Int) = 11 ∨ (n : Int) = 13) ∨ (n : Int) = 21) ∨ (n : Int) = 24) ∨ (n : Int) = 25 ↔ (opTab.getD n default).kids = 1) ∧
    ((n : Int) = 26 ↔ (opTab.getD n default).kids = 3) ∧ ((opTab.getD n default).kids = 0 ∨ (opTab.getD n default).kids = 1 ∨ (opTab.getD n default).kids = 2 ∨ (opTab.getD n default).kids = 3) ∧
    ((n : Int) = 28 → (opTab.getD n default).kids = 2)) := by
  have := kids_tab0 n (by simpa using h1)
  generalize (opTab.getD n default).kids = k at this
  omega
theorem kids_count {e : Ex} (h : isOp e.op = true) : kidsR e.op e.kids.length = countM e := by
  obtain ⟨n, h1, h2, h3⟩ := op_cases h
  have hf : (findM e.op).kids = (opTab.getD n default).kids := by rw [findM, h, if_pos rfl, opAt, h3, Int.toNat_natCast]
  obtain ⟨a1, a2, a3, a4, a5⟩ := kids_tab n h1 h2
  rw [countM, h, hf, Bool.true_and, kidsR, h3]
  generalize (opTab.getD n default).kids = k at a1 a2 a3 a4 a5
  generalize e.kids.length = m
  rw [Bool.eq_iff_iff]
  simp only [Bool.or_eq_true, Bool.and_eq_true, beq_iff_eq, decide_eq_true_eq]
  by_cases b1 : (n : Int) ≤ 5
  · rw [if_pos b1]; simp only [beq_iff_eq]; have := a1.1 b1; omega
  · rw [if_neg b1]
    by_cases b2 : ((((n : Int) = 11 ∨ (n : Int) = 13) ∨ (n : Int) = 21) ∨ (n : Int) = 24) ∨ (n : Int) = 25
    · rw [if_pos b2]; simp only [beq_iff_eq]; have := a2.1 b2; omega
    · rw [if_neg b2]
      by_cases b3 : (n : Int) = 26
      · rw [if_pos b3]; simp only [beq_iff_eq]; have := a3.1 b3; omega
      · rw [if_neg b3]
        have c1 : ¬ k = 0 := fun e => b1 (a1.2 e)
        have c2 : ¬ k = 1 := fun e => b2 (a2.2 e)
        have c3 : ¬ k = 3 := fun e => b3 (a3.2 e)
        by_cases b4 : (n : Int) = 28
        · rw [if_pos b4]; simp only [decide_eq_true_eq]; have := a5 b4; omega
        · rw [if_neg b4]; simp only [beq_iff_eq]; omega
end Go.Proofs.YtkccdfaelbepeaaDoor

namespace Go.Proofs.YtkccdfaelbepeaaDoor
open Go.Am
set_option linter.unusedVariables false
set_option maxRecDepth 100000
set_option maxHeartbeats 4000000

theorem c_plain (e : Ex) : ACall Tryd.prog 139 [aE e] [] (boo (isOp e.op && cleanM e)) [] := by
  refine ACall.enter mixed ttok Tryd.func139 rfl rfl _ Tryd.ntmps139 (Nat.le_of_ble_eq_true rfl) (by kernel_rfl) _ (congrArg Array.toList Tryd.results139) ?_
  generalize hr : boo (isOp e.op && cleanM e) = R
  have he : (ByteArray.mk #[]).toList = [] := by simp [ByteArray.toList_eq]
  have he2 : ByteArray.empty.toList = [] := by simp [ByteArray.toList_eq]
  have hh : (([] : List UInt8) == []) = true := rfl
  have h00 : ((0 : Int) == 0) = true := rfl
  have hv1 : validM ⟨1, e.num, ByteArray.empty⟩ = (decide (e.num ≥ -1000000000000) && decide (e.num ≤ 1000000000000)) := by simp [validM, he2]
  have hv2 : validM ⟨2, e.num, ByteArray.empty⟩ = ((e.num == 0) || (e.num == 1)) := by simp [validM, he2]
  simp -implicitDefEqProofs only [argT, he, he2, hh, h00, ↓steps, push_cast, reduceIte, Nat.reduceEqDiff, Nat.reduceAdd, Nat.reduceMul, Nat.reduceLT, Nat.reduceLeDiff, Int.reduceToNat, Int.reduceLE, Int.reduceLT, reduceCtorEq, tte, num, boo, str, ints, aV, aTab, aInst, aS, aT, aC, found, pairA, aFk, vT]
  refine bcase_intro (fun k1 => ?_) fun k1 => ?_
  · have hk : e.op = 1 := by simpa using k1
    have g1 : decide (e.op ≥ 1) = true := by rw [hk]; decide
    have g2 : decide (e.op ≤ 28) = true := by rw [hk]; decide
    have hM : (isOp e.op && cleanM e) = ((((((e.type == 1 || e.type == 2) || e.type == 3) && true) && (e.num == 0)) && (e.text.toList == [])) && (e.col == 0)) := by simp [cleanM, isOp, okF, noT, noN, noX, noC, hk]
    refine bcase_intro (fun a1 => ?_) fun a1 => ?_
    · have ha : ((e.type == 1 || e.type == 2) || e.type == 3) = false := by simp at a1 ⊢; omega
      exact ret_d trivial (by rw [← hr, hM, ha]; rfl) (by simp only [ends, ite_true, ite_false, reduceIte, Nat.reduceEqDiff, Nat.reduceLeDiff, Nat.reduceLT, Nat.reduceAdd, reduceCtorEq, num, boo, str, ints, aV, aTab, aInst, aS, aT, aC, found, pairA, aFk, vT])
    refine bcase_intro (fun a2 => ?_) fun a2 => ?_
    · have ha : ((e.type == 1 || e.type == 2) || e.type == 3) = false := by simp at a2 ⊢; omega
      exact ret_d trivial (by rw [← hr, hM, ha]; rfl) (by simp only [ends, ite_true, ite_false, reduceIte, Nat.reduceEqDiff, Nat.reduceLeDiff, Nat.reduceLT, Nat.reduceAdd, reduceCtorEq, num, boo, str, ints, aV, aTab, aInst, aS, aT, aC, found, pairA, aFk, vT])
    have ha : ((e.type == 1 || e.type == 2) || e.type == 3) = true := by simp at a1 a2 ⊢; omega
    rw [ha] at hM
    clear ha a1 a2 hk k1
    rw [g1, bcase_true, g2, bcase_true]
    repeat' first | (refine bcase_intro (fun _ => ?_) fun _ => ?_) | exact ret_d trivial (by rw [← hr, hM]; simp only [*, Bool.true_and, Bool.and_true, Bool.false_and, Bool.and_false, boo]) (by simp only [ends, ite_true, ite_false, reduceIte, Nat.reduceEqDiff, Nat.reduceLeDiff, Nat.reduceLT, Nat.reduceAdd, reduceCtorEq, num, boo, str, ints, aV, aTab, aInst, aS, aT, aC, found, pairA, aFk, vT])
  refine bcase_intro (fun k2 => ?_) fun k2 => ?_
  · have hk : e.op = 2 := by simpa using k2
    have g1 : decide (e.op ≥ 1) = true := by rw [hk]; decide
    have g2 : decide (e.op ≤ 28) = true := by rw [hk]; decide
    have hM : (isOp e.op && cleanM e) = (((((decide (e.num ≥ -1000000000000) && decide (e.num ≤ 1000000000000)) && (e.type == 0)) && true) && (e.text.toList == [])) && (e.col == 0)) := by rw [← hv1]; simp [cleanM, isOp, okF, noT, noN, noX, noC, hk]
    refine bcase_intro (fun a1 => ?_) fun a1 => ?_
    · have ha : decide (e.num ≥ -1000000000000) = false := by simp at a1 ⊢; omega
      exact ret_d trivial (by rw [← hr, hM, ha]; rfl) (by simp only [ends, ite_true, ite_false, reduceIte, Nat.reduceEqDiff, Nat.reduceLeDiff, Nat.reduceLT, Nat.reduceAdd, reduceCtorEq, num, boo, str, ints, aV, aTab, aInst, aS, aT, aC, found, pairA, aFk, vT])
    refine bcase_intro (fun a2 => ?_) fun a2 => ?_
    · have ha : decide (e.num ≤ 1000000000000) = false := by simp at a2 ⊢; omega
      exact ret_d trivial (by rw [← hr, hM, ha, Bool.and_false]; rfl) (by simp only [ends, ite_true, ite_false, reduceIte, Nat.reduceEqDiff, Nat.reduceLeDiff, Nat.reduceLT, Nat.reduceAdd, reduceCtorEq, num, boo, str, ints, aV, aTab, aInst, aS, aT, aC, found, pairA, aFk, vT])
    have ha : decide (e.num ≥ -1000000000000) = true := by simp at a1 ⊢; omega
    have ha2 : decide (e.num ≤ 1000000000000) = true := by simp at a2 ⊢; omega
    rw [ha, ha2] at hM
    clear ha ha2 a1 a2 hk k1 k2 hv1 hv2
    rw [g1, bcase_true, g2, bcase_true]
    repeat' first | (refine bcase_intro (fun _ => ?_) fun _ => ?_) | exact ret_d trivial (by rw [← hr, hM]; simp only [*, Bool.true_and, Bool.and_true, Bool.false_and, Bool.and_false, boo]) (by simp only [ends, ite_true, ite_false, reduceIte, Nat.reduceEqDiff, Nat.reduceLeDiff, Nat.reduceLT, Nat.reduceAdd, reduceCtorEq, num, boo, str, ints, aV, aTab, aInst, aS, aT, aC, found, pairA, aFk, vT])
  refine bcase_intro (fun k3 => ?_) fun k3 => ?_
  · have hk : e.op = 3 := by simpa using k3
    have g1 : decide (e.op ≥ 1) = true := by rw [hk]; decide
    have g2 : decide (e.op ≤ 28) = true := by rw [hk]; decide
    have hM : (isOp e.op && cleanM e) = ((((((e.num == 0) || (e.num == 1)) && (e.type == 0)) && true) && (e.text.toList == [])) && (e.col == 0)) := by rw [← hv2]; simp [cleanM, isOp, okF, noT, noN, noX, noC, hk]
    have hT : ∀ ha : ((e.num == 0) || (e.num == 1)) = true, (isOp e.op && cleanM e) = ((((true && (e.type == 0)) && true) && (e.text.toList == [])) && (e.col == 0)) := fun ha => by rw [hM, ha]
    refine bcase_intro (fun a1 => ?_) fun a1 => ?_
    · refine bcase_intro (fun a2 => ?_) fun a2 => ?_
      · have ha : ((e.num == 0) || (e.num == 1)) = false := by simp at a1 a2 ⊢; omega
        exact ret_d trivial (by rw [← hr, hM, ha]; rfl) (by simp only [ends, ite_true, ite_false, reduceIte, Nat.reduceEqDiff, Nat.reduceLeDiff, Nat.reduceLT, Nat.reduceAdd, reduceCtorEq, num, boo, str, ints, aV, aTab, aInst, aS, aT, aC, found, pairA, aFk, vT])
      · replace hM := hT (by simp at a2 ⊢; omega)
        clear hT a1 a2 hk k1 k2 k3 hv1 hv2
        rw [g1, bcase_true, g2, bcase_true]
        repeat' first | (refine bcase_intro (fun _ => ?_) fun _ => ?_) | exact ret_d trivial (by rw [← hr, hM]; simp only [*, Bool.true_and, Bool.and_true, Bool.false_and, Bool.and_false, boo]) (by simp only [ends, ite_true, ite_false, reduceIte, Nat.reduceEqDiff, Nat.reduceLeDiff, Nat.reduceLT, Nat.reduceAdd, reduceCtorEq, num, boo, str, ints, aV, aTab, aInst, aS, aT, aC, found, pairA, aFk, vT])
    · replace hM := hT (by simp at a1 ⊢; omega)
      clear hT a1 hk k1 k2 k3 hv1 hv2
      rw [g1, bcase_true, g2, bcase_true]
      repeat' first | (refine bcase_intro (fun _ => ?_) fun _ => ?_) | exact ret_d trivial (by rw [← hr, hM]; simp only [*, Bool.true_and, Bool.and_true, Bool.false_and, Bool.and_false, boo]) (by simp only [ends, ite_true, ite_false, reduceIte, Nat.reduceEqDiff, Nat.reduceLeDiff, Nat.reduceLT, Nat.reduceAdd, reduceCtorEq, num, boo, str, ints, aV, aTab, aInst, aS, aT, aC, found, pairA, aFk, vT])
  refine bcase_intro (fun k4 => ?_) fun k4 => ?_
  · have hk : e.op = 4 := by simpa using k4
    have g1 : decide (e.op ≥ 1) = true := by rw [hk]; decide
    have g2 : decide (e.op ≤ 28) = true := by rw [hk]; decide
    have hM : (isOp e.op && cleanM e) = ((((validM ⟨3, 0, e.text⟩ && (e.type == 0)) && (e.num == 0)) && true) && (e.col == 0)) := by simp [cleanM, isOp, okF, noT, noN, noX, noC, hk]
    refine callx_of [[0, 0, 0]] [] rfl (c_rvalid ⟨3, 0, e.text⟩) (by first | (simp; done) | (simp [rowsOf_length]; done) | (simp [rowsOf_length]; omega)) (by first | (simp only [ends, ite_true, ite_false, reduceIte, Nat.reduceEqDiff, Nat.reduceLeDiff, Nat.reduceLT, Nat.reduceAdd, reduceCtorEq, num, boo, str, ints, aV, aTab, aInst, aS, aT, aC, found, pairA, aFk, vT, num, boo, str, aE_eq, aV]; done) | simp [ends, ite_true, ite_false, reduceIte, Nat.reduceEqDiff, Nat.reduceLeDiff, Nat.reduceLT, Nat.reduceAdd, reduceCtorEq, num, boo, str, ints, aV, aTab, aInst, aS, aT, aC, found, pairA, aFk, vT, num, boo, str, aE_eq, aV]) (by first | rfl | (simp only [ends, ite_true, ite_false, reduceIte, Nat.reduceEqDiff, Nat.reduceLeDiff, Nat.reduceLT, Nat.reduceAdd, reduceCtorEq, num, boo, str, ints, aV, aTab, aInst, aS, aT, aC, found, pairA, aFk, vT, num, boo, str, aE_eq, aV]; done) | simp [ends, ite_true, ite_false, reduceIte, Nat.reduceEqDiff, Nat.reduceLeDiff, Nat.reduceLT, Nat.reduceAdd, reduceCtorEq, num, boo, str, ints, aV, aTab, aInst, aS, aT, aC, found, pairA, aFk, vT, num, boo, str, aE_eq, aV]) (by simp only [ends, ite_true, ite_false, reduceIte, Nat.reduceEqDiff, Nat.reduceLeDiff, Nat.reduceLT, Nat.reduceAdd, reduceCtorEq, num, boo, str, ints, aV, aTab, aInst, aS, aT, aC, found, pairA, aFk, vT]) (by simp [idsOk, lookO, updO, ren1]) ?_
    simp -implicitDefEqProofs only [he, he2, hh, h00, ↓steps, push_cast, reduceIte, Nat.reduceEqDiff, Nat.reduceAdd, Nat.reduceMul, Nat.reduceLT, Nat.reduceLeDiff, Int.reduceToNat, Int.reduceLE, Int.reduceLT, reduceCtorEq, tte, num, boo, str, ints, aV, aTab, aInst, aS, aT, aC, found, pairA, aFk, vT]
    refine bcase_intro (fun a1 => ?_) fun a1 => ?_
    · have ha : validM ⟨3, 0, e.text⟩ = false := by simpa using a1
      exact ret_d trivial (by rw [← hr, hM, ha]; rfl) (by simp only [ends, ite_true, ite_false, reduceIte, Nat.reduceEqDiff, Nat.reduceLeDiff, Nat.reduceLT, Nat.reduceAdd, reduceCtorEq, num, boo, str, ints, aV, aTab, aInst, aS, aT, aC, found, pairA, aFk, vT])
    have ha : validM ⟨3, 0, e.text⟩ = true := by simpa using a1
    rw [ha] at hM
    clear ha a1 hk k1 k2 k3 k4 hv1 hv2
    rw [g1, bcase_true, g2, bcase_true]
    repeat' first | (refine bcase_intro (fun _ => ?_) fun _ => ?_) | exact ret_d trivial (by rw [← hr, hM]; simp only [*, Bool.true_and, Bool.and_true, Bool.false_and, Bool.and_false, boo]) (by simp only [ends, ite_true, ite_false, reduceIte, Nat.reduceEqDiff, Nat.reduceLeDiff, Nat.reduceLT, Nat.reduceAdd, reduceCtorEq, num, boo, str, ints, aV, aTab, aInst, aS, aT, aC, found, pairA, aFk, vT])
  refine bcase_intro (fun k5 => ?_) fun k5 => ?_
  · have hk : e.op = 5 := by simpa using k5
    have g1 : decide (e.op ≥ 1) = true := by rw [hk]; decide
    have g2 : decide (e.op ≤ 28) = true := by rw [hk]; decide
    have hM : (isOp e.op && cleanM e) = ((((true && (e.type == 0)) && (e.num == 0)) && (e.text.toList == [])) && true) := by simp [cleanM, isOp, okF, noT, noN, noX, noC, hk]
    clear hk k1 k2 k3 k4 k5 hv1 hv2
    rw [g1, bcase_true, g2, bcase_true]
    repeat' first | (refine bcase_intro (fun _ => ?_) fun _ => ?_) | exact ret_d trivial (by rw [← hr, hM]; simp only [*, Bool.true_and, Bool.and_true, Bool.false_and, Bool.and_false, boo]) (by simp only [ends, ite_true, ite_false, reduceIte, Nat.reduceEqDiff, Nat.reduceLeDiff, Nat.reduceLT, Nat.reduceAdd, reduceCtorEq, num, boo, str, ints, aV, aTab, aInst, aS, aT, aC, found, pairA, aFk, vT])
  have hk1 : ¬ e.op = 1 := by simpa using k1
  have hk2 : ¬ e.op = 2 := by simpa using k2
  have hk3 : ¬ e.op = 3 := by simpa using k3
  have hk4 : ¬ e.op = 4 := by simpa using k4
  have hk5 : ¬ e.op = 5 := by simpa using k5
  have hM : (isOp e.op && cleanM e) = ((((((decide (e.op ≥ 1) && decide (e.op ≤ 28)) && true) && (e.type == 0)) && (e.num == 0)) && (e.text.toList == [])) && (e.col == 0)) := by
    have : cleanM e = ((((true && (e.type == 0)) && (e.num == 0)) && (e.text.toList == [])) && (e.col == 0)) := by simp [cleanM, okF, noT, noN, noX, noC, hk1, hk2, hk3, hk4, hk5]
    rw [this, isOp]; simp only [ge_iff_le, Bool.true_and, Bool.and_true, Bool.and_assoc]
  clear hk1 hk2 hk3 hk4 hk5 k1 k2 k3 k4 k5 hv1 hv2
  repeat' first | (refine bcase_intro (fun _ => ?_) fun _ => ?_) | exact ret_d trivial (by rw [← hr, hM]; simp only [*, Bool.true_and, Bool.and_true, Bool.false_and, Bool.and_false, boo]) (by simp only [ends, ite_true, ite_false, reduceIte, Nat.reduceEqDiff, Nat.reduceLeDiff, Nat.reduceLT, Nat.reduceAdd, reduceCtorEq, num, boo, str, ints, aV, aTab, aInst, aS, aT, aC, found, pairA, aFk, vT])
end Go.Proofs.YtkccdfaelbepeaaDoor

namespace Go.Proofs.YtkccdfaelbepeaaDoor
open Go.Am
set_option linter.unusedVariables false
set_option maxRecDepth 100000
set_option maxHeartbeats 4000000

def numsOp (op : Int) : Bool := ((((op == 6 || op == 7) || op == 8) || op == 9) || op == 10) || op == 11
def truthOp (op : Int) : Bool := ((op == 22 || op == 23) || op == 24) || op == 25
def allIs (l : List Int) (v : Int) : Bool := l.all fun x => x == v
def resultR (ts : List Int) (e : Ex) (l : List Int) : Int :=
  if e.op == 1 then e.type else if e.op == 2 then 1 else if e.op == 3 then 2 else if e.op == 4 then 3 else if e.op == 5 then ts.getD e.col.toNat default
  else if numsOp e.op then (if allIs l 1 then 1 else 0)
  else if e.op == 12 then (if allIs l 3 then 3 else 0)
  else if e.op == 13 then (if allIs l 3 then 1 else 0)
  else if e.op == 21 then 2
  else if truthOp e.op then (if allIs l 2 then 2 else 0)
  else if e.op == 26 then (if (l.getD 0 default == 2) && (l.getD 1 default == l.getD 2 default) then l.getD 1 default else 0)
  else if e.op == 27 then (if l.getD 0 default == l.getD 1 default then l.getD 0 default else 0)
  else (if allIs l (l.getD 0 default) then 2 else 0)
theorem bcase_t {b : Bool} {p q : Prop} (h : b = true) (x : p) : bcase b p q := by subst h; exact bcase_true _ _ ▸ x
theorem bcase_f {b : Bool} {p q : Prop} (h : b = false) (x : q) : bcase b p q := by subst h; exact bcase_false _ _ ▸ x
theorem c_result (ts : List Int) (e : Ex) (l : List Int) (hl : l.length ≤ 1000000000) (hc5 : e.op = 5 → 0 ≤ e.col ∧ e.col < ts.length) (hc26 : e.op = 26 → l.length = 3) (hc27 : e.op = 27 → l.length = 2)
    (hE : isOp e.op = true → 5 < e.op → 0 < l.length) (ho : isOp e.op = true) : ACall Tryd.prog 140 [ints ts, aE e, ints l] [] (num (resultR ts e l)) [] := by
  refine ACall.enter mixed ttok Tryd.func140 rfl rfl _ Tryd.ntmps140 (Nat.le_of_ble_eq_true rfl) (by kernel_rfl) _ (congrArg Array.toList Tryd.results140) ?_
  generalize hr : num (resultR ts e l) = R
  simp -implicitDefEqProofs only [argT, ↓steps, push_cast, reduceIte, Nat.reduceEqDiff, Nat.reduceAdd, Nat.reduceMul, Nat.reduceLT, Nat.reduceLeDiff, Int.reduceToNat, Int.reduceLE, Int.reduceLT, reduceCtorEq, tte, num, boo, str, ints, aV, aTab, aInst, aS, aT, aC, found, pairA, aFk, vT]
  have hop := hE ho
  refine bcase_intro (fun h1 => ?_) fun h1 => ?_
  · have hv : resultR ts e l = e.type := by simp only [resultR, numsOp, truthOp, allIs, h1, Bool.true_or, Bool.or_true, Bool.or_false, Bool.false_or, Bool.or_self, Bool.true_and, Bool.false_and, Bool.and_self, Bool.false_eq_true, if_true, if_false]
    exact ret_d trivial (by rw [← hr, hv]; rfl) (by simp only [ends, ite_true, ite_false, reduceIte, Nat.reduceEqDiff, Nat.reduceLeDiff, Nat.reduceLT, Nat.reduceAdd, reduceCtorEq, num, boo, str, ints, aV, aTab, aInst, aS, aT, aC, found, pairA, aFk, vT])
  refine bcase_intro (fun h2 => ?_) fun h2 => ?_
  · have hv : resultR ts e l = 1 := by simp only [resultR, numsOp, truthOp, allIs, h1, h2, Bool.true_or, Bool.or_true, Bool.or_false, Bool.false_or, Bool.or_self, Bool.true_and, Bool.false_and, Bool.and_self, Bool.false_eq_true, if_true, if_false]
    exact ret_d trivial (by rw [← hr, hv]; rfl) (by simp only [ends, ite_true, ite_false, reduceIte, Nat.reduceEqDiff, Nat.reduceLeDiff, Nat.reduceLT, Nat.reduceAdd, reduceCtorEq, num, boo, str, ints, aV, aTab, aInst, aS, aT, aC, found, pairA, aFk, vT])
  refine bcase_intro (fun h3 => ?_) fun h3 => ?_
  · have hv : resultR ts e l = 2 := by simp only [resultR, numsOp, truthOp, allIs, h1, h2, h3, Bool.true_or, Bool.or_true, Bool.or_false, Bool.false_or, Bool.or_self, Bool.true_and, Bool.false_and, Bool.and_self, Bool.false_eq_true, if_true, if_false]
    exact ret_d trivial (by rw [← hr, hv]; rfl) (by simp only [ends, ite_true, ite_false, reduceIte, Nat.reduceEqDiff, Nat.reduceLeDiff, Nat.reduceLT, Nat.reduceAdd, reduceCtorEq, num, boo, str, ints, aV, aTab, aInst, aS, aT, aC, found, pairA, aFk, vT])
  refine bcase_intro (fun h4 => ?_) fun h4 => ?_
  · have hv : resultR ts e l = 3 := by simp only [resultR, numsOp, truthOp, allIs, h1, h2, h3, h4, Bool.true_or, Bool.or_true, Bool.or_false, Bool.false_or, Bool.or_self, Bool.true_and, Bool.false_and, Bool.and_self, Bool.false_eq_true, if_true, if_false]
    exact ret_d trivial (by rw [← hr, hv]; rfl) (by simp only [ends, ite_true, ite_false, reduceIte, Nat.reduceEqDiff, Nat.reduceLeDiff, Nat.reduceLT, Nat.reduceAdd, reduceCtorEq, num, boo, str, ints, aV, aTab, aInst, aS, aT, aC, found, pairA, aFk, vT])
  refine bcase_intro (fun h5 => ?_) fun h5 => ?_
  · refine ⟨hc5 (by simpa using h5), ?_⟩
    have hv : resultR ts e l = ts.getD e.col.toNat default := by simp only [resultR, numsOp, truthOp, allIs, h1, h2, h3, h4, h5, Bool.true_or, Bool.or_true, Bool.or_false, Bool.false_or, Bool.or_self, Bool.true_and, Bool.false_and, Bool.and_self, Bool.false_eq_true, if_true, if_false]
    exact ret_d trivial (by rw [← hr, hv]; rfl) (by simp only [ends, ite_true, ite_false, reduceIte, Nat.reduceEqDiff, Nat.reduceLeDiff, Nat.reduceLT, Nat.reduceAdd, reduceCtorEq, num, boo, str, ints, aV, aTab, aInst, aS, aT, aC, found, pairA, aFk, vT])
  refine bcase_intro (fun h6 => ?_) fun h6 => ?_
  · refine bcase_t h6 ?_
    refine callx_of [[1], [0]] [] rfl (c_all l 1 hl) (by first | (simp; done) | (simp [rowsOf_length]; done) | (simp [rowsOf_length]; omega)) (by first | (simp only [ends, ite_true, ite_false, reduceIte, Nat.reduceEqDiff, Nat.reduceLeDiff, Nat.reduceLT, Nat.reduceAdd, reduceCtorEq, num, boo, str, ints, aV, aTab, aInst, aS, aT, aC, found, pairA, aFk, vT, num, boo, str, aE_eq, aV]; done) | simp [ends, ite_true, ite_false, reduceIte, Nat.reduceEqDiff, Nat.reduceLeDiff, Nat.reduceLT, Nat.reduceAdd, reduceCtorEq, num, boo, str, ints, aV, aTab, aInst, aS, aT, aC, found, pairA, aFk, vT, num, boo, str, aE_eq, aV]) (by first | rfl | (simp only [ends, ite_true, ite_false, reduceIte, Nat.reduceEqDiff, Nat.reduceLeDiff, Nat.reduceLT, Nat.reduceAdd, reduceCtorEq, num, boo, str, ints, aV, aTab, aInst, aS, aT, aC, found, pairA, aFk, vT, num, boo, str, aE_eq, aV]; done) | simp [ends, ite_true, ite_false, reduceIte, Nat.reduceEqDiff, Nat.reduceLeDiff, Nat.reduceLT, Nat.reduceAdd, reduceCtorEq, num, boo, str, ints, aV, aTab, aInst, aS, aT, aC, found, pairA, aFk, vT, num, boo, str, aE_eq, aV]) (by simp only [ends, ite_true, ite_false, reduceIte, Nat.reduceEqDiff, Nat.reduceLeDiff, Nat.reduceLT, Nat.reduceAdd, reduceCtorEq, num, boo, str, ints, aV, aTab, aInst, aS, aT, aC, found, pairA, aFk, vT]) (by simp [idsOk, lookO, updO, ren1]) ?_
    simp -implicitDefEqProofs only [↓steps, push_cast, reduceIte, Nat.reduceEqDiff, Nat.reduceAdd, Nat.reduceMul, Nat.reduceLT, Nat.reduceLeDiff, Int.reduceToNat, Int.reduceLE, Int.reduceLT, reduceCtorEq, tte, num, boo, str, ints, aV, aTab, aInst, aS, aT, aC, found, pairA, aFk, vT]
    refine bcase_intro (fun g => ?_) fun g => ?_
    · have hv : resultR ts e l = 1 := by simp only [resultR, numsOp, truthOp, allIs, h1, h2, h3, h4, h5, h6, g, Bool.true_or, Bool.or_true, Bool.or_false, Bool.false_or, Bool.or_self, Bool.true_and, Bool.false_and, Bool.and_self, Bool.false_eq_true, if_true, if_false]
      exact ret_d trivial (by rw [← hr, hv]; rfl) (by simp only [ends, ite_true, ite_false, reduceIte, Nat.reduceEqDiff, Nat.reduceLeDiff, Nat.reduceLT, Nat.reduceAdd, reduceCtorEq, num, boo, str, ints, aV, aTab, aInst, aS, aT, aC, found, pairA, aFk, vT])
    · have hv : resultR ts e l = 0 := by simp only [resultR, numsOp, truthOp, allIs, h1, h2, h3, h4, h5, h6, g, Bool.true_or, Bool.or_true, Bool.or_false, Bool.false_or, Bool.or_self, Bool.true_and, Bool.false_and, Bool.and_self, Bool.false_eq_true, if_true, if_false]
      exact ret_d trivial (by rw [← hr, hv]; rfl) (by simp only [ends, ite_true, ite_false, reduceIte, Nat.reduceEqDiff, Nat.reduceLeDiff, Nat.reduceLT, Nat.reduceAdd, reduceCtorEq, num, boo, str, ints, aV, aTab, aInst, aS, aT, aC, found, pairA, aFk, vT])
  refine bcase_intro (fun h7 => ?_) fun h7 => ?_
  · refine bcase_t h7 ?_
    refine callx_of [[1], [0]] [] rfl (c_all l 1 hl) (by first | (simp; done) | (simp [rowsOf_length]; done) | (simp [rowsOf_length]; omega)) (by first | (simp only [ends, ite_true, ite_false, reduceIte, Nat.reduceEqDiff, Nat.reduceLeDiff, Nat.reduceLT, Nat.reduceAdd, reduceCtorEq, num, boo, str, ints, aV, aTab, aInst, aS, aT, aC, found, pairA, aFk, vT, num, boo, str, aE_eq, aV]; done) | simp [ends, ite_true, ite_false, reduceIte, Nat.reduceEqDiff, Nat.reduceLeDiff, Nat.reduceLT, Nat.reduceAdd, reduceCtorEq, num, boo, str, ints, aV, aTab, aInst, aS, aT, aC, found, pairA, aFk, vT, num, boo, str, aE_eq, aV]) (by first | rfl | (simp only [ends, ite_true, ite_false, reduceIte, Nat.reduceEqDiff, Nat.reduceLeDiff, Nat.reduceLT, Nat.reduceAdd, reduceCtorEq, num, boo, str, ints, aV, aTab, aInst, aS, aT, aC, found, pairA, aFk, vT, num, boo, str, aE_eq, aV]; done) | simp [ends, ite_true, ite_false, reduceIte, Nat.reduceEqDiff, Nat.reduceLeDiff, Nat.reduceLT, Nat.reduceAdd, reduceCtorEq, num, boo, str, ints, aV, aTab, aInst, aS, aT, aC, found, pairA, aFk, vT, num, boo, str, aE_eq, aV]) (by simp only [ends, ite_true, ite_false, reduceIte, Nat.reduceEqDiff, Nat.reduceLeDiff, Nat.reduceLT, Nat.reduceAdd, reduceCtorEq, num, boo, str, ints, aV, aTab, aInst, aS, aT, aC, found, pairA, aFk, vT]) (by simp [idsOk, lookO, updO, ren1]) ?_
    simp -implicitDefEqProofs only [↓steps, push_cast, reduceIte, Nat.reduceEqDiff, Nat.reduceAdd, Nat.reduceMul, Nat.reduceLT, Nat.reduceLeDiff, Int.reduceToNat, Int.reduceLE, Int.reduceLT, reduceCtorEq, tte, num, boo, str, ints, aV, aTab, aInst, aS, aT, aC, found, pairA, aFk, vT]
    refine bcase_intro (fun g => ?_) fun g => ?_
    · have hv : resultR ts e l = 1 := by simp only [resultR, numsOp, truthOp, allIs, h1, h2, h3, h4, h5, h6, h7, g, Bool.true_or, Bool.or_true, Bool.or_false, Bool.false_or, Bool.or_self, Bool.true_and, Bool.false_and, Bool.and_self, Bool.false_eq_true, if_true, if_false]
      exact ret_d trivial (by rw [← hr, hv]; rfl) (by simp only [ends, ite_true, ite_false, reduceIte, Nat.reduceEqDiff, Nat.reduceLeDiff, Nat.reduceLT, Nat.reduceAdd, reduceCtorEq, num, boo, str, ints, aV, aTab, aInst, aS, aT, aC, found, pairA, aFk, vT])
    · have hv : resultR ts e l = 0 := by simp only [resultR, numsOp, truthOp, allIs, h1, h2, h3, h4, h5, h6, h7, g, Bool.true_or, Bool.or_true, Bool.or_false, Bool.false_or, Bool.or_self, Bool.true_and, Bool.false_and, Bool.and_self, Bool.false_eq_true, if_true, if_false]
      exact ret_d trivial (by rw [← hr, hv]; rfl) (by simp only [ends, ite_true, ite_false, reduceIte, Nat.reduceEqDiff, Nat.reduceLeDiff, Nat.reduceLT, Nat.reduceAdd, reduceCtorEq, num, boo, str, ints, aV, aTab, aInst, aS, aT, aC, found, pairA, aFk, vT])
  refine bcase_intro (fun h8 => ?_) fun h8 => ?_
  · refine bcase_t h8 ?_
    refine callx_of [[1], [0]] [] rfl (c_all l 1 hl) (by first | (simp; done) | (simp [rowsOf_length]; done) | (simp [rowsOf_length]; omega)) (by first | (simp only [ends, ite_true, ite_false, reduceIte, Nat.reduceEqDiff, Nat.reduceLeDiff, Nat.reduceLT, Nat.reduceAdd, reduceCtorEq, num, boo, str, ints, aV, aTab, aInst, aS, aT, aC, found, pairA, aFk, vT, num, boo, str, aE_eq, aV]; done) | simp [ends, ite_true, ite_false, reduceIte, Nat.reduceEqDiff, Nat.reduceLeDiff, Nat.reduceLT, Nat.reduceAdd, reduceCtorEq, num, boo, str, ints, aV, aTab, aInst, aS, aT, aC, found, pairA, aFk, vT, num, boo, str, aE_eq, aV]) (by first | rfl | (simp only [ends, ite_true, ite_false, reduceIte, Nat.reduceEqDiff, Nat.reduceLeDiff, Nat.reduceLT, Nat.reduceAdd, reduceCtorEq, num, boo, str, ints, aV, aTab, aInst, aS, aT, aC, found, pairA, aFk, vT, num, boo, str, aE_eq, aV]; done) | simp [ends, ite_true, ite_false, reduceIte, Nat.reduceEqDiff, Nat.reduceLeDiff, Nat.reduceLT, Nat.reduceAdd, reduceCtorEq, num, boo, str, ints, aV, aTab, aInst, aS, aT, aC, found, pairA, aFk, vT, num, boo, str, aE_eq, aV]) (by simp only [ends, ite_true, ite_false, reduceIte, Nat.reduceEqDiff, Nat.reduceLeDiff, Nat.reduceLT, Nat.reduceAdd, reduceCtorEq, num, boo, str, ints, aV, aTab, aInst, aS, aT, aC, found, pairA, aFk, vT]) (by simp [idsOk, lookO, updO, ren1]) ?_
    simp -implicitDefEqProofs only [↓steps, push_cast, reduceIte, Nat.reduceEqDiff, Nat.reduceAdd, Nat.reduceMul, Nat.reduceLT, Nat.reduceLeDiff, Int.reduceToNat, Int.reduceLE, Int.reduceLT, reduceCtorEq, tte, num, boo, str, ints, aV, aTab, aInst, aS, aT, aC, found, pairA, aFk, vT]
    refine bcase_intro (fun g => ?_) fun g => ?_
    · have hv : resultR ts e l = 1 := by simp only [resultR, numsOp, truthOp, allIs, h1, h2, h3, h4, h5, h6, h7, h8, g, Bool.true_or, Bool.or_true, Bool.or_false, Bool.false_or, Bool.or_self, Bool.true_and, Bool.false_and, Bool.and_self, Bool.false_eq_true, if_true, if_false]
      exact ret_d trivial (by rw [← hr, hv]; rfl) (by simp only [ends, ite_true, ite_false, reduceIte, Nat.reduceEqDiff, Nat.reduceLeDiff, Nat.reduceLT, Nat.reduceAdd, reduceCtorEq, num, boo, str, ints, aV, aTab, aInst, aS, aT, aC, found, pairA, aFk, vT])
    · have hv : resultR ts e l = 0 := by simp only [resultR, numsOp, truthOp, allIs, h1, h2, h3, h4, h5, h6, h7, h8, g, Bool.true_or, Bool.or_true, Bool.or_false, Bool.false_or, Bool.or_self, Bool.true_and, Bool.false_and, Bool.and_self, Bool.false_eq_true, if_true, if_false]
      exact ret_d trivial (by rw [← hr, hv]; rfl) (by simp only [ends, ite_true, ite_false, reduceIte, Nat.reduceEqDiff, Nat.reduceLeDiff, Nat.reduceLT, Nat.reduceAdd, reduceCtorEq, num, boo, str, ints, aV, aTab, aInst, aS, aT, aC, found, pairA, aFk, vT])
  refine bcase_intro (fun h9 => ?_) fun h9 => ?_
  · refine bcase_t h9 ?_
    refine callx_of [[1], [0]] [] rfl (c_all l 1 hl) (by first | (simp; done) | (simp [rowsOf_length]; done) | (simp [rowsOf_length]; omega)) (by first | (simp only [ends, ite_true, ite_false, reduceIte, Nat.reduceEqDiff, Nat.reduceLeDiff, Nat.reduceLT, Nat.reduceAdd, reduceCtorEq, num, boo, str, ints, aV, aTab, aInst, aS, aT, aC, found, pairA, aFk, vT, num, boo, str, aE_eq, aV]; done) | simp [ends, ite_true, ite_false, reduceIte, Nat.reduceEqDiff, Nat.reduceLeDiff, Nat.reduceLT, Nat.reduceAdd, reduceCtorEq, num, boo, str, ints, aV, aTab, aInst, aS, aT, aC, found, pairA, aFk, vT, num, boo, str, aE_eq, aV]) (by first | rfl | (simp only [ends, ite_true, ite_false, reduceIte, Nat.reduceEqDiff, Nat.reduceLeDiff, Nat.reduceLT, Nat.reduceAdd, reduceCtorEq, num, boo, str, ints, aV, aTab, aInst, aS, aT, aC, found, pairA, aFk, vT, num, boo, str, aE_eq, aV]; done) | simp [ends, ite_true, ite_false, reduceIte, Nat.reduceEqDiff, Nat.reduceLeDiff, Nat.reduceLT, Nat.reduceAdd, reduceCtorEq, num, boo, str, ints, aV, aTab, aInst, aS, aT, aC, found, pairA, aFk, vT, num, boo, str, aE_eq, aV]) (by simp only [ends, ite_true, ite_false, reduceIte, Nat.reduceEqDiff, Nat.reduceLeDiff, Nat.reduceLT, Nat.reduceAdd, reduceCtorEq, num, boo, str, ints, aV, aTab, aInst, aS, aT, aC, found, pairA, aFk, vT]) (by simp [idsOk, lookO, updO, ren1]) ?_
    simp -implicitDefEqProofs only [↓steps, push_cast, reduceIte, Nat.reduceEqDiff, Nat.reduceAdd, Nat.reduceMul, Nat.reduceLT, Nat.reduceLeDiff, Int.reduceToNat, Int.reduceLE, Int.reduceLT, reduceCtorEq, tte, num, boo, str, ints, aV, aTab, aInst, aS, aT, aC, found, pairA, aFk, vT]
    refine bcase_intro (fun g => ?_) fun g => ?_
    · have hv : resultR ts e l = 1 := by simp only [resultR, numsOp, truthOp, allIs, h1, h2, h3, h4, h5, h6, h7, h8, h9, g, Bool.true_or, Bool.or_true, Bool.or_false, Bool.false_or, Bool.or_self, Bool.true_and, Bool.false_and, Bool.and_self, Bool.false_eq_true, if_true, if_false]
      exact ret_d trivial (by rw [← hr, hv]; rfl) (by simp only [ends, ite_true, ite_false, reduceIte, Nat.reduceEqDiff, Nat.reduceLeDiff, Nat.reduceLT, Nat.reduceAdd, reduceCtorEq, num, boo, str, ints, aV, aTab, aInst, aS, aT, aC, found, pairA, aFk, vT])
    · have hv : resultR ts e l = 0 := by simp only [resultR, numsOp, truthOp, allIs, h1, h2, h3, h4, h5, h6, h7, h8, h9, g, Bool.true_or, Bool.or_true, Bool.or_false, Bool.false_or, Bool.or_self, Bool.true_and, Bool.false_and, Bool.and_self, Bool.false_eq_true, if_true, if_false]
      exact ret_d trivial (by rw [← hr, hv]; rfl) (by simp only [ends, ite_true, ite_false, reduceIte, Nat.reduceEqDiff, Nat.reduceLeDiff, Nat.reduceLT, Nat.reduceAdd, reduceCtorEq, num, boo, str, ints, aV, aTab, aInst, aS, aT, aC, found, pairA, aFk, vT])
  refine bcase_intro (fun h10 => ?_) fun h10 => ?_
  · refine bcase_t h10 ?_
    refine callx_of [[1], [0]] [] rfl (c_all l 1 hl) (by first | (simp; done) | (simp [rowsOf_length]; done) | (simp [rowsOf_length]; omega)) (by first | (simp only [ends, ite_true, ite_false, reduceIte, Nat.reduceEqDiff, Nat.reduceLeDiff, Nat.reduceLT, Nat.reduceAdd, reduceCtorEq, num, boo, str, ints, aV, aTab, aInst, aS, aT, aC, found, pairA, aFk, vT, num, boo, str, aE_eq, aV]; done) | simp [ends, ite_true, ite_false, reduceIte, Nat.reduceEqDiff, Nat.reduceLeDiff, Nat.reduceLT, Nat.reduceAdd, reduceCtorEq, num, boo, str, ints, aV, aTab, aInst, aS, aT, aC, found, pairA, aFk, vT, num, boo, str, aE_eq, aV]) (by first | rfl | (simp only [ends, ite_true, ite_false, reduceIte, Nat.reduceEqDiff, Nat.reduceLeDiff, Nat.reduceLT, Nat.reduceAdd, reduceCtorEq, num, boo, str, ints, aV, aTab, aInst, aS, aT, aC, found, pairA, aFk, vT, num, boo, str, aE_eq, aV]; done) | simp [ends, ite_true, ite_false, reduceIte, Nat.reduceEqDiff, Nat.reduceLeDiff, Nat.reduceLT, Nat.reduceAdd, reduceCtorEq, num, boo, str, ints, aV, aTab, aInst, aS, aT, aC, found, pairA, aFk, vT, num, boo, str, aE_eq, aV]) (by simp only [ends, ite_true, ite_false, reduceIte, Nat.reduceEqDiff, Nat.reduceLeDiff, Nat.reduceLT, Nat.reduceAdd, reduceCtorEq, num, boo, str, ints, aV, aTab, aInst, aS, aT, aC, found, pairA, aFk, vT]) (by simp [idsOk, lookO, updO, ren1]) ?_
    simp -implicitDefEqProofs only [↓steps, push_cast, reduceIte, Nat.reduceEqDiff, Nat.reduceAdd, Nat.reduceMul, Nat.reduceLT, Nat.reduceLeDiff, Int.reduceToNat, Int.reduceLE, Int.reduceLT, reduceCtorEq, tte, num, boo, str, ints, aV, aTab, aInst, aS, aT, aC, found, pairA, aFk, vT]
    refine bcase_intro (fun g => ?_) fun g => ?_
    · have hv : resultR ts e l = 1 := by simp only [resultR, numsOp, truthOp, allIs, h1, h2, h3, h4, h5, h6, h7, h8, h9, h10, g, Bool.true_or, Bool.or_true, Bool.or_false, Bool.false_or, Bool.or_self, Bool.true_and, Bool.false_and, Bool.and_self, Bool.false_eq_true, if_true, if_false]
      exact ret_d trivial (by rw [← hr, hv]; rfl) (by simp only [ends, ite_true, ite_false, reduceIte, Nat.reduceEqDiff, Nat.reduceLeDiff, Nat.reduceLT, Nat.reduceAdd, reduceCtorEq, num, boo, str, ints, aV, aTab, aInst, aS, aT, aC, found, pairA, aFk, vT])
    · have hv : resultR ts e l = 0 := by simp only [resultR, numsOp, truthOp, allIs, h1, h2, h3, h4, h5, h6, h7, h8, h9, h10, g, Bool.true_or, Bool.or_true, Bool.or_false, Bool.false_or, Bool.or_self, Bool.true_and, Bool.false_and, Bool.and_self, Bool.false_eq_true, if_true, if_false]
      exact ret_d trivial (by rw [← hr, hv]; rfl) (by simp only [ends, ite_true, ite_false, reduceIte, Nat.reduceEqDiff, Nat.reduceLeDiff, Nat.reduceLT, Nat.reduceAdd, reduceCtorEq, num, boo, str, ints, aV, aTab, aInst, aS, aT, aC, found, pairA, aFk, vT])
  refine bcase_intro (fun h11 => ?_) fun h11 => ?_
  · refine callx_of [[1], [0]] [] rfl (c_all l 1 hl) (by first | (simp; done) | (simp [rowsOf_length]; done) | (simp [rowsOf_length]; omega)) (by first | (simp only [ends, ite_true, ite_false, reduceIte, Nat.reduceEqDiff, Nat.reduceLeDiff, Nat.reduceLT, Nat.reduceAdd, reduceCtorEq, num, boo, str, ints, aV, aTab, aInst, aS, aT, aC, found, pairA, aFk, vT, num, boo, str, aE_eq, aV]; done) | simp [ends, ite_true, ite_false, reduceIte, Nat.reduceEqDiff, Nat.reduceLeDiff, Nat.reduceLT, Nat.reduceAdd, reduceCtorEq, num, boo, str, ints, aV, aTab, aInst, aS, aT, aC, found, pairA, aFk, vT, num, boo, str, aE_eq, aV]) (by first | rfl | (simp only [ends, ite_true, ite_false, reduceIte, Nat.reduceEqDiff, Nat.reduceLeDiff, Nat.reduceLT, Nat.reduceAdd, reduceCtorEq, num, boo, str, ints, aV, aTab, aInst, aS, aT, aC, found, pairA, aFk, vT, num, boo, str, aE_eq, aV]; done) | simp [ends, ite_true, ite_false, reduceIte, Nat.reduceEqDiff, Nat.reduceLeDiff, Nat.reduceLT, Nat.reduceAdd, reduceCtorEq, num, boo, str, ints, aV, aTab, aInst, aS, aT, aC, found, pairA, aFk, vT, num, boo, str, aE_eq, aV]) (by simp only [ends, ite_true, ite_false, reduceIte, Nat.reduceEqDiff, Nat.reduceLeDiff, Nat.reduceLT, Nat.reduceAdd, reduceCtorEq, num, boo, str, ints, aV, aTab, aInst, aS, aT, aC, found, pairA, aFk, vT]) (by simp [idsOk, lookO, updO, ren1]) ?_
    simp -implicitDefEqProofs only [↓steps, push_cast, reduceIte, Nat.reduceEqDiff, Nat.reduceAdd, Nat.reduceMul, Nat.reduceLT, Nat.reduceLeDiff, Int.reduceToNat, Int.reduceLE, Int.reduceLT, reduceCtorEq, tte, num, boo, str, ints, aV, aTab, aInst, aS, aT, aC, found, pairA, aFk, vT]
    refine bcase_intro (fun g => ?_) fun g => ?_
    · have hv : resultR ts e l = 1 := by simp only [resultR, numsOp, truthOp, allIs, h1, h2, h3, h4, h5, h6, h7, h8, h9, h10, h11, g, Bool.true_or, Bool.or_true, Bool.or_false, Bool.false_or, Bool.or_self, Bool.true_and, Bool.false_and, Bool.and_self, Bool.false_eq_true, if_true, if_false]
      exact ret_d trivial (by rw [← hr, hv]; rfl) (by simp only [ends, ite_true, ite_false, reduceIte, Nat.reduceEqDiff, Nat.reduceLeDiff, Nat.reduceLT, Nat.reduceAdd, reduceCtorEq, num, boo, str, ints, aV, aTab, aInst, aS, aT, aC, found, pairA, aFk, vT])
    · have hv : resultR ts e l = 0 := by simp only [resultR, numsOp, truthOp, allIs, h1, h2, h3, h4, h5, h6, h7, h8, h9, h10, h11, g, Bool.true_or, Bool.or_true, Bool.or_false, Bool.false_or, Bool.or_self, Bool.true_and, Bool.false_and, Bool.and_self, Bool.false_eq_true, if_true, if_false]
      exact ret_d trivial (by rw [← hr, hv]; rfl) (by simp only [ends, ite_true, ite_false, reduceIte, Nat.reduceEqDiff, Nat.reduceLeDiff, Nat.reduceLT, Nat.reduceAdd, reduceCtorEq, num, boo, str, ints, aV, aTab, aInst, aS, aT, aC, found, pairA, aFk, vT])
  refine bcase_intro (fun h12 => ?_) fun h12 => ?_
  · refine callx_of [[1], [0]] [] rfl (c_all l 3 hl) (by first | (simp; done) | (simp [rowsOf_length]; done) | (simp [rowsOf_length]; omega)) (by first | (simp only [ends, ite_true, ite_false, reduceIte, Nat.reduceEqDiff, Nat.reduceLeDiff, Nat.reduceLT, Nat.reduceAdd, reduceCtorEq, num, boo, str, ints, aV, aTab, aInst, aS, aT, aC, found, pairA, aFk, vT, num, boo, str, aE_eq, aV]; done) | simp [ends, ite_true, ite_false, reduceIte, Nat.reduceEqDiff, Nat.reduceLeDiff, Nat.reduceLT, Nat.reduceAdd, reduceCtorEq, num, boo, str, ints, aV, aTab, aInst, aS, aT, aC, found, pairA, aFk, vT, num, boo, str, aE_eq, aV]) (by first | rfl | (simp only [ends, ite_true, ite_false, reduceIte, Nat.reduceEqDiff, Nat.reduceLeDiff, Nat.reduceLT, Nat.reduceAdd, reduceCtorEq, num, boo, str, ints, aV, aTab, aInst, aS, aT, aC, found, pairA, aFk, vT, num, boo, str, aE_eq, aV]; done) | simp [ends, ite_true, ite_false, reduceIte, Nat.reduceEqDiff, Nat.reduceLeDiff, Nat.reduceLT, Nat.reduceAdd, reduceCtorEq, num, boo, str, ints, aV, aTab, aInst, aS, aT, aC, found, pairA, aFk, vT, num, boo, str, aE_eq, aV]) (by simp only [ends, ite_true, ite_false, reduceIte, Nat.reduceEqDiff, Nat.reduceLeDiff, Nat.reduceLT, Nat.reduceAdd, reduceCtorEq, num, boo, str, ints, aV, aTab, aInst, aS, aT, aC, found, pairA, aFk, vT]) (by simp [idsOk, lookO, updO, ren1]) ?_
    simp -implicitDefEqProofs only [↓steps, push_cast, reduceIte, Nat.reduceEqDiff, Nat.reduceAdd, Nat.reduceMul, Nat.reduceLT, Nat.reduceLeDiff, Int.reduceToNat, Int.reduceLE, Int.reduceLT, reduceCtorEq, tte, num, boo, str, ints, aV, aTab, aInst, aS, aT, aC, found, pairA, aFk, vT]
    refine bcase_intro (fun g => ?_) fun g => ?_
    · have hv : resultR ts e l = 3 := by simp only [resultR, numsOp, truthOp, allIs, h1, h2, h3, h4, h5, h6, h7, h8, h9, h10, h11, h12, g, Bool.true_or, Bool.or_true, Bool.or_false, Bool.false_or, Bool.or_self, Bool.true_and, Bool.false_and, Bool.and_self, Bool.false_eq_true, if_true, if_false]
      exact ret_d trivial (by rw [← hr, hv]; rfl) (by simp only [ends, ite_true, ite_false, reduceIte, Nat.reduceEqDiff, Nat.reduceLeDiff, Nat.reduceLT, Nat.reduceAdd, reduceCtorEq, num, boo, str, ints, aV, aTab, aInst, aS, aT, aC, found, pairA, aFk, vT])
    · have hv : resultR ts e l = 0 := by simp only [resultR, numsOp, truthOp, allIs, h1, h2, h3, h4, h5, h6, h7, h8, h9, h10, h11, h12, g, Bool.true_or, Bool.or_true, Bool.or_false, Bool.false_or, Bool.or_self, Bool.true_and, Bool.false_and, Bool.and_self, Bool.false_eq_true, if_true, if_false]
      exact ret_d trivial (by rw [← hr, hv]; rfl) (by simp only [ends, ite_true, ite_false, reduceIte, Nat.reduceEqDiff, Nat.reduceLeDiff, Nat.reduceLT, Nat.reduceAdd, reduceCtorEq, num, boo, str, ints, aV, aTab, aInst, aS, aT, aC, found, pairA, aFk, vT])
  refine bcase_intro (fun h13 => ?_) fun h13 => ?_
  · refine callx_of [[1], [0]] [] rfl (c_all l 3 hl) (by first | (simp; done) | (simp [rowsOf_length]; done) | (simp [rowsOf_length]; omega)) (by first | (simp only [ends, ite_true, ite_false, reduceIte, Nat.reduceEqDiff, Nat.reduceLeDiff, Nat.reduceLT, Nat.reduceAdd, reduceCtorEq, num, boo, str, ints, aV, aTab, aInst, aS, aT, aC, found, pairA, aFk, vT, num, boo, str, aE_eq, aV]; done) | simp [ends, ite_true, ite_false, reduceIte, Nat.reduceEqDiff, Nat.reduceLeDiff, Nat.reduceLT, Nat.reduceAdd, reduceCtorEq, num, boo, str, ints, aV, aTab, aInst, aS, aT, aC, found, pairA, aFk, vT, num, boo, str, aE_eq, aV]) (by first | rfl | (simp only [ends, ite_true, ite_false, reduceIte, Nat.reduceEqDiff, Nat.reduceLeDiff, Nat.reduceLT, Nat.reduceAdd, reduceCtorEq, num, boo, str, ints, aV, aTab, aInst, aS, aT, aC, found, pairA, aFk, vT, num, boo, str, aE_eq, aV]; done) | simp [ends, ite_true, ite_false, reduceIte, Nat.reduceEqDiff, Nat.reduceLeDiff, Nat.reduceLT, Nat.reduceAdd, reduceCtorEq, num, boo, str, ints, aV, aTab, aInst, aS, aT, aC, found, pairA, aFk, vT, num, boo, str, aE_eq, aV]) (by simp only [ends, ite_true, ite_false, reduceIte, Nat.reduceEqDiff, Nat.reduceLeDiff, Nat.reduceLT, Nat.reduceAdd, reduceCtorEq, num, boo, str, ints, aV, aTab, aInst, aS, aT, aC, found, pairA, aFk, vT]) (by simp [idsOk, lookO, updO, ren1]) ?_
    simp -implicitDefEqProofs only [↓steps, push_cast, reduceIte, Nat.reduceEqDiff, Nat.reduceAdd, Nat.reduceMul, Nat.reduceLT, Nat.reduceLeDiff, Int.reduceToNat, Int.reduceLE, Int.reduceLT, reduceCtorEq, tte, num, boo, str, ints, aV, aTab, aInst, aS, aT, aC, found, pairA, aFk, vT]
    refine bcase_intro (fun g => ?_) fun g => ?_
    · have hv : resultR ts e l = 1 := by simp only [resultR, numsOp, truthOp, allIs, h1, h2, h3, h4, h5, h6, h7, h8, h9, h10, h11, h12, h13, g, Bool.true_or, Bool.or_true, Bool.or_false, Bool.false_or, Bool.or_self, Bool.true_and, Bool.false_and, Bool.and_self, Bool.false_eq_true, if_true, if_false]
      exact ret_d trivial (by rw [← hr, hv]; rfl) (by simp only [ends, ite_true, ite_false, reduceIte, Nat.reduceEqDiff, Nat.reduceLeDiff, Nat.reduceLT, Nat.reduceAdd, reduceCtorEq, num, boo, str, ints, aV, aTab, aInst, aS, aT, aC, found, pairA, aFk, vT])
    · have hv : resultR ts e l = 0 := by simp only [resultR, numsOp, truthOp, allIs, h1, h2, h3, h4, h5, h6, h7, h8, h9, h10, h11, h12, h13, g, Bool.true_or, Bool.or_true, Bool.or_false, Bool.false_or, Bool.or_self, Bool.true_and, Bool.false_and, Bool.and_self, Bool.false_eq_true, if_true, if_false]
      exact ret_d trivial (by rw [← hr, hv]; rfl) (by simp only [ends, ite_true, ite_false, reduceIte, Nat.reduceEqDiff, Nat.reduceLeDiff, Nat.reduceLT, Nat.reduceAdd, reduceCtorEq, num, boo, str, ints, aV, aTab, aInst, aS, aT, aC, found, pairA, aFk, vT])
  refine bcase_intro (fun h21 => ?_) fun h21 => ?_
  · have hv : resultR ts e l = 2 := by simp only [resultR, numsOp, truthOp, allIs, h1, h2, h3, h4, h5, h6, h7, h8, h9, h10, h11, h12, h13, h21, Bool.true_or, Bool.or_true, Bool.or_false, Bool.false_or, Bool.or_self, Bool.true_and, Bool.false_and, Bool.and_self, Bool.false_eq_true, if_true, if_false]
    exact ret_d trivial (by rw [← hr, hv]; rfl) (by simp only [ends, ite_true, ite_false, reduceIte, Nat.reduceEqDiff, Nat.reduceLeDiff, Nat.reduceLT, Nat.reduceAdd, reduceCtorEq, num, boo, str, ints, aV, aTab, aInst, aS, aT, aC, found, pairA, aFk, vT])
  refine bcase_intro (fun h22 => ?_) fun h22 => ?_
  · refine bcase_t h22 ?_
    refine callx_of [[1], [0]] [] rfl (c_all l 2 hl) (by first | (simp; done) | (simp [rowsOf_length]; done) | (simp [rowsOf_length]; omega)) (by first | (simp only [ends, ite_true, ite_false, reduceIte, Nat.reduceEqDiff, Nat.reduceLeDiff, Nat.reduceLT, Nat.reduceAdd, reduceCtorEq, num, boo, str, ints, aV, aTab, aInst, aS, aT, aC, found, pairA, aFk, vT, num, boo, str, aE_eq, aV]; done) | simp [ends, ite_true, ite_false, reduceIte, Nat.reduceEqDiff, Nat.reduceLeDiff, Nat.reduceLT, Nat.reduceAdd, reduceCtorEq, num, boo, str, ints, aV, aTab, aInst, aS, aT, aC, found, pairA, aFk, vT, num, boo, str, aE_eq, aV]) (by first | rfl | (simp only [ends, ite_true, ite_false, reduceIte, Nat.reduceEqDiff, Nat.reduceLeDiff, Nat.reduceLT, Nat.reduceAdd, reduceCtorEq, num, boo, str, ints, aV, aTab, aInst, aS, aT, aC, found, pairA, aFk, vT, num, boo, str, aE_eq, aV]; done) | simp [ends, ite_true, ite_false, reduceIte, Nat.reduceEqDiff, Nat.reduceLeDiff, Nat.reduceLT, Nat.reduceAdd, reduceCtorEq, num, boo, str, ints, aV, aTab, aInst, aS, aT, aC, found, pairA, aFk, vT, num, boo, str, aE_eq, aV]) (by simp only [ends, ite_true, ite_false, reduceIte, Nat.reduceEqDiff, Nat.reduceLeDiff, Nat.reduceLT, Nat.reduceAdd, reduceCtorEq, num, boo, str, ints, aV, aTab, aInst, aS, aT, aC, found, pairA, aFk, vT]) (by simp [idsOk, lookO, updO, ren1]) ?_
    simp -implicitDefEqProofs only [↓steps, push_cast, reduceIte, Nat.reduceEqDiff, Nat.reduceAdd, Nat.reduceMul, Nat.reduceLT, Nat.reduceLeDiff, Int.reduceToNat, Int.reduceLE, Int.reduceLT, reduceCtorEq, tte, num, boo, str, ints, aV, aTab, aInst, aS, aT, aC, found, pairA, aFk, vT]
    refine bcase_intro (fun g => ?_) fun g => ?_
    · have hv : resultR ts e l = 2 := by simp only [resultR, numsOp, truthOp, allIs, h1, h2, h3, h4, h5, h6, h7, h8, h9, h10, h11, h12, h13, h21, h22, g, Bool.true_or, Bool.or_true, Bool.or_false, Bool.false_or, Bool.or_self, Bool.true_and, Bool.false_and, Bool.and_self, Bool.false_eq_true, if_true, if_false]
      exact ret_d trivial (by rw [← hr, hv]; rfl) (by simp only [ends, ite_true, ite_false, reduceIte, Nat.reduceEqDiff, Nat.reduceLeDiff, Nat.reduceLT, Nat.reduceAdd, reduceCtorEq, num, boo, str, ints, aV, aTab, aInst, aS, aT, aC, found, pairA, aFk, vT])
    · have hv : resultR ts e l = 0 := by simp only [resultR, numsOp, truthOp, allIs, h1, h2, h3, h4, h5, h6, h7, h8, h9, h10, h11, h12, h13, h21, h22, g, Bool.true_or, Bool.or_true, Bool.or_false, Bool.false_or, Bool.or_self, Bool.true_and, Bool.false_and, Bool.and_self, Bool.false_eq_true, if_true, if_false]
      exact ret_d trivial (by rw [← hr, hv]; rfl) (by simp only [ends, ite_true, ite_false, reduceIte, Nat.reduceEqDiff, Nat.reduceLeDiff, Nat.reduceLT, Nat.reduceAdd, reduceCtorEq, num, boo, str, ints, aV, aTab, aInst, aS, aT, aC, found, pairA, aFk, vT])
  refine bcase_intro (fun h23 => ?_) fun h23 => ?_
  · refine bcase_t h23 ?_
    refine callx_of [[1], [0]] [] rfl (c_all l 2 hl) (by first | (simp; done) | (simp [rowsOf_length]; done) | (simp [rowsOf_length]; omega)) (by first | (simp only [ends, ite_true, ite_false, reduceIte, Nat.reduceEqDiff, Nat.reduceLeDiff, Nat.reduceLT, Nat.reduceAdd, reduceCtorEq, num, boo, str, ints, aV, aTab, aInst, aS, aT, aC, found, pairA, aFk, vT, num, boo, str, aE_eq, aV]; done) | simp [ends, ite_true, ite_false, reduceIte, Nat.reduceEqDiff, Nat.reduceLeDiff, Nat.reduceLT, Nat.reduceAdd, reduceCtorEq, num, boo, str, ints, aV, aTab, aInst, aS, aT, aC, found, pairA, aFk, vT, num, boo, str, aE_eq, aV]) (by first | rfl | (simp only [ends, ite_true, ite_false, reduceIte, Nat.reduceEqDiff, Nat.reduceLeDiff, Nat.reduceLT, Nat.reduceAdd, reduceCtorEq, num, boo, str, ints, aV, aTab, aInst, aS, aT, aC, found, pairA, aFk, vT, num, boo, str, aE_eq, aV]; done) | simp [ends, ite_true, ite_false, reduceIte, Nat.reduceEqDiff, Nat.reduceLeDiff, Nat.reduceLT, Nat.reduceAdd, reduceCtorEq, num, boo, str, ints, aV, aTab, aInst, aS, aT, aC, found, pairA, aFk, vT, num, boo, str, aE_eq, aV]) (by simp only [ends, ite_true, ite_false, reduceIte, Nat.reduceEqDiff, Nat.reduceLeDiff, Nat.reduceLT, Nat.reduceAdd, reduceCtorEq, num, boo, str, ints, aV, aTab, aInst, aS, aT, aC, found, pairA, aFk, vT]) (by simp [idsOk, lookO, updO, ren1]) ?_
    simp -implicitDefEqProofs only [↓steps, push_cast, reduceIte, Nat.reduceEqDiff, Nat.reduceAdd, Nat.reduceMul, Nat.reduceLT, Nat.reduceLeDiff, Int.reduceToNat, Int.reduceLE, Int.reduceLT, reduceCtorEq, tte, num, boo, str, ints, aV, aTab, aInst, aS, aT, aC, found, pairA, aFk, vT]
    refine bcase_intro (fun g => ?_) fun g => ?_
    · have hv : resultR ts e l = 2 := by simp only [resultR, numsOp, truthOp, allIs, h1, h2, h3, h4, h5, h6, h7, h8, h9, h10, h11, h12, h13, h21, h22, h23, g, Bool.true_or, Bool.or_true, Bool.or_false, Bool.false_or, Bool.or_self, Bool.true_and, Bool.false_and, Bool.and_self, Bool.false_eq_true, if_true, if_false]
      exact ret_d trivial (by rw [← hr, hv]; rfl) (by simp only [ends, ite_true, ite_false, reduceIte, Nat.reduceEqDiff, Nat.reduceLeDiff, Nat.reduceLT, Nat.reduceAdd, reduceCtorEq, num, boo, str, ints, aV, aTab, aInst, aS, aT, aC, found, pairA, aFk, vT])
    · have hv : resultR ts e l = 0 := by simp only [resultR, numsOp, truthOp, allIs, h1, h2, h3, h4, h5, h6, h7, h8, h9, h10, h11, h12, h13, h21, h22, h23, g, Bool.true_or, Bool.or_true, Bool.or_false, Bool.false_or, Bool.or_self, Bool.true_and, Bool.false_and, Bool.and_self, Bool.false_eq_true, if_true, if_false]
      exact ret_d trivial (by rw [← hr, hv]; rfl) (by simp only [ends, ite_true, ite_false, reduceIte, Nat.reduceEqDiff, Nat.reduceLeDiff, Nat.reduceLT, Nat.reduceAdd, reduceCtorEq, num, boo, str, ints, aV, aTab, aInst, aS, aT, aC, found, pairA, aFk, vT])
  refine bcase_intro (fun h24 => ?_) fun h24 => ?_
  · refine bcase_t h24 ?_
    refine callx_of [[1], [0]] [] rfl (c_all l 2 hl) (by first | (simp; done) | (simp [rowsOf_length]; done) | (simp [rowsOf_length]; omega)) (by first | (simp only [ends, ite_true, ite_false, reduceIte, Nat.reduceEqDiff, Nat.reduceLeDiff, Nat.reduceLT, Nat.reduceAdd, reduceCtorEq, num, boo, str, ints, aV, aTab, aInst, aS, aT, aC, found, pairA, aFk, vT, num, boo, str, aE_eq, aV]; done) | simp [ends, ite_true, ite_false, reduceIte, Nat.reduceEqDiff, Nat.reduceLeDiff, Nat.reduceLT, Nat.reduceAdd, reduceCtorEq, num, boo, str, ints, aV, aTab, aInst, aS, aT, aC, found, pairA, aFk, vT, num, boo, str, aE_eq, aV]) (by first | rfl | (simp only [ends, ite_true, ite_false, reduceIte, Nat.reduceEqDiff, Nat.reduceLeDiff, Nat.reduceLT, Nat.reduceAdd, reduceCtorEq, num, boo, str, ints, aV, aTab, aInst, aS, aT, aC, found, pairA, aFk, vT, num, boo, str, aE_eq, aV]; done) | simp [ends, ite_true, ite_false, reduceIte, Nat.reduceEqDiff, Nat.reduceLeDiff, Nat.reduceLT, Nat.reduceAdd, reduceCtorEq, num, boo, str, ints, aV, aTab, aInst, aS, aT, aC, found, pairA, aFk, vT, num, boo, str, aE_eq, aV]) (by simp only [ends, ite_true, ite_false, reduceIte, Nat.reduceEqDiff, Nat.reduceLeDiff, Nat.reduceLT, Nat.reduceAdd, reduceCtorEq, num, boo, str, ints, aV, aTab, aInst, aS, aT, aC, found, pairA, aFk, vT]) (by simp [idsOk, lookO, updO, ren1]) ?_
    simp -implicitDefEqProofs only [↓steps, push_cast, reduceIte, Nat.reduceEqDiff, Nat.reduceAdd, Nat.reduceMul, Nat.reduceLT, Nat.reduceLeDiff, Int.reduceToNat, Int.reduceLE, Int.reduceLT, reduceCtorEq, tte, num, boo, str, ints, aV, aTab, aInst, aS, aT, aC, found, pairA, aFk, vT]
    refine bcase_intro (fun g => ?_) fun g => ?_
    · have hv : resultR ts e l = 2 := by simp only [resultR, numsOp, truthOp, allIs, h1, h2, h3, h4, h5, h6, h7, h8, h9, h10, h11, h12, h13, h21, h22, h23, h24, g, Bool.true_or, Bool.or_true, Bool.or_false, Bool.false_or, Bool.or_self, Bool.true_and, Bool.false_and, Bool.and_self, Bool.false_eq_true, if_true, if_false]
      exact ret_d trivial (by rw [← hr, hv]; rfl) (by simp only [ends, ite_true, ite_false, reduceIte, Nat.reduceEqDiff, Nat.reduceLeDiff, Nat.reduceLT, Nat.reduceAdd, reduceCtorEq, num, boo, str, ints, aV, aTab, aInst, aS, aT, aC, found, pairA, aFk, vT])
    · have hv : resultR ts e l = 0 := by simp only [resultR, numsOp, truthOp, allIs, h1, h2, h3, h4, h5, h6, h7, h8, h9, h10, h11, h12, h13, h21, h22, h23, h24, g, Bool.true_or, Bool.or_true, Bool.or_false, Bool.false_or, Bool.or_self, Bool.true_and, Bool.false_and, Bool.and_self, Bool.false_eq_true, if_true, if_false]
      exact ret_d trivial (by rw [← hr, hv]; rfl) (by simp only [ends, ite_true, ite_false, reduceIte, Nat.reduceEqDiff, Nat.reduceLeDiff, Nat.reduceLT, Nat.reduceAdd, reduceCtorEq, num, boo, str, ints, aV, aTab, aInst, aS, aT, aC, found, pairA, aFk, vT])
  refine bcase_intro (fun h25 => ?_) fun h25 => ?_
  · refine callx_of [[1], [0]] [] rfl (c_all l 2 hl) (by first | (simp; done) | (simp [rowsOf_length]; done) | (simp [rowsOf_length]; omega)) (by first | (simp only [ends, ite_true, ite_false, reduceIte, Nat.reduceEqDiff, Nat.reduceLeDiff, Nat.reduceLT, Nat.reduceAdd, reduceCtorEq, num, boo, str, ints, aV, aTab, aInst, aS, aT, aC, found, pairA, aFk, vT, num, boo, str, aE_eq, aV]; done) | simp [ends, ite_true, ite_false, reduceIte, Nat.reduceEqDiff, Nat.reduceLeDiff, Nat.reduceLT, Nat.reduceAdd, reduceCtorEq, num, boo, str, ints, aV, aTab, aInst, aS, aT, aC, found, pairA, aFk, vT, num, boo, str, aE_eq, aV]) (by first | rfl | (simp only [ends, ite_true, ite_false, reduceIte, Nat.reduceEqDiff, Nat.reduceLeDiff, Nat.reduceLT, Nat.reduceAdd, reduceCtorEq, num, boo, str, ints, aV, aTab, aInst, aS, aT, aC, found, pairA, aFk, vT, num, boo, str, aE_eq, aV]; done) | simp [ends, ite_true, ite_false, reduceIte, Nat.reduceEqDiff, Nat.reduceLeDiff, Nat.reduceLT, Nat.reduceAdd, reduceCtorEq, num, boo, str, ints, aV, aTab, aInst, aS, aT, aC, found, pairA, aFk, vT, num, boo, str, aE_eq, aV]) (by simp only [ends, ite_true, ite_false, reduceIte, Nat.reduceEqDiff, Nat.reduceLeDiff, Nat.reduceLT, Nat.reduceAdd, reduceCtorEq, num, boo, str, ints, aV, aTab, aInst, aS, aT, aC, found, pairA, aFk, vT]) (by simp [idsOk, lookO, updO, ren1]) ?_
    simp -implicitDefEqProofs only [↓steps, push_cast, reduceIte, Nat.reduceEqDiff, Nat.reduceAdd, Nat.reduceMul, Nat.reduceLT, Nat.reduceLeDiff, Int.reduceToNat, Int.reduceLE, Int.reduceLT, reduceCtorEq, tte, num, boo, str, ints, aV, aTab, aInst, aS, aT, aC, found, pairA, aFk, vT]
    refine bcase_intro (fun g => ?_) fun g => ?_
    · have hv : resultR ts e l = 2 := by simp only [resultR, numsOp, truthOp, allIs, h1, h2, h3, h4, h5, h6, h7, h8, h9, h10, h11, h12, h13, h21, h22, h23, h24, h25, g, Bool.true_or, Bool.or_true, Bool.or_false, Bool.false_or, Bool.or_self, Bool.true_and, Bool.false_and, Bool.and_self, Bool.false_eq_true, if_true, if_false]
      exact ret_d trivial (by rw [← hr, hv]; rfl) (by simp only [ends, ite_true, ite_false, reduceIte, Nat.reduceEqDiff, Nat.reduceLeDiff, Nat.reduceLT, Nat.reduceAdd, reduceCtorEq, num, boo, str, ints, aV, aTab, aInst, aS, aT, aC, found, pairA, aFk, vT])
    · have hv : resultR ts e l = 0 := by simp only [resultR, numsOp, truthOp, allIs, h1, h2, h3, h4, h5, h6, h7, h8, h9, h10, h11, h12, h13, h21, h22, h23, h24, h25, g, Bool.true_or, Bool.or_true, Bool.or_false, Bool.false_or, Bool.or_self, Bool.true_and, Bool.false_and, Bool.and_self, Bool.false_eq_true, if_true, if_false]
      exact ret_d trivial (by rw [← hr, hv]; rfl) (by simp only [ends, ite_true, ite_false, reduceIte, Nat.reduceEqDiff, Nat.reduceLeDiff, Nat.reduceLT, Nat.reduceAdd, reduceCtorEq, num, boo, str, ints, aV, aTab, aInst, aS, aT, aC, found, pairA, aFk, vT])
  refine bcase_intro (fun h26 => ?_) fun h26 => ?_
  · have hlen : l.length = 3 := hc26 (by simpa using h26)
    refine ⟨by omega, ?_⟩
    refine bcase_intro (fun a1 => ?_) fun a1 => ?_
    · refine ⟨by omega, by omega, drawx_intro (by kernel_rfl), ?_⟩
      refine bcase_intro (fun a2 => ?_) fun a2 => ?_
      · refine ⟨by omega, ?_⟩
        have hv : resultR ts e l = l.getD 1 default := by simp only [resultR, numsOp, truthOp, allIs, h1, h2, h3, h4, h5, h6, h7, h8, h9, h10, h11, h12, h13, h21, h22, h23, h24, h25, h26, a1, a2, Bool.true_or, Bool.or_true, Bool.or_false, Bool.false_or, Bool.or_self, Bool.true_and, Bool.false_and, Bool.and_self, Bool.false_eq_true, if_true, if_false]
        exact ret_d trivial (by rw [← hr, hv]; rfl) (by simp only [ends, ite_true, ite_false, reduceIte, Nat.reduceEqDiff, Nat.reduceLeDiff, Nat.reduceLT, Nat.reduceAdd, reduceCtorEq, num, boo, str, ints, aV, aTab, aInst, aS, aT, aC, found, pairA, aFk, vT])
      · have hv : resultR ts e l = 0 := by simp only [resultR, numsOp, truthOp, allIs, h1, h2, h3, h4, h5, h6, h7, h8, h9, h10, h11, h12, h13, h21, h22, h23, h24, h25, h26, a1, a2, Bool.true_or, Bool.or_true, Bool.or_false, Bool.false_or, Bool.or_self, Bool.true_and, Bool.false_and, Bool.and_self, Bool.false_eq_true, if_true, if_false]
        exact ret_d trivial (by rw [← hr, hv]; rfl) (by simp only [ends, ite_true, ite_false, reduceIte, Nat.reduceEqDiff, Nat.reduceLeDiff, Nat.reduceLT, Nat.reduceAdd, reduceCtorEq, num, boo, str, ints, aV, aTab, aInst, aS, aT, aC, found, pairA, aFk, vT])
    · refine ⟨drawx_intro (by kernel_rfl), ?_⟩
      have hv : resultR ts e l = 0 := by simp only [resultR, numsOp, truthOp, allIs, h1, h2, h3, h4, h5, h6, h7, h8, h9, h10, h11, h12, h13, h21, h22, h23, h24, h25, h26, a1, Bool.true_or, Bool.or_true, Bool.or_false, Bool.false_or, Bool.or_self, Bool.true_and, Bool.false_and, Bool.and_self, Bool.false_eq_true, if_true, if_false]
      exact ret_d trivial (by rw [← hr, hv]; rfl) (by simp only [ends, ite_true, ite_false, reduceIte, Nat.reduceEqDiff, Nat.reduceLeDiff, Nat.reduceLT, Nat.reduceAdd, reduceCtorEq, num, boo, str, ints, aV, aTab, aInst, aS, aT, aC, found, pairA, aFk, vT])
  refine bcase_intro (fun h27 => ?_) fun h27 => ?_
  · have hlen : l.length = 2 := hc27 (by simpa using h27)
    refine ⟨by omega, by omega, drawx_intro (by kernel_rfl), ?_⟩
    refine bcase_intro (fun a1 => ?_) fun a1 => ?_
    · refine ⟨by omega, ?_⟩
      have hv : resultR ts e l = l.getD 0 default := by simp only [resultR, numsOp, truthOp, allIs, h1, h2, h3, h4, h5, h6, h7, h8, h9, h10, h11, h12, h13, h21, h22, h23, h24, h25, h26, h27, a1, Bool.true_or, Bool.or_true, Bool.or_false, Bool.false_or, Bool.or_self, Bool.true_and, Bool.false_and, Bool.and_self, Bool.false_eq_true, if_true, if_false]
      exact ret_d trivial (by rw [← hr, hv]; rfl) (by simp only [ends, ite_true, ite_false, reduceIte, Nat.reduceEqDiff, Nat.reduceLeDiff, Nat.reduceLT, Nat.reduceAdd, reduceCtorEq, num, boo, str, ints, aV, aTab, aInst, aS, aT, aC, found, pairA, aFk, vT])
    · have hv : resultR ts e l = 0 := by simp only [resultR, numsOp, truthOp, allIs, h1, h2, h3, h4, h5, h6, h7, h8, h9, h10, h11, h12, h13, h21, h22, h23, h24, h25, h26, h27, a1, Bool.true_or, Bool.or_true, Bool.or_false, Bool.false_or, Bool.or_self, Bool.true_and, Bool.false_and, Bool.and_self, Bool.false_eq_true, if_true, if_false]
      exact ret_d trivial (by rw [← hr, hv]; rfl) (by simp only [ends, ite_true, ite_false, reduceIte, Nat.reduceEqDiff, Nat.reduceLeDiff, Nat.reduceLT, Nat.reduceAdd, reduceCtorEq, num, boo, str, ints, aV, aTab, aInst, aS, aT, aC, found, pairA, aFk, vT])
  have hgt : 5 < e.op := by
    simp only [beq_eq_false_iff_ne, ne_eq] at h1 h2 h3 h4 h5
    simp only [isOp, Bool.and_eq_true, decide_eq_true_eq] at ho
    omega
  have hlen := hE ho hgt
  refine ⟨by omega, ?_⟩
  refine callx_of [[1], [0]] [] rfl (c_all l (l.getD 0 default) hl) (by first | (simp; done) | (simp [rowsOf_length]; done) | (simp [rowsOf_length]; omega)) (by first | (simp only [ends, ite_true, ite_false, reduceIte, Nat.reduceEqDiff, Nat.reduceLeDiff, Nat.reduceLT, Nat.reduceAdd, reduceCtorEq, num, boo, str, ints, aV, aTab, aInst, aS, aT, aC, found, pairA, aFk, vT, num, boo, str, aE_eq, aV]; done) | simp [ends, ite_true, ite_false, reduceIte, Nat.reduceEqDiff, Nat.reduceLeDiff, Nat.reduceLT, Nat.reduceAdd, reduceCtorEq, num, boo, str, ints, aV, aTab, aInst, aS, aT, aC, found, pairA, aFk, vT, num, boo, str, aE_eq, aV]) (by first | rfl | (simp only [ends, ite_true, ite_false, reduceIte, Nat.reduceEqDiff, Nat.reduceLeDiff, Nat.reduceLT, Nat.reduceAdd, reduceCtorEq, num, boo, str, ints, aV, aTab, aInst, aS, aT, aC, found, pairA, aFk, vT, num, boo, str, aE_eq, aV]; done) | simp [ends, ite_true, ite_false, reduceIte, Nat.reduceEqDiff, Nat.reduceLeDiff, Nat.reduceLT, Nat.reduceAdd, reduceCtorEq, num, boo, str, ints, aV, aTab, aInst, aS, aT, aC, found, pairA, aFk, vT, num, boo, str, aE_eq, aV]) (by simp only [ends, ite_true, ite_false, reduceIte, Nat.reduceEqDiff, Nat.reduceLeDiff, Nat.reduceLT, Nat.reduceAdd, reduceCtorEq, num, boo, str, ints, aV, aTab, aInst, aS, aT, aC, found, pairA, aFk, vT]) (by simp [idsOk, lookO, updO, ren1]) ?_
  simp -implicitDefEqProofs only [↓steps, push_cast, reduceIte, Nat.reduceEqDiff, Nat.reduceAdd, Nat.reduceMul, Nat.reduceLT, Nat.reduceLeDiff, Int.reduceToNat, Int.reduceLE, Int.reduceLT, reduceCtorEq, tte, num, boo, str, ints, aV, aTab, aInst, aS, aT, aC, found, pairA, aFk, vT]
  refine bcase_intro (fun g => ?_) fun g => ?_
  · have hv : resultR ts e l = 2 := by simp only [resultR, numsOp, truthOp, allIs, h1, h2, h3, h4, h5, h6, h7, h8, h9, h10, h11, h12, h13, h21, h22, h23, h24, h25, h26, h27, g, Bool.true_or, Bool.or_true, Bool.or_false, Bool.false_or, Bool.or_self, Bool.true_and, Bool.false_and, Bool.and_self, Bool.false_eq_true, if_true, if_false]
    exact ret_d trivial (by rw [← hr, hv]; rfl) (by simp only [ends, ite_true, ite_false, reduceIte, Nat.reduceEqDiff, Nat.reduceLeDiff, Nat.reduceLT, Nat.reduceAdd, reduceCtorEq, num, boo, str, ints, aV, aTab, aInst, aS, aT, aC, found, pairA, aFk, vT])
  · have hv : resultR ts e l = 0 := by simp only [resultR, numsOp, truthOp, allIs, h1, h2, h3, h4, h5, h6, h7, h8, h9, h10, h11, h12, h13, h21, h22, h23, h24, h25, h26, h27, g, Bool.true_or, Bool.or_true, Bool.or_false, Bool.false_or, Bool.or_self, Bool.true_and, Bool.false_and, Bool.and_self, Bool.false_eq_true, if_true, if_false]
    exact ret_d trivial (by rw [← hr, hv]; rfl) (by simp only [ends, ite_true, ite_false, reduceIte, Nat.reduceEqDiff, Nat.reduceLeDiff, Nat.reduceLT, Nat.reduceAdd, reduceCtorEq, num, boo, str, ints, aV, aTab, aInst, aS, aT, aC, found, pairA, aFk, vT])
end Go.Proofs.YtkccdfaelbepeaaDoor
