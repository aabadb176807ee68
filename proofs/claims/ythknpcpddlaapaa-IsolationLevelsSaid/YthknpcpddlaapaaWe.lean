/- Histories and their anomalies (part We) -/
import Derived.Test.YthknpcpddlaapaaW0
import Derived.Shelf.SlSortCmp.NoneTotal
import Derived.Test.YthknpcpddlaapaaWb
set_option linter.all false
namespace Go.Proofs.Ythknpcpddlaapaa
open Go.Proofs Go.Shelf
def Try.sortE_ren : Go.Shelf.Ren := ⟨fun | 6 => 60 | 15 => 82 | 14 => 81 | 28 => 96 | 29 => 97 | 20 => 88 | 21 => 89 | 22 => 90 | 23 => 91 | 24 => 92 | 25 => 93 | 26 => 94 | 27 => 95 | 46 => 98 | 47 => 99 | 48 => 100 | 49 => 101 | 50 => 102 | 57 => 103 | n => n, fun | 22 => 49 | 24 => 54 | 25 => 112 | 3 => 3 | 39 => 127 | 0 => 0 | 53 => 142 | 55 => 144 | 4 => 4 | 46 => 135 | 45 => 134 | 50 => 139 | 5 => 5 | 9 => 9 | 66 => 145 | 70 => 149 | 76 => 151 | 77 => 152 | n => n, fun | n => n⟩
theorem Try.sortE : Go.Proofs.SlLaysF0.n6 Try.prog Try.sortE_ren := {
  mixed := by kernel_rfl
  f6 := ⟨Try.f60.name, by decide, Try.func60.trans (congrArg some (by kernel_rfl))⟩
  f14 := ⟨Try.f81.name, by decide, Try.func81.trans (congrArg some (by kernel_rfl))⟩
  f15 := Try.func82.trans (congrArg some (by kernel_rfl))
  f20 := ⟨Try.f88.name, by decide, Try.func88.trans (congrArg some (by kernel_rfl))⟩
  f21 := ⟨Try.f89.name, by decide, Try.func89.trans (congrArg some (by kernel_rfl))⟩
  f22 := ⟨Try.f90.name, by decide, Try.func90.trans (congrArg some (by kernel_rfl))⟩
  f23 := ⟨Try.f91.name, by decide, Try.func91.trans (congrArg some (by kernel_rfl))⟩
  f24 := ⟨Try.f92.name, by decide, Try.func92.trans (congrArg some (by kernel_rfl))⟩
  f25 := ⟨Try.f93.name, by decide, Try.func93.trans (congrArg some (by kernel_rfl))⟩
  f26 := ⟨Try.f94.name, by decide, Try.func94.trans (congrArg some (by kernel_rfl))⟩
  f27 := ⟨Try.f95.name, by decide, Try.func95.trans (congrArg some (by kernel_rfl))⟩
  f28 := Try.func96.trans (congrArg some (by kernel_rfl))
  f29 := Try.func97.trans (congrArg some (by kernel_rfl))
  f46 := ⟨Try.f98.name, by decide, Try.func98.trans (congrArg some (by kernel_rfl))⟩
  f47 := Try.func99.trans (congrArg some (by kernel_rfl))
  f48 := Try.func100.trans (congrArg some (by kernel_rfl))
  f49 := ⟨Try.f101.name, by decide, Try.func101.trans (congrArg some (by kernel_rfl))⟩
  f50 := ⟨Try.f102.name, by decide, Try.func102.trans (congrArg some (by kernel_rfl))⟩
  f57 := ⟨Try.f103.name, by decide, Try.func103.trans (congrArg some (by kernel_rfl))⟩
  t0 := Try.underlying0
  a0 := Try.isAgg0
  z0 := Try.sizeOf0
  v0 := Try.zeroValue0
  t3 := Try.underlying3
  a3 := Try.isAgg3
  z3 := Try.sizeOf3
  v3 := Try.zeroValue3
  t4 := Try.underlying4
  a4 := Try.isAgg4
  z4 := Try.sizeOf4
  v4 := Try.zeroValue4
  t5 := Try.underlying5
  a5 := Try.isAgg5
  z5 := Try.sizeOf5
  v5 := Try.zeroValue5
  t9 := Try.underlying9
  a9 := Try.isAgg9
  z9 := Try.sizeOf9
  v9 := Try.zeroValue9
  t22 := Try.underlying49
  a22 := Try.isAgg49
  z22 := Try.sizeOf49
  v22 := Try.zeroValue49
  t25 := Try.underlying112
  a25 := Try.isAgg112
  z25 := Try.sizeOf112
  v25 := Try.zeroValue112
  t39 := Try.underlying127
  a39 := Try.isAgg127
  z39 := Try.sizeOf127
  v39 := Try.zeroValue127
  t45 := Try.underlying134
  a45 := Try.isAgg134
  z45 := Try.sizeOf134
  v45 := Try.zeroValue134
  t46 := Try.underlying135
  a46 := Try.isAgg135
  z46 := Try.sizeOf135
  v46 := Try.zeroValue135
  t50 := Try.underlying139
  a50 := Try.isAgg139
  z50 := Try.sizeOf139
  v50 := Try.zeroValue139
  t53 := Try.underlying142
  a53 := Try.isAgg142
  z53 := Try.sizeOf142
  v53 := Try.zeroValue142
  t55 := Try.underlying144
  a55 := Try.isAgg144
  z55 := Try.sizeOf144
  v55 := Try.zeroValue144
  t66 := Try.underlying145
  a66 := Try.isAgg145
  z66 := Try.sizeOf145
  v66 := Try.zeroValue145
  t70 := Try.underlying149
  a70 := Try.isAgg149
  z70 := Try.sizeOf149
  v70 := Try.zeroValue149
  t76 := Try.underlying151
  a76 := Try.isAgg151
  z76 := Try.sizeOf151
  v76 := Try.zeroValue151
  t77 := Try.underlying152
  a77 := Try.isAgg152
  z77 := Try.sizeOf152
  v77 := Try.zeroValue152 }
end Go.Proofs.Ythknpcpddlaapaa
namespace Go.Proofs.Ythknpcpddlaapaa
open Go.Am Go.Sort Go.Proofs Go.Shelf Go.RowKit
attribute [local simp, local push_cast] num boo str ints rEv aEv rTk aTk rEg aEg aH vEv vecI
set_option linter.unusedVariables false
set_option maxRecDepth 100000
set_option maxHeartbeats 4000000
/-- From w to w' nothing has turned: draws and blocks have come. -/
theorem quiet_grown {Y : Nat → Nat → Prop} {w w' : World} (h : Ev Y w w') (hY : ∀ b i, ¬ Y b i) : ∃ q os', w' = grow (w.drewN q) os' := by
  have hb := h.below hY
  refine ⟨w'.drawn - w.drawn, w'.heap.extract w.heap.size w'.heap.size, ?_⟩
  have h1 : w'.heap = w.heap ++ w'.heap.extract w.heap.size w'.heap.size := by
    apply Array.ext_getElem?
    intro k
    rw [Array.getElem?_append]
    split
    · rename_i hk; exact hb.block k hk
    · rename_i hk
      rw [Array.getElem?_extract]
      have := h.size
      split
      · congr 1; omega
      · rename_i hk2; rw [Array.getElem?_eq_none (by omega)]
  have h2 : w.drawn + (w'.drawn - w.drawn) = w'.drawn := by have := h.drawn; omega
  have e1 := h.os
  have e2 := h.tape
  have e3 := h.output
  unfold grow World.drewN
  rw [h2, ← h1, ← e1, ← e2, ← e3]
def encE (v : Eg) : List Value := [.int .i64 v.frm, .int .i64 v.to, .int .i64 v.kind, .int .i64 v.key]
def sortX (vs : List Eg) : List Eg := vs.mergeSort fun x y => !(ltOf cmpE y x)
theorem sortX_length (vs : List Eg) : (sortX vs).length = vs.length := by rw [sortX, List.length_mergeSort]
theorem sortX_eq (vs : List Eg) : sortX vs = sortE vs := by
  rw [← sortE_eq]
  unfold sortX
  congr 1
  funext x y
  simp only [Go.Proofs.ltOf]
  rw [Bool.eq_iff_iff, Bool.not_eq_true', decide_eq_false_iff_not, cmpE_lt]
  simp
theorem swoE : SWO (ltOf cmpE) where
  irrefl x := by
    simp only [Go.Proofs.ltOf, decide_eq_false_iff_not]
    rw [cmpE_lt]
    have := leE_total x x
    simp at this
    simp [this]
  trans x y z h1 h2 := by
    simp only [Go.Proofs.ltOf, decide_eq_true_eq, cmpE_lt] at *
    rw [← Bool.not_eq_true, leE_iff] at *
    omega
  ntrans x y z h1 h2 := by
    simp only [Go.Proofs.ltOf, decide_eq_false_iff_not, cmpE_lt] at *
    rw [Bool.not_eq_false, leE_iff] at *
    omega
theorem tri_E (x y : Eg) (h1 : ¬ cmpE x y < 0) (h2 : ¬ cmpE y x < 0) : x = y := by
  rw [cmpE_lt, Bool.not_eq_false] at h1 h2
  exact leE_anti x y h2 h1
theorem rows_flat {R : Rd} : ∀ (vs : List Eg) (C : Nat → Value → Prop) (k : Nat), (∀ i, i < vs.length → C (k + i * 4) (.int .i64 (vs.getD i default).frm) ∧ C (k + i * 4 + 1) (.int .i64 (vs.getD i default).to) ∧ C (k + i * 4 + 2) (.int .i64 (vs.getD i default).kind) ∧ C (k + i * 4 + 3) (.int .i64 (vs.getD i default).key)) →
    Go.Am.rowsAt R C 4 k (rowsOf rEg vs)
  | [], _, _, _ => by simp [rowsOf, Go.Am.rowsAt]
  | v :: vs, C, k, h => by
    rw [rowsOf_cons]
    simp only [Go.Am.rowsAt]
    obtain ⟨h1, h2, h3, h4⟩ := h 0 (by simp)
    simp at h1 h2 h3 h4
    refine ⟨rfl, ?_, rows_flat vs C (k + 4) fun i hi => ?_⟩
    · simp only [rEg, Go.Am.rowAt]
      exact ⟨⟨_, h1, rfl, rfl⟩, ⟨_, h2, rfl, rfl⟩, ⟨_, h3, rfl, rfl⟩, ⟨_, h4, rfl, rfl⟩, trivial⟩
    · have := h (i + 1) (by simpa using hi)
      rw [show k + (i + 1) * 4 = k + 4 + i * 4 by omega] at this
      simpa using this
theorem flat_rows {R : Rd} {C : Nat → Value → Prop} {vs : List Eg} {k : Nat} (h : Go.Am.rowsAt R C 4 k (rowsOf rEg vs)) {i : Nat} (hi : i < vs.length) :
    C (k + i * 4) (.int .i64 (vs.getD i default).frm) ∧ C (k + i * 4 + 1) (.int .i64 (vs.getD i default).to) ∧ C (k + i * 4 + 2) (.int .i64 (vs.getD i default).kind) ∧ C (k + i * 4 + 3) (.int .i64 (vs.getD i default).key) := by
  have := (rowsAt_get _ _ i (by rw [rowsOf_length]; exact hi) h).2
  rw [rowsOf_getD _ _ _ hi] at this
  simp only [rEg, Go.Am.rowAt, D.rep] at this
  obtain ⟨⟨v1, a1, b1, _⟩, ⟨v2, a2, b2, _⟩, ⟨v3, a3, b3, _⟩, ⟨v4, a4, b4, _⟩, _⟩ := this
  subst b1 b2 b3 b4
  exact ⟨a1, a2, a3, a4⟩
theorem sortWorld_old (w : World) (b m : Nat) (d : Array Eg) (os : Array Obj) (hb : b < w.heap.size) (k : Nat) (hk : k ≠ b) (hk2 : k < w.heap.size) : (sortWorldK encE 4 w b 0 m d os).heap[k]? = w.heap[k]? := by
  unfold sortWorldK grow putRowK putRow mapBlock
  simp only [Array.getElem?_append, Array.size_modify]
  rw [if_pos (by exact hk2), Array.getElem?_modify, if_neg (Ne.symm hk)]
  rfl
theorem sortWorld_blk (w : World) (b m : Nat) (d : Array Eg) (os : Array Obj) {c : Array Value} {e : TypeId} (hb : w.heap[b]? = some (.cells c e (0, 0))) :
    (sortWorldK encE 4 w b 0 m d os).heap[b]? = some (.cells (putCells id 0 (flatK encE 4 d) c) e (0, 0)) := by
  have hlt : b < w.heap.size := by
    rcases Nat.lt_or_ge b w.heap.size with q | q
    · exact q
    · rw [Array.getElem?_eq_none q] at hb; cases hb
  unfold sortWorldK grow putRowK putRow mapBlock
  simp only [Array.getElem?_append, Array.size_modify]
  rw [if_pos (by exact hlt), Array.getElem?_modify, if_pos rfl]
  show Option.map _ w.heap[b]? = _
  rw [hb]
  rfl
theorem cmp_lays {cx : Cx} {β : Nat → Option (Option Nat)} {h : Nat → Option Ob} {w : World} {o b e : Nat} {vs : List Eg} (rel : Rel cx β h w) (ho : h o = some (.vec e 4 (rowsOf rEg vs) 0)) (hb : β o = some (some b)) (hlt : b < w.heap.size) (n : Nat) :
    CmpLays Try.prog 61 #[] encE 4 cmpE b 0 n w := by
  intro m os dk hs x y
  generalize hW : sortWorldK encE 4 w b 0 m dk os = W
  have hsz : w.heap.size ≤ W.heap.size := by rw [← hW]; unfold sortWorldK putRowK; simp [grow, ahead, putRow, mapBlock]
  have hcell : ∀ bb i v, ¬ Xh β h bb i → w.cell? ⟨bb, i, none⟩ = some v → W.cell? ⟨bb, i, none⟩ = some v := by
    intro bb i v hx hc
    have hbl : bb < w.heap.size := World.block_lt_of_cell? w _ hc
    have hne : bb ≠ b := by
      rintro rfl
      exact hx ⟨o, _, ho, hb, by simp [Ob.excl]⟩
    have := sortWorld_old w b m dk os hlt bb hne hbl
    rw [hW] at this
    unfold World.cell? at *
    simp only [this]
    exact hc
  have hno : ∀ bb i, ¬ Xh (fun _ => none) (lookO []) bb i := by
    rintro bb i ⟨o', ob, h1, _⟩
    cases h1
  have hR : ∀ bb i v, (envOf cx.Xo β h w).R bb i v → (envOf (fun bb i => cx.Xo bb i ∨ Xh β h bb i) (fun _ => none) (lookO []) W).R bb i v := by
    rintro bb i v ⟨h1, h2, h3⟩
    exact ⟨fun hx => hx.elim h1 h2, hno bb i, hcell bb i v h2 h3⟩
  have rel0 : Rel ⟨W, fun bb i => cx.Xo bb i ∨ Xh β h bb i, Xh (fun _ => none) (lookO []), fun _ => none, lookO []⟩ (fun _ => none) (lookO []) W :=
    { dom := fun _ => rfl
      obj := fun o' ob bo h1 => by cases h1
      inj := fun o' o'' bb h1 => by cases h1
      out := fun o' bb i h1 => by cases h1
      bnd := fun bb i hx => by
        rcases hx with hx | ⟨o', ob, h1, h2, _⟩
        · have := rel.bnd bb i hx
          have := rel.ev.size
          show bb < W.heap.size
          omega
        · have := rel.lt h2
          show bb < W.heap.size
          omega
      ev := Ev.refl _ _
      own := fun bb i hx => absurd hx (hno bb i)
      ent := fun o' ob h1 => by cases h1
      big := fun o' h1 => by cases h1
      tab := fun g row hg => rowAt_mono hR (hR g) row 0 (rel.tab g row hg)
      gi := fun g hg => (rel.gi g hg).imp fun _ => hR _ _ _
      tsz := fun g row hg => by
        obtain ⟨c, el, fl, h1, h2⟩ := rel.tsz g row hg
        have hgl : g < w.heap.size := by
          rcases Nat.lt_or_ge g w.heap.size with q | q
          · exact q
          · rw [Array.getElem?_eq_none q] at h1; cases h1
        rw [← hW]
        by_cases hgb : g = b
        · subst hgb
          have hobj := rel.obj _ _ _ ho hb
          simp only [Ob.rep] at hobj
          obtain ⟨_, _, hd | ⟨b', c', hd, g4, _⟩⟩ := hobj
          · cases hd.1
          · cases hd
            have hcc := h1.symm.trans g4
            simp only [Option.some.injEq, Obj.cells.injEq] at hcc
            exact ⟨_, _, _, sortWorld_blk w g m dk os g4, by rw [← h2, hcc.1]; simp [putCells]⟩
        · exact ⟨c, el, fl, by rw [sortWorld_old w b m dk os hlt g hgb hgl]; exact h1, h2⟩ }
  have hargs : repL (envOf (fun bb i => cx.Xo bb i ∨ Xh β h bb i) (fun _ => none) (lookO []) W) [aEg x, aEg y] [.agg (encE x).toArray, .agg (encE y).toArray] := by
    have cells : ∀ (E : Env) (v : Eg), (aEg v).rep E (.agg (encE v).toArray) := by
      intro E v
      simp only [aEg, A.rep, repL, D.rep]
      exact ⟨encE v, rfl, ⟨_, _, rfl, ⟨rfl, rfl⟩, _, _, rfl, ⟨rfl, rfl⟩, _, _, rfl, ⟨rfl, rfl⟩, _, _, rfl, ⟨rfl, rfl⟩, rfl⟩, by simp [encE, Am.one]⟩
    simp only [repL]
    exact ⟨_, _, rfl, cells _ x, _, _, rfl, cells _ y, rfl⟩
  refine ((c_cmpE x y).calls _ _ W _ rel0 hargs).mono ?_
  rintro e' w' ⟨v, β', rfl, rel', hres⟩
  have hv : v = .int .i64 (cmpE x y) := by simp only [num, A.rep, D.rep] at hres; exact hres.1
  subst hv
  exact ⟨rfl, quiet_grown rel'.ev hno⟩
theorem fn_sort {h : Nat → Option Ob} {o e : Nat} {vs : List Eg} (ho : h o = some (.vec e 4 (rowsOf rEg vs) 0)) (hl : vs.length < 4611686018427387904) :
    FnCall Try.prog 60 [.vec o vs.length, .clo 61 []] h ⟨True, .tup [], [(o, .vec e 4 (rowsOf rEg (sortX vs)) 0)], [o]⟩ where
  fn := ⟨_, Try.func60, by kernel_rfl, by kernel_rfl⟩
  keyed := by simp [Keyed]
  calls := fun h2 hr cx β w us rel hus => by
    have ho2 : h2 o = some (.vec e 4 (rowsOf rEg vs) 0) := (hr o (by simp)).trans ho
    simp only [repL] at hus
    obtain ⟨u1, _, rfl, g1, u2, _, rfl, g2, rfl⟩ := hus
    have hf : u2 = .func (.func 61) #[] #[] := by
      simp only [A.rep, repL] at g2
      obtain ⟨_, rfl, rfl⟩ := g2
      rfl
    subst hf
    have hres : ∀ E : Env, (A.tup []).rep E (.tuple #[]) := fun E => by
      simp only [A.rep, repL]
      exact ⟨[], rfl, rfl⟩
    rcases vec_live ho2 (rowsOf_length _ _).symm g1 with ⟨hb, rfl⟩ | ⟨b, cap, hb, rfl, hcap, _, _⟩
    · have hd := rel.obj _ _ _ ho2 hb
      simp only [Ob.rep] at hd
      obtain ⟨_, _, hd | ⟨_, _, hd, _⟩⟩ := hd
      · have hv0 : vs = [] := List.eq_nil_of_length_eq_zero (by have := congrArg List.length hd.2; rw [rowsOf_length] at this; simpa using this)
        subst hv0
        refine (AnyF.slices_SortFunc_none Try.sortE none 0 (.func (.func 61) #[] #[]) w).mono ?_
        rintro e' w' ⟨rfl, rfl⟩
        have hp : upds h2 [(o, Ob.vec e 4 (rowsOf rEg (sortX [])) 0)] = h2 := by
          show put h2 o _ = h2
          funext q
          by_cases hq : q = o
          · subst hq; rw [put_same, ho2]; simp [sortX]
          · rw [put_ne _ _ hq]
        exact ⟨.tuple #[], β, rfl, by rw [hp]; exact rel, by rw [hp]; exact Env.Le.refl _, hres _⟩
      · cases hd
    · obtain ⟨k1, k2, k3⟩ := rel.obj _ _ _ ho2 hb
      rcases k3 with ⟨k3, _⟩ | ⟨b', c, k3, k4, k5, k6⟩
      · cases k3
      cases k3
      have hlt : b < w.heap.size := rel.lt hb
      rw [rowsOf_length] at k6
      have hfl : ∀ (d : List Eg) (j : Nat), j < d.length * 4 → ∃ i q, i < d.length ∧ q < 4 ∧ j = i * 4 + q ∧ (flatK encE 4 d.toArray)[j]! = (encE (d.getD i default))[q]! := by
        intro d j hj
        refine ⟨j / 4, j % 4, by omega, by omega, by omega, ?_⟩
        rw [get_flatK _ _ _ _ (by simpa using hj)]
        congr 2
        simp [List.getD_eq_getElem?_getD]
      have hH : HoldsK encE 4 w b 0 vs.toArray := by
        intro j hj
        have hj' : j < vs.length * 4 := by simpa using hj
        obtain ⟨i, q, h1, h2', h3, h4⟩ := hfl vs j hj'
        have hr3 := flat_rows k5 h1
        rw [h4]
        subst h3
        simp only [Nat.zero_add] at hr3 ⊢
        unfold World.cell? World.frozen?
        simp only [k4]
        refine ⟨?_, by simp⟩
        match q, h2' with
        | 0, _ => simpa [encE] using hr3.1
        | 1, _ => simpa [encE] using hr3.2.1
        | 2, _ => simpa [encE] using hr3.2.2.1
        | 3, _ => simpa [encE] using hr3.2.2.2
      have hcon := AnyQ.slices_SortFunc_total Try.sortE 4 Try.isAgg54 Try.sizeOf54 encE (fun _ => rfl) (fun x v hv => by simp [encE] at hv; rcases hv with rfl | rfl | rfl | rfl <;> rfl) cmpE swoE 61 #[] b 0 cap vs.toArray w
        (enters_of Try.func61 (by kernel_rfl) rfl) (cmp_lays rel ho2 hb hlt _) hH hlt (by simpa using hl) (fun x y h1 h2 => by
          simp only [ltOf, decide_eq_false_iff_not] at h1 h2
          exact tri_E x y h1 h2)
      refine (show Calls Try.prog 60 #[.slice (some ⟨b, 0, none⟩) vs.length cap, .func (.func 61) #[] #[]] w _ from hcon).mono ?_
      rintro e' w' ⟨rfl, n, os, rfl⟩
      have hd : (vs.toArray.toList.mergeSort fun x y => !(ltOf cmpE y x)) = sortX vs := rfl
      rw [hd]
      have hsl := sortX_length vs
      generalize sortX vs = d at hsl
      obtain ⟨r1, L1⟩ := rel.write (w' := sortWorldK encE 4 w b 0 n d.toArray os) o b (.vec e 4 (rowsOf rEg vs) 0) (.vec e 4 (rowsOf rEg d) 0) ho2 hb
        ⟨rfl, rfl, rfl, by unfold sortWorldK putRowK; simp [grow, ahead, putRow, mapBlock], by show w.drawn ≤ w.drawn + n; omega, fun k hk => by
          by_cases hkb : k = b
          · subst hkb
            exact .inr (.inl ⟨c, _, e, k4, sortWorld_blk w k n _ os k4, by simp [putCells], fun i hi => absurd ⟨rfl, by simp [Ob.excl]⟩ hi⟩)
          · exact .inl (sortWorld_old w b n _ os hlt k hkb hk)⟩ (by simp [Ob.grow, rowsOf_length, hsl]) (fun _ h => h)
        (fun k hk hk2 => sortWorld_old w b n _ os hlt k hk hk2) (fun L => by
          simp only [Ob.rep]
          have hrows : Go.Am.rowsAt (envOf cx.Xo β (put h2 o (some (.vec e 4 (rowsOf rEg d) 0))) (sortWorldK encE 4 w b 0 n d.toArray os)).R (fun i v => (putCells id 0 (flatK encE 4 d.toArray) c)[i]? = some v) 4 0 (rowsOf rEg d) := by
            refine rows_flat d _ 0 fun i hi => ?_
            have hget : ∀ q, q < 4 → (putCells id 0 (flatK encE 4 d.toArray) c)[0 + i * 4 + q]? = some ((encE (d.getD i default))[q]!) := by
              intro q hq
              have hj : i * 4 + q < d.length * 4 := by omega
              obtain ⟨i', q', h1, h2', h3, h4⟩ := hfl d (i * 4 + q) hj
              have hi' : i' = i := by omega
              have hq' : q' = q := by omega
              subst hi' hq'
              simp only [putCells, Array.getElem?_mapIdx, Nat.zero_add]
              rw [Array.getElem?_eq_getElem (show i' * 4 + q' < c.size by omega), Option.map_some, if_pos ⟨Nat.zero_le _, by simpa using hj⟩, Nat.sub_zero, h4]
              rfl
            refine ⟨?_, ?_, ?_, ?_⟩
            · simpa [encE] using hget 0 (by omega)
            · simpa [encE] using hget 1 (by omega)
            · simpa [encE] using hget 2 (by omega)
            · simpa [encE] using hget 3 (by omega)
          exact ⟨Nat.zero_le _, rowsAt_length _ _ hrows, .inr ⟨b, _, rfl, sortWorld_blk w b n _ os k4, hrows, by rw [rowsOf_length, hsl]; simpa [putCells] using k6⟩⟩)
      exact ⟨.tuple #[], β, rfl, r1, L1, hres _⟩
end Go.Proofs.Ythknpcpddlaapaa
