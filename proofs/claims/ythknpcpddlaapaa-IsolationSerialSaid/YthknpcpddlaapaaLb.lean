/- Histories and their anomalies (part Lb) -/
import Derived.Test.YthknpcpddlaapaaLa
import Derived.OrdersIn
import Derived.RangeFuncRecord
import Derived.Maps.RangeRun
import Derived.Scope
import Derived.RangeFuncIn
set_option linter.all false
namespace Go.Am
variable [T : Tab]
section
variable {P : Program} {cx : Cx} {β : Nat → Option (Option Nat)} {h : Nat → Option Ob} {w : World}
theorem sound_tup0 {tt : Types} {o : Nat} {ob : Ob} {s : Sem Value} {w' : World} {e : Eff} (hrun : s.run P w = .ok (.tuple #[]) w') (hu : upds h e.upd = put h o (some ob)) (hres : e.res = .tup []) (r1 : Rel cx β (put h o (some ob)) w')
    (L1 : (envOf cx.Xo β h w).Le (envOf cx.Xo β (put h o (some ob)) w')) : Sound P cx β h w (do pure (.value (← s))) e := by
  refine ⟨β, w', .value (.tuple #[]), .tuple #[], by simp [hrun], .inl rfl, by rw [hu]; exact r1, by rw [hu]; exact L1, ?_⟩
  rw [hres]
  simp [A.rep, repL]
def effClear (tt : Types) (t : Nat) (h : Nat → Option Ob) : A → Option Eff
  | .sub o m k n => match tt t with
    | some ti => match ti.k with
      | .slice e => match tt e with
        | some te => match h o with
          | some (.vec e' wd rows fz) => some ⟨m = rows.length ∧ fz ≤ k ∧ wd = te.size ∧ 0 < te.size, .tup [], [(o, .vec e' wd (putRows rows k (List.replicate n (zrow te.cw te.zero))) fz)], [o]⟩
          | _ => none
        | none => none
      | _ => none
    | none => none
  | _ => none
theorem effClear_ok {tt : Types} (T : tt.ok P) {t ty : Nat} {x : A} {e : Eff} {v : Value} (rel : Rel cx β h w) (he : effClear tt t h x = some e) (hs : e.side) (hv : x.rep (envOf cx.Xo β h w) v) :
    Sound P cx β h w (do pure (.value (← Builtin.clear_ #[t] ty #[v]))) e := by
  unfold effClear at he
  split at he
  · rename_i o m k n
    split at he
    · rename_i ti ht
      have hd := (T t ti ht).desc
      split at he
      · rename_i el hk
        rw [hk] at hd
        simp only [TK.ok] at hd
        split at he
        · rename_i te hte
          split at he
          · rename_i e' wd rows fz ho
            cases he
            obtain ⟨s1, s2, rfl, s3⟩ := hs
            have hlen0 : ∀ {n : Nat}, n = 0 → putRows rows k (List.replicate n (zrow te.cw te.zero)) = rows := by rintro _ rfl; simp [putRows]
            have hnone : n = 0 → (Builtin.clear_ #[t] ty #[v]).run P w = .ok (.tuple #[]) w → Sound P cx β h w (do pure (.value (← Builtin.clear_ #[t] ty #[v]))) ⟨m = rows.length ∧ fz ≤ k ∧ te.size = te.size ∧ 0 < te.size, .tup [], [(o, .vec e' te.size (putRows rows k (List.replicate n (zrow te.cw te.zero))) fz)], [o]⟩ := by
              intro hn hrun
              have hp : put h o (some (.vec e' te.size (putRows rows k (List.replicate n (zrow te.cw te.zero))) fz)) = h := by
                rw [hlen0 hn]
                funext q
                by_cases hq : q = o
                · subst hq; rw [put_same, ho]
                · rw [put_ne _ _ hq]
              exact sound_tup0 (tt := tt) (o := o) (ob := .vec e' te.size (putRows rows k (List.replicate n (zrow te.cw te.zero))) fz) hrun rfl rfl (by rw [hp]; exact rel) (by rw [hp]; exact Env.Le.refl _)
            rcases sub_live ho s1 hv with ⟨hb, rfl, rfl⟩ | ⟨b, cap, hb, rfl, hcap, hkn⟩
            · exact hnone rfl (by simp [Builtin.clear_, run_underlying hd])
            · by_cases hn : n = 0
              · subst hn
                exact hnone rfl (by simp [Builtin.clear_, run_underlying hd])
              · obtain ⟨ie, hie, hies, hieb, z, hz, hzc⟩ := (T el te hte).info
                have hone := (T el te hte).one
                have hzl := (T el te hte).len
                have hzs : z.cells.size = te.size := by rw [hzc]; simpa using hzl
                have hlen : (zrow te.cw te.zero).length = te.size := by rw [zrow_length, hzl]
                have hm : rowsAt (envOf cx.Xo β h w).R (fun j v => (Builtin.zeroCells z.cells n).toList[j]? = some v) te.size 0 (List.replicate n (zrow te.cw te.zero)) := by
                  have := rowsAt_replicate (C := fun j v => (Builtin.zeroCells z.cells n).toList[j]? = some v) (zrow_rep (R := (envOf cx.Xo β h w).R) te.cw te.zero hone) n 0 (fun i j v hi hj => by
                    have hjl : j < te.size := by
                      rcases Nat.lt_or_ge j te.zero.length with q | q
                      · omega
                      · simp [List.getElem?_eq_none q] at hj
                    have hmul : (i + 1) * te.size ≤ n * te.size := Nat.mul_le_mul_right _ (by omega)
                    have hmm : (i + 1) * te.size = i * te.size + te.size := by rw [Nat.add_mul]; omega
                    rw [zeroCells_list, hlen, Nat.zero_add, Array.getElem?_toList, madeCells_get _ _ _ (by rw [hzs]; omega) (by omega), hzs]
                    have : (i * te.size + j) % te.size = j := by rw [Nat.add_comm, Nat.add_mul_mod_self_right, Nat.mod_eq_of_lt hjl]
                    rw [this, hzc]
                    simpa using hj)
                  rwa [hlen] at this
                have hul : (Builtin.zeroCells z.cells n).toList.length = n * te.size := by rw [Array.length_toList, size_zeroCells, hzs]
                have hu1 : ∀ u ∈ (Builtin.zeroCells z.cells n).toList, one u = true := by
                  intro u hu
                  obtain ⟨j, hj⟩ := List.getElem?_of_mem hu
                  have hjl : j < n * te.size := by
                    rcases Nat.lt_or_ge j (n * te.size) with q | q
                    · exact q
                    · rw [List.getElem?_eq_none (by omega)] at hj; cases hj
                  rw [zeroCells_list, Array.getElem?_toList, madeCells_get _ _ _ (by rw [hzs]; omega) (by omega), hzc] at hj
                  exact hone u (List.mem_of_getElem? (by simpa using hj))
                obtain ⟨w', g1, g2, g3⟩ := rel.putRows (P := P) (tt := tt) (k := k) (ms := List.replicate n (zrow te.cw te.zero)) (us := (Builtin.zeroCells z.cells n).toList) ho hb hm (by rw [hul, List.length_replicate]) hu1 (by rw [List.length_replicate]; omega) s2
                have hzv : (zeroValue el).run P w = .ok z w := by simp [zeroValue, typeInfo, hie, hz]
                obtain ⟨n', rfl⟩ : ∃ n', n = n' + 1 := ⟨n - 1, by omega⟩
                exact sound_tup0 (tt := tt) (by simp [Builtin.clear_, run_underlying hd, hzv, g1]) rfl rfl g2 g3
          · cases he
        · cases he
      · cases he
    · cases he
  · cases he
theorem effClear_local {h h2 : Nat → Option Ob} {tt : Types} {t : Nat} {x : A} {e : Eff} (he : effClear tt t h x = some e) (hr : ∀ i ∈ e.rd, h2 i = h i) : effClear tt t h2 x = some e ∧ ∀ p ∈ e.upd, p.1 ∈ e.rd := by
  unfold effClear at he ⊢
  split at he
  · rename_i o m k n
    split at he
    · split at he
      · split at he
        · split at he
          · rename_i ho
            cases he
            simp only [hr o (by simp), ho]
            exact ⟨by first | trivial | rfl, by simp⟩
          · cases he
        · cases he
      · cases he
    · cases he
  · cases he
/-- 'copy(dst, src)' of as many rows as there are. -/
def effCopy (tt : Types) (t : Nat) (h : Nat → Option Ob) : A → A → Option Eff
  | .vec o n, .d (.sl wd' ms) => match tt t with
    | some ti => match ti.k with
      | .slice e => match tt e with
        | some te => match h o with
          | some (.vec e' wd rows fz) => some ⟨n = rows.length ∧ ms.length = n ∧ fz = 0 ∧ wd = te.size ∧ wd' = te.size, .d (.lit (.int .i64 n)), [(o, .vec e' wd ms fz)], [o]⟩
          | _ => none
        | none => none
      | _ => none
    | none => none
  | _, _ => none
theorem effCopy_ok {tt : Types} (T : tt.ok P) {t t2 ty : Nat} {x y : A} {e : Eff} {v u : Value} (rel : Rel cx β h w) (he : effCopy tt t h x y = some e) (hs : e.side) (hv : x.rep (envOf cx.Xo β h w) v) (hy : y.rep (envOf cx.Xo β h w) u) :
    Sound P cx β h w (do pure (.value (← Builtin.copy_ #[t, t2] ty #[v, u]))) e := by
  unfold effCopy at he
  split at he
  · rename_i o n wd' ms
    split at he
    · rename_i ti ht
      have hd := (T t ti ht).desc
      split at he
      · rename_i el hk
        rw [hk] at hd
        simp only [TK.ok] at hd
        split at he
        · rename_i te hte
          split at he
          · rename_i e' wd rows fz ho
            cases he
            obtain ⟨s1, s2, rfl, rfl, rfl⟩ := hs
            simp only [A.rep, D.rep] at hy
            obtain ⟨a, cap, rfl, hcap, ha, hrows⟩ := hy
            have hsz := Types.size T hte w
            have hres : ∀ {w' : World}, (Builtin.copy_ #[t, t2] ty #[v, .slice a ms.length cap]).run P w = .ok (goInt n) w' → Rel cx β (put h o (some (.vec e' te.size ms 0))) w' →
                (envOf cx.Xo β h w).Le (envOf cx.Xo β (put h o (some (.vec e' te.size ms 0))) w') → Sound P cx β h w (do pure (.value (← Builtin.copy_ #[t, t2] ty #[v, .slice a ms.length cap]))) ⟨n = rows.length ∧ ms.length = n ∧ 0 = 0 ∧ te.size = te.size ∧ te.size = te.size, .d (.lit (.int .i64 n)), [(o, .vec e' te.size ms 0)], [o]⟩ := by
              intro w' h1 h2 h3
              exact ⟨β, w', .value (goInt n), goInt n, by simp [h1], .inl rfl, h2, h3, by simp [A.rep, D.rep, one, goInt]⟩
            have hzero : n = 0 → put h o (some (.vec e' te.size ms 0)) = h := by
              intro hn
              have hr0 : rows = [] := List.eq_nil_of_length_eq_zero (by omega)
              have hm0 : ms = [] := List.eq_nil_of_length_eq_zero (by omega)
              funext q
              by_cases hq : q = o
              · subst hq; rw [put_same, ho, hr0, hm0]
              · rw [put_ne _ _ hq]
            rcases vec_live ho s1 hv with ⟨hb, rfl⟩ | ⟨b, cap', hb, rfl, hcap', _, _⟩
            · have hdd := rel.obj _ _ _ ho hb
              simp only [Ob.rep] at hdd
              obtain ⟨_, _, hdd | ⟨_, _, hdd, _⟩⟩ := hdd
              · have hn : n = 0 := by rw [s1, hdd.2]; rfl
                have hml : ms.length = 0 := by omega
                refine hres (w' := w) ?_ (by rw [hzero hn]; exact rel) (by rw [hzero hn]; exact Env.Le.refl _)
                cases a with
                | none => simp [Builtin.copy_, run_underlying hd, Builtin.lenOf, Builtin.firstCells, hsz, hml, hn]
                | some a => simp [Builtin.copy_, run_underlying hd, Builtin.lenOf, Builtin.firstCells, hsz, hml, hn, loadCells, loadCellsFrom]
              · cases hdd
            · cases a with
              | none =>
                have hm0 := (ha rfl).1
                have hml : ms.length = 0 := by rw [hm0]; rfl
                have hn : n = 0 := by omega
                refine hres (w' := w) ?_ (by rw [hzero hn]; exact rel) (by rw [hzero hn]; exact Env.Le.refl _)
                simp [Builtin.copy_, run_underlying hd, Builtin.lenOf, Builtin.firstCells, hsz, hml, hn, storeCells]
              | some a =>
                obtain ⟨g1, g2⟩ := hrows a rfl
                obtain ⟨vs, v1, v2, v4, v3⟩ := rowsAt_vals ms a.off g2
                have hms : rowsAt (envOf cx.Xo β h w).R (fun j v => vs[j]? = some v) te.size 0 ms := v3 0 _ fun j u hj => by simpa using hj
                obtain ⟨w', q1, q2, q3⟩ := rel.putRows (P := P) (tt := tt) (k := 0) (ms := ms) (us := vs) ho hb hms v1 v4 (by omega) (Nat.le_refl _)
                have hpr : putRows rows 0 ms = ms := by simp [putRows, s2, s1]
                rw [hpr] at q2 q3
                refine hres (w' := w') ?_ q2 q3
                have hld := run_loadCells_list (P := P) w a vs (fun j u hj => by
                  by_cases hne : ms = []
                  · rw [hne] at v1; simp at v1; rw [v1] at hj; simp at hj
                  · have := (v2 j u hj).2.2
                    rw [add_mk (g1 hne)]
                    exact this)
                rw [v1, s2] at hld
                rw [Nat.zero_mul] at q1
                simp [Builtin.copy_, run_underlying hd, Builtin.lenOf, Builtin.firstCells, hsz, s2, hld, q1]
          · cases he
        · cases he
      · cases he
    · cases he
  · cases he
theorem effCopy_local {h h2 : Nat → Option Ob} {tt : Types} {t : Nat} {x y : A} {e : Eff} (he : effCopy tt t h x y = some e) (hr : ∀ i ∈ e.rd, h2 i = h i) : effCopy tt t h2 x y = some e ∧ ∀ p ∈ e.upd, p.1 ∈ e.rd := by
  unfold effCopy at he ⊢
  split at he
  · rename_i o n wd' ms
    split at he
    · split at he
      · split at he
        · split at he
          · rename_i ho
            cases he
            simp only [hr o (by simp), ho]
            exact ⟨by first | trivial | rfl, by simp⟩
          · cases he
        · cases he
      · cases he
    · cases he
  · cases he
end
end Go.Am
namespace Go.Am
variable [T : Tab]
section
variable {P : Program} {cx : Cx} {β : Nat → Option (Option Nat)} {h : Nat → Option Ob} {w : World}
def pickA (c : Bool) : A → A → A
  | .d (.lit (.bool x)), .d (.lit (.bool y)) => .d (.lit (.bool (if c then x else y)))
  | a, b => if c then a else b
theorem pickA_rep {E : Env} {c : Bool} {a b : A} {x y : Value} (h1 : a.rep E x) (h2 : b.rep E y) : (pickA c a b).rep E (if c then x else y) := by
  unfold pickA
  split
  · simp only [A.rep, D.rep] at h1 h2
    rw [h1.1, h2.1]
    cases c <;> simp [A.rep, D.rep, one]
  · cases c <;> simpa using by assumption
def effUn (op : UnOp) : A → Option Eff
  | .d (.lit (.bool b)) => match op with
    | .not => ok1 (.d (.lit (.bool (!b))))
    | _ => none
  | .d (.lit (.int k n)) => match op with
    | .neg => ok1 (.d (.lit (.int k (k.wrap (0 - n)))))
    | _ => none
  | _ => none
def effConv (tt : Types) (s d : Nat) : A → Option Eff
  | .d (.lit (.int _ n)) => match tt s, tt d with
    | some _, some td => match td.k with
      | .int k => ok1 (.d (.lit (.int k (k.wrap n))))
      | .string => ok1 (.d (.lit (.string (Utf8.encode n))))
      | _ => none
    | _, _ => none
  | .d (.lit (.string x)) => match tt s, tt d with
    | some _, some td => match td.k with
      | .string => ok1 (.d (.lit (.string x)))
      | _ => none
    | _, _ => none
  | _ => none
/-- A conversion; also one of a slice of one byte to a text. -/
def effConvH (tt : Types) (s d : Nat) (h : Nat → Option Ob) (a : A) : Option Eff :=
  match a with
  | .vec o n => match tt s, tt d with
    | some ts, some td => match ts.k, td.k with
      | .slice e, .string => match tt e with
        | some te => match te.k with
          | .int .u8 => match h o with
            | some (.vec _ 1 [[.lit (.int .u8 b)]] _) => some ⟨n = 1, .d (.lit (.string ⟨#[UInt8.ofNat b.toNat]⟩)), [], [o]⟩
            | _ => none
          | _ => none
        | none => none
      | _, _ => none
    | _, _ => none
  | _ => effConv tt s d a
def strsA : List A → Option (List ByteArray)
  | [] => some []
  | .d (.lit (.string s)) :: l => match strsA l with | some r => some (s :: r) | none => none
  | _ => none
def intsA : List A → Option (List Int)
  | [] => some []
  | .d (.lit (.int .i64 s)) :: l => match intsA l with | some r => some (s :: r) | none => none
  | _ => none
/-- The element at an index of a list of cells; with cells that are all numbers or all texts the index may be any. -/
def pickAt (cs : List A) (k : Nat) : A := match strsA cs with
  | some l => .d (.lit (.string (l.getD k ByteArray.empty)))
  | none => match intsA cs with
    | some l => .d (.lit (.int .i64 (l.getD k 0)))
    | none => cs.getD k .any
theorem strsA_eq : ∀ (cs : List A) (l : List ByteArray), strsA cs = some l → cs = l.map fun s => .d (.lit (.string s))
  | [], l, h => by simp [strsA] at h; subst h; rfl
  | a :: cs, l, h => by
    unfold strsA at h
    split at h
    · rename_i q; cases q
    · rename_i s l' q
      cases q
      split at h
      · rename_i r hr
        cases h
        simp only [List.map_cons]
        rw [← strsA_eq cs r hr]
      · cases h
    · cases h
theorem intsA_eq : ∀ (cs : List A) (l : List Int), intsA cs = some l → cs = l.map fun s => .d (.lit (.int .i64 s))
  | [], l, h => by simp [intsA] at h; subst h; rfl
  | a :: cs, l, h => by
    unfold intsA at h
    split at h
    · rename_i q; cases q
    · rename_i s l' q
      cases q
      split at h
      · rename_i r hr
        cases h
        simp only [List.map_cons]
        rw [← intsA_eq cs r hr]
      · cases h
    · cases h
theorem pickAt_eq {cs : List A} {k : Nat} {a : A} (h : cs[k]? = some a) : pickAt cs k = a := by
  have hk : k < cs.length := by
    rcases Nat.lt_or_ge k cs.length with q | q
    · exact q
    · simp [List.getElem?_eq_none q] at h
  unfold pickAt
  split
  · rename_i l hl
    have := strsA_eq cs l hl
    subst this
    simp at hk
    simp [hk] at h
    simp [List.getD_eq_getElem?_getD, hk, h]
  · split
    · rename_i l hl
      have := intsA_eq cs l hl
      subst this
      simp at hk
      simp [hk] at h
      simp [List.getD_eq_getElem?_getD, hk, h]
    · simp [List.getD_eq_getElem?_getD, h]
def effIndex (tt : Types) (t : Nat) : A → A → Option Eff
  | .agg cs, .d (.lit (.int _ i)) => match tt t with
    | some ti => match ti.k with
      | .array n e => match tt e with
        | some te => some ⟨(0 ≤ i ∧ i < n) ∧ te.isAgg = false ∧ te.size = 1 ∧ cs.length = n, pickAt cs i.toNat, [], []⟩
        | none => none
      | _ => none
    | none => none
  | .d (.lit (.string s)), .d (.lit (.int _ i)) => match tt t with
    | some ti => match ti.k with
      | .string => some ⟨0 ≤ i ∧ i < s.size, .d (.lit (.int .u8 (s.data.getD i.toNat 0).toNat)), [], []⟩
      | _ => none
    | none => none
  | _, _ => none
def int64 (n : Nat) : A := .d (.lit (.int .i64 n))
def effLen (tt : Types) (t : Nat) (h : Nat → Option Ob) (x : A) : Option Eff :=
  match tt t with
  | some ti => match ti.k with
    | .string => match x with
      | .d (.lit (.string s)) => ok1 (int64 s.size)
      | _ => none
    | .array n _ => ok1 (int64 n)
    | .slice _ => match x with
      | .snil => ok1 (int64 0)
      | .d (.sl _ rows) => ok1 (int64 rows.length)
      | .csl _ rows => ok1 (int64 rows.length)
      | .vec o n => match h o with
        | some (.vec _ _ rows _) => some ⟨n = rows.length, int64 n, [], [o]⟩
        | _ => none
      | .vs _ n => ok1 (int64 n)
      | .sub o m _ n => match h o with
        | some (.vec _ _ rows _) => some ⟨m = rows.length, int64 n, [], [o]⟩
        | _ => none
      | _ => none
    | .map _ _ => effLenM h x
    | .pointer e => match tt e with
      | some te => match te.k with
        | .array n _ => ok1 (int64 n)
        | _ => none
      | none => none
    | _ => none
  | none => none
def effBuiltin (tt : Types) (b : Builtin) (ts : List Nat) (dst : Option Nat) (h : Nat → Option Ob) (xs : List A) : Option Eff :=
  match b, ts, xs with
  | .len, [t], [x] => effLen tt t h x
  | .append, [tS, tX], [s, x] => effAppend tt tS tX dst h s x
  | .min, _, [.d (.lit (.int k a)), .d (.lit (.int _ b))] => ok1 (.d (.lit (.int k (if b < a then b else a))))
  | .max, _, [.d (.lit (.int k a)), .d (.lit (.int _ b))] => ok1 (.d (.lit (.int k (if b > a then b else a))))
  | .delete, [t, _], [m, k] => effDelete tt t h m k
  | .clear, [t], [x] => effClear tt t h x
  | .copy, [t, _], [x, y] => effCopy tt t h x y
  | _, _, _ => none
def eff (tt : Types) (o : Oper) (ev : Operand → A) (h : Nat → Option Ob) : Option Eff :=
  match o.op with
  | .move x => ok1 (ev x)
  | .assign x => ok1 (ev x)
  | .pick c a b => match ev c with
    | .d (.lit (.bool v)) => ok1 (pickA v (ev a) (ev b))
    | _ => none
  | .alloc t => effAlloc tt t o.dst h
  | .box _ x => effBox (ev x) o.dst h
  | .build t parts => effBuild tt t (parts.toList.map fun p => (p.1, ev p.2))
  | .buildSlice t len parts => effSlice0 tt t len (parts.toList.map fun p => (p.1, ev p.2)) o.dst h
  | .load t a => effLoad tt t h (ev a)
  | .store t a v => effStore tt t h (ev v) (ev a)
  | .nilCheck x => effNil h (ev x)
  | .binOp op t x y _ => effBin tt op t h (ev x) (ev y)
  | .unOp op _ x => effUn op (ev x)
  | .convert s d x => effConvH tt s d h (ev x)
  | .makeFunc (.func f) first captured => match first.toList with
    | [] => ok1 (.clo f (captured.toList.map ev))
    | _ => none
  | .makeSlice t l c => effMake tt t o.dst h (ev l) (ev c)
  | .slice t x lo hi mx => match mx, hi with
    | some _, none => none
    | _, _ => effSlice tt t h (ev x) (lo.map ev) (hi.map ev) (mx.map ev)
  | .fieldAddr s x f => effFieldAddr tt s f h (ev x)
  | .field s x f => effField tt s f (ev x)
  | .indexAddr t x i => match ev i with
    | .d (.lit (.int _ n)) => effIndexAddr tt t h (ev x) n
    | _ => none
  | .index t x i => effIndex tt t (ev x) (ev i)
  | .extract t i => match ev t with
    | .tup vs => match vs[i]? with
      | some a => ok1 a
      | none => none
    | _ => none
  | .makeMap t none => effMakeMap tt t o.dst h
  | .mapUpdate t m k v => effMapUpd tt t h (ev m) (ev k) (ev v)
  | .insert t m k v => effInsert tt t h (ev m) (ev k) (ev v)
  | .lookup t x i ok => effLookup tt t ok h (ev x) (ev i)
  | .range t x => effRange tt t o.dst h (ev x)
  | .next x b => effNext h b (ev x)
  | .call ⟨.builtin b, args, ts⟩ => effBuiltin tt b ts.toList o.dst h (args.toList.map ev)
  | _ => none
theorem effUn_ok {op : UnOp} {a : A} {e : Eff} {v : Value} (rel : Rel cx β h w) (he : effUn op a = some e) (hv : a.rep (envOf cx.Xo β h w) v) : Sound P cx β h w (do pure (.value (← Op.unary op v))) e := by
  unfold effUn at he
  split at he
  · simp only [A.rep, D.rep] at hv
    rw [hv.1]
    cases op <;> simp only [ok1] at he <;> cases he
    exact .pure rel (by simp [Op.unary]; rfl) rfl (by simp [A.rep, D.rep, one])
  · simp only [A.rep, D.rep] at hv
    rw [hv.1]
    cases op <;> simp only [ok1] at he <;> cases he
    exact .pure rel (by simp [Op.unary, Op.intArith]; rfl) rfl (by simp [A.rep, D.rep, one])
  · cases he
theorem TK.desc {k : TK} {d : Option TypeDesc} (h : k.ok d) : ∃ x, d = some x ∧ k.ok (some x) := by
  obtain ⟨x, rfl⟩ := TK.ok_some h
  exact ⟨x, rfl, h⟩
theorem effConv_ok {tt : Types} (T : tt.ok P) {s d : Nat} {a : A} {e : Eff} {v : Value} (rel : Rel cx β h w) (he : effConv tt s d a = some e) (hv : a.rep (envOf cx.Xo β h w) v) : Sound P cx β h w (do pure (.value (← convert s d v))) e := by
  unfold effConv at he
  split at he
  · simp only [A.rep, D.rep] at hv
    rw [hv.1]
    split at he
    · rename_i ts td hs hd
      obtain ⟨xs, hxs, _⟩ := TK.desc (T s ts hs).desc
      have hdd := (T d td hd).desc
      split at he
      · rename_i hk
        cases he
        rw [hk] at hdd
        simp only [TK.ok] at hdd
        exact .pure rel (by simp [convert, run_underlying hxs, run_underlying hdd, Conv.intToInt]; rfl) rfl (by simp [A.rep, D.rep, one])
      · rename_i hk
        cases he
        rw [hk] at hdd
        simp only [TK.ok] at hdd
        exact .pure rel (by simp [convert, run_underlying hxs, run_underlying hdd, Conv.intToString]; rfl) rfl (by simp [A.rep, D.rep, one])
      · cases he
    · cases he
  · simp only [A.rep, D.rep] at hv
    rw [hv.1]
    split at he
    · rename_i ts td hs hd
      obtain ⟨xs, hxs, _⟩ := TK.desc (T s ts hs).desc
      have hdd := (T d td hd).desc
      split at he
      · rename_i hk
        cases he
        rw [hk] at hdd
        simp only [TK.ok] at hdd
        exact .pure rel (by simp [convert, run_underlying hxs, run_underlying hdd]; rfl) rfl (by simp [A.rep, D.rep, one])
      · cases he
    · cases he
  · cases he
theorem effConvH_ok {tt : Types} (T : tt.ok P) {s d : Nat} {a : A} {e : Eff} {v : Value} (rel : Rel cx β h w) (he : effConvH tt s d h a = some e) (hs : e.side) (hv : a.rep (envOf cx.Xo β h w) v) : Sound P cx β h w (do pure (.value (← convert s d v))) e := by
  unfold effConvH at he
  split at he
  · rename_i o n
    split at he
    · rename_i ts td hs1 hd1
      have hss := (T s ts hs1).desc
      have hdd := (T d td hd1).desc
      split at he
      · rename_i el hk1 hk2
        rw [hk1] at hss
        rw [hk2] at hdd
        simp only [TK.ok] at hss hdd
        split at he
        · rename_i te hte
          have hee := (T el te hte).desc
          split at he
          · rename_i hk3
            rw [hk3] at hee
            simp only [TK.ok] at hee
            split at he
            · rename_i e' b fz ho
              cases he
              have hs' : n = 1 := hs
              subst hs'
              rcases vec_live ho rfl hv with ⟨hb, rfl⟩ | ⟨bk, cap', hb, rfl, hcap', _, _⟩
              · have hob := rel.obj _ _ _ ho hb
                simp only [Ob.rep] at hob
                obtain ⟨_, _, hob | ⟨_, _, hob, _⟩⟩ := hob
                · exact absurd hob.2 (by simp)
                · cases hob
              · have hob := rel.obj _ _ _ ho hb
                simp only [Ob.rep] at hob
                obtain ⟨_, _, hob | ⟨b', c, hb', hc, hrows, _⟩⟩ := hob
                · cases hob.1
                · cases hb'
                  simp only [rowsAt, rowAt, D.rep] at hrows
                  obtain ⟨_, ⟨⟨u, hu, rfl, _⟩, _⟩, _⟩ := hrows
                  have hld := run_loadCells_list (P := P) w ⟨bk, 0, none⟩ [.int .u8 b] (fun j u hj => by
                    cases j with
                    | zero =>
                      simp at hj
                      subst hj
                      show w.cell? ⟨bk, 0, none⟩ = _
                      simpa [World.cell?, hc] using hu
                    | succ j => simp at hj)
                  simp only [List.length_singleton] at hld
                  exact .pure rel (by simp [convert, run_underlying hss, run_underlying hdd, run_underlying hee, Conv.bytesToString, hld]; rfl) rfl (by simp [A.rep, D.rep, one]; rfl)
            · cases he
          · cases he
        · cases he
      · cases he
    · cases he
  · exact effConv_ok T rel he hv
theorem effIndex_ok {tt : Types} (T : tt.ok P) {t : Nat} {x i : A} {e : Eff} {v iv : Value} (rel : Rel cx β h w) (he : effIndex tt t x i = some e) (hs : e.side) (hv : x.rep (envOf cx.Xo β h w) v) (hi : i.rep (envOf cx.Xo β h w) iv) :
    Sound P cx β h w (do pure (.value (← Instr.index t v iv))) e := by
  unfold effIndex at he
  split at he
  · rename_i cs k i
    split at he
    · rename_i ti ht
      split at he
      · rename_i n el hk
        split at he
        · rename_i te hte
          cases he
          obtain ⟨⟨h1, h2⟩, h3, h4, h5⟩ := hs
          have hd := (T t ti ht).desc
          rw [hk] at hd
          simp only [TK.ok] at hd
          simp only [A.rep, D.rep] at hv hi
          obtain ⟨vs, rfl, hv2, hv3⟩ := hv
          rw [hi.1]
          have hsz := Types.size T hte w
          have hget : cs[i.toNat]? = some cs[i.toNat] := List.getElem?_eq_getElem (by omega)
          have hl : loadA tt el cs i.toNat = some (True, cs[i.toNat]) := by simp [loadA, hte, h3, hget]
          obtain ⟨r, g1, g2⟩ := part_run (w := w) T hl trivial vs hv2 hv3
          rw [pickAt_eq hget]
          refine .pure rel (r := r) ?_ rfl g2
          have hmul : i.toNat * te.size = i.toNat := by rw [h4]; omega
          simp [Instr.index, asIntOf, run_underlying hd, h1, h2, hsz, hmul, g1]
        · cases he
      · cases he
    · cases he
  · rename_i s k i
    split at he
    · rename_i ti ht
      split at he
      · rename_i hk
        cases he
        have hd := (T t ti ht).desc
        rw [hk] at hd
        simp only [TK.ok] at hd
        simp only [A.rep, D.rep] at hv hi
        rw [hv.1, hi.1]
        obtain ⟨h1, h2⟩ := hs
        have hlt : i.toNat < s.size := by omega
        have hlt' : i.toNat < s.data.size := hlt
        have hget : s[i.toNat]? = some s[i.toNat] := getElem?_pos s i.toNat hlt
        refine .pure rel (r := .int .u8 (s.data.getD i.toNat 0).toNat) ?_ rfl (by simp [A.rep, D.rep, one])
        have : (s.data.getD i.toNat 0) = s[i.toNat] := by
          simp only [Array.getD, hlt', dite_true]
          rfl
        simp [Instr.index, asIntOf, run_underlying hd, h1, hget, this]
      · cases he
    · cases he
  · cases he
theorem effLen_ok {tt : Types} (T : tt.ok P) {t ty : Nat} {x : A} {e : Eff} {v : Value} (rel : Rel cx β h w) (he : effLen tt t h x = some e) (hs : e.side) (hv : x.rep (envOf cx.Xo β h w) v) :
    Sound P cx β h w (do pure (.value (← Builtin.len_ #[t] ty #[v]))) e := by
  unfold effLen at he
  split at he
  · rename_i ti ht
    have hd := (T t ti ht).desc
    split at he
    · rename_i hk
      rw [hk] at hd
      simp only [TK.ok] at hd
      split at he
      · cases he
        simp only [A.rep, D.rep] at hv
        rw [hv.1]
        exact .pure rel (by simp [Builtin.len_, run_underlying hd]; rfl) rfl (by simp [A.rep, D.rep, one, int64, goInt])
      · cases he
    · rename_i n el hk
      rw [hk] at hd
      simp only [TK.ok] at hd
      cases he
      exact .pure rel (by simp [Builtin.len_, run_underlying hd]; rfl) rfl (by simp [A.rep, D.rep, one, int64, goInt])
    · rename_i el hk
      rw [hk] at hd
      simp only [TK.ok] at hd
      split at he
      · cases he
        simp only [A.rep] at hv
        subst hv
        exact .pure rel (by simp [Builtin.len_, run_underlying hd]; rfl) rfl (by simp [A.rep, D.rep, one, int64, goInt])
      · cases he
        simp only [A.rep, D.rep] at hv
        obtain ⟨a, cap, rfl, _⟩ := hv
        exact .pure rel (by simp [Builtin.len_, run_underlying hd]; rfl) rfl (by simp [A.rep, D.rep, one, int64, goInt])
      · cases he
        simp only [A.rep] at hv
        obtain ⟨a, rfl, _⟩ := hv
        exact .pure rel (by simp [Builtin.len_, run_underlying hd]; rfl) rfl (by simp [A.rep, D.rep, one, int64, goInt])
      · split at he
        · rename_i o n _ _ _ rows _ ho
          cases he
          rcases vec_live ho hs hv with ⟨hb, rfl⟩ | ⟨b, cap, hb, rfl, _⟩
          · have hdd := rel.obj _ _ _ ho hb
            simp only [Ob.rep] at hdd
            obtain ⟨_, _, hdd | ⟨_, _, hdd, _⟩⟩ := hdd
            · have hs' : n = rows.length := hs
              rw [hdd.2] at hs'
              simp only [List.length_nil] at hs'
              subst hs'
              exact .pure rel (by simp [Builtin.len_, run_underlying hd]; rfl) rfl (by simp [A.rep, D.rep, one, int64, goInt])
            · cases hdd
          · exact .pure rel (by simp [Builtin.len_, run_underlying hd]; rfl) rfl (by simp [A.rep, D.rep, one, int64, goInt])
        · cases he
      · cases he
        simp only [A.rep] at hv
        obtain ⟨b, cs, _, _, rfl⟩ := hv
        exact .pure rel (by simp [Builtin.len_, run_underlying hd]; rfl) rfl (by simp [A.rep, D.rep, one, int64, goInt])
      · rename_i o m k n
        split at he
        · rename_i ho
          cases he
          rcases sub_live ho hs hv with ⟨_, rfl, rfl⟩ | ⟨b, cap, _, rfl, _⟩
          · exact .pure rel (by simp [Builtin.len_, run_underlying hd]; rfl) rfl (by simp [A.rep, D.rep, one, int64, goInt])
          · exact .pure rel (by simp [Builtin.len_, run_underlying hd]; rfl) rfl (by simp [A.rep, D.rep, one, int64, goInt])
        · cases he
      · cases he
    · rename_i k el hk
      rw [hk] at hd
      simp only [TK.ok] at hd
      exact effLenM_ok rel hd he hv
    · rename_i el hk
      rw [hk] at hd
      simp only [TK.ok] at hd
      split at he
      · rename_i te hte
        split at he
        · rename_i n el2 hk2
          have hd2 := (T el te hte).desc
          rw [hk2] at hd2
          simp only [TK.ok] at hd2
          cases he
          exact .pure rel (by simp [Builtin.len_, run_underlying hd, run_underlying hd2]; rfl) rfl (by simp [A.rep, D.rep, one, int64, goInt])
        · cases he
      · cases he
    · cases he
  · cases he
theorem list1 {α : Type} {a : Array α} {x : α} (h : a.toList = [x]) : a = #[x] := by cases a; simp_all
theorem list2 {α : Type} {a : Array α} {x y : α} (h : a.toList = [x, y]) : a = #[x, y] := by cases a; simp_all
theorem run_builtin {ρ : Operand → Value} {dst : Option Tmp} {ty : Nat} {pos : String} {af : Array Edge} {g : Option (Nat × Bool)} {b : Builtin} {args : Array Operand} {ts : Array TypeId} :
    ∃ consts, execOp ρ ⟨dst, .call ⟨.builtin b, args, ts⟩, ty, pos, af, g⟩ = builtin b ts ty consts (args.map ρ) := ⟨_, rfl⟩
theorem args1 {ev : Operand → A} {args : Array Operand} {x : A} (h : args.toList.map ev = [x]) : ∃ o, args = #[o] ∧ ev o = x := by
  obtain ⟨l⟩ := args
  rcases l with _ | ⟨o, _ | ⟨p, l⟩⟩
  · simp at h
  · simp at h; exact ⟨o, rfl, h⟩
  · simp at h
theorem args2 {ev : Operand → A} {args : Array Operand} {x y : A} (h : args.toList.map ev = [x, y]) : ∃ o1 o2, args = #[o1, o2] ∧ ev o1 = x ∧ ev o2 = y := by
  obtain ⟨l⟩ := args
  rcases l with _ | ⟨o, _ | ⟨p, _ | ⟨q, l⟩⟩⟩
  · simp at h
  · simp at h
  · simp at h; exact ⟨o, p, rfl, h.1, h.2⟩
  · simp at h
theorem effBuiltin_ok {tt : Types} (T : tt.ok P) {b : Builtin} {ts : Array TypeId} {args : Array Operand} {ev : Operand → A} {ρ : Operand → Value} {dst : Option Tmp} {ty : Nat} {pos : String} {af : Array Edge} {g : Option (Nat × Bool)} {e : Eff}
    (rel : Rel cx β h w) (he : effBuiltin tt b ts.toList dst h (args.toList.map ev) = some e) (hs : e.side) (hev : ∀ x, (ev x).rep (envOf cx.Xo β h w) (ρ x)) :
    Sound P cx β h w (execOp ρ ⟨dst, .call ⟨.builtin b, args, ts⟩, ty, pos, af, g⟩) e := by
  obtain ⟨consts, hrun⟩ := run_builtin (ρ := ρ) (dst := dst) (ty := ty) (pos := pos) (af := af) (g := g) (b := b) (args := args) (ts := ts)
  unfold Sound
  rw [hrun]
  have back : ∀ {s : Sem Value}, Sound P cx β h w (do pure (.value (← s))) e → ∀ {b' : Sem Next}, b' = (do pure (Next.value (← s))) → ∃ β' w' nx r, b'.run P w = .ok nx w' ∧ (nx = .value r ∨ nx = .skip ∧ r = undef) ∧ Rel cx β' (upds h e.upd) w' ∧
      (envOf cx.Xo β h w).Le (envOf cx.Xo β' (upds h e.upd) w') ∧ e.res.rep (envOf cx.Xo β' (upds h e.upd) w') r := by
    intro s h1 b' h2
    subst h2
    exact h1
  unfold effBuiltin at he
  split at he
  · rename_i t x hts hxs
    obtain rfl := list1 hts
    have hargs := args1 hxs
    obtain ⟨o, rfl, rfl⟩ := hargs
    exact back (effLen_ok (ty := ty) T rel he hs (hev o)) (by simp [builtin])
  · rename_i tS tX s x hts hxs
    obtain rfl := list2 hts
    have hargs := args2 hxs
    obtain ⟨o1, o2, rfl, rfl, rfl⟩ := hargs
    exact back (effAppend_ok (ty := ty) T rel he hs (hev o1) (hev o2)) (by simp [builtin])
  · rename_i k a k' b' hxs
    have hargs := args2 hxs
    obtain ⟨o1, o2, rfl, e1, e2⟩ := hargs
    cases he
    have h1 := hev o1
    have h2 := hev o2
    rw [e1] at h1
    rw [e2] at h2
    simp only [A.rep, D.rep] at h1 h2
    exact Sound.pure rel (s := builtin .min ts ty _ _) (by simp [builtin, Builtin.min_, h1.1, h2.1, Builtin.min2]; rfl) rfl (by simp [A.rep, D.rep, one])
  · rename_i k a k' b' hxs
    have hargs := args2 hxs
    obtain ⟨o1, o2, rfl, e1, e2⟩ := hargs
    cases he
    have h1 := hev o1
    have h2 := hev o2
    rw [e1] at h1
    rw [e2] at h2
    simp only [A.rep, D.rep] at h1 h2
    exact Sound.pure rel (s := builtin .max ts ty _ _) (by simp [builtin, Builtin.max_, h1.1, h2.1, Builtin.max2]; rfl) rfl (by simp [A.rep, D.rep, one])
  · rename_i t t2 m k hts hxs
    obtain rfl := list2 hts
    have hargs := args2 hxs
    obtain ⟨o1, o2, rfl, rfl, rfl⟩ := hargs
    exact back (effDelete_ok (t2 := t2) (ty := ty) T rel he hs (hev o1) (hev o2)) (by simp [builtin])
  · rename_i t x hts hxs
    obtain rfl := list1 hts
    obtain ⟨o, rfl, rfl⟩ := args1 hxs
    exact back (effClear_ok (ty := ty) T rel he hs (hev o)) (by simp [builtin])
  · rename_i t t2 x y hts hxs
    obtain rfl := list2 hts
    obtain ⟨o1, o2, rfl, rfl, rfl⟩ := args2 hxs
    exact back (effCopy_ok (t2 := t2) (ty := ty) T rel he hs (hev o1) (hev o2)) (by simp [builtin])
  · cases he
theorem parts_rep {E : Env} {ev : Operand → A} {ρ : Operand → Value} (hev : ∀ x, (ev x).rep E (ρ x)) (parts : Array (Nat × Operand)) :
    (parts.map fun (i, x) => (i, ρ x)).toList.length = (parts.toList.map fun p => (p.1, ev p.2)).length ∧
    ∀ (k i : Nat) (a : A), (parts.toList.map fun p => (p.1, ev p.2))[k]? = some (i, a) → ∃ v, (parts.map fun (i, x) => (i, ρ x)).toList[k]? = some (i, v) ∧ a.rep E v := by
  refine ⟨by simp, fun k i a hk => ?_⟩
  rw [List.getElem?_map] at hk
  cases hp : parts.toList[k]? with
  | none => simp [hp] at hk
  | some p =>
    simp [hp] at hk
    obtain ⟨rfl, rfl⟩ := hk
    refine ⟨ρ p.2, ?_, hev p.2⟩
    rw [Array.toList_map, List.getElem?_map, hp]
    rfl
theorem repL_map {E : Env} {ev : Operand → A} {ρ : Operand → Value} (hev : ∀ x, (ev x).rep E (ρ x)) : ∀ (l : List Operand), repL E (l.map ev) (l.map ρ)
  | [] => by simp [repL]
  | x :: l => by simp only [List.map_cons, repL]; exact ⟨_, _, rfl, hev x, repL_map hev l⟩
theorem eff_ok {tt : Types} (T : tt.ok P) {o : Oper} {ev : Operand → A} {ρ : Operand → Value} {e : Eff} (rel : Rel cx β h w) (he : eff tt o ev h = some e) (hs : e.side) (hev : ∀ x, (ev x).rep (envOf cx.Xo β h w) (ρ x)) :
    Sound P cx β h w (execOp ρ o) e := by
  obtain ⟨dst, op, ty, pos, af, g⟩ := o
  unfold eff at he
  simp only at he
  split at he
  · cases he; exact .pure rel (by simp [execOp]) rfl (hev _)
  · cases he; exact .pure rel (by simp [execOp]) rfl (hev _)
  · rename_i c a b
    split at he
    · rename_i v hc
      cases he
      have h1 := hev c
      rw [hc] at h1
      simp only [A.rep, D.rep] at h1
      exact .pure rel (r := if v then ρ a else ρ b) (by simp [execOp, h1.1, asBool]) rfl (pickA_rep (hev a) (hev b))
    · cases he
  · exact effAlloc_ok T rel he
  · exact effBox_ok rel he hs (hev _)
  · obtain ⟨h1, h2⟩ := parts_rep hev ‹Array (Nat × Operand)›
    exact effBuild_ok T rel he hs h1 h2
  · obtain ⟨h1, h2⟩ := parts_rep hev ‹Array (Nat × Operand)›
    exact effSlice0_ok T rel he hs h1 h2
  · exact effLoad_ok T rel he hs (hev _)
  · exact effStore_ok T rel he hs (hev _) (hev _)
  · exact effNil_ok rfl rel he hs (hev _)
  · exact effBin_ok T rel he hs (hev _) (hev _)
  · exact effUn_ok rel he (hev _)
  · exact effConvH_ok T rel he hs (hev _)
  · rename_i f first captured
    split at he
    · rename_i hf
      cases he
      have : first = #[] := by cases first; simp_all
      subst this
      refine .pure rel (r := .func (.func f) #[] (captured.map ρ)) (by simp [execOp, Instr.makeFunc]) rfl ?_
      simp only [A.rep]
      exact ⟨(captured.toList.map ρ), by congr 1; apply Array.ext'; simp, repL_map hev _⟩
    · cases he
  · exact effMake_ok T rel he hs (hev _) (hev _)
  · rename_i t x lo hi mx
    have key : (mx.map ev ≠ none → hi.map ev ≠ none) → effSlice tt t h (ev x) (lo.map ev) (hi.map ev) (mx.map ev) = some e → Sound P cx β h w (execOp ρ ⟨dst, .slice t x lo hi mx, ty, pos, af, g⟩) e := by
      intro hmh he
      have hopt : ∀ (q : Option Operand), (∀ a, q.map ev = some a → ∃ v, q.map ρ = some v ∧ a.rep (envOf cx.Xo β h w) v) ∧ (q.map ev = none → q.map ρ = none) := by
        intro q
        cases q with
        | none => simp
        | some y => simp; exact hev y
      exact effSlice_ok T rel he hs (hev x) (hopt lo).1 (hopt lo).2 (hopt hi).1 (hopt hi).2 (hopt mx).1 (hopt mx).2 hmh
    split at he
    · cases he
    · rename_i h1
      refine key (fun h2 h3 => ?_) he
      cases hi with
      | some _ => simp at h3
      | none =>
        cases mx with
        | none => simp at h2
        | some m => exact h1 m rfl rfl
  · exact effFieldAddr_ok T rel he hs (hev _)
  · exact effField_ok T rel he hs (hev _)
  · rename_i t x i
    split at he
    · rename_i k n hi
      have h1 := hev i
      rw [hi] at h1
      simp only [A.rep, D.rep] at h1
      have := effIndexAddr_ok (k := k) T rel he hs (hev x)
      rw [← h1.1] at this
      exact this
    · cases he
  · exact effIndex_ok T rel he hs (hev _) (hev _)
  · rename_i t i
    split at he
    · rename_i vs ht
      split at he
      · rename_i a ha
        cases he
        have h1 := hev t
        rw [ht] at h1
        simp only [A.rep] at h1
        obtain ⟨us, h2, h3⟩ := h1
        obtain ⟨v, hv, hr⟩ := repL_get vs us i a h3 ha
        exact .pure rel (r := v) (by simp [execOp, Instr.extract, h2, hv]) rfl hr
      · cases he
    · cases he
  · exact effMakeMap_ok T rel he
  · exact effMapUpd_ok T rel he hs (hev _) (hev _) (hev _)
  · exact effInsert_ok T rel he hs (hev _) (hev _) (hev _)
  · exact effLookup_ok T rel he hs (hev _) (hev _)
  · exact effRange_ok T rel he (hev _)
  · exact effNext_ok rel he (hev _)
  · exact effBuiltin_ok T rel he hs hev
  · cases he
end
end Go.Am
namespace Go.Am
variable [T : Tab]
theorem upds_congr {h h2 : Nat → Option Ob} : ∀ (l : List (Nat × Ob)) (i : Nat), h2 i = h i → upds h2 l i = upds h l i
  | [], _, e => e
  | (o, ob) :: l, i, e => by
    simp only [upds]
    refine upds_congr l i ?_
    by_cases hi : i = o
    · subst hi; simp
    · rw [put_ne _ _ hi, put_ne _ _ hi, e]
/-- Rd: what is read; the keys of what is written lie in it. -/
def Keyed (upd : List (Nat × Ob)) (rd : List Nat) : Prop := ∀ p ∈ upd, p.1 ∈ rd
theorem frz_local {h h2 : Nat → Option Ob} {wd : Nat} {a : A} {f : Frz} (hf : frz h wd a = some f) (hr : ∀ i ∈ f.rd, h2 i = h i) : frz h2 wd a = some f ∧ Keyed f.upd f.rd := by
  unfold frz at hf ⊢
  split at hf
  · cases hf; exact ⟨by first | trivial | rfl, by simp [Keyed]⟩
  · cases hf; exact ⟨by first | trivial | rfl, by simp [Keyed]⟩
  · cases hf; exact ⟨by first | trivial | rfl, by simp [Keyed]⟩
  · rename_i o n
    split at hf
    · rename_i ho
      cases hf
      have := hr o (by simp)
      simp only [this, ho]
      exact ⟨by first | trivial | rfl, by simp [Keyed]⟩
    · cases hf
  · cases hf
theorem frzL_local : ∀ (as : List A) (ws : List Nat) {h h2 : Nat → Option Ob} {g : FrzL}, frzL h ws as = some g → (∀ i ∈ g.rd, h2 i = h i) → frzL h2 ws as = some g ∧ Keyed g.upd g.rd
  | [], ws, h, h2, g, hg, _ => by
    simp only [frzL, Option.some.injEq] at hg ⊢
    subst hg
    exact ⟨by first | trivial | rfl, by simp [Keyed]⟩
  | a :: as, ws, h, h2, g, hg, hr => by
    simp only [frzL] at hg ⊢
    split at hg
    · rename_i f hf
      split at hg
      · rename_i g' hg'
        cases hg
        obtain ⟨f1, f2⟩ := frz_local hf (fun i hi => hr i (by simp [hi]))
        obtain ⟨g1, g2⟩ := frzL_local as ws.tail (h2 := upds h2 f.upd) hg' (fun i hi => upds_congr _ _ (hr i (by simp [hi])))
        simp only [f1, g1]
        refine ⟨by first | trivial | rfl, fun p hp => ?_⟩
        rcases List.mem_append.1 hp with hp | hp
        · exact List.mem_append.2 (.inl (f2 p hp))
        · exact List.mem_append.2 (.inr (g2 p hp))
      · cases hg
    · cases hg
theorem fillR_local {cw : List Nat} {size : Nat} : ∀ (parts : List (Nat × A)) {h h2 : Nat → Option Ob} (rows : List (List D)) {f : FrzR}, fillR cw size h rows parts = some f → (∀ i ∈ f.rd, h2 i = h i) →
    fillR cw size h2 rows parts = some f ∧ Keyed f.upd f.rd
  | [], h, h2, rows, f, hf, _ => by
    simp only [fillR, Option.some.injEq] at hf ⊢
    subst hf
    exact ⟨by first | trivial | rfl, by simp [Keyed]⟩
  | (i, a) :: r, h, h2, rows, f, hf, hr => by
    simp only [fillR] at hf ⊢
    split at hf
    · rename_i g hg
      split at hf
      · rename_i f' hf'
        cases hf
        obtain ⟨g1, g2⟩ := frzL_local a.cells cw hg (fun i hi => hr i (by simp [hi]))
        obtain ⟨f1, f2⟩ := fillR_local r (h2 := upds h2 g.upd) _ hf' (fun i hi => upds_congr _ _ (hr i (by simp [hi])))
        simp only [g1, f1]
        refine ⟨by first | trivial | rfl, fun p hp => ?_⟩
        rcases List.mem_append.1 hp with hp | hp
        · exact List.mem_append.2 (.inl (g2 p hp))
        · exact List.mem_append.2 (.inr (f2 p hp))
      · cases hf
    · cases hf
theorem srcA_local {h h2 : Nat → Option Ob} {size : Nat} {x : A} {s : Src} (hx : srcA h size x = some s) (hr : ∀ i ∈ s.rd, h2 i = h i) : srcA h2 size x = some s := by
  unfold srcA at hx ⊢
  split at hx
  · exact hx
  · exact hx
  · exact hx
  · rename_i o n
    split at hx
    · rename_i ho
      cases hx
      simp only [hr o (by simp), ho]
    · cases hx
  · cases hx
theorem apSrc_local {h h2 : Nat → Option Ob} {tt : Types} {te : TI} {tS tX : Nat} {x : A} {s : Src} (hx : apSrc tt te tS tX h x = some s) (hr : ∀ i ∈ s.rd, h2 i = h i) : apSrc tt te tS tX h2 x = some s := by
  unfold apSrc at hx ⊢
  split at hx
  · exact hx
  · split at hx
    · rename_i hS
      simp only [hS, if_true]
      exact srcA_local hx hr
    · cases hx
theorem effAppend_local {h h2 : Nat → Option Ob} {tt : Types} {tS tX : Nat} {dst : Option Nat} {s x : A} {e : Eff} (he : effAppend tt tS tX dst h s x = some e) (hr : ∀ i ∈ e.rd, h2 i = h i) : effAppend tt tS tX dst h2 s x = some e ∧ Keyed e.upd e.rd := by
  unfold effAppend at he ⊢
  split at he
  · rename_i hts
    try simp only [hts]
    split at he
    · rename_i hk
      try simp only [hk]
      split at he
      · rename_i hte
        try simp only [hte]
        split at he
        · rename_i hsrc
          split at he
          · rename_i o n
            split at he
            · rename_i ho
              cases he
              have h1 := apSrc_local (h2 := h2) hsrc (fun i hi => hr i (by simp [hi]))
              simp only [h1, hr o (by simp), ho]
              exact ⟨by first | trivial | rfl, by simp [Keyed]⟩
            · cases he
          · split at he
            · rename_i d
              split at he
              · rename_i hd
                cases he
                have h1 := apSrc_local (h2 := h2) hsrc (fun i hi => hr i (by simp [hi]))
                simp only [h1, hr d (by simp), hd]
                exact ⟨by first | trivial | rfl, by simp [Keyed]⟩
              · cases he
            · cases he
          · split at he
            · rename_i d
              split at he
              · rename_i hd
                cases he
                have h1 := apSrc_local (h2 := h2) hsrc (fun i hi => hr i (by simp [hi]))
                simp only [h1, hr d (by simp), hd]
                exact ⟨by first | trivial | rfl, by simp [Keyed]⟩
              · cases he
            · cases he
          · rename_i o m k n
            split at he
            · rename_i ho
              cases he
              have h1 := apSrc_local (h2 := h2) hsrc (fun i hi => hr i (by simp [hi]))
              simp only [h1, hr o (by simp), ho]
              exact ⟨by first | trivial | rfl, by simp [Keyed]⟩
            · cases he
          · cases he
        · unfold effAppG at he
          split at he
          · rename_i o n p m _
            have h1 : ∀ te, apSrc tt te tS tX h2 (.vs p m) = none := fun te => by unfold apSrc; simp [srcA]
            rw [h1]
            simp only [effAppG]
            split at he
            · rename_i ho hp
              cases he
              simp only [hr o (by simp), hr p (by simp), ho, hp]
              exact ⟨by first | trivial | rfl, by simp [Keyed]⟩
            · cases he
          · cases he
      · cases he
    · cases he
  · cases he
theorem effLoad_local {h h2 : Nat → Option Ob} {tt : Types} {t : Nat} {a : A} {e : Eff} (he : effLoad tt t h a = some e) (hr : ∀ i ∈ e.rd, h2 i = h i) : effLoad tt t h2 a = some e ∧ Keyed e.upd e.rd := by
  unfold effLoad at he ⊢
  split at he
  · rename_i o off
    split at he
    · rename_i ho
      split at he
      · rename_i hl
        cases he
        simp only [hr o (by simp), ho, hl]
        exact ⟨by first | trivial | rfl, by simp [Keyed]⟩
      · cases he
    · cases he
  · split at he
    · rename_i hl
      cases he
      simp only [hl]
      exact ⟨by first | trivial | rfl, by simp [Keyed]⟩
    · cases he
  · rename_i o n i off
    split at he
    · rename_i ho
      split at he
      · rename_i hl
        cases he
        simp only [hr o (by simp), ho, hl]
        exact ⟨by first | trivial | rfl, by simp [Keyed]⟩
      · cases he
    · cases he
  · rename_i o n i
    split at he
    · rename_i ho
      split at he
      · rename_i hl
        cases he
        simp only [hr o (by simp), ho, hl]
        exact ⟨by first | trivial | rfl, by simp [Keyed]⟩
      · cases he
    · cases he
  · cases he
theorem effStore_local {h h2 : Nat → Option Ob} {tt : Types} {t : Nat} {v a : A} {e : Eff} (he : effStore tt t h v a = some e) (hr : ∀ i ∈ e.rd, h2 i = h i) : effStore tt t h2 v a = some e ∧ Keyed e.upd e.rd := by
  unfold effStore at he ⊢
  split at he
  · rename_i o off
    split at he
    · rename_i ho ht
      cases he
      simp only [hr o (by simp), ho, ht]
      exact ⟨by first | trivial | rfl, by simp [Keyed]⟩
    · cases he
  · rename_i o n i off
    split at he
    · rename_i ht
      try simp only [ht]
      split at he
      · rename_i g hg
        split at he
        · rename_i ho
          cases he
          obtain ⟨g1, g2⟩ := frzL_local v.cells _ hg (h2 := h2) (fun i hi => hr i (by simp [hi]))
          have ho' : upds h2 g.upd o = _ := (upds_congr (h := h) g.upd o (hr o (by simp))).trans ho
          simp only [g1, ho']
          refine ⟨by first | trivial | rfl, fun p hp => ?_⟩
          rcases List.mem_append.1 hp with hp | hp
          · exact List.mem_cons_of_mem _ (g2 p hp)
          · simp at hp; simp [hp]
        · cases he
      · cases he
    · cases he
  · rename_i o n i
    split at he
    · rename_i ho ht
      cases he
      simp only [hr o (by simp), ho, ht]
      exact ⟨by first | trivial | rfl, by simp [Keyed]⟩
    · cases he
  · cases he
theorem nilA_local {h h2 : Nat → Option Ob} {k : TK} {a : A} {p : Prop} {b : Bool} {rd : List Nat} (he : nilA h k a = some (p, b, rd)) (hr : ∀ i ∈ rd, h2 i = h i) : nilA h2 k a = some (p, b, rd) := by
  unfold nilA at he ⊢
  split at he
  · exact he
  · exact he
  · exact he
  · rename_i o n
    split at he
    · rename_i ho
      simp only [Option.some.injEq, Prod.mk.injEq] at he
      obtain ⟨rfl, rfl, rfl⟩ := he
      simp only [hr o (by simp), ho]
    · cases he
  · exact he
  · exact he
  · exact he
  · exact he
  · exact he
  · exact he
  · exact he
  · cases he
theorem effEq_local {h h2 : Nat → Option Ob} {tt : Types} {neg : Bool} {t : Nat} {x y : A} {e : Eff} (he : effEq tt neg t h x y = some e) (hr : ∀ i ∈ e.rd, h2 i = h i) : effEq tt neg t h2 x y = some e ∧ e.upd = [] := by
  unfold effEq at he ⊢
  split at he
  · split at he
    · split at he
      · rename_i hc
        split at he
        · rename_i hb
          have he' := he
          cases he'
          simp only [hc, hb, if_true]
          exact ⟨by first | exact he | trivial | rfl, by first | trivial | rfl⟩
        · cases he
      · cases he
    · cases he
  · split at he
    · rename_i ht
      split at he
      · rename_i hk
        have he' := he
        cases he'
        simp only [hk]
        exact ⟨by first | exact he | trivial | rfl, by first | trivial | rfl⟩
      · cases he
    · cases he
  · split at he
    · rename_i ht
      split at he
      · rename_i hk
        have he' := he
        cases he'
        simp only [hk]
        exact ⟨by first | exact he | trivial | rfl, by first | trivial | rfl⟩
      · cases he
    · cases he
  · split at he
    · split at he
      · rename_i hc
        split at he
        · rename_i hn
          cases he
          have := nilA_local (h2 := h2) hn (fun i hi => hr i hi)
          simp only [hc, if_true, this]
          exact ⟨by first | trivial | rfl, by first | trivial | rfl⟩
        · cases he
      · cases he
    · cases he
theorem effBin_local {h h2 : Nat → Option Ob} {tt : Types} {op : BinOp} {t : Nat} {x y : A} {e : Eff} (he : effBin tt op t h x y = some e) (hr : ∀ i ∈ e.rd, h2 i = h i) : effBin tt op t h2 x y = some e ∧ Keyed e.upd e.rd := by
  unfold effBin at he ⊢
  split at he
  · refine ⟨he, ?_⟩
    split at he
    · unfold intBin at he
      cases op <;> simp only [ok1] at he <;> cases he <;> simp [Keyed]
    · cases he
  · refine ⟨he, ?_⟩
    unfold strBin at he
    cases op <;> simp only [ok1] at he <;> cases he <;> simp [Keyed]
  · split at he
    · obtain ⟨h1, h3⟩ := effEq_local (h2 := h2) he hr
      exact ⟨h1, by rw [h3]; simp [Keyed]⟩
    · obtain ⟨h1, h3⟩ := effEq_local (h2 := h2) he hr
      exact ⟨h1, by rw [h3]; simp [Keyed]⟩
    · cases he
theorem effSlice_local {h h2 : Nat → Option Ob} {tt : Types} {t : Nat} {x : A} {lo hi mx : Option A} {e : Eff} (he : effSlice tt t h x lo hi mx = some e) (hr : ∀ i ∈ e.rd, h2 i = h i) : effSlice tt t h2 x lo hi mx = some e ∧ Keyed e.upd e.rd := by
  unfold effSlice at he ⊢
  split at he
  · split at he
    · split at he
      · split at he
        · split at he <;> first | (cases he; exact ⟨by first | trivial | rfl, by simp [Keyed]⟩) | cases he
        · split at he <;> first | (cases he; exact ⟨by first | trivial | rfl, by simp [Keyed]⟩) | cases he
        · split at he <;> first | (cases he; exact ⟨by first | trivial | rfl, by simp [Keyed]⟩) | cases he
        · rename_i o n
          split at he
          · rename_i ho
            split at he
            · cases he
              simp only [hr o (by simp), ho, *]
              exact ⟨by first | trivial | rfl, by simp [Keyed]⟩
            · cases he
              simp only [hr o (by simp), ho, *]
              exact ⟨by first | trivial | rfl, by simp [Keyed]⟩
            · cases he
          · cases he
        · rename_i o m k n
          unfold sliceSub at he ⊢
          split at he
          · rename_i ho
            split at he
            · cases he
              simp only [hr o (by simp), ho, *]
              exact ⟨by first | trivial | rfl, by simp [Keyed]⟩
            · cases he
          · cases he
        · cases he
      · cases he
    · split at he
      · split at he <;> first | (cases he; exact ⟨by first | trivial | rfl, by simp [Keyed]⟩) | cases he
      · cases he
    · split at he <;> first | (cases he; exact ⟨by first | trivial | rfl, by simp [Keyed]⟩) | cases he
    · cases he
  · cases he
end Go.Am
namespace Go.Am
variable [T : Tab]
theorem effAlloc_local {h h2 : Nat → Option Ob} {tt : Types} {t : Nat} {dst : Option Nat} {e : Eff} (he : effAlloc tt t dst h = some e) (hr : ∀ i ∈ e.rd, h2 i = h i) : effAlloc tt t dst h2 = some e ∧ Keyed e.upd e.rd := by
  unfold effAlloc at he ⊢
  split at he
  · split at he
    · rename_i hd
      cases he
      have hd2 := hr _ List.mem_cons_self
      simp only [hd2, hd]
      exact ⟨by first | trivial | rfl, by simp [Keyed]⟩
    · cases he
  · cases he
theorem effBox_local {h h2 : Nat → Option Ob} {v : A} {dst : Option Nat} {e : Eff} (he : effBox v dst h = some e) (hr : ∀ i ∈ e.rd, h2 i = h i) : effBox v dst h2 = some e ∧ Keyed e.upd e.rd := by
  unfold effBox at he ⊢
  split at he
  · split at he
    · rename_i hd
      cases he
      have hd2 := hr _ List.mem_cons_self
      simp only [hd2, hd]
      exact ⟨by first | trivial | rfl, by simp [Keyed]⟩
    · cases he
  · cases he
theorem effSlice0_local {h h2 : Nat → Option Ob} {tt : Types} {t len : Nat} {parts : List (Nat × A)} {dst : Option Nat} {e : Eff} (he : effSlice0 tt t len parts dst h = some e) (hr : ∀ i ∈ e.rd, h2 i = h i) :
    effSlice0 tt t len parts dst h2 = some e ∧ Keyed e.upd e.rd := by
  unfold effSlice0 at he ⊢
  split at he
  · split at he
    · split at he
      · split at he
        · rename_i hN
          simp only [hN, if_true]
          unfold effSliceG at he ⊢
          split at he
          · split at he
            · rename_i hd
              cases he
              simp only [hr _ List.mem_cons_self, hd]
              exact ⟨by first | trivial | rfl, by simp [Keyed]⟩
            · cases he
          · cases he
        rename_i hN
        simp only [hN, if_false]
        split at he
        · rename_i f hf
          split at he
          · rename_i hd
            cases he
            obtain ⟨f1, f2⟩ := fillR_local _ (h2 := h2) _ hf (fun i hi => hr i (by simp [hi]))
            have hd' := (upds_congr (h := h) f.upd _ (hr _ List.mem_cons_self)).trans hd
            simp only [f1, hd']
            refine ⟨by first | trivial | rfl, fun p hp => ?_⟩
            rcases List.mem_append.1 hp with hp | hp
            · exact List.mem_cons_of_mem _ (f2 p hp)
            · simp at hp; simp [hp]
          · cases he
        · cases he
      · cases he
    · cases he
  · cases he
theorem effMake_local {h h2 : Nat → Option Ob} {tt : Types} {t : Nat} {dst : Option Nat} {l c : A} {e : Eff} (he : effMake tt t dst h l c = some e) (hr : ∀ i ∈ e.rd, h2 i = h i) : effMake tt t dst h2 l c = some e ∧ Keyed e.upd e.rd := by
  unfold effMake at he ⊢
  split at he
  · split at he
    · split at he
      · rename_i hd
        split at he
        · split at he
          · cases he
            have hd2 := hr _ List.mem_cons_self
            simp only [hd2, hd, *]
            exact ⟨by first | trivial | rfl, by simp [Keyed, makeMaps]⟩
          · split at he
            · rename_i hf
              cases he
              have hd2 := hr _ List.mem_cons_self
              simp only [hd2, hd, if_pos hf, *]
              exact ⟨by first | trivial | rfl, by simp [Keyed, makeVars]⟩
            rename_i hf
            cases he
            have hd2 := hr _ List.mem_cons_self
            simp only [hd2, hd, if_neg hf, *]
            exact ⟨by first | trivial | rfl, by simp [Keyed]⟩
        · cases he
      · cases he
    · cases he
  · cases he
theorem effNil_local {h h2 : Nat → Option Ob} {a : A} {e : Eff} (he : effNil h a = some e) (hr : ∀ i ∈ e.rd, h2 i = h i) : effNil h2 a = some e ∧ Keyed e.upd e.rd := by
  unfold effNil at he ⊢
  split at he
  · refine ⟨he, ?_⟩; cases he; simp [Keyed]
  · refine ⟨he, ?_⟩; cases he; simp [Keyed]
  · refine ⟨he, ?_⟩; cases he; simp [Keyed]
  · rename_i o n i off
    split at he
    · rename_i ho
      cases he
      simp only [hr o (by simp), ho]
      exact ⟨by first | trivial | rfl, by simp [Keyed]⟩
    · cases he
  · cases he
theorem effFieldAddr_local {h h2 : Nat → Option Ob} {tt : Types} {s f : Nat} {a : A} {e : Eff} (he : effFieldAddr tt s f h a = some e) (hr : ∀ i ∈ e.rd, h2 i = h i) : effFieldAddr tt s f h2 a = some e ∧ Keyed e.upd e.rd := by
  unfold effFieldAddr at he ⊢
  split at he
  · rename_i hf
    split at he
    · refine ⟨by first | exact he | (simp only [hf]; exact he), ?_⟩; cases he; simp [Keyed]
    · refine ⟨by first | exact he | (simp only [hf]; exact he), ?_⟩; cases he; simp [Keyed]
    · rename_i o n i off
      split at he
      · rename_i ho
        cases he
        simp only [hr o (by simp), ho]
        exact ⟨by first | trivial | rfl, by simp [Keyed]⟩
      · cases he
    · cases he
  · cases he
theorem effIndexAddr_local {h h2 : Nat → Option Ob} {tt : Types} {t : Nat} {x : A} {i : Int} {e : Eff} (he : effIndexAddr tt t h x i = some e) (hr : ∀ i ∈ e.rd, h2 i = h i) : effIndexAddr tt t h2 x i = some e ∧ Keyed e.upd e.rd := by
  unfold effIndexAddr at he ⊢
  split at he
  · split at he
    · split at he
      · split at he
        · refine ⟨he, ?_⟩; cases he; simp [Keyed]
        · refine ⟨he, ?_⟩; cases he; simp [Keyed]
        · rename_i o n
          split at he
          · rename_i ho
            cases he
            simp only [hr o (by simp), ho]
            exact ⟨by first | trivial | rfl, by simp [Keyed]⟩
          · cases he
        · unfold effIdxVs at he ⊢
          split at he
          · refine ⟨he, ?_⟩
            cases he; simp [Keyed]
          · rename_i o m k n _ _ _
            split at he
            · rename_i ho
              cases he
              simp only [hr o (by simp), ho]
              exact ⟨by first | trivial | rfl, by simp [Keyed]⟩
            · cases he
          · rename_i o n _ _ _
            split at he
            · rename_i ho
              cases he
              simp only [hr o (by simp), ho]
              exact ⟨by first | trivial | rfl, by simp [Keyed]⟩
            · cases he
          · cases he
      · cases he
    · split at he
      · split at he
        · refine ⟨he, ?_⟩; cases he; simp [Keyed]
        · refine ⟨he, ?_⟩; cases he; simp [Keyed]
        · rename_i o n j off
          split at he
          · rename_i ho
            cases he
            simp only [hr o (by simp), ho]
            exact ⟨by first | trivial | rfl, by simp [Keyed]⟩
          · cases he
        · cases he
      · cases he
    · cases he
  · cases he
theorem effLen_local {h h2 : Nat → Option Ob} {tt : Types} {t : Nat} {x : A} {e : Eff} (he : effLen tt t h x = some e) (hr : ∀ i ∈ e.rd, h2 i = h i) : effLen tt t h2 x = some e ∧ Keyed e.upd e.rd := by
  unfold effLen at he ⊢
  split at he
  · split at he
    · refine ⟨he, ?_⟩
      split at he
      · cases he; simp [Keyed]
      · cases he
    · refine ⟨he, ?_⟩; cases he; simp [Keyed]
    · split at he
      · refine ⟨he, ?_⟩; cases he; simp [Keyed]
      · refine ⟨he, ?_⟩; cases he; simp [Keyed]
      · refine ⟨he, ?_⟩; cases he; simp [Keyed]
      · rename_i o n
        split at he
        · rename_i ho
          cases he
          simp only [hr o (by simp), ho]
          exact ⟨by first | trivial | rfl, by simp [Keyed]⟩
        · cases he
      · refine ⟨he, ?_⟩; cases he; simp [Keyed]
      · rename_i o m k n
        split at he
        · rename_i ho
          cases he
          simp only [hr o (by simp), ho]
          exact ⟨by first | trivial | rfl, by simp [Keyed]⟩
        · cases he
      · cases he
    · unfold effLenM at he ⊢
      split at he
      · refine ⟨he, ?_⟩; cases he; simp [Keyed]
      · split at he
        · rename_i ho
          cases he
          simp only [hr _ List.mem_cons_self, ho]
          exact ⟨by first | trivial | rfl, by simp [Keyed]⟩
        · cases he
      · cases he
    · refine ⟨he, ?_⟩
      split at he
      · split at he
        · cases he; simp [Keyed]
        · cases he
      · cases he
    · cases he
  · cases he
theorem keyed_nil {rd : List Nat} : Keyed [] rd := by simp [Keyed]
theorem effField_upd {tt : Types} {s f : Nat} {a : A} {e : Eff} (he : effField tt s f a = some e) : e.upd = [] := by
  unfold effField at he
  split at he
  · split at he
    · split at he
      · cases he; rfl
      · cases he
    · cases he
  · cases he
theorem effBuild_upd {tt : Types} {t : Nat} {parts : List (Nat × A)} {e : Eff} (he : effBuild tt t parts = some e) : e.upd = [] := by
  unfold effBuild at he
  split at he
  · split at he
    · split at he
      · cases he; rfl
      · cases he
    · split at he
      · split at he
        · cases he; rfl
        · cases he
      · cases he
    · cases he
  · cases he
theorem effUn_upd {op : UnOp} {a : A} {e : Eff} (he : effUn op a = some e) : e.upd = [] := by
  unfold effUn at he
  split at he
  · cases op <;> simp only [ok1] at he <;> cases he; rfl
  · cases op <;> simp only [ok1] at he <;> cases he; rfl
  · cases he
theorem effConv_upd {tt : Types} {s d : Nat} {a : A} {e : Eff} (he : effConv tt s d a = some e) : e.upd = [] := by
  unfold effConv at he
  split at he
  · split at he
    · split at he <;> first | (cases he; rfl) | cases he
    · cases he
  · split at he
    · split at he <;> first | (cases he; rfl) | cases he
    · cases he
  · cases he
theorem effConvH_local {h h2 : Nat → Option Ob} {tt : Types} {s d : Nat} {a : A} {e : Eff} (he : effConvH tt s d h a = some e) (hr : ∀ i ∈ e.rd, h2 i = h i) : effConvH tt s d h2 a = some e ∧ Keyed e.upd e.rd := by
  unfold effConvH at he ⊢
  split at he
  · split at he
    · split at he
      · split at he
        · split at he
          · split at he
            · rename_i ho
              cases he
              simp only [hr _ (List.mem_singleton.2 rfl), ho]
              exact ⟨by first | trivial | rfl, keyed_nil⟩
            · cases he
          · cases he
        · cases he
      · cases he
    · cases he
  · exact ⟨he, by rw [effConv_upd he]; exact keyed_nil⟩
theorem effIndex_upd {tt : Types} {t : Nat} {x i : A} {e : Eff} (he : effIndex tt t x i = some e) : e.upd = [] := by
  unfold effIndex at he
  split at he
  · split at he
    · split at he
      · split at he
        · cases he; rfl
        · cases he
      · cases he
    · cases he
  · split at he
    · split at he <;> first | (cases he; rfl) | cases he
    · cases he
  · cases he
theorem effMakeMap_local {h h2 : Nat → Option Ob} {tt : Types} {t : Nat} {dst : Option Nat} {e : Eff} (he : effMakeMap tt t dst h = some e) (hr : ∀ i ∈ e.rd, h2 i = h i) : effMakeMap tt t dst h2 = some e ∧ Keyed e.upd e.rd := by
  unfold effMakeMap at he ⊢
  split at he
  · split at he
    · rename_i hk hd
      cases he
      have hd2 := hr _ List.mem_cons_self
      simp only [hk, hd2, hd]
      exact ⟨by first | trivial | rfl, by simp [Keyed]⟩
    · cases he
  · cases he
theorem effMapUpd_local {h h2 : Nat → Option Ob} {tt : Types} {t : Nat} {m k v : A} {e : Eff} (he : effMapUpd tt t h m k v = some e) (hr : ∀ i ∈ e.rd, h2 i = h i) : effMapUpd tt t h2 m k v = some e ∧ Keyed e.upd e.rd := by
  unfold effMapUpd at he ⊢
  split at he
  · split at he
    · rename_i ht ho
      split at he
      · rename_i hk
        split at he
        · rename_i htk hp
          cases he
          simp only [ht, hr _ List.mem_cons_self, ho, hk, htk, hp]
          exact ⟨by first | trivial | rfl, by simp [Keyed]⟩
        · cases he
      · cases he
    · cases he
  · cases he
theorem effInsert_local {h h2 : Nat → Option Ob} {tt : Types} {t : Nat} {m k v : A} {e : Eff} (he : effInsert tt t h m k v = some e) (hr : ∀ i ∈ e.rd, h2 i = h i) : effInsert tt t h2 m k v = some e ∧ Keyed e.upd e.rd := by
  obtain ⟨q, x, u, ti, S, n, k', el, tk, rfl, rfl, rfl, h1, h2, h3, h4, rfl⟩ := effInsert_inv he
  exact ⟨effInsert_mk h1 h2 h3 (by rw [hr q (by simp)]; exact h4), by simp [Keyed]⟩
theorem effDelete_local {h h2 : Nat → Option Ob} {tt : Types} {t : Nat} {m k : A} {e : Eff} (he : effDelete tt t h m k = some e) (hr : ∀ i ∈ e.rd, h2 i = h i) : effDelete tt t h2 m k = some e ∧ Keyed e.upd e.rd := by
  unfold effDelete at he ⊢
  split at he
  · refine ⟨he, ?_⟩
    split at he
    · split at he
      · split at he
        · cases he; exact keyed_nil
        · cases he
      · cases he
    · cases he
  · split at he
    · rename_i ht ho
      split at he
      · rename_i hk
        split at he
        · rename_i htk hp
          cases he
          simp only [ht, hr _ List.mem_cons_self, ho, hk, htk, hp]
          exact ⟨by first | trivial | rfl, by simp [Keyed]⟩
        · cases he
      · cases he
    · cases he
  · cases he
theorem effLookup_local {h h2 : Nat → Option Ob} {tt : Types} {t : Nat} {ok : Bool} {m k : A} {e : Eff} (he : effLookup tt t ok h m k = some e) (hr : ∀ i ∈ e.rd, h2 i = h i) : effLookup tt t ok h2 m k = some e ∧ Keyed e.upd e.rd := by
  unfold effLookup at he ⊢
  split at he
  · refine ⟨he, ?_⟩
    split at he
    · split at he
      · split at he
        · split at he
          · cases he; exact keyed_nil
          · cases he
        · cases he
      · cases he
    · cases he
  · split at he
    · rename_i ht ho
      split at he
      · rename_i hk
        split at he
        · rename_i htk hte
          split at he
          · rename_i hz ha
            split at he
            · rename_i hf
              cases he
              simp only [ht, hr _ List.mem_cons_self, ho, hk, htk, hte, hz, ha, hf]
              exact ⟨by first | trivial | rfl, by simp [Keyed]⟩
            · cases he
          · cases he
        · cases he
      · cases he
    · cases he
  · cases he
theorem effRange_local {h h2 : Nat → Option Ob} {tt : Types} {t : Nat} {dst : Option Nat} {x : A} {e : Eff} (he : effRange tt t dst h x = some e) (hr : ∀ i ∈ e.rd, h2 i = h i) : effRange tt t dst h2 x = some e ∧ Keyed e.upd e.rd := by
  unfold effRange at he ⊢
  split at he
  · split at he
    · split at he
      · rename_i hk hd
        cases he
        have hd2 := hr _ List.mem_cons_self
        simp only [hk, hd2, hd]
        exact ⟨by first | trivial | rfl, by simp [Keyed]⟩
      · cases he
    · cases he
  · split at he
    · rename_i ht ho
      split at he
      · rename_i hk hd
        cases he
        have hd2 := hr _ (List.mem_cons_self)
        have ho2 := hr _ (List.mem_cons_of_mem _ List.mem_cons_self)
        simp only [ht, ho2, ho, hk, hd2, hd]
        exact ⟨by first | trivial | rfl, by simp [Keyed]⟩
      · cases he
    · rename_i ht ho
      split at he
      · rename_i hk hd
        cases he
        have hd2 := hr _ (List.mem_cons_self)
        have ho2 := hr _ (List.mem_cons_of_mem _ List.mem_cons_self)
        simp only [ht, ho2, ho, hk, hd2, hd]
        exact ⟨by first | trivial | rfl, by simp [Keyed]⟩
      · cases he
    · cases he
  · cases he
theorem effNext_local {h h2 : Nat → Option Ob} {b : Bool} {x : A} {e : Eff} (he : effNext h b x = some e) (hr : ∀ i ∈ e.rd, h2 i = h i) : effNext h2 b x = some e ∧ Keyed e.upd e.rd := by
  unfold effNext at he ⊢
  split at he
  · rename_i o
    split at he
    · rename_i s p ho
      cases he
      have hrd : (nextOf o s p).rd = [o] := by unfold nextOf; split <;> rfl
      have ho2 := hr o (by rw [hrd]; simp)
      simp only [ho2, ho]
      refine ⟨trivial, fun q hq => ?_⟩
      rw [hrd]
      unfold nextOf at hq
      split at hq
      · simp at hq; simp [hq]
      · simp at hq
    · cases he
  · cases he
theorem effBuiltin_local {h h2 : Nat → Option Ob} {tt : Types} {b : Builtin} {ts : List Nat} {dst : Option Nat} {xs : List A} {e : Eff} (he : effBuiltin tt b ts dst h xs = some e) (hr : ∀ i ∈ e.rd, h2 i = h i) :
    effBuiltin tt b ts dst h2 xs = some e ∧ Keyed e.upd e.rd := by
  unfold effBuiltin at he ⊢
  split at he
  · exact effLen_local he hr
  · exact effAppend_local he hr
  · refine ⟨he, ?_⟩; cases he; exact keyed_nil
  · refine ⟨he, ?_⟩; cases he; exact keyed_nil
  · exact effDelete_local he hr
  · exact effClear_local he hr
  · exact effCopy_local he hr
  · cases he
theorem eff_keyed {h : Nat → Option Ob} {tt : Types} {o : Oper} {ev : Operand → A} {e : Eff} (he : eff tt o ev h = some e) : ∀ h2, (∀ i ∈ e.rd, h2 i = h i) → eff tt o ev h2 = some e ∧ Keyed e.upd e.rd := by
  obtain ⟨dst, op, ty, pos, af, g⟩ := o
  intro h2 hr
  unfold eff at he ⊢
  simp only at he ⊢
  split at he
  · refine ⟨he, ?_⟩; cases he; exact keyed_nil
  · refine ⟨he, ?_⟩; cases he; exact keyed_nil
  · refine ⟨he, ?_⟩
    split at he
    · cases he; exact keyed_nil
    · cases he
  · exact effAlloc_local he hr
  · exact effBox_local he hr
  · exact ⟨he, by rw [effBuild_upd he]; exact keyed_nil⟩
  · exact effSlice0_local he hr
  · exact effLoad_local he hr
  · exact effStore_local he hr
  · exact effNil_local he hr
  · exact effBin_local he hr
  · exact ⟨he, by rw [effUn_upd he]; exact keyed_nil⟩
  · exact effConvH_local he hr
  · refine ⟨he, ?_⟩
    split at he
    · cases he; exact keyed_nil
    · cases he
  · exact effMake_local he hr
  · split at he
    · cases he
    · exact effSlice_local he hr
  · exact effFieldAddr_local he hr
  · exact ⟨he, by rw [effField_upd he]; exact keyed_nil⟩
  · split at he
    · rename_i hi
      have := effIndexAddr_local he hr
      exact ⟨by first | exact this.1 | (simp only [hi]; exact this.1), this.2⟩
    · cases he
  · exact ⟨he, by rw [effIndex_upd he]; exact keyed_nil⟩
  · refine ⟨he, ?_⟩
    split at he
    · split at he
      · cases he; exact keyed_nil
      · cases he
    · cases he
  · exact effMakeMap_local he hr
  · exact effMapUpd_local he hr
  · exact effInsert_local he hr
  · exact effLookup_local he hr
  · exact effRange_local he hr
  · exact effNext_local he hr
  · exact effBuiltin_local he hr
  · cases he
/-- Only the operands' values matter. -/
theorem eff_operands {h : Nat → Option Ob} {tt : Types} {o : Oper} {ev ev2 : Operand → A} (hx : ∀ x ∈ o.op.operands, ev2 x = ev x) : eff tt o ev2 h = eff tt o ev h := by
  obtain ⟨dst, op, ty, pos, af, g⟩ := o
  have pairs : ∀ ps : Array (Nat × Operand), (∀ x ∈ (ps.toList.map (·.2)).toArray, ev2 x = ev x) → (ps.toList.map fun p => (p.1, ev2 p.2)) = (ps.toList.map fun p => (p.1, ev p.2)) := fun ps hp =>
    List.map_congr_left fun p hm => by rw [hp p.2 (by simp only [List.mem_toArray, List.mem_map]; exact ⟨p, hm, rfl⟩)]
  cases op <;> simp only [Op.operands] at hx <;> simp only [eff]
  case build t ps => rw [pairs ps hx]
  case buildSlice t n ps => rw [pairs ps hx]
  case makeFunc fn first captured =>
    cases fn <;> try rfl
    have : captured.toList.map ev2 = captured.toList.map ev := List.map_congr_left fun x hm => hx x (by simp; exact .inr (Array.mem_toList_iff.1 hm))
    simp only [this]
  case makeMap t r => cases r <;> rfl
  case slice t x lo hi mx => cases lo <;> cases hi <;> cases mx <;> simp_all
  case call c =>
    obtain ⟨callee, args, ts⟩ := c
    cases callee <;> try rfl
    have : args.toList.map ev2 = args.toList.map ev := List.map_congr_left fun x hm => hx x (by simp [Call.operands]; exact Array.mem_toList_iff.1 hm)
    simp only [this]
  all_goals first | rfl | (simp_all; done)
end Go.Am
namespace Go.Am
variable [T : Tab]
structure St where
  t : Nat → A
  o : Nat → Option Ob
def evS (s : St) : Operand → A
  | .tmp k => s.t k
  | .const v => ofConst v
  | .global g => match T.tab g with
    | some row => .d (.ptr row 0)
    | none => .any
  | .func f => .clo f []
/-- All frames, of functions (none) or of the rounds of one loop over a function. -/
def Fw (r : Option Nat) : Fence := { fn := fun _ => True, depth := none, alive := false, round := r }
theorem callsIn_fw {r : Option Nat} {n : Nat} {P : Program} {f : FuncId} {args : Array Value} {w : World} {R : Ending → World → Prop} (h : Calls P f args w R) : CallsIn (Fw r) n P f args w R := by
  have h2 : CallsIn Fence.wide n P f args w R := callsIn_wide.2 h
  cases r with
  | none => exact h2
  | some l => exact h2
theorem calls_fw {n : Nat} {P : Program} {f : FuncId} {args : Array Value} {w : World} {R : Ending → World → Prop} (h : CallsIn (Fw none) n P f args w R) : Calls P f args w R := callsIn_wide.1 h
theorem roundIn_fw {r : Option Nat} {n : Nat} {P : Program} {l : Nat} {f : FuncId} {tmps : Array Value} {asg bd : Code} {w : World} {R : Ending → World → Prop} (h : RoundIn Fence.wide 0 P l f tmps asg bd w R) : RoundIn (Fw r) n P l f tmps asg bd w R := by
  have h2 : RoundIn Fence.wide n P l f tmps asg bd w R := ⟨h.1, fun c cs _ => h.2 c cs (room_wide _)⟩
  cases r with
  | none => exact h2
  | some l => exact h2
theorem fw_room {r : Option Nat} {n : Nat} : (Fw r).depth.isSome = true → 1 ≤ n := fun h => by simp [Fw] at h
/-- The mark that a loop over a function leaves among a frame's deferred calls. -/
def mark (b : Nat) : Deferred := { target := .collected b, args := #[] }
/-- The deferred calls of a frame are such marks, each of an object with a number of its own, in a block of its own (from n on). -/
def MarksOk (n : Nat) (β : Nat → Option (Option Nat)) (h : Nat → Option Ob) (ds : List Deferred) : Prop :=
  ds.Pairwise (· ≠ ·) ∧ ∀ d ∈ ds, ∃ o b as, 1000000 ≤ o ∧ h o = some (.x .dfr as) ∧ β o = some (some b) ∧ d = mark b ∧ n ≤ b
theorem MarksOk.nil (n : Nat) (β : Nat → Option (Option Nat)) (h : Nat → Option Ob) : MarksOk n β h [] := ⟨List.Pairwise.nil, fun _ h => by cases h⟩
theorem MarksOk.mono {n : Nat} {β β' : Nat → Option (Option Nat)} {h h' : Nat → Option Ob} {ds : List Deferred} (m : MarksOk n β h ds) (hh : ∀ o as, 1000000 ≤ o → h o = some (.x .dfr as) → (∃ as', h' o = some (.x .dfr as')) ∧ β' o = β o) : MarksOk n β' h' ds :=
  ⟨m.1, fun d hd => by
    obtain ⟨o, b, as, h1, h2, h3, h4⟩ := m.2 d hd
    obtain ⟨⟨as', g1⟩, g2⟩ := hh o as h1 h2
    exact ⟨o, b, as', h1, g1, g2.trans h3, h4⟩⟩
theorem MarksOk.le {n : Nat} {E E' : Env} {ds : List Deferred} (L : E.Le E') (m : MarksOk n E.β E.h ds) : MarksOk n E'.β E'.h ds :=
  m.mono fun o as _ h2 => by
    obtain ⟨ob', g1, g2⟩ := L.h o _ h2
    cases ob' with
    | x k as' =>
      simp only [Ob.grow] at g2
      cases k with
      | dfr => exact ⟨⟨as', g1⟩, g2.1⟩
      | _ => exact g2.2.elim
    | _ => simp [Ob.grow] at g2
theorem MarksOk.drop {n : Nat} {β : Nat → Option (Option Nat)} {h : Nat → Option Ob} {ds : List Deferred} {dom : Nat → Bool} (m : MarksOk n β h ds) (hent : ∀ o, hdd o = true → (h o).isSome = true → dom o = true) :
    MarksOk n (fun o => if dom o then β o else none) (fun o => if dom o then h o else none) ds :=
  m.mono fun o as h1 h2 => by
    have hd := hent o (hdd_mark h1) (by rw [h2]; rfl)
    simp only [hd, if_true]
    exact ⟨⟨as, h2⟩, trivial⟩
theorem MarksOk.none {n : Nat} {β : Nat → Option (Option Nat)} {h : Nat → Option Ob} {ds : List Deferred} (m : MarksOk n β h ds) (hn : ∀ o, 1000000 ≤ o → h o = none) : ds = [] := by
  cases ds with
  | nil => rfl
  | cons d ds =>
    obtain ⟨o, b, as, h1, h2, _⟩ := m.2 d (by simp)
    rw [hn o h1] at h2
    cases h2
/-- A frame's slots and objects, in the world. -/
def RelT (cx : Cx) (N : Nat) (s : St) (a : Act) (w : World) : Prop :=
  ∃ β, Rel cx β s.o w ∧ (∀ k, (s.t k).rep (envOf cx.Xo β s.o w) (a.tmps.getD k undef)) ∧ a.tmps.size = N ∧ MarksOk cx.w0.heap.size β s.o a.defers
theorem evS_global {cx : Cx} {β : Nat → Option (Option Nat)} {h : Nat → Option Ob} {w : World} (r : Rel cx β h w) (g : Nat) : (match T.tab g with | some row => A.d (.ptr row 0) | none => .any).rep (envOf cx.Xo β h w) (.pointer (some ⟨g, 0, none⟩)) := by
  cases hg : T.tab g with
  | none => simp [A.rep]
  | some row =>
    simp only [A.rep, D.rep]
    exact ⟨g, 0, rfl, r.tab g row hg⟩
def putD (dst : Option Nat) (v : A) (t : Nat → A) : Nat → A := match dst with | none => t | some k => put t k v
/-- An operation is sound, and looks at nothing but its operands and the objects in e.rd. -/
structure Step (P : Program) (o : Oper) (ev : Operand → A) (h : Nat → Option Ob) (e : Eff) : Prop where
  sound : ∀ (ev2 : Operand → A) (h2 : Nat → Option Ob), (∀ x ∈ o.op.operands, ev2 x = ev x) → (∀ i ∈ e.rd, h2 i = h i) → ∀ (cx : Cx) (β : Nat → Option (Option Nat)) (w : World) (a : Act), Rel cx β h2 w → (∀ x, (ev2 x).rep (envOf cx.Xo β h2 w) (a.eval x)) →
    ∀ (K : Act → World → Prop) (Q : Exit → Act → World → Prop), (∀ β' w' r, Rel cx β' (upds h2 e.upd) w' → (envOf cx.Xo β h2 w).Le (envOf cx.Xo β' (upds h2 e.upd) w') → e.res.rep (envOf cx.Xo β' (upds h2 e.upd) w') r → K (a.put o.dst r) w') → ∀ r : Option Nat, o.wpIn (Fw r) 0 P a w K Q
  keyed : Keyed e.upd e.rd
  ins : ∀ t m k v, o.op = .insert t m k v → ∃ tt : Types, tt.ok P ∧ eff tt o ev h = some e ∧ e.side
theorem eff_defer {tt : Types} {o : Oper} {ev : Operand → A} {h : Nat → Option Ob} {e : Eff} (he : eff tt o ev h = some e) : ∀ c, o.op ≠ .defer c := by
  intro c hc
  unfold eff at he
  rw [hc] at he
  simp at he
theorem Step.of_eff {P : Program} {tt : Types} (T : tt.ok P) {o : Oper} {ev : Operand → A} {h : Nat → Option Ob} {e : Eff} (he : eff tt o ev h = some e) (hs : e.side) : Step P o ev h e where
  sound := fun ev2 h2 h1 h3 cx β w a rel hev K Q hK => by
    have he2 : eff tt o ev2 h2 = some e := by rw [eff_operands h1]; exact (eff_keyed he h2 h3).1
    obtain ⟨β', w', nx, r, g1, g2, g3, g4, g5⟩ := eff_ok T rel he2 hs hev
    intro ro
    refine ⟨fun _ _ => trivial, ?_⟩
    rw [Oper.semAt_eq _ _ _ (eff_defer he), g1]
    rcases g2 with rfl | ⟨rfl, rfl⟩
    · exact hK β' w' r g3 g4 g5
    · exact hK β' w' undef g3 g4 g5
  keyed := (eff_keyed he h (fun _ _ => rfl)).2
  ins := fun _ _ _ _ _ => ⟨tt, T, he, hs⟩
theorem Step.congr {P : Program} {o : Oper} {ev ev2 : Operand → A} {h h2 : Nat → Option Ob} {e : Eff} (s : Step P o ev h e) (h1 : ∀ x ∈ o.op.operands, ev2 x = ev x) (h3 : ∀ i ∈ e.rd, h2 i = h i) : Step P o ev2 h2 e where
  sound := fun ev3 h4 g1 g3 => s.sound ev3 h4 (fun x hx => (g1 x hx).trans (h1 x hx)) (fun i hi => (g3 i hi).trans (h3 i hi))
  keyed := s.keyed
  ins := fun t m k v hq => by
    obtain ⟨tt, T, g1, g2⟩ := s.ins t m k v hq
    exact ⟨tt, T, by rw [eff_operands h1]; exact (eff_keyed g1 h2 h3).1, g2⟩
/-- The slot of a guard. -/
def gslot (ops : Array Oper) (j : Nat) : Option Nat := (ops[j]?).bind (·.dst)
structure Foot where
  rd : List Nat
  wr : List Nat
/-- One operation of a region, or its being passed over. -/
inductive AStep (P : Program) (ops : Array Oper) (o : Oper) (s : St) : St → Foot → Prop
  | run (e : Eff) (hg : ∀ j want, o.guard = some (j, want) → ∃ k, gslot ops j = some k ∧ s.t k = .d (.lit (.bool want))) (he : Step P o (evS s) s.o e) :
      AStep P ops o s ⟨putD o.dst e.res s.t, upds s.o e.upd⟩ ⟨e.rd, e.upd.map (·.1)⟩
  | skip (j : Nat) (want : Bool) (k : Nat) (hg : o.guard = some (j, want)) (hk : gslot ops j = some k) (hs : s.t k = .d (.lit (.bool (!want))) ∨ s.t k = .tup []) : AStep P ops o s ⟨putD o.dst (.tup []) s.t, s.o⟩ ⟨[], []⟩
def disj (a b : List Nat) : Bool := a.all fun x => !b.contains x
theorem disj_spec {a b : List Nat} (h : disj a b = true) : ∀ x ∈ a, x ∉ b := by
  intro x hx
  have := List.all_eq_true.1 h x hx
  simpa using this
theorem upds_not {h : Nat → Option Ob} : ∀ (l : List (Nat × Ob)) (i : Nat), i ∉ l.map (·.1) → upds h l i = h i
  | [], _, _ => rfl
  | (o, ob) :: l, i, hi => by
    simp only [List.map_cons, List.mem_cons, not_or] at hi
    simp only [upds]
    rw [upds_not l i hi.2, put_ne _ _ hi.1]
theorem upds_mem {h h2 : Nat → Option Ob} : ∀ (l : List (Nat × Ob)) (i : Nat), i ∈ l.map (·.1) → upds h l i = upds h2 l i
  | [], _, hi => by simp at hi
  | (o, ob) :: l, i, hi => by
    simp only [upds]
    by_cases h1 : i ∈ l.map (·.1)
    · exact upds_mem l i h1
    · rw [upds_not l i h1, upds_not l i h1]
      simp only [List.map_cons, List.mem_cons] at hi
      have : i = o := hi.resolve_right h1
      subst this
      simp
theorem upds_comm {h : Nat → Option Ob} {l m : List (Nat × Ob)} (hd : ∀ x ∈ l.map (·.1), x ∉ m.map (·.1)) : upds (upds h l) m = upds (upds h m) l := by
  funext i
  by_cases h1 : i ∈ l.map (·.1)
  · rw [upds_not m i (hd i h1), upds_mem (h2 := upds h m) l i h1]
  · rw [upds_not l i h1]
    by_cases h2 : i ∈ m.map (·.1)
    · exact upds_mem m i h2
    · rw [upds_not m i h2, upds_not m i h2, upds_not l i h1]
theorem putD_comm {d1 d2 : Option Nat} {u v : A} {t : Nat → A} (h : ∀ d, d1 = some d → d2 ≠ some d) : putD d2 v (putD d1 u t) = putD d1 u (putD d2 v t) := by
  cases d1 <;> cases d2 <;> simp only [putD]
  rename_i a b
  have hne : a ≠ b := fun e => h a rfl (by rw [e])
  funext k
  by_cases h1 : k = a
  · subst h1; rw [put_ne _ _ hne, put_same, put_same]
  · by_cases h2 : k = b
    · subst h2; rw [put_same, put_ne _ _ h1, put_same]
    · rw [put_ne _ _ h2, put_ne _ _ h1, put_ne _ _ h1, put_ne _ _ h2]
theorem putD_other {d : Option Nat} {v : A} {t : Nat → A} {k : Nat} (h : d ≠ some k) : putD d v t k = t k := by
  cases d with
  | none => rfl
  | some x => exact put_ne _ _ (fun e => h (by rw [e]))
theorem evS_putD {s : St} {d : Option Nat} {v : A} {h : Nat → Option Ob} {ops : Array Oper} {o : Oper} (hd : ∀ x, d = some x → x ∉ o.looksAt ops) : ∀ x ∈ o.op.operands, evS ⟨putD d v s.t, h⟩ x = evS s x := by
  intro x hx
  cases x with
  | tmp k =>
    simp only [evS]
    refine putD_other fun e => hd k e ?_
    exact List.mem_append_left _ (List.mem_filterMap.2 ⟨.tmp k, by simpa using hx, rfl⟩)
  | _ => rfl
theorem guard_putD {s : St} {d : Option Nat} {v : A} {ops : Array Oper} {o : Oper} (hd : ∀ x, d = some x → x ∉ o.looksAt ops) {j k : Nat} {want : Bool} (hg : o.guard = some (j, want)) (hk : gslot ops j = some k) : putD d v s.t k = s.t k := by
  refine putD_other fun e => hd k e ?_
  refine List.mem_append_right _ ?_
  rw [hg]
  simp only
  unfold gslot at hk
  rw [hk]
  simp
/-- Two entries of one map under way. -/
def insPair (p o : Oper) : Bool := match p.op, o.op with
  | .insert _ (.tmp m) _ _, .insert _ (.tmp m') _ _ => m == m' && p.guard.isNone && o.guard.isNone
  | _, _ => false
theorem AStep.commI {P : Program} {ops : Array Oper} {o1 o2 : Oper} {s s1 s2 : St} {F1 F2 : Foot} (h1 : AStep P ops o1 s s1 F1) (h2 : AStep P ops o2 s1 s2 F2) (hap : o1.apart ops o2 = true) (hp : insPair o1 o2 = true) :
    ∃ s1', AStep P ops o2 s s1' F2 ∧ AStep P ops o1 s1' s2 F1 := by
  obtain ⟨a1, a2, a3⟩ := Oper.apart_spec hap
  unfold insPair at hp
  split at hp
  · rename_i t1 m k1 v1 t2 m' k2 v2 hop1 hop2
    simp only [Bool.and_eq_true, beq_iff_eq, Option.isNone_iff_eq_none] at hp
    obtain ⟨⟨rfl, hg1⟩, hg2⟩ := hp
    have e1q : ∀ (tt : Types) (ev : Operand → A) (h : Nat → Option Ob), eff tt o1 ev h = effInsert tt t1 h (ev (.tmp m)) (ev k1) (ev v1) := fun tt ev h => by unfold eff; rw [hop1]
    have e2q : ∀ (tt : Types) (ev : Operand → A) (h : Nat → Option Ob), eff tt o2 ev h = effInsert tt t2 h (ev (.tmp m)) (ev k2) (ev v2) := fun tt ev h => by unfold eff; rw [hop2]
    have hops1 : ∀ x ∈ [Operand.tmp m, k1, v1], x ∈ o1.op.operands := by rw [hop1]; simp [Op.operands]
    have hops2 : ∀ x ∈ [Operand.tmp m, k2, v2], x ∈ o2.op.operands := by rw [hop2]; simp [Op.operands]
    cases h1 with
    | skip j want k hg hk hs => rw [hg1] at hg; cases hg
    | run e1 hq1 he1 =>
      cases h2 with
      | skip j want k hg hk hs => rw [hg2] at hg; cases hg
      | run e2 hq2 he2 =>
        obtain ⟨tt1, T1, f1, d1⟩ := he1.ins _ _ _ _ hop1
        obtain ⟨tt2, T2, f2, d2⟩ := he2.ins _ _ _ _ hop2
        rw [e1q] at f1
        rw [e2q] at f2
        obtain ⟨q, x1, u1, ti1, S, n, kk1, el1, tk1, g1, g2, g3, g4, g5, g6, g7, rfl⟩ := effInsert_inv f1
        obtain ⟨q', x2, u2, ti2, S2, n2, kk2, el2, tk2, i1, i2, i3, i4, i5, i6, i7, rfl⟩ := effInsert_inv f2
        have hev2 : ∀ x ∈ [Operand.tmp m, k2, v2], evS s x = evS ⟨putD o1.dst .any s.t, upds s.o [(q, .bag (bput S x1 u1) (n + 1))]⟩ x := fun x hx => (evS_putD a1 x (hops2 x hx)).symm
        have hqq : q' = q := by
          have := hev2 (.tmp m) (by simp)
          rw [g1, i1] at this
          cases this; rfl
        subst hqq
        simp only [upds, put_same, Option.bind_some, bagOf, Option.some.injEq, Prod.mk.injEq] at i7
        obtain ⟨rfl, rfl⟩ := i7
        obtain ⟨d1k, d1a⟩ : keyOf tk1.k x1 = true ∧ Apart x1 S := d1
        obtain ⟨d2k, d2a⟩ : keyOf tk2.k x2 = true ∧ Apart x2 (bput S x1 u1) := d2
        have s21 : sameV x2 x1 = some false := d2a x1 u1 (by rw [bput, if_pos (sameV_self d1k)])
        have hne : x1 ≠ x2 := fun e => by rw [e, sameV_self d2k] at s21; cases s21
        have a2S : Apart x2 S := fun k u hk => by
          by_cases hkx : sameV k x1 = some true
          · rw [sameV_eq hkx]; exact s21
          · exact d2a k u (by rw [bput, if_neg hkx]; exact hk)
        have f2' : eff tt2 o2 (evS s) s.o = some ⟨keyOf tk2.k x2 = true ∧ Apart x2 S, .any, [(q', .bag (bput S x2 u2) (n + 1))], [q']⟩ := by
          rw [e2q, hev2 _ (by simp), hev2 k2 (by simp), hev2 v2 (by simp), i1, i2, i3]
          exact effInsert_mk i4 i5 i6 g7
        have hev1 : ∀ x ∈ [Operand.tmp m, k1, v1], evS ⟨putD o2.dst .any s.t, upds s.o [(q', .bag (bput S x2 u2) (n + 1))]⟩ x = evS s x := fun x hx => evS_putD a3 x (hops1 x hx)
        have f1' : eff tt1 o1 (evS ⟨putD o2.dst .any s.t, upds s.o [(q', .bag (bput S x2 u2) (n + 1))]⟩) (upds s.o [(q', .bag (bput S x2 u2) (n + 1))]) = some ⟨keyOf tk1.k x1 = true ∧ Apart x1 (bput S x2 u2), .any, [(q', .bag (bput (bput S x2 u2) x1 u1) (n + 1 + 1))], [q']⟩ := by
          rw [e1q, hev1 _ (by simp), hev1 k1 (by simp), hev1 v1 (by simp), g1, g2, g3]
          exact effInsert_mk g4 g5 g6 (by simp [upds, bagOf])
        refine ⟨⟨putD o2.dst .any s.t, upds s.o [(q', .bag (bput S x2 u2) (n + 1))]⟩, ?_, ?_⟩
        · exact AStep.run (P := P) (ops := ops) (o := o2) (s := s) _ (fun j want hj => by rw [hg2] at hj; cases hj) (Step.of_eff T2 f2' ⟨d2k, a2S⟩)
        · have := AStep.run (P := P) (ops := ops) (o := o1) (s := ⟨putD o2.dst .any s.t, upds s.o [(q', .bag (bput S x2 u2) (n + 1))]⟩) _ (fun j want hj => by rw [hg1] at hj; cases hj) (Step.of_eff T1 f1' ⟨d1k, apart_put (sameV_symm s21) d1a⟩)
          simp only [upds] at this ⊢
          rw [putD_comm (d1 := o2.dst) (d2 := o1.dst) (fun d hd hd2 => a2 d hd2 hd), bput_comm hne.symm] at this
          have hputs : ∀ (a b : Option Ob), put (put s.o q' a) q' b = put s.o q' b := fun a b => by funext j; simp only [put]; split <;> rfl
          rw [hputs] at this ⊢
          exact this
  · cases hp
/-- Two operations that do not meet may change places. -/
theorem AStep.comm {P : Program} {ops : Array Oper} {o1 o2 : Oper} {s s1 s2 : St} {F1 F2 : Foot} (h1 : AStep P ops o1 s s1 F1) (h2 : AStep P ops o2 s1 s2 F2) (hap : o1.apart ops o2 = true) (d1 : disj F1.wr F2.rd = true) (d2 : disj F2.wr F1.rd = true) :
    ∃ s1', AStep P ops o2 s s1' F2 ∧ AStep P ops o1 s1' s2 F1 := by
  obtain ⟨a1, a2, a3⟩ := Oper.apart_spec hap
  have d1' := disj_spec d1
  have d2' := disj_spec d2
  cases h1 with
  | run e1 hg1 he1 =>
    cases h2 with
    | run e2 hg2 he2 =>
      have hw : ∀ x ∈ e1.upd.map (·.1), x ∉ e2.upd.map (·.1) := fun x hx hx2 => by
        obtain ⟨p, hp, rfl⟩ := List.mem_map.1 hx2
        exact d1' _ hx (he2.keyed p hp)
      refine ⟨⟨putD o2.dst e2.res s.t, upds s.o e2.upd⟩, ?_, ?_⟩
      · refine .run e2 (fun j want hj => ?_) ?_
        · obtain ⟨k, g1, g2⟩ := hg2 j want hj
          exact ⟨k, g1, by rw [← g2]; exact (guard_putD a1 hj g1).symm⟩
        · exact he2.congr (fun x hx => (evS_putD a1 x hx).symm) (fun i hi => (upds_not _ _ fun hx => d1' i hx hi).symm)
      · have := AStep.run (P := P) (ops := ops) (o := o1) (s := ⟨putD o2.dst e2.res s.t, upds s.o e2.upd⟩) e1 (fun j want hj => by
            obtain ⟨k, g1, g2⟩ := hg1 j want hj
            exact ⟨k, g1, by rw [← g2]; exact guard_putD a3 hj g1⟩)
          (he1.congr (fun x hx => evS_putD a3 x hx) (fun i hi => upds_not _ _ fun hx => d2' i hx hi))
        simp only at this
        rw [putD_comm (d1 := o2.dst) (d2 := o1.dst) (fun d hd hd2 => a2 d hd2 hd), ← upds_comm hw] at this
        exact this
    | skip j want k hg hk hs =>
      refine ⟨⟨putD o2.dst (.tup []) s.t, s.o⟩, ?_, ?_⟩
      · exact .skip j want k hg hk (hs.imp (fun q => by rw [← q]; exact (guard_putD a1 hg hk).symm) (fun q => by rw [← q]; exact (guard_putD a1 hg hk).symm))
      · have := AStep.run (P := P) (ops := ops) (o := o1) (s := ⟨putD o2.dst (.tup []) s.t, s.o⟩) e1 (fun j want hj => by
            obtain ⟨k, g1, g2⟩ := hg1 j want hj
            exact ⟨k, g1, by rw [← g2]; exact guard_putD a3 hj g1⟩)
          (he1.congr (fun x hx => evS_putD a3 x hx) (fun i hi => rfl))
        simp only at this
        rw [putD_comm (d1 := o2.dst) (d2 := o1.dst) (fun d hd hd2 => a2 d hd2 hd)] at this
        exact this
  | skip j want k hg hk hs =>
    cases h2 with
    | run e2 hg2 he2 =>
      refine ⟨⟨putD o2.dst e2.res s.t, upds s.o e2.upd⟩, ?_, ?_⟩
      · refine .run e2 (fun j want hj => ?_) ?_
        · obtain ⟨k, g1, g2⟩ := hg2 j want hj
          exact ⟨k, g1, by rw [← g2]; exact (guard_putD a1 hj g1).symm⟩
        · exact he2.congr (fun x hx => (evS_putD a1 x hx).symm) (fun i hi => rfl)
      · have := AStep.skip (P := P) (ops := ops) (o := o1) (s := ⟨putD o2.dst e2.res s.t, upds s.o e2.upd⟩) j want k hg hk (hs.imp (fun q => by rw [← q]; exact guard_putD a3 hg hk) (fun q => by rw [← q]; exact guard_putD a3 hg hk))
        simp only at this
        rw [putD_comm (d1 := o2.dst) (d2 := o1.dst) (fun d hd hd2 => a2 d hd2 hd)] at this
        exact this
    | skip j2 want2 k2 hg2 hk2 hs2 =>
      refine ⟨⟨putD o2.dst (.tup []) s.t, s.o⟩, ?_, ?_⟩
      · exact .skip j2 want2 k2 hg2 hk2 (hs2.imp (fun q => by rw [← q]; exact (guard_putD a1 hg2 hk2).symm) (fun q => by rw [← q]; exact (guard_putD a1 hg2 hk2).symm))
      · have := AStep.skip (P := P) (ops := ops) (o := o1) (s := ⟨putD o2.dst (.tup []) s.t, s.o⟩) j want k hg hk (hs.imp (fun q => by rw [← q]; exact guard_putD a3 hg hk) (fun q => by rw [← q]; exact guard_putD a3 hg hk))
        simp only at this
        rw [putD_comm (d1 := o2.dst) (d2 := o1.dst) (fun d hd hd2 => a2 d hd2 hd)] at this
        exact this
/-- A list of operations carried out one after the other; F: what each one meets. -/
inductive Runs (P : Program) (ops : Array Oper) (F : Nat → Foot) : List Nat → St → St → Prop
  | nil (s : St) : Runs P ops F [] s s
  | cons {i : Nat} {o : Oper} {l : List Nat} {s s1 s2 : St} (ho : ops[i]? = some o) (h : AStep P ops o s s1 (F i)) (r : Runs P ops F l s1 s2) : Runs P ops F (i :: l) s s2
def Indep (ops : Array Oper) (F : Nat → Foot) (j i : Nat) : Prop :=
  ∀ oj oi, ops[j]? = some oj → ops[i]? = some oi → oj.apart ops oi = true ∧ ((disj (F j).wr (F i).rd = true ∧ disj (F i).wr (F j).rd = true) ∨ insPair oj oi = true)
theorem Runs.front {P : Program} {ops : Array Oper} {F : Nat → Foot} {i : Nat} {l2 : List Nat} : ∀ (l1 : List Nat) {s s2 : St}, Runs P ops F (l1 ++ i :: l2) s s2 → (∀ j ∈ l1, Indep ops F j i) → Runs P ops F (i :: (l1 ++ l2)) s s2
  | [], s, s2, r, _ => r
  | j :: l1, s, s2, r, hi => by
    cases r with
    | cons ho h r =>
      have r' := Runs.front l1 r (fun k hk => hi k (by simp [hk]))
      cases r' with
      | cons ho2 h2 r2 =>
        obtain ⟨g1, g2⟩ := hi j (by simp) _ _ ho ho2
        obtain ⟨s1', k1, k2⟩ := g2.elim (fun g => AStep.comm h h2 g1 g.1 g.2) (fun g => AStep.commI h h2 g1 g)
        exact .cons ho2 k1 (.cons ho k2 r2)
/-- One operation, in the world. -/
theorem AStep.wpOp {P : Program} {ops : Array Oper} {cx : Cx} {N : Nat} {i : Nat} {o : Oper} {s s' : St} {F : Foot} (ho : ops[i]? = some o) (h : AStep P ops o s s' F) (hN : ∀ d, o.dst = some d → d < N) {a : Act} {w : World} (rel : RelT cx N s a w)
    {K : Act → World → Prop} {Q : Exit → Act → World → Prop} (r : Option Nat) (hK : ∀ a' w', RelT cx N s' a' w' → K a' w') : wpOpIn (Fw r) 0 P ops Q i K a w := by
  obtain ⟨β, r1, r2, r3, r4⟩ := rel
  have hev : ∀ x, (evS s x).rep (envOf cx.Xo β s.o w) (a.eval x) := by
    intro x
    cases x with
    | tmp k => exact r2 k
    | const v => exact ofConst_rep _ v
    | global g => exact evS_global r1 g
    | func f => simp only [evS, A.rep, Act.eval]; exact ⟨[], rfl, by simp [repL]⟩
  have hput : ∀ {v : A} {r : Value} {β' : Nat → Option (Option Nat)} {h' : Nat → Option Ob} {w' : World}, Rel cx β' h' w' → (envOf cx.Xo β s.o w).Le (envOf cx.Xo β' h' w') → v.rep (envOf cx.Xo β' h' w') r →
      RelT cx N ⟨putD o.dst v s.t, h'⟩ (a.put o.dst r) w' := by
    intro v r β' h' w' g1 g2 g3
    refine ⟨β', g1, fun k => ?_, ?_, ?_⟩
    · cases hd : o.dst with
      | none => simp only [putD, Act.put]; exact A.rep_le g2 _ _ (r2 k)
      | some d =>
        have hdN := hN d hd
        simp only [putD, Act.put]
        by_cases hk : k = d
        · subst hk
          rw [put_same]
          have : (a.tmps.setIfInBounds k r).getD k undef = r := by simp [Array.getD, r3, hdN]
          rw [this]
          exact g3
        · rw [put_ne _ _ hk]
          have : (a.tmps.setIfInBounds d r).getD k undef = a.tmps.getD k undef := by
            simp only [Array.getD_eq_getD_getElem?]
            rw [Array.getElem?_setIfInBounds_ne (Ne.symm hk)]
          rw [this]
          exact A.rep_le g2 _ _ (r2 k)
    · cases o.dst <;> simp [Act.put, r3]
    · have e : (a.put o.dst r).defers = a.defers := by cases o.dst <;> rfl
      rw [e]
      exact MarksOk.le g2 r4
  have hguard : ∀ j k b, gslot ops j = some k → s.t k = .d (.lit (.bool b)) → yielded ops a.tmps j = some b := by
    intro j k b hk hb
    have h1 := r2 k
    rw [hb] at h1
    simp only [A.rep, D.rep] at h1
    unfold yielded
    unfold gslot at hk
    rw [hk]
    simp only [Option.bind_some]
    have h2 : a.tmps.getD k undef = .bool b := h1.1
    rw [Array.getD_eq_getD_getElem?] at h2
    cases hg : a.tmps[k]? with
    | none => rw [hg] at h2; simp [undef] at h2
    | some v => rw [hg] at h2; simp at h2; simp [h2]
  unfold wpOpIn
  simp only [ho]
  cases h with
  | run e hg he =>
    have hw : Region.wanted o (yielded ops a.tmps) = true := by
      unfold Region.wanted
      split
      · rfl
      · rename_i j want hj
        obtain ⟨k, k1, k2⟩ := hg j want hj
        simp [hguard j k want k1 k2]
    simp only [hw, if_true]
    exact he.sound (evS s) s.o (fun _ _ => rfl) (fun _ _ => rfl) cx β w a r1 hev K Q (fun β' w' r g1 g2 g3 => hK _ _ (hput g1 g2 g3)) r
  | skip j want k hg hk hs =>
    have hw : Region.wanted o (yielded ops a.tmps) = false := by
      unfold Region.wanted
      rw [hg]
      rcases hs with hs | hs
      · simp [hguard j k (!want) hk hs]
      · have h1 := r2 k
        rw [hs] at h1
        simp only [A.rep, repL] at h1
        obtain ⟨vs, h1, rfl⟩ := h1
        unfold yielded
        have hk' : (ops[j]?).bind (·.dst) = some k := hk
        simp only [hk']
        rw [Array.getD_eq_getD_getElem?] at h1
        cases hq : a.tmps[k]? with
        | none => simp [hq]
        | some q => rw [hq] at h1; simp only [Option.getD_some] at h1; subst h1; simp [hq]
    simp only [hw, Bool.false_eq_true, if_false]
    exact ⟨fun _ _ => trivial, hK _ _ (hput r1 (Env.Le.refl _) (by simp only [A.rep]; exact ⟨[], rfl, by simp [repL]⟩))⟩
/-- Operation j comes before operation i, in so many steps at most. -/
def bef (ops : Array Oper) : Nat → Nat → Nat → Bool
  | 0, _, _ => false
  | f + 1, j, i => match ops[i]? with
    | none => false
    | some o => o.after.any fun e => Region.binds .any e && (e.on == j || bef ops f j e.on)
/-- What was carried out came after all that it had to come after. -/
def ClosedL (ops : Array Oper) (listed : Array Bool) : Prop := ∀ (i : Nat) (o : Oper), ops[i]? = some o → listed.getD i false = true → ∀ e ∈ o.after, Region.binds .any e = true → listed.getD e.on false = true
theorem bef_listed {ops : Array Oper} {listed : Array Bool} (hc : ClosedL ops listed) {j : Nat} : ∀ (f i : Nat), (∀ o, ops[i]? = some o → ∀ e ∈ o.after, Region.binds .any e = true → listed.getD e.on false = true) → bef ops f j i = true → listed.getD j false = true
  | 0, _, _, h => by simp [bef] at h
  | f + 1, i, hi, h => by
    unfold bef at h
    split at h
    · cases h
    · rename_i o ho
      obtain ⟨e, he, hb⟩ := Array.any_eq_true'.1 h
      simp only [Bool.and_eq_true, Bool.or_eq_true, beq_iff_eq] at hb
      obtain ⟨hb1, hb2⟩ := hb
      have hl := hi o ho e he hb1
      rcases hb2 with rfl | hb2
      · exact hl
      · exact bef_listed hc f e.on (fun o' ho' => hc e.on o' ho' hl) hb2
/-- Operations in whatever order. 'listed': those that have been carried out; l: the others. -/
theorem Runs.wpAny {P : Program} {ops : Array Oper} {F : Nat → Foot} {cx : Cx} {N : Nat} {Q : Exit → Act → World → Prop} (ro : Option Nat) (hN : ∀ (i : Nat) (o : Oper) (d : Nat), ops[i]? = some o → o.dst = some d → d < N)
    (hback : ∀ (i : Nat) (o : Oper), ops[i]? = some o → ∀ e ∈ o.after, Region.binds .any e = true → e.on < i)
    (hind : ∀ (j i : Nat) (o : Oper), j < i → ops[i]? = some o → (∃ f, bef ops f j i = true) ∨ Indep ops F j i) :
    ∀ (fuel : Nat) (listed : Array Bool) (l : List Nat) {s s' : St} {a : Act} {w : World}, ClosedL ops listed → l.length = fuel → listed.size = ops.size → l.Pairwise (· < ·) → (∀ i, i ∈ l ↔ (listed.getD i true = false ∧ i < ops.size)) → Runs P ops F l s s' → RelT cx N s a w →
      (∀ a' w', RelT cx N s' a' w' → Q .normal a' w') → wpAnyIn (Fw ro) 0 P .any ops Q fuel listed a w := by
  intro fuel
  have rdy : ∀ (listed : Array Bool) (l : List Nat), (∀ i, i ∈ l ↔ (listed.getD i true = false ∧ i < ops.size)) → ∀ i ∈ Region.ready .any ops listed, i ∈ l ∧ ∃ o, ops[i]? = some o ∧ ∀ e ∈ o.after, Region.binds .any e = true → listed.getD e.on false = true := by
    intro listed l hl i hi
    obtain ⟨h1, o, h2, h3⟩ := mem_ready.1 hi
    exact ⟨(hl i).2 ⟨h1, (Array.getElem?_eq_some_iff.1 h2).1⟩, o, h2, h3⟩
  induction fuel with
  | zero =>
    intro listed l s s' a w hcl hlen hsz hp hl r rel hQ
    have : l = [] := List.eq_nil_of_length_eq_zero hlen
    subst this
    refine ⟨?_, ?_⟩
    · cases hr : Region.ready .any ops listed with
      | nil => rfl
      | cons i _ => exact absurd (rdy listed [] hl i (by rw [hr]; simp)).1 (by simp)
    · cases r
      exact hQ a w rel
  | succ fuel ih =>
    intro listed l s s' a w hcl hlen hsz hp hl r rel hQ
    refine ⟨fun hr => ?_, fun i hi => ?_⟩
    · exfalso
      cases l with
      | nil => simp at hlen
      | cons m l =>
        have hm := (hl m).1 (by simp)
        obtain ⟨o, ho⟩ : ∃ o, ops[m]? = some o := ⟨ops[m], Array.getElem?_eq_getElem hm.2⟩
        have : m ∈ Region.ready .any ops listed := by
          refine mem_ready.2 ⟨hm.1, o, ho, fun e he hb => ?_⟩
          have hlt := hback m o ho e he hb
          have hnot : e.on ∉ m :: l := by
            intro hmem
            rcases List.mem_cons.1 hmem with h | h
            · omega
            · have := List.rel_of_pairwise_cons hp h
              omega
          have := fun h => hnot ((hl e.on).2 ⟨h, by omega⟩)
          have hin : e.on < listed.size := by omega
          simp only [Array.getD, hin, dite_true] at this ⊢
          simpa using this
        rw [hr] at this
        cases this
    · obtain ⟨him, o, ho, hafter⟩ := rdy listed l hl i hi
      obtain ⟨l1, l2, rfl⟩ := List.append_of_mem him
      have hpw := List.pairwise_append.1 hp
      have hpc := List.pairwise_cons.1 hpw.2.1
      have hlt1 : ∀ j ∈ l1, j < i := fun j hj => hpw.2.2 j hj i (by simp)
      have r' := Runs.front l1 r (fun j hj => by
        rcases hind j i o (hlt1 j hj) ho with ⟨f, hbf⟩ | h
        · exfalso
          have h1 := bef_listed hcl f i (fun o' ho' => by rw [ho] at ho'; cases ho'; exact hafter) hbf
          have h2 := (hl j).1 (by simp [hj])
          have hin : j < listed.size := by omega
          simp only [Array.getD, hin, dite_true] at h1 h2
          rw [h1] at h2
          exact absurd h2.1 (by simp)
        · exact h)
      cases r' with
      | cons ho2 h2 r2 =>
        refine h2.wpOp ho2 (fun d hd => hN i _ d ho2 hd) rel ro fun a' w' rel' => ?_
        have hmono : ∀ k, listed.getD k false = true → (listed.setIfInBounds i true).getD k false = true := by
          intro k hk
          simp only [Array.getD_eq_getD_getElem?] at hk ⊢
          by_cases hki : i = k
          · subst hki
            have hin : i < listed.size := by have := (hl i).1 him; omega
            simp [Array.getElem?_setIfInBounds_self_of_lt hin]
          · rw [Array.getElem?_setIfInBounds_ne hki]; exact hk
        refine ih (listed.setIfInBounds i true) (l1 ++ l2) (fun k ok hk hlk e he hb => hmono _ ?_) ?_ (by simpa using hsz) ?_ ?_ r2 rel' hQ
        · by_cases hki : i = k
          · subst hki
            rw [ho] at hk; cases hk
            exact hafter e he hb
          · refine hcl k ok hk ?_ e he hb
            simp only [Array.getD_eq_getD_getElem?] at hlk ⊢
            rwa [Array.getElem?_setIfInBounds_ne hki] at hlk
        · simp at hlen ⊢; omega
        · refine List.pairwise_append.2 ⟨hpw.1, hpc.2, fun x hx y hy => ?_⟩
          exact hpw.2.2 x hx y (by simp [hy])
        · intro k
          have hk := hl k
          by_cases hki : k = i
          · subst hki
            have hin : k < listed.size := by have := (hl k).1 him; omega
            constructor
            · intro h
              exfalso
              rcases List.mem_append.1 h with h | h
              · have := hlt1 k h; omega
              · have := hpc.1 k h; omega
            · intro h
              simp [Array.getD, hin] at h
          · have hne : (listed.setIfInBounds i true).getD k true = listed.getD k true := by
              simp only [Array.getD_eq_getD_getElem?]
              rw [Array.getElem?_setIfInBounds_ne (Ne.symm hki)]
            rw [hne, ← hk]
            simp [hki]
end Go.Am
namespace Go.Am
variable [T : Tab]
def lookT : List (Nat × A) → Nat → A
  | [], _ => .any
  | (j, v) :: l, k => if j = k then v else lookT l k
def lookO : List (Nat × Ob) → Nat → Option Ob
  | [], _ => none
  | (j, v) :: l, k => if j = k then some v else lookO l k
structure SL where
  t : List (Nat × A)
  o : List (Nat × Ob)
def SL.st (σ : SL) : St := ⟨lookT σ.t, lookO σ.o⟩
theorem lookT_put (l : List (Nat × A)) (k : Nat) (v : A) : put (lookT l) k v = lookT ((k, v) :: l) := by
  funext j
  simp only [put, lookT]
  by_cases h : j = k
  · simp [h]
  · simp [h, Ne.symm h]
theorem lookO_put (l : List (Nat × Ob)) (k : Nat) (v : Ob) : put (lookO l) k (some v) = lookO ((k, v) :: l) := by
  funext j
  simp only [put, lookO]
  by_cases h : j = k
  · simp [h]
  · simp [h, Ne.symm h]
def updO : List (Nat × Ob) → List (Nat × Ob) → List (Nat × Ob)
  | l, [] => l
  | l, p :: u => updO (p :: l) u
theorem lookO_upd : ∀ (u l : List (Nat × Ob)), upds (lookO l) u = lookO (updO l u)
  | [], l => rfl
  | (o, ob) :: u, l => by simp only [upds, updO, lookO_put]; exact lookO_upd u _
def setT (d : Option Nat) (v : A) (l : List (Nat × A)) : List (Nat × A) := match d with | none => l | some k => (k, v) :: l
theorem lookT_set (d : Option Nat) (v : A) (l : List (Nat × A)) : putD d v (lookT l) = lookT (setT d v l) := by
  cases d with
  | none => rfl
  | some k => exact lookT_put l k v
def evL (σ : SL) : Operand → A
  | .tmp k => lookT σ.t k
  | .const v => ofConst v
  | .global g => match T.tab g with
    | some row => .d (.ptr row 0)
    | none => .any
  | .func f => .clo f []
theorem evL_eq (σ : SL) : evL σ = evS σ.st := by funext x; cases x <;> rfl
def drawOk (ops : Array Oper) (F : List Foot) : Bool :=
  (List.range ops.size).all fun i => match ops[i]? with
    | none => true
    | some o => (o.after.all fun e => !Region.binds .any e || decide (e.on < i)) && (List.range i).all fun j => (match ops[j]? with
      | none => true
      | some p => p.apart ops o && ((disj (F.getD j ⟨[], []⟩).wr (F.getD i ⟨[], []⟩).rd && disj (F.getD i ⟨[], []⟩).wr (F.getD j ⟨[], []⟩).rd) || insPair p o)) || bef ops 1 j i || bef ops 2 j i || bef ops 3 j i || bef ops 5 j i
/-- An object without cells turns. -/
theorem Rel.turnX {cx : Cx} {β : Nat → Option (Option Nat)} {h : Nat → Option Ob} {w : World} (rel : Rel cx β h w) {o b : Nat} {k k' : XK} {as : List A} {x y : Obj} {vs : List Value} (ho : h o = some (.x k as)) (hb : β o = some (some b)) (hw : w.heap[b]? = some x)
    (hx : noCells x) (hy : noCells y) (hk : k.grow k') (hof : k'.of y vs) (hr : repL (envOf cx.Xo β h w) as vs) :
    Rel cx β (put h o (some (.x k' as))) (w.putObj b y) ∧ (envOf cx.Xo β h w).Le (envOf cx.Xo β (put h o (some (.x k' as))) (w.putObj b y)) := by
  have hlt : b < w.heap.size := rel.lt hb
  have hset : (w.putObj b y).heap[b]? = some y := World.putObj_heap_same hlt
  have hoth : ∀ k, k ≠ b → (w.putObj b y).heap[k]? = w.heap[k]? := fun k hk => World.putObj_heap_other hk
  refine rel.write o b (.x k as) (.x k' as) ho hb ⟨rfl, rfl, rfl, by simp, Nat.le_refl _, fun j hj => ?_⟩ (by simp only [Ob.grow]; exact ⟨trivial, hk⟩) (fun _ h => h) (fun j hj _ => hoth j hj) (fun L => ?_)
  · by_cases hjb : j = b
    · subst hjb
      exact .inr (.inr ⟨_, _, hw, hset, ⟨hx, hy⟩, rfl, trivial⟩)
    · exact .inl (hoth j hjb)
  · simp only [Ob.rep]
    exact ⟨b, y, vs, rfl, hset, hof, repL_le L _ _ hr⟩
/-- What a step of a map's iterator may do: any entry that was not met yet, or the end. -/
def nextS (h : Nat → Option Ob) (io : Nat) : Option (Prop × (Eff → Prop)) := match h io with
  | some (.x (.mi bs clk sn) [.mp om]) => match h om with
    | some (.mp es (some (bs2, clk2))) => some (bs2 = bs ∧ clk2 = clk, fun e => (∃ i k v, es[i]? = some (k, v) ∧ i ∉ sn ∧ e = ⟨True, .tup [.d (.lit (.bool true)), .d (.lit k), .d (.lit v)], [(io, .x (.mi bs clk (sn ++ [i])) [.mp om])], [io, om]⟩) ∨
        ((∀ i, i < es.length → i ∈ sn) ∧ e = ⟨True, .tup [.d (.lit (.bool false))], [], [io, om]⟩))
    | _ => none
  | _ => none
/-- The entry that was met last. -/
def entryS (h : Nat → Option Ob) (io : Nat) : Option (Prop × (Eff → Prop)) := match h io with
  | some (.x (.mi bs clk sn) [.mp om]) => match h om with
    | some (.mp es (some (bs2, clk2))) => some ((bs2 = bs ∧ clk2 = clk) ∧ sn ≠ [], fun e => ∃ i k v, sn.getLast? = some i ∧ es[i]? = some (k, v) ∧ e = ⟨True, .tup [.d (.lit k), .d (.lit v)], [], [io, om]⟩)
    | _ => none
  | _ => none
/-- Operations that are not determined. -/
def mapX (op : Op) (ev : Operand → A) (h : Nat → Option Ob) : Option (Option (Prop × (Eff → Prop))) := match op with
  | .next x b => match b, ev x with
    | false, .xo false io => some (nextS h io)
    | _, _ => none
  | .entry x => match ev x with
    | .xo false io => some (entryS h io)
    | _ => none
  | _ => none
theorem mi_of {bs sn : List Nat} {clk : Nat} {ob : Obj} {vs : List Value} (h : XK.of (.mi bs clk sn) ob vs) : ∃ (m : Nat) (seen : Array Nat), ob = .mapIter (some m) clk seen clk ∧ vs = [.map (some m)] ∧ seen.toList = sn.map (fun i => bs.getD i 0) ∧ ∀ i ∈ sn, i < bs.length := by
  cases ob with
  | mapIter m since seen last =>
    cases m with
    | none => simp [XK.of] at h
    | some m =>
      obtain ⟨h1, rfl, rfl, h4, h5⟩ := h
      exact ⟨m, seen, rfl, h1, h4, h5⟩
  | _ => simp [XK.of] at h
/-- The iterator and its map, in the world. -/
theorem mi_at {cx : Cx} {β : Nat → Option (Option Nat)} {h : Nat → Option Ob} {w : World} (rel : Rel cx β h w) {io om clk : Nat} {bs sn : List Nat} {es : List (Value × Value)} {v : Value} (h1 : h io = some (.x (.mi bs clk sn) [.mp om])) (h2 : h om = some (.mp es (some (bs, clk))))
    (hv : (A.xo false io).rep (envOf cx.Xo β h w) v) : ∃ (r bm : Nat) (seen : Array Nat) (ens : Array MapEntry), β io = some (some r) ∧ v = .pointer (some ⟨r, 0, none⟩) ∧ w.heap[r]? = some (.mapIter (some bm) clk seen clk) ∧ w.heap[bm]? = some (.map ens clk) ∧
      seen.toList = sn.map (fun i => bs.getD i 0) ∧ (∀ i ∈ sn, i < bs.length) ∧ ens.toList.map (fun e => (e.key, e.val)) = es ∧ (∀ p ∈ es, one p.1 = true ∧ one p.2 = true) ∧ Stamps ens clk (some (bs, clk)) ∧ repL (envOf cx.Xo β h w) [.mp om] [.map (some bm)] := by
  simp only [A.rep] at hv
  obtain ⟨r, _, _, hb, _, rfl⟩ := hv
  have ho := rel.obj io _ _ h1 hb
  simp only [Ob.rep] at ho
  obtain ⟨r', ob, vs, e, g1, g2, g3⟩ := ho
  cases e
  obtain ⟨m, seen, rfl, rfl, g4, g5⟩ := mi_of g2
  have g3' := g3
  simp only [repL, A.rep] at g3
  obtain ⟨u, us, e1, ⟨b, es0, st0, k1, k2, k3⟩, e2⟩ := g3
  simp only [List.cons.injEq] at e1
  obtain ⟨rfl, rfl⟩ := e1
  cases k3
  have hm := rel.obj om _ _ h2 k1
  simp only [Ob.rep] at hm
  obtain ⟨b', ens, clk', e3, q1, q2, q3, q4⟩ := hm
  cases e3
  obtain ⟨_, rfl⟩ := q4.st _ _ rfl
  exact ⟨r, m, seen, ens, hb, rfl, g1, q1, g4, g5, q2, q3, q4, g3'⟩
theorem pairwise_get {l : List Nat} (h : l.Pairwise (· < ·)) {i j : Nat} (hi : i < l.length) (hj : j < l.length) (e : l.getD i 0 = l.getD j 0) : i = j := by
  have key : ∀ a b, a < b → b < l.length → l.getD a 0 < l.getD b 0 := fun a b hab hb => by
    have := List.pairwise_iff_getElem.1 h a b (by omega) hb hab
    simpa [List.getD_eq_getElem?_getD, List.getElem?_eq_getElem hb, List.getElem?_eq_getElem (show a < l.length by omega)] using this
  rcases Nat.lt_trichotomy i j with q | q | q
  · have := key i j q hj; omega
  · exact q
  · have := key j i q hi; omega
theorem mapX_ok {P : Program} {cx : Cx} {β : Nat → Option (Option Nat)} {h : Nat → Option Ob} {w : World} {o : Oper} {ev : Operand → A} {ρ : Operand → Value} {p : Prop} {S : Eff → Prop} (he : mapX o.op ev h = some (some (p, S))) (hp : p) (rel : Rel cx β h w) (hev : ∀ x, (ev x).rep (envOf cx.Xo β h w) (ρ x)) :
    ∃ e, S e ∧ ∃ β' w' r, (execOp ρ o).run P w = .ok (.value r) w' ∧ Rel cx β' (upds h e.upd) w' ∧ (envOf cx.Xo β h w).Le (envOf cx.Xo β' (upds h e.upd) w') ∧ e.res.rep (envOf cx.Xo β' (upds h e.upd) w') r := by
  obtain ⟨dst, op, ty, pos, af, g⟩ := o
  simp only at he
  unfold mapX at he
  split at he
  · rename_i x b
    split at he
    · rename_i io hx
      have hv := hev x
      rw [hx] at hv
      simp only [Option.some.injEq] at he
      unfold nextS at he
      split at he
      · rename_i bs clk sn om h1
        split at he
        · rename_i es bs2 clk2 h2
          simp only [Option.some.injEq, Prod.mk.injEq] at he
          obtain ⟨rfl, rfl⟩ := he
          obtain ⟨rfl, rfl⟩ := hp
          obtain ⟨r, bm, seen, ens, hb, hval, w1, w2, hseen, hsn, hen, h1', hst, hrep⟩ := mi_at rel h1 h2 hv
          obtain ⟨hbs, _⟩ := hst.st _ _ rfl
          have hlen : bs2.length = es.length := by rw [← hbs, ← hen]; simp
          have hgetb : ∀ (i : Nat) (e : MapEntry), ens.toList[i]? = some e → bs2.getD i 0 = e.born ∧ i < bs2.length := fun i e hi => by
            have hl : i < ens.toList.length := (List.getElem?_eq_some_iff.1 hi).1
            rw [← hbs]
            exact ⟨by simp [List.getD_eq_getElem?_getD, List.getElem?_map, hi], by simpa using hl⟩
          have hleft : ∀ e, e ∈ (leftOf ens seen).toList ↔ e ∈ ens.toList ∧ e.born ∉ seen.toList := fun e => by simp [leftOf]
          have hrun : ∀ (v : Value) (w' : World), (Instr.next (.pointer (some ⟨r, 0, none⟩)) false ty).run P w = .ok v w' → (execOp ρ ⟨dst, .next x false, ty, pos, af, g⟩).run P w = .ok (.value v) w' := fun v w' hr => by
            simp only [execOp, hval, Sem.run_bind, hr, Result.andThen_ok]
            rfl
          rcases run_next_at (P := P) w ty r bm clk2 clk2 seen ens clk2 w1 w2 hst.lt (Nat.le_refl _) with ⟨q1, q2⟩ | ⟨e, q1, w3, q2, q3⟩
          · refine ⟨_, .inr ⟨fun i hi => ?_, rfl⟩, β, w, .tuple #[.bool false], hrun _ _ q2, by simpa [upds] using rel, by simp only [upds]; exact Env.Le.refl _, by simp [upds, A.rep, repL, D.rep, one]⟩
            have hi2 : i < ens.toList.length := by rw [← hen] at hi; simpa using hi
            have hge := List.getElem?_eq_getElem hi2
            obtain ⟨k1, k2⟩ := hgetb i _ hge
            have hnl : ens.toList[i] ∉ (leftOf ens seen).toList := by
              have : (leftOf ens seen) = #[] := Array.eq_empty_of_size_eq_zero q1
              rw [this]; simp
            have hin : (ens.toList[i]).born ∈ seen.toList := by
              rcases Classical.em ((ens.toList[i]).born ∈ seen.toList) with q | q
              · exact q
              · exact absurd ((hleft _).2 ⟨List.getElem_mem _, q⟩) hnl
            rw [hseen, ← k1] at hin
            obtain ⟨j, hj1, hj2⟩ := List.mem_map.1 hin
            have := pairwise_get (by rw [← hbs]; exact hst.up) (hsn j hj1) k2 hj2
            rw [← this]; exact hj1
          · obtain ⟨k1, k2⟩ := (hleft e).1 q1
            obtain ⟨i, hi⟩ := List.getElem?_of_mem k1
            obtain ⟨k3, k4⟩ := hgetb i e hi
            have hei : es[i]? = some (e.key, e.val) := by rw [← hen]; simp [List.getElem?_map, hi]
            have hni : i ∉ sn := fun hm => k2 (by rw [hseen]; exact List.mem_map.2 ⟨i, hm, k3⟩)
            have rel3 : Rel cx β h w3 ∧ (envOf cx.Xo β h w).Le (envOf cx.Xo β h w3) := by
              rcases q2 with rfl | rfl
              · exact ⟨rel, Env.Le.refl _⟩
              · exact rel.drew
            have w31 : w3.heap[r]? = some (.mapIter (some bm) clk2 seen clk2) := by rcases q2 with rfl | rfl <;> exact w1
            obtain ⟨r4, L4⟩ := rel3.1.turnX (k' := .mi bs2 clk2 (sn ++ [i])) (y := .mapIter (some bm) clk2 (seen.push e.born) clk2) h1 hb w31 trivial trivial trivial ⟨rfl, rfl, rfl, by rw [Array.toList_push, hseen, List.map_append, List.map_singleton, k3], fun j hj => by
              rcases List.mem_append.1 hj with q | q
              · exact hsn j q
              · rw [List.mem_singleton.1 q]; exact k4⟩ (repL_le rel3.2 _ _ hrep)
            obtain ⟨o1, o2⟩ := h1' (e.key, e.val) (List.mem_of_getElem? hei)
            refine ⟨_, .inl ⟨i, e.key, e.val, hei, hni, rfl⟩, β, _, .tuple #[.bool true, e.key, e.val], hrun _ _ q3, r4, rel3.2.trans L4, ?_⟩
            simp only [A.rep, repL, D.rep]
            exact ⟨[.bool true, e.key, e.val], rfl, _, _, rfl, ⟨rfl, rfl⟩, _, _, rfl, ⟨rfl, o1⟩, _, _, rfl, ⟨rfl, o2⟩, rfl⟩
        · cases he
      · cases he
    · cases he
  · rename_i x
    split at he
    · rename_i io hx
      have hv := hev x
      rw [hx] at hv
      simp only [Option.some.injEq] at he
      unfold entryS at he
      split at he
      · rename_i bs clk sn om h1
        split at he
        · rename_i es bs2 clk2 h2
          simp only [Option.some.injEq, Prod.mk.injEq] at he
          obtain ⟨rfl, rfl⟩ := he
          obtain ⟨⟨rfl, rfl⟩, hne⟩ := hp
          obtain ⟨r, bm, seen, ens, hb, hval, w1, w2, hseen, hsn, hen, h1', hst, hrep⟩ := mi_at rel h1 h2 hv
          obtain ⟨hbs, _⟩ := hst.st _ _ rfl
          obtain ⟨s0, i, rfl⟩ : ∃ s0 i, sn = s0 ++ [i] := ⟨sn.dropLast, sn.getLast hne, (List.dropLast_concat_getLast hne).symm⟩
          have hil : i < bs2.length := hsn i (by simp)
          have hil2 : i < ens.toList.length := by rw [← hbs] at hil; simpa using hil
          have hge := List.getElem?_eq_getElem hil2
          have hbi : bs2.getD i 0 = (ens.toList[i]).born := by rw [← hbs]; simp [List.getD_eq_getElem?_getD, List.getElem?_map, hge]
          have hei : es[i]? = some ((ens.toList[i]).key, (ens.toList[i]).val) := by rw [← hen]; simp [List.getElem?_map, hge]
          obtain ⟨sa, hsa⟩ : ∃ sa : Array Nat, seen = sa.push (ens.toList[i]).born := by
            refine ⟨(s0.map fun i => bs2.getD i 0).toArray, ?_⟩
            apply Array.toList_inj.1
            rw [hseen, List.map_append, List.map_singleton, hbi]
            simp
          rw [hsa] at w1
          have hrun := run_entry_at (P := P) w r bm clk2 sa ens clk2 (ens.toList[i]) w1 w2 (List.getElem_mem _) (hst.up.imp fun h => by omega)
          obtain ⟨o1, o2⟩ := h1' _ (List.mem_of_getElem? hei)
          refine ⟨_, ⟨i, _, _, by simp, hei, rfl⟩, β, w, .tuple #[(ens.toList[i]).key, (ens.toList[i]).val], ?_, by simpa [upds] using rel, by simp only [upds]; exact Env.Le.refl _, ?_⟩
          · simp only [execOp, hval, Sem.run_bind, hrun, Result.andThen_ok]
            rfl
          · simp only [A.rep, repL, D.rep]
            exact ⟨[(ens.toList[i]).key, (ens.toList[i]).val], rfl, _, _, rfl, ⟨rfl, o1⟩, _, _, rfl, ⟨rfl, o2⟩, rfl⟩
        · cases he
      · cases he
    · cases he
  · cases he
/-- Function f, called with these, does what e says; it looks at the objects in e.rd alone. -/
structure FnCall (P : Program) (f : FuncId) (as : List A) (h : Nat → Option Ob) (e : Eff) : Prop where
  fn : ∃ fn, P.funcs[f]? = some fn ∧ (fn.name == "runtime.NumGoroutine") = false ∧ fn.body.isSome = true
  calls : ∀ (h2 : Nat → Option Ob), (∀ i ∈ e.rd, h2 i = h i) → ∀ (cx : Cx) (β : Nat → Option (Option Nat)) (w : World) (vs : List Value), Rel cx β h2 w → repL (envOf cx.Xo β h2 w) as vs →
    Calls P f vs.toArray w fun en w' => ∃ v β', en = .returned v ∧ Rel cx β' (upds h2 e.upd) w' ∧ (envOf cx.Xo β h2 w).Le (envOf cx.Xo β' (upds h2 e.upd) w') ∧ e.res.rep (envOf cx.Xo β' (upds h2 e.upd) w') v
  keyed : Keyed e.upd e.rd
/-- A round of a loop over a function: its yield is called. -/
def YieldRun (P : Program) (b : Nat) (args : Array Value) (w : World) (R : Ending → World → Prop) : Prop :=
  ∃ f tmps asg bd, (Instr.yield b args).run P w = .ok (.round b f tmps asg bd) w ∧ RoundIn Fence.wide 0 P b f tmps asg bd w R
theorem YieldRun.mono {P : Program} {b : Nat} {args : Array Value} {w : World} {R R' : Ending → World → Prop} (h : YieldRun P b args w R) (hr : ∀ e w, R e w → R' e w) : YieldRun P b args w R' := by
  obtain ⟨f, tmps, asg, bd, h1, h2⟩ := h
  exact ⟨f, tmps, asg, bd, h1, RoundIn.mono h2 hr⟩
/-- The yield of the loop that is object o, called with these, does what e says. -/
structure YCall (P : Program) (o : Nat) (as : List A) (h : Nat → Option Ob) (e : Eff) : Prop where
  calls : ∀ (h2 : Nat → Option Ob), (∀ i ∈ e.rd, h2 i = h i) → ∀ (cx : Cx) (β : Nat → Option (Option Nat)) (w : World) (vs : List Value), Rel cx β h2 w → repL (envOf cx.Xo β h2 w) as vs →
    ∀ b, β o = some (some b) → YieldRun P b vs.toArray w fun en w' => ∃ v β', en = .returned v ∧ Rel cx β' (upds h2 e.upd) w' ∧ (envOf cx.Xo β h2 w).Le (envOf cx.Xo β' (upds h2 e.upd) w') ∧ e.res.rep (envOf cx.Xo β' (upds h2 e.upd) w') v
  keyed : Keyed e.upd e.rd
def callOf : Op → Option (Operand × List Operand)
  | .call ⟨.value f, args, _⟩ => some (f, args.toList)
  | _ => none
inductive GK where
  | free
  | known (k : Nat) (want b : Bool)
  | never (k : Nat) (want : Bool)
  | bad
def gk (ops : Array Oper) (σ : SL) : Option (Nat × Bool) → GK
  | none => .free
  | some (j, want) => match gslot ops j with
    | some k => match lookT σ.t k with
      | .d (.lit (.bool b)) => .known k want b
      | .tup [] => .never k want
      | _ => .bad
    | none => .bad
/-- Both ways of a test. -/
def bcase (b : Bool) (p q : Prop) : Prop := (b = true → p) ∧ (b = false → q)
def SL.setB (σ : SL) (k : Nat) (b : Bool) : SL := ⟨(k, .d (.lit (.bool b))) :: σ.t, σ.o⟩
def SL.step (σ : SL) (dst : Option Nat) (e : Eff) : SL := ⟨setT dst e.res σ.t, updO σ.o e.upd⟩
def Eff.foot (e : Eff) : Foot := ⟨e.rd, e.upd.map (·.1)⟩
def rgn (P : Program) (tt : Types) (ops : Array Oper) (dr : Bool) : List Oper → List Foot → (SL → Prop) → SL → Prop
  | [], log, K, σ => (dr = true → drawOk ops log.reverse = true) ∧ K σ
  | o :: rest, log, K, σ =>
    let opx (σ : SL) : Prop := match callOf o.op with
      | some (f, args) => match evL σ f with
        | .clo f caps => ∃ e, FnCall P f (args.map (evL σ) ++ caps) (lookO σ.o) e ∧ rgn P tt ops dr rest (e.foot :: log) K (σ.step o.dst e)
        | .xo true l => ∃ e, YCall P l (args.map (evL σ)) (lookO σ.o) e ∧ rgn P tt ops dr rest (e.foot :: log) K (σ.step o.dst e)
        | _ => False
      | none => match mapX o.op (evL σ) (lookO σ.o) with
        | some (some (p, S)) => (dr = false ∧ p) ∧ ∀ e, S e → rgn P tt ops dr rest (e.foot :: log) K (σ.step o.dst e)
        | some none => False
        | none => match eff tt o (evL σ) (lookO σ.o) with
          | some e => e.side ∧ rgn P tt ops dr rest (e.foot :: log) K (σ.step o.dst e)
          | none => False
    let skipx (σ : SL) : Prop := rgn P tt ops dr rest (⟨[], []⟩ :: log) K ⟨setT o.dst (.tup []) σ.t, σ.o⟩
    match gk ops σ o.guard with
    | .free => opx σ
    | .known k want b => bcase b (if want then opx (σ.setB k true) else skipx (σ.setB k true)) (if want then skipx (σ.setB k false) else opx (σ.setB k false))
    | .never _ _ => skipx σ
    | .bad => False
def effx (P : Program) (tt : Types) (ops : Array Oper) (dr : Bool) (e : Option Eff) (dst : Option Nat) (rest : List Oper) (log : List Foot) (K : SL → Prop) (σ : SL) : Prop :=
  match e with
  | some e => e.side ∧ rgn P tt ops dr rest (e.foot :: log) K (σ.step dst e)
  | none => False
def callx (P : Program) (tt : Types) (ops : Array Oper) (dr : Bool) (f : A) (as : List A) (dst : Option Nat) (rest : List Oper) (log : List Foot) (K : SL → Prop) (σ : SL) : Prop :=
  match f with
  | .clo f caps => ∃ e, FnCall P f (as ++ caps) (lookO σ.o) e ∧ rgn P tt ops dr rest (e.foot :: log) K (σ.step dst e)
  | .xo true l => ∃ e, YCall P l as (lookO σ.o) e ∧ rgn P tt ops dr rest (e.foot :: log) K (σ.step dst e)
  | _ => False
def mapx (P : Program) (tt : Types) (ops : Array Oper) (dr : Bool) (m : Option (Option (Prop × (Eff → Prop)))) (e : Option Eff) (dst : Option Nat) (rest : List Oper) (log : List Foot) (K : SL → Prop) (σ : SL) : Prop :=
  match m with
  | some (some (p, S)) => (dr = false ∧ p) ∧ ∀ e, S e → rgn P tt ops dr rest (e.foot :: log) K (σ.step dst e)
  | some none => False
  | none => effx P tt ops dr e dst rest log K σ
def opx (P : Program) (tt : Types) (ops : Array Oper) (dr : Bool) (c : Option (Operand × List Operand)) (o : Oper) (rest : List Oper) (log : List Foot) (K : SL → Prop) (σ : SL) : Prop :=
  match c with
  | some (f, args) => callx P tt ops dr (evL σ f) (args.map (evL σ)) o.dst rest log K σ
  | none => mapx P tt ops dr (mapX o.op (evL σ) (lookO σ.o)) (eff tt o (evL σ) (lookO σ.o)) o.dst rest log K σ
def gsel (P : Program) (tt : Types) (ops : Array Oper) (dr : Bool) (g : GK) (o : Oper) (rest : List Oper) (log : List Foot) (K : SL → Prop) (σ : SL) : Prop :=
  match g with
  | .free => opx P tt ops dr (callOf o.op) o rest log K σ
  | .known k want b => bcase b (if want then opx P tt ops dr (callOf o.op) o rest log K (σ.setB k true) else rgn P tt ops dr rest (⟨[], []⟩ :: log) K ⟨setT o.dst (.tup []) (σ.setB k true).t, σ.o⟩)
      (if want then rgn P tt ops dr rest (⟨[], []⟩ :: log) K ⟨setT o.dst (.tup []) (σ.setB k false).t, σ.o⟩ else opx P tt ops dr (callOf o.op) o rest log K (σ.setB k false))
  | .never _ _ => rgn P tt ops dr rest (⟨[], []⟩ :: log) K ⟨setT o.dst (.tup []) σ.t, σ.o⟩
  | .bad => False
theorem rgn_cons (P : Program) (tt : Types) (ops : Array Oper) (dr : Bool) (o : Oper) (rest : List Oper) (log : List Foot) (K : SL → Prop) (σ : SL) :
    rgn P tt ops dr (o :: rest) log K σ = gsel P tt ops dr (gk ops σ o.guard) o rest log K σ := by
  rw [rgn]
  unfold gsel opx callx mapx effx SL.setB
  rfl
theorem callOf_some {op : Op} {f : Operand} {args : List Operand} (h : callOf op = some (f, args)) : ∃ ats, op = .call ⟨.value f, args.toArray, ats⟩ := by
  unfold callOf at h
  split at h
  · rename_i f' args' ats
    simp only [Option.some.injEq, Prod.mk.injEq] at h
    obtain ⟨rfl, rfl⟩ := h
    exact ⟨ats, by simp⟩
  · cases h
/-- A call's step. -/
theorem Step.of_call {P : Program} {o : Oper} {ev : Operand → A} {h : Nat → Option Ob} {e : Eff} {fo : Operand} {args : List Operand} {f : Nat} {caps : List A} (ho : callOf o.op = some (fo, args)) (hf : ev fo = .clo f caps)
    (hc : FnCall P f (args.map ev ++ caps) h e) : Step P o ev h e where
  sound := fun ev2 h2 h1 h3 cx β w a rel hev K Q hK => by
    obtain ⟨ats, hop⟩ := callOf_some ho
    have hfo : ev2 fo = .clo f caps := by rw [← hf]; exact h1 fo (by rw [hop]; simp [Op.operands, Call.operands])
    have hargs : args.map ev2 = args.map ev := List.map_congr_left fun x hx => h1 x (by rw [hop]; simp [Op.operands, Call.operands, hx])
    have hv := hev fo
    rw [hfo] at hv
    simp only [A.rep] at hv
    obtain ⟨vs, hv1, hv2⟩ := hv
    have hr : repL (envOf cx.Xo β h2 w) (args.map ev ++ caps) (args.map a.eval ++ vs) := by
      rw [← hargs]
      exact repL_append _ _ _ _ (repL_map hev args) hv2
    have hcalls := hc.calls h2 h3 cx β w _ rel hr
    obtain ⟨fn, g1, g2, g3⟩ := hc.fn
    have g4 : fn.body ≠ none := by intro hb; simp [hb] at g3
    have g5 : fn.name ≠ "runtime.NumGoroutine" := by simpa using g2
    intro r
    have hrun : (execOp a.eval o).run P w = .ok (.enter f (args.map a.eval ++ vs).toArray) w := by
      obtain ⟨dst, op, ty, pos, af, g⟩ := o
      simp only at hop
      subst hop
      simp [execOp, resolve, Deferred.ofValue, hv1, invoke, callFunc, g1, g5, g4]
    refine ⟨fun _ _ => trivial, ?_⟩
    rw [Oper.semAt_eq _ _ _ (fun c hc => by rw [hop] at hc; cases hc), hrun]
    refine ⟨fw_room, CallsIn.mono (callsIn_fw hcalls) fun en w' hen => ?_⟩
    obtain ⟨v, β', rfl, k1, k2, k3⟩ := hen
    exact hK β' w' v k1 k2 k3
  keyed := hc.keyed
  ins := fun _ _ _ _ hq => by rw [hq] at ho; cases ho
/-- The step of a call of yield. -/
theorem Step.of_yield {P : Program} {o : Oper} {ev : Operand → A} {h : Nat → Option Ob} {e : Eff} {fo : Operand} {args : List Operand} {l : Nat} (ho : callOf o.op = some (fo, args)) (hf : ev fo = .xo true l)
    (hc : YCall P l (args.map ev) h e) : Step P o ev h e where
  sound := fun ev2 h2 h1 h3 cx β w a rel hev K Q hK => by
    obtain ⟨ats, hop⟩ := callOf_some ho
    have hfo : ev2 fo = .xo true l := by rw [← hf]; exact h1 fo (by rw [hop]; simp [Op.operands, Call.operands])
    have hargs : args.map ev2 = args.map ev := List.map_congr_left fun x hx => h1 x (by rw [hop]; simp [Op.operands, Call.operands, hx])
    have hv := hev fo
    rw [hfo] at hv
    simp only [A.rep] at hv
    obtain ⟨b, k, as, hb, _, hv1⟩ := hv
    have hr : repL (envOf cx.Xo β h2 w) (args.map ev) (args.map a.eval) := by
      rw [← hargs]
      exact repL_map hev args
    obtain ⟨f, tmps, asg, bd, hy, hround⟩ := hc.calls h2 h3 cx β w _ rel hr b hb
    intro r
    have hrun : (execOp a.eval o).run P w = .ok (.round b f tmps asg bd) w := by
      obtain ⟨dst, op, ty, pos, af, g⟩ := o
      simp only at hop
      subst hop
      simp only [execOp, resolve, hv1, xval, if_true]
      simpa [Deferred.ofValue, invoke] using hy
    refine ⟨fun _ _ => trivial, ?_⟩
    rw [Oper.semAt_eq _ _ _ (fun c hc => by rw [hop] at hc; cases hc), hrun]
    refine ⟨fw_room, RoundIn.mono (roundIn_fw hround) fun en w' hen => ?_⟩
    obtain ⟨v, β', rfl, k1, k2, k3⟩ := hen
    exact hK β' w' v k1 k2 k3
  keyed := hc.keyed
  ins := fun _ _ _ _ hq => by rw [hq] at ho; cases ho
theorem SL.step_st (σ : SL) (dst : Option Nat) (e : Eff) : (σ.step dst e).st = ⟨putD dst e.res σ.st.t, upds σ.st.o e.upd⟩ := by
  simp only [SL.st, SL.step, lookT_set, lookO_upd]
theorem SL.setB_st {σ : SL} {k : Nat} {b : Bool} (h : lookT σ.t k = .d (.lit (.bool b))) : (σ.setB k b).st = σ.st := by
  simp only [SL.st, SL.setB]
  congr 1
  funext j
  simp only [lookT]
  by_cases hj : k = j
  · subst hj; simp [h]
  · simp [hj]
theorem gk_known {ops : Array Oper} {σ : SL} {g : Option (Nat × Bool)} {k : Nat} {want b : Bool} (h : gk ops σ g = .known k want b) : ∃ j, g = some (j, want) ∧ gslot ops j = some k ∧ lookT σ.t k = .d (.lit (.bool b)) := by
  unfold gk at h
  split at h
  · cases h
  · rename_i j w
    split at h
    · rename_i k' hk
      split at h
      · rename_i b' hb
        cases h
        exact ⟨j, rfl, hk, hb⟩
      · cases h
      · cases h
    · cases h
theorem gk_never {ops : Array Oper} {σ : SL} {g : Option (Nat × Bool)} {k : Nat} {want : Bool} (h : gk ops σ g = .never k want) : ∃ j, g = some (j, want) ∧ gslot ops j = some k ∧ lookT σ.t k = .tup [] := by
  unfold gk at h
  split at h
  · cases h
  · rename_i j w
    split at h
    · rename_i k' hk
      split at h
      · cases h
      · rename_i hb
        cases h
        exact ⟨j, rfl, hk, hb⟩
      · cases h
    · cases h
theorem gk_free {ops : Array Oper} {σ : SL} {g : Option (Nat × Bool)} (h : gk ops σ g = .free) : g = none := by
  unfold gk at h
  split at h
  · rfl
  · split at h
    · split at h <;> cases h
    · cases h
/-- An operation that the evaluation lets by is a step, or one that is not determined. -/
theorem opx_step {P : Program} {tt : Types} (T : tt.ok P) {ops : Array Oper} {dr : Bool} {o : Oper} {rest : List Oper} {log : List Foot} {K : SL → Prop} {σ : SL} (h : opx P tt ops dr (callOf o.op) o rest log K σ) :
    (∃ e, Step P o (evS σ.st) σ.st.o e ∧ rgn P tt ops dr rest (e.foot :: log) K (σ.step o.dst e)) ∨
    (dr = false ∧ ∃ p S, mapX o.op (evS σ.st) σ.st.o = some (some (p, S)) ∧ p ∧ ∀ e, S e → rgn P tt ops dr rest (e.foot :: log) K (σ.step o.dst e)) := by
  unfold opx at h
  split at h
  · rename_i f args hc
    unfold callx at h
    split at h
    · rename_i f' caps hf
      obtain ⟨e, h1, h2⟩ := h
      rw [evL_eq] at hf h1
      exact .inl ⟨e, Step.of_call hc hf h1, h2⟩
    · rename_i l hf
      obtain ⟨e, h1, h2⟩ := h
      rw [evL_eq] at hf h1
      exact .inl ⟨e, Step.of_yield hc hf h1, h2⟩
    · exact h.elim
  · unfold mapx at h
    split at h
    · rename_i p S hm
      rw [evL_eq] at hm
      exact .inr ⟨h.1.1, p, S, hm, h.1.2, h.2⟩
    · exact h.elim
    · unfold effx at h
      split at h
      · rename_i e he
        rw [evL_eq] at he
        exact .inl ⟨e, Step.of_eff T he h.1, h.2⟩
      · exact h.elim
theorem rgn_runs {P : Program} {tt : Types} (T : tt.ok P) {ops : Array Oper} {K : SL → Prop} : ∀ (rest : List Oper) (n : Nat) (log : List Foot) (σ : SL), rgn P tt ops true rest log K σ → rest = ops.toList.drop n → n ≤ ops.size → log.length = n →
    ∃ (F : List Foot) (σ' : SL), F.length = ops.size ∧ F.take n = log.reverse ∧ Runs P ops (fun i => F.getD i ⟨[], []⟩) (List.range' n (ops.size - n)) σ.st σ'.st ∧ drawOk ops F = true ∧ K σ'
  | [], n, log, σ, h, hr, hn, hl => by
    have hlen : ops.size ≤ n := by
      have := congrArg List.length hr
      simp at this
      omega
    have hn' : n = ops.size := by omega
    subst hn'
    rw [rgn] at h
    refine ⟨log.reverse, σ, by simp [hl], by rw [List.take_of_length_le (by simp [hl])], ?_, h.1 rfl, h.2⟩
    simp
    exact .nil _
  | o :: rest, n, log, σ, h, hr, hn, hl => by
    have hlt : n < ops.size := by
      rcases Nat.lt_or_ge n ops.size with q | q
      · exact q
      · rw [List.drop_eq_nil_of_le (by simpa using q)] at hr
        cases hr
    have hcons := List.drop_eq_getElem_cons (l := ops.toList) (i := n) (by simpa using hlt)
    rw [← hr] at hcons
    injection hcons with ho hrest
    have hop : ops[n]? = some o := by rw [Array.getElem?_eq_getElem hlt, ho]; simp
    have hrange : List.range' n (ops.size - n) = n :: List.range' (n + 1) (ops.size - (n + 1)) := by
      rw [show ops.size - n = (ops.size - (n + 1)) + 1 from by omega, List.range'_succ]
    rw [rgn_cons] at h
    -- one step, and the rest
    have next : ∀ (σ1 : SL) (ft : Foot), AStep P ops o σ.st σ1.st ft → rgn P tt ops true rest (ft :: log) K σ1 →
        ∃ (F : List Foot) (σ' : SL), F.length = ops.size ∧ F.take n = log.reverse ∧ Runs P ops (fun i => F.getD i ⟨[], []⟩) (List.range' n (ops.size - n)) σ.st σ'.st ∧ drawOk ops F = true ∧ K σ' := by
      intro σ1 ft hst hrg
      obtain ⟨F, σ', f1, f2, f3, f4, f5⟩ := rgn_runs T rest (n + 1) (ft :: log) σ1 hrg (by rw [hrest]) (by omega) (by simp [hl])
      have hF : F[n]? = some ft := by
        have h1 : (F.take (n + 1))[n]? = F[n]? := by rw [List.getElem?_take, if_pos (by omega)]
        rw [← h1, f2, List.reverse_cons, List.getElem?_append_right (by simp [hl])]
        simp [hl]
      refine ⟨F, σ', f1, ?_, ?_, f4, f5⟩
      · have hh : (log.reverse ++ [ft]).take n = log.reverse := List.take_left' (by simp [hl])
        have := congrArg (List.take n) f2
        rw [List.take_take, Nat.min_eq_left (by omega), List.reverse_cons, hh] at this
        exact this
      · rw [hrange]
        refine .cons hop ?_ f3
        have : F.getD n ⟨[], []⟩ = ft := by rw [List.getD_eq_getElem?_getD, hF]; rfl
        rw [this]
        exact hst
    unfold gsel at h
    split at h
    · rename_i hg
      rcases opx_step T h with ⟨e, h1, h2⟩ | ⟨h1, _⟩
      · refine next _ _ ?_ h2
        rw [SL.step_st]
        exact .run e (fun j want hj => by rw [gk_free hg] at hj; cases hj) h1
      · cases h1
    · rename_i k want b hg
      obtain ⟨j, g1, g2, g3⟩ := gk_known hg
      have hset := SL.setB_st g3
      have hrun : opx P tt ops true (callOf o.op) o rest log K (σ.setB k b) → b = want → ∃ (F : List Foot) (σ' : SL), F.length = ops.size ∧ F.take n = log.reverse ∧ Runs P ops (fun i => F.getD i ⟨[], []⟩) (List.range' n (ops.size - n)) σ.st σ'.st ∧ drawOk ops F = true ∧ K σ' := fun h hb => by
        rcases opx_step T h with ⟨e, h1, h2⟩ | ⟨h1, _⟩
        · refine next _ _ ?_ h2
          rw [SL.step_st]
          rw [hset] at h1 ⊢
          exact .run e (fun j' want' hj => by
            rw [g1] at hj
            cases hj
            exact ⟨k, g2, by rw [← hb]; exact g3⟩) h1
        · cases h1
      have hskip : rgn P tt ops true rest (⟨[], []⟩ :: log) K ⟨setT o.dst (.tup []) (σ.setB k b).t, σ.o⟩ → (b = !want) → ∃ (F : List Foot) (σ' : SL), F.length = ops.size ∧ F.take n = log.reverse ∧ Runs P ops (fun i => F.getD i ⟨[], []⟩) (List.range' n (ops.size - n)) σ.st σ'.st ∧ drawOk ops F = true ∧ K σ' := fun h hb => by
        refine next _ _ ?_ h
        have : (⟨setT o.dst (.tup []) (σ.setB k b).t, σ.o⟩ : SL).st = ⟨putD o.dst (.tup []) σ.st.t, σ.st.o⟩ := by
          have h1 : lookT (σ.setB k b).t = lookT σ.t := congrArg St.t hset
          simp only [SL.st, ← lookT_set, h1]
        rw [this]
        exact .skip j want k g1 g2 (.inl (by rw [← hb]; exact g3))
      cases b <;> cases want
      · exact hrun (by simpa using h.2 rfl) rfl
      · exact hskip (by simpa using h.2 rfl) rfl
      · exact hskip (by simpa using h.1 rfl) rfl
      · exact hrun (by simpa using h.1 rfl) rfl
    · rename_i k want hg
      obtain ⟨j, g1, g2, g3⟩ := gk_never hg
      refine next _ _ ?_ h
      have : (⟨setT o.dst (.tup []) σ.t, σ.o⟩ : SL).st = ⟨putD o.dst (.tup []) σ.st.t, σ.st.o⟩ := by simp only [SL.st, ← lookT_set]
      rw [this]
      exact .skip j want k g1 g2 (.inr g3)
    · exact h.elim
/-- An operation that is not determined, in the world. -/
theorem mapX_wp {P : Program} {ops : Array Oper} {cx : Cx} {N i : Nat} {o : Oper} {σ : SL} {p : Prop} {S : Eff → Prop} (ho : ops[i]? = some o) (hm : mapX o.op (evS σ.st) σ.st.o = some (some (p, S))) (hp : p) (hN : ∀ d, o.dst = some d → d < N) {a : Act} {w : World} (rel : RelT cx N σ.st a w)
    (hg : ∀ j want, o.guard = some (j, want) → ∃ k, gslot ops j = some k ∧ σ.st.t k = .d (.lit (.bool want))) {K : Act → World → Prop} {Q : Exit → Act → World → Prop} (ro : Option Nat)
    (hK : ∀ e, S e → ∀ a' w', RelT cx N (σ.step o.dst e).st a' w' → K a' w') : wpOpIn (Fw ro) 0 P ops Q i K a w := by
  obtain ⟨β, r1, r2, r3, r4⟩ := rel
  have hev : ∀ x, (evS σ.st x).rep (envOf cx.Xo β σ.st.o w) (a.eval x) := by
    intro x
    cases x with
    | tmp k => exact r2 k
    | const v => exact ofConst_rep _ v
    | global g => exact evS_global r1 g
    | func f => simp only [evS, A.rep, Act.eval]; exact ⟨[], rfl, by simp [repL]⟩
  obtain ⟨e, hS, β', w', r, g1, g2, g3, g4⟩ := mapX_ok hm hp r1 hev
  have hdf : ∀ c, o.op ≠ .defer c := by
    intro c hc
    rw [hc] at hm
    simp [mapX] at hm
  have hw : Region.wanted o (yielded ops a.tmps) = true := by
    unfold Region.wanted
    split
    · rfl
    · rename_i j want hj
      obtain ⟨k, k1, k2⟩ := hg j want hj
      have h1 := r2 k
      rw [k2] at h1
      simp only [A.rep, D.rep] at h1
      have h2 : a.tmps.getD k undef = .bool want := h1.1
      have hy : yielded ops a.tmps j = some want := by
        unfold yielded
        unfold gslot at k1
        rw [k1]
        simp only [Option.bind_some]
        rw [Array.getD_eq_getD_getElem?] at h2
        cases hg : a.tmps[k]? with
        | none => rw [hg] at h2; simp [undef] at h2
        | some v => rw [hg] at h2; simp at h2; simp [h2]
      simp [hy]
  unfold wpOpIn
  simp only [ho, hw, if_true]
  refine ⟨fun _ _ => trivial, ?_⟩
  rw [Oper.semAt_eq _ _ _ hdf, g1]
  refine hK e hS _ _ ?_
  rw [SL.step_st]
  refine ⟨β', g2, fun k => ?_, ?_, ?_⟩
  · cases hd : o.dst with
    | none => simp only [putD, Act.put]; exact A.rep_le g3 _ _ (r2 k)
    | some d =>
      have hdN := hN d hd
      simp only [putD, Act.put]
      by_cases hk : k = d
      · subst hk
        rw [put_same]
        have : (a.tmps.setIfInBounds k r).getD k undef = r := by simp [Array.getD, r3, hdN]
        rw [this]
        exact g4
      · rw [put_ne _ _ hk]
        have : (a.tmps.setIfInBounds d r).getD k undef = a.tmps.getD k undef := by
          simp only [Array.getD_eq_getD_getElem?]
          rw [Array.getElem?_setIfInBounds_ne (Ne.symm hk)]
        rw [this]
        exact A.rep_le g3 _ _ (r2 k)
  · cases o.dst <;> simp [Act.put, r3]
  · have e : (a.put o.dst r).defers = a.defers := by cases o.dst <;> rfl
    rw [e]
    exact MarksOk.le g3 r4
/-- A region in the order of its text. -/
theorem rgn_seq {P : Program} {tt : Types} (T : tt.ok P) {ops : Array Oper} {K : SL → Prop} {cx : Cx} {N : Nat} {Q : Exit → Act → World → Prop} (ro : Option Nat) (hN : ∀ (i : Nat) (o : Oper) (d : Nat), ops[i]? = some o → o.dst = some d → d < N)
    (hQ : ∀ (σ' : SL) a' w', RelT cx N σ'.st a' w' → K σ' → Q .normal a' w') : ∀ (rest : List Oper) (n : Nat) (log : List Foot) (σ : SL), rgn P tt ops false rest log K σ → rest = ops.toList.drop n → n ≤ ops.size → ∀ (a : Act) (w : World), RelT cx N σ.st a w →
    wpOpsIn (Fw ro) 0 P ops Q (List.range' n (ops.size - n)) a w
  | [], n, log, σ, h, hr, hn, a, w, rel => by
    have hlen : ops.size ≤ n := by
      have := congrArg List.length hr
      simp at this
      omega
    have hn' : n = ops.size := by omega
    subst hn'
    rw [rgn] at h
    simp only [Nat.sub_self, List.range'_zero, wpOpsIn]
    exact hQ σ a w rel h.2
  | o :: rest, n, log, σ, h, hr, hn, a, w, rel => by
    have hlt : n < ops.size := by
      rcases Nat.lt_or_ge n ops.size with q | q
      · exact q
      · rw [List.drop_eq_nil_of_le (by simpa using q)] at hr
        cases hr
    have hcons := List.drop_eq_getElem_cons (l := ops.toList) (i := n) (by simpa using hlt)
    rw [← hr] at hcons
    injection hcons with ho hrest
    have hop : ops[n]? = some o := by rw [Array.getElem?_eq_getElem hlt, ho]; simp
    have hrange : List.range' n (ops.size - n) = n :: List.range' (n + 1) (ops.size - (n + 1)) := by
      rw [show ops.size - n = (ops.size - (n + 1)) + 1 from by omega, List.range'_succ]
    rw [rgn_cons] at h
    rw [hrange, wpOpsIn_cons]
    have next : ∀ (σ1 : SL) (ft : Foot), AStep P ops o σ.st σ1.st ft → rgn P tt ops false rest (ft :: log) K σ1 → wpOpIn (Fw ro) 0 P ops Q n (wpOpsIn (Fw ro) 0 P ops Q (List.range' (n + 1) (ops.size - (n + 1)))) a w := by
      intro σ1 ft hst hrg
      exact hst.wpOp hop (fun d hd => hN _ _ d hop hd) rel ro fun a' w' rel' => rgn_seq T ro hN hQ rest (n + 1) _ σ1 hrg (by rw [hrest]) (by omega) a' w' rel'
    have nextN : ∀ (σ0 : SL) (p : Prop) (S : Eff → Prop), σ0.st = σ.st → mapX o.op (evS σ0.st) σ0.st.o = some (some (p, S)) → p → (∀ j want, o.guard = some (j, want) → ∃ k, gslot ops j = some k ∧ σ0.st.t k = .d (.lit (.bool want))) → (∀ e, S e → rgn P tt ops false rest (e.foot :: log) K (σ0.step o.dst e)) →
        wpOpIn (Fw ro) 0 P ops Q n (wpOpsIn (Fw ro) 0 P ops Q (List.range' (n + 1) (ops.size - (n + 1)))) a w := by
      intro σ0 p S e0 hm hp hg hS
      exact mapX_wp hop hm hp (fun d hd => hN _ _ d hop hd) (by rw [e0]; exact rel) hg ro fun e he a' w' rel' => rgn_seq T ro hN hQ rest (n + 1) _ _ (hS e he) (by rw [hrest]) (by omega) a' w' rel'
    unfold gsel at h
    split at h
    · rename_i hg
      rcases opx_step T h with ⟨e, h1, h2⟩ | ⟨_, p, S, h1, h2, h3⟩
      · refine next _ _ ?_ h2
        rw [SL.step_st]
        exact .run e (fun j want hj => by rw [gk_free hg] at hj; cases hj) h1
      · exact nextN σ p S rfl h1 h2 (fun j want hj => by rw [gk_free hg] at hj; cases hj) h3
    · rename_i k want b hg
      obtain ⟨j, g1, g2, g3⟩ := gk_known hg
      have hset := SL.setB_st g3
      have hgd : b = want → ∀ j' want', o.guard = some (j', want') → ∃ k, gslot ops j' = some k ∧ (σ.setB k b).st.t k = .d (.lit (.bool want')) := fun hb j' want' hj => by
        rw [g1] at hj
        cases hj
        refine ⟨k, g2, ?_⟩
        rw [hset, ← hb]; exact g3
      have hrun : opx P tt ops false (callOf o.op) o rest log K (σ.setB k b) → b = want → wpOpIn (Fw ro) 0 P ops Q n (wpOpsIn (Fw ro) 0 P ops Q (List.range' (n + 1) (ops.size - (n + 1)))) a w := fun h hb => by
        rcases opx_step T h with ⟨e, h1, h2⟩ | ⟨_, p, S, h1, h2, h3⟩
        · refine next _ _ ?_ h2
          rw [SL.step_st]
          rw [hset] at h1 ⊢
          exact .run e (fun j' want' hj => by
            rw [g1] at hj
            cases hj
            exact ⟨k, g2, by rw [← hb]; exact g3⟩) h1
        · refine nextN _ p S hset h1 h2 (fun j' want' hj => ?_) h3
          rw [g1] at hj
          cases hj
          refine ⟨k, g2, ?_⟩
          rw [hset, ← hb]; exact g3
      have hskip : rgn P tt ops false rest (⟨[], []⟩ :: log) K ⟨setT o.dst (.tup []) (σ.setB k b).t, σ.o⟩ → (b = !want) → wpOpIn (Fw ro) 0 P ops Q n (wpOpsIn (Fw ro) 0 P ops Q (List.range' (n + 1) (ops.size - (n + 1)))) a w := fun h hb => by
        refine next _ _ ?_ h
        have : (⟨setT o.dst (.tup []) (σ.setB k b).t, σ.o⟩ : SL).st = ⟨putD o.dst (.tup []) σ.st.t, σ.st.o⟩ := by
          have h1 : lookT (σ.setB k b).t = lookT σ.t := congrArg St.t hset
          simp only [SL.st, ← lookT_set, h1]
        rw [this]
        exact .skip j want k g1 g2 (.inl (by rw [← hb]; exact g3))
      cases b <;> cases want
      · exact hrun (by simpa using h.2 rfl) rfl
      · exact hskip (by simpa using h.2 rfl) rfl
      · exact hskip (by simpa using h.1 rfl) rfl
      · exact hrun (by simpa using h.1 rfl) rfl
    · rename_i k want hg
      obtain ⟨j, g1, g2, g3⟩ := gk_never hg
      refine next _ _ ?_ h
      have : (⟨setT o.dst (.tup []) σ.t, σ.o⟩ : SL).st = ⟨putD o.dst (.tup []) σ.st.t, σ.st.o⟩ := by simp only [SL.st, ← lookT_set]
      rw [this]
      exact .skip j want k g1 g2 (.inr g3)
    · exact h.elim
end Go.Am
namespace Go.Am
variable [T : Tab]
def PostK (cx : Cx) (N : Nat) (K : Exit → SL → Prop) (e : Exit) (a : Act) (w : World) : Prop := ∃ σ' : SL, RelT cx N σ'.st a w ∧ K e σ'
/-- The same, where loops over functions may stand (not one within another). -/
def cOkR (N : Nat) : Code → Bool
  | .seq a b => cOkR N a && cOkR N b
  | .cond _ a b => cOkR N a && cOkR N b
  | .block _ c => cOkR N c
  | .loop c => cOkR N c
  | .scope c => cOkR N c
  | .region _ ops _ => opsOk N ops
  | .rangeFunc _ ps asg bd => rndOk N ps.toList asg bd
  | _ => true
/-- What is asked of code in a frame: of a function (none), or of a round. -/
def cOkF (r : Option Nat) (N : Nat) (c : Code) : Bool := match r with
  | none => cOkR N c
  | some _ => cOk N c
theorem cOkR_of {N : Nat} : ∀ (c : Code), cOk N c = true → cOkR N c = true
  | .seq a b, h => by
    simp only [cOk, cOkR, Bool.and_eq_true] at h ⊢
    exact ⟨cOkR_of a h.1, cOkR_of b h.2⟩
  | .cond _ a b, h => by
    simp only [cOk, cOkR, Bool.and_eq_true] at h ⊢
    exact ⟨cOkR_of a h.1, cOkR_of b h.2⟩
  | .block _ c, h => by simp only [cOk, cOkR] at h ⊢; exact cOkR_of c h
  | .loop c, h => by simp only [cOk, cOkR] at h ⊢; exact cOkR_of c h
  | .scope c, h => by simp only [cOk, cOkR] at h ⊢; exact cOkR_of c h
  | .region _ ops _, h => by simpa only [cOk, cOkR] using h
  | .rangeFunc .., h => by simp [cOk] at h
  | .skip, _ => rfl
  | .exit _, _ => rfl
  | .label _, _ => rfl
  | .goto _, _ => rfl
  | .ret, _ => rfl
  | .refuse _, _ => rfl
theorem cOkF_of {r : Option Nat} {N : Nat} {c : Code} (h : cOk N c = true) : cOkF r N c = true := by
  cases r with
  | none => exact cOkR_of c h
  | some l => exact h
theorem cOkF_seq {r : Option Nat} {N : Nat} {a b : Code} (h : cOkF r N (.seq a b) = true) : cOkF r N a = true ∧ cOkF r N b = true := by
  cases r <;> simpa only [cOkF, cOk, cOkR, Bool.and_eq_true] using h
theorem cOkF_cond {r : Option Nat} {N : Nat} {c : Operand} {a b : Code} (h : cOkF r N (.cond c a b) = true) : cOkF r N a = true ∧ cOkF r N b = true := by
  cases r <;> simpa only [cOkF, cOk, cOkR, Bool.and_eq_true] using h
theorem cOkF_block {r : Option Nat} {N : Nat} {id : Nat} {c : Code} (h : cOkF r N (.block id c) = true) : cOkF r N c = true := by cases r <;> exact h
theorem cOkF_loop {r : Option Nat} {N : Nat} {c : Code} (h : cOkF r N (.loop c) = true) : cOkF r N c = true := by cases r <;> exact h
theorem cOkF_scope {r : Option Nat} {N : Nat} {c : Code} (h : cOkF r N (.scope c) = true) : cOkF r N c = true := by cases r <;> exact h
theorem cOkF_region {r : Option Nat} {N : Nat} {id : Nat} {ops : Array Oper} {d : Bool} (h : cOkF r N (.region id ops d) = true) : opsOk N ops = true := by cases r <;> exact h
theorem opsOk_spec {N : Nat} {ops : Array Oper} (h : opsOk N ops = true) : ∀ (i : Nat) (o : Oper) (d : Nat), ops[i]? = some o → o.dst = some d → d < N := by
  intro i o d hi hd
  have := Array.all_eq_true_iff_forall_mem.1 h o (Array.mem_of_getElem? hi)
  rw [hd] at this
  simpa using this
def condx (c : A) (p q : Prop) : Prop := match c with
  | .d (.lit (.bool b)) => bcase b p q
  | .bx => p ∧ q
  | _ => False
def loopx (P : Program) (c : Code) (K : Exit → SL → Prop) (σ : SL) : Prop :=
  ∀ (r : Option Nat) (cx : Cx) (N : Nat), cOkF r N c = true → ∀ (a : Act) (w : World), RelT cx N σ.st a w → (Code.loop c).wpIn (Fw r) 0 P (PostK cx N K) a w
/-- A loop over a function. -/
def rfx (P : Program) (f : Operand) (ps : Array Tmp) (asg bd : Code) (K : Exit → SL → Prop) (σ : SL) : Prop :=
  ∀ (cx : Cx) (N : Nat), rndOk N ps.toList asg bd = true → ∀ (a : Act) (w : World), RelT cx N σ.st a w → (Code.rangeFunc f ps asg bd).wpIn (Fw none) 0 P (PostK cx N K) a w
def blkK (id : Nat) (K : Exit → SL → Prop) : Exit → SL → Prop
  | .exit i, σ => if i = id then K .normal σ else K (.exit i) σ
  | e, σ => K e σ
def scoK (K : Exit → SL → Prop) : Exit → SL → Prop
  | .goto _, _ => False
  | e, σ => K e σ
def ev (P : Program) (tt : Types) : Code → (Exit → SL → Prop) → SL → Prop
  | .skip, K, σ => K .normal σ
  | .label _, K, σ => K .normal σ
  | .ret, K, σ => K .ret σ
  | .exit id, K, σ => K (.exit id) σ
  | .seq a b, K, σ => ev P tt a (fun e σ => match e with | .normal => ev P tt b K σ | e => K e σ) σ
  | .cond c x y, K, σ => condx (evL σ c) (ev P tt x K σ) (ev P tt y K σ)
  | .block id c, K, σ => ev P tt c (blkK id K) σ
  | .scope c, K, σ => ev P tt c (scoK K) σ
  | .region _ ops dr, K, σ => rgn P tt ops dr ops.toList [] (K .normal) σ
  | .loop c, K, σ => loopx P c K σ
  | .rangeFunc f ps asg bd, K, σ => rfx P f ps asg bd K σ
  | _, _, _ => False
def seqK (P : Program) (tt : Types) (b : Code) (K : Exit → SL → Prop) : Exit → SL → Prop
  | .normal, σ => ev P tt b K σ
  | e, σ => K e σ
section
variable (P : Program) (tt : Types) (K : Exit → SL → Prop) (σ : SL)
theorem ev_skip : ev P tt .skip K σ = K .normal σ := rfl
theorem ev_label (l : Nat) : ev P tt (.label l) K σ = K .normal σ := rfl
theorem ev_ret : ev P tt .ret K σ = K .ret σ := rfl
theorem ev_exit (id : Nat) : ev P tt (.exit id) K σ = K (.exit id) σ := rfl
theorem ev_seq (a b : Code) : ev P tt (.seq a b) K σ = ev P tt a (seqK P tt b K) σ := by
  rw [ev]
  congr 1
  funext e σ'
  cases e <;> rfl
theorem ev_cond (c : Operand) (x y : Code) : ev P tt (.cond c x y) K σ = condx (evL σ c) (ev P tt x K σ) (ev P tt y K σ) := rfl
theorem ev_block (id : Nat) (c : Code) : ev P tt (.block id c) K σ = ev P tt c (blkK id K) σ := rfl
theorem ev_scope (c : Code) : ev P tt (.scope c) K σ = ev P tt c (scoK K) σ := rfl
theorem ev_region (id : Nat) (ops : Array Oper) (dr : Bool) : ev P tt (.region id ops dr) K σ = rgn P tt ops dr ops.toList [] (K .normal) σ := rfl
theorem ev_range (f : Operand) (ps : Array Tmp) (asg bd : Code) : ev P tt (.rangeFunc f ps asg bd) K σ = rfx P f ps asg bd K σ := rfl
theorem ev_loop (c : Code) : ev P tt (.loop c) K σ = loopx P c K σ := rfl
theorem seqK_normal (b : Code) : seqK P tt b K .normal σ = ev P tt b K σ := rfl
theorem seqK_ret (b : Code) : seqK P tt b K .ret σ = K .ret σ := rfl
theorem seqK_exit (b : Code) (i : Nat) : seqK P tt b K (.exit i) σ = K (.exit i) σ := rfl
theorem blkK_normal (id : Nat) : blkK id K .normal σ = K .normal σ := rfl
theorem blkK_ret (id : Nat) : blkK id K .ret σ = K .ret σ := rfl
theorem blkK_exit (id i : Nat) : blkK id K (.exit i) σ = if i = id then K .normal σ else K (.exit i) σ := rfl
theorem scoK_normal : scoK K .normal σ = K .normal σ := rfl
theorem scoK_ret : scoK K .ret σ = K .ret σ := rfl
theorem scoK_exit (i : Nat) : scoK K (.exit i) σ = K (.exit i) σ := rfl
end
theorem RelT.drew {cx : Cx} {N : Nat} {s : St} {a : Act} {w : World} (h : RelT cx N s a w) : RelT cx N s a w.drew := by
  obtain ⟨β, h1, h2, h3, h4⟩ := h
  obtain ⟨r1, L1⟩ := h1.drew
  exact ⟨β, r1, fun k => A.rep_le L1 _ _ (h2 k), h3, MarksOk.le L1 h4⟩
theorem drawOk_spec {ops : Array Oper} {F : List Foot} (h : drawOk ops F = true) :
    (∀ (i : Nat) (o : Oper), ops[i]? = some o → ∀ e ∈ o.after, Region.binds .any e = true → e.on < i) ∧
    ∀ (j i : Nat) (o : Oper), j < i → ops[i]? = some o → (∃ f, bef ops f j i = true) ∨ Indep ops (fun i => F.getD i ⟨[], []⟩) j i := by
  have key : ∀ (i : Nat) (o : Oper), ops[i]? = some o → (∀ e ∈ o.after, Region.binds .any e = true → e.on < i) ∧ ∀ j, j < i → (∃ f, bef ops f j i = true) ∨ Indep ops (fun i => F.getD i ⟨[], []⟩) j i := by
    intro i o ho
    have hi : i < ops.size := (Array.getElem?_eq_some_iff.1 ho).1
    have h1 := List.all_eq_true.1 h i (List.mem_range.2 hi)
    simp only [ho, Bool.and_eq_true] at h1
    refine ⟨fun e he hb => ?_, fun j hj => ?_⟩
    · have := Array.all_eq_true_iff_forall_mem.1 h1.1 e he
      simpa [hb] using this
    · have h2 := List.all_eq_true.1 h1.2 j (List.mem_range.2 hj)
      simp only [Bool.or_eq_true] at h2
      rcases h2 with (((h2 | h2) | h2) | h2) | h2
      · right
        intro oj oi hoj hoi
        rw [ho] at hoi
        cases hoi
        simp only [hoj, Bool.and_eq_true, Bool.or_eq_true] at h2
        exact ⟨h2.1, h2.2⟩
      · exact .inl ⟨_, h2⟩
      · exact .inl ⟨_, h2⟩
      · exact .inl ⟨_, h2⟩
      · exact .inl ⟨_, h2⟩
  exact ⟨fun i o ho => (key i o ho).1, fun j i o hj ho => (key i o ho).2 j hj⟩
theorem rgn_wp {P : Program} {tt : Types} (hm : P.follows .mixedOrders = true) (T : tt.ok P) {id : Nat} {ops : Array Oper} {dr : Bool} {K : SL → Prop} {σ : SL} (ro : Option Nat) (h : rgn P tt ops dr ops.toList [] K σ) {cx : Cx} {N : Nat} (hN : opsOk N ops = true) {a : Act} {w : World} (rel : RelT cx N σ.st a w)
    {Q : Exit → Act → World → Prop} (hQ : ∀ (σ' : SL) a' w', RelT cx N σ'.st a' w' → K σ' → Q .normal a' w') : (Code.region id ops dr).wpIn (Fw ro) 0 P Q a w := by
  cases dr with
  | false =>
    have := rgn_seq T ro (opsOk_spec hN) hQ ops.toList 0 [] σ h rfl (Nat.zero_le _) a w rel
    rw [Nat.sub_zero, ← List.range_eq_range'] at this
    exact wpIn_region this
  | true =>
    obtain ⟨F, σ', f1, f2, f3, f4, f5⟩ := rgn_runs T ops.toList 0 [] σ h rfl (Nat.zero_le _) rfl
    rw [Nat.sub_zero, ← List.range_eq_range'] at f3
    obtain ⟨d1, d2⟩ := drawOk_spec f4
    refine wpIn_region_any hm (Runs.wpAny ro (opsOk_spec hN) d1 d2 ops.size _ (List.range ops.size) (fun i o _ hi => by simp [Array.getD] at hi) (by simp) (by simp) List.pairwise_lt_range (fun i => ?_) f3 rel.drew fun a' w' r => hQ σ' a' w' r f5)
    simp only [List.mem_range]
    constructor
    · intro hi
      exact ⟨by simp [Array.getD, hi], hi⟩
    · exact fun hi => hi.2
theorem wpIn_scope_straight {F : Fence} {n : Nat} {P : Program} {Q : Exit → Act → World → Prop} {a : Act} {w : World} {c : Code} (h : c.wpIn F n P (Exit.noGoto Q) a w) : (Code.scope c).wpIn F n P Q a w := by
  intro b k cs hro hb hr
  have h0 : (lone (b.atR a (.code (.scope c) :: k)) cs w).fenced P F := fenced_calm hb hr rfl
  have st1 : step P (lone (b.atR a (.code (.scope c) :: k)) cs w) = .next (lone (b.atR a (.code c :: .inScope c :: k)) cs w) :=
    step_lone_go (by simp [stepG, stepG.exec, Frame.atR])
  have st2 : ∀ (a : Act) (w : World), step P (lone (b.atR a (.inScope c :: k)) cs w) = .next (lone (b.atR a k) cs w) := fun a w =>
    step_lone_go (by simp [stepG, stepG.exec, Frame.atR])
  obtain ⟨e, a₁, w₁, hq, harr⟩ := h b (.inScope c :: k) cs hro hb hr
  have hx : ∀ id, exitTo id (.inScope c :: k) = exitTo id k := fun id => by simp [exitTo]
  cases e with
  | normal => exact ⟨.normal, a₁, w₁, hq, .head h0 st1 (StepsIn.trans harr (.one (fenced_calm hb hr rfl) (st2 _ _)))⟩
  | exit id => exact ⟨.exit id, a₁, w₁, hq, fun k' hk => .head h0 st1 (harr.1 k' (by rw [hx]; exact hk)), fun hr' hk => let ⟨k₁, h1, h2⟩ := harr.2 hr' (by rw [hx]; exact hk); ⟨k₁, h1, .head h0 st1 h2⟩⟩
  | goto l => exact hq.elim
  | ret => exact ⟨_, a₁, w₁, hq, .of_steps (.one h0 st1) harr⟩
  | panic ch => exact ⟨_, a₁, w₁, hq, .of_steps (.one h0 st1) harr⟩
  | outgrown => exact ⟨_, a₁, w₁, hq, .of_steps (.one h0 st1) harr⟩
theorem evL_rep {cx : Cx} {N : Nat} {σ : SL} {a : Act} {w : World} {β : Nat → Option (Option Nat)} (h1 : Rel cx β σ.st.o w) (h2 : ∀ k, (σ.st.t k).rep (envOf cx.Xo β σ.st.o w) (a.tmps.getD k undef)) (c : Operand) : (evL σ c).rep (envOf cx.Xo β σ.st.o w) (a.eval c) := by
  rw [evL_eq]
  cases c with
  | tmp k => exact h2 k
  | const v => exact ofConst_rep _ v
  | global g => exact evS_global h1 g
  | func f => simp only [evS, A.rep, Act.eval]; exact ⟨[], rfl, by simp [repL]⟩
/-- The evaluation is sound. -/
theorem ev_ok {P : Program} {tt : Types} (hm : P.follows .mixedOrders = true) (T : tt.ok P) (ro : Option Nat) {cx : Cx} {N : Nat} : ∀ (c : Code) (K : Exit → SL → Prop) (σ : SL), ev P tt c K σ → cOkF ro N c = true → ∀ (a : Act) (w : World), RelT cx N σ.st a w → c.wpIn (Fw ro) 0 P (PostK cx N K) a w
  | .skip, K, σ, h, _, a, w, rel => wpIn_skip ⟨σ, rel, h⟩
  | .label l, K, σ, h, _, a, w, rel => wpIn_label ⟨σ, rel, h⟩
  | .ret, K, σ, h, _, a, w, rel => wpIn_ret ⟨σ, rel, h⟩
  | .exit id, K, σ, h, _, a, w, rel => wpIn_exit ⟨σ, rel, h⟩
  | .seq x y, K, σ, h, hc, a, w, rel => by
    rw [ev_seq] at h
    have hc := cOkF_seq hc
    refine wpIn_seq (wpIn_mono (ev_ok hm T ro x _ σ h hc.1 a w rel) fun e a' w' hp => ?_)
    obtain ⟨σ', r', k'⟩ := hp
    cases e with
    | normal => exact ev_ok hm T ro y K σ' k' hc.2 a' w' r'
    | _ => exact ⟨σ', r', k'⟩
  | .cond c x y, K, σ, h, hc, a, w, rel => by
    rw [ev_cond] at h
    have hc := cOkF_cond hc
    unfold condx at h
    split at h
    · rename_i b hb
      have hev : a.eval c = .bool b := by
        obtain ⟨β, h1, h2, h3, h4⟩ := rel
        have hrep := evL_rep (N := N) h1 h2 c
        rw [hb] at hrep
        simp only [A.rep, D.rep] at hrep
        exact hrep.1
      exact wpIn_cond_split hev (fun hb' => ev_ok hm T ro x K σ (h.1 hb') hc.1 a w rel) (fun hb' => ev_ok hm T ro y K σ (h.2 hb') hc.2 a w rel)
    · rename_i hb
      obtain ⟨b, hev⟩ : ∃ b, a.eval c = .bool b := by
        obtain ⟨β, h1, h2, h3, h4⟩ := rel
        have hrep := evL_rep (N := N) h1 h2 c
        rw [hb] at hrep
        simpa only [A.rep] using hrep
      exact wpIn_cond_split hev (fun hb' => ev_ok hm T ro x K σ h.1 hc.1 a w rel) (fun hb' => ev_ok hm T ro y K σ h.2 hc.2 a w rel)
    · exact h.elim
  | .block id c, K, σ, h, hc, a, w, rel => by
    rw [ev_block] at h
    refine wpIn_block (wpIn_mono (ev_ok hm T ro c _ σ h (cOkF_block hc) a w rel) fun e a' w' hp => ?_)
    obtain ⟨σ', r', k'⟩ := hp
    cases e with
    | exit i =>
      simp only [blkK] at k'
      simp only [Exit.inBlock]
      split
      · rename_i hi; simp only [hi, if_true] at k'; exact ⟨σ', r', k'⟩
      · rename_i hi; simp only [hi, if_false] at k'; exact ⟨σ', r', k'⟩
    | _ => exact ⟨σ', r', k'⟩
  | .scope c, K, σ, h, hc, a, w, rel => by
    rw [ev_scope] at h
    refine wpIn_scope_straight (wpIn_mono (ev_ok hm T ro c _ σ h (cOkF_scope hc) a w rel) fun e a' w' hp => ?_)
    obtain ⟨σ', r', k'⟩ := hp
    cases e with
    | goto l => exact k'.elim
    | _ => exact ⟨σ', r', k'⟩
  | .region id ops dr, K, σ, h, hc, a, w, rel => by
    rw [ev_region] at h
    exact rgn_wp hm T ro h (cOkF_region hc) rel fun σ' a' w' r k => ⟨σ', r, k⟩
  | .loop c, K, σ, h, hc, a, w, rel => h ro cx N (cOkF_loop hc) a w rel
  | .rangeFunc f ps asg bd, K, σ, h, hc, a, w, rel => by
    cases ro with
    | none =>
      exact h cx N hc a w rel
    | some l => simp [cOkF, cOk] at hc
  | .goto _, _, _, h, _, _, _, _ => h.elim
  | .refuse _, _, _, h, _, _, _, _ => h.elim
/-- What holds of s holds of s'. -/
def Weak (s s' : St) : Prop := ∀ (cx : Cx) (N : Nat) (a : Act) (w : World), RelT cx N s a w → RelT cx N s' a w
theorem Weak.refl (s : St) : Weak s s := fun _ _ _ _ h => h
theorem Weak.trans {a b c : St} (h1 : Weak a b) (h2 : Weak b c) : Weak a c := fun cx N x w h => h2 cx N x w (h1 cx N x w h)
def loopK {α : Type} (I : α → SL) (m : α → Nat) (x : α) (K : Exit → SL → Prop) : Exit → SL → Prop
  | .normal, σ => ∃ y, m y < m x ∧ Weak σ.st (I y).st
  | e, σ => K e σ
theorem loopK_ret {α : Type} (I : α → SL) (m : α → Nat) (x : α) (K : Exit → SL → Prop) (σ : SL) : loopK I m x K .ret σ = K .ret σ := rfl
theorem loopK_exit {α : Type} (I : α → SL) (m : α → Nat) (x : α) (K : Exit → SL → Prop) (σ : SL) (i : Nat) : loopK I m x K (.exit i) σ = K (.exit i) σ := rfl
theorem exists_least (p : Nat → Prop) : ∀ n, p n → ∃ n, p n ∧ ∀ m, p m → n ≤ m := by
  intro n
  induction n using Nat.strongRecOn with
  | _ n ih =>
    intro hn
    by_cases h : ∃ m, m < n ∧ p m
    · obtain ⟨m, h1, h2⟩ := h
      exact ih m h1 h2
    · exact ⟨n, hn, fun m hm => by
        rcases Nat.lt_or_ge m n with q | q
        · exact absurd ⟨m, q, hm⟩ h
        · exact q⟩
open Classical in
noncomputable def least (p : Nat → Prop) : Nat := if h : ∃ n, p n ∧ ∀ m, p m → n ≤ m then Classical.choose h else 0
theorem least_spec {p : Nat → Prop} {n : Nat} (h : p n) : p (least p) ∧ ∀ m, p m → least p ≤ m := by
  have hex := exists_least p n h
  unfold least
  rw [dif_pos hex]
  exact Classical.choose_spec hex
/-- A loop, by states that are met at its head: I x, for all x of a type; m x goes down. -/
theorem loop_intro {P : Program} {tt : Types} (hm : P.follows .mixedOrders = true) (T : tt.ok P) {c : Code} {K : Exit → SL → Prop} {σ : SL} {α : Type} (I : α → SL) (m : α → Nat) (x : α) (h0 : Weak σ.st (I x).st) (h : ∀ x, ev P tt c (loopK I m x K) (I x)) :
    loopx P c K σ := by
  intro ro cx N hc a w rel
  have hrel : ∀ {a : Act} {w : World}, (∃ x, RelT cx N (I x).st a w) → ∃ x, m x = least (fun n => ∃ x, m x = n ∧ RelT cx N (I x).st a w) ∧ RelT cx N (I x).st a w := by
    intro a w ⟨x, hx⟩
    exact (least_spec (p := fun n => ∃ x, m x = n ∧ RelT cx N (I x).st a w) ⟨x, rfl, hx⟩).1
  refine wpIn_loop (fun a w => ∃ x, RelT cx N (I x).st a w) (fun a w => least (fun n => ∃ x, m x = n ∧ RelT cx N (I x).st a w)) ⟨x, h0 cx N a w rel⟩ fun a w hI => ?_
  obtain ⟨x, hx1, hx2⟩ := hrel hI
  refine wpIn_mono (ev_ok hm T ro c _ _ (h x) hc a w hx2) fun e a' w' hp => ?_
  obtain ⟨σ', r', k'⟩ := hp
  cases e with
  | normal =>
    obtain ⟨y, hy1, hy2⟩ := k'
    have hr := hy2 cx N a' w' r'
    refine ⟨⟨y, hr⟩, ?_⟩
    have := (least_spec (p := fun n => ∃ x, m x = n ∧ RelT cx N (I x).st a' w') ⟨y, rfl, hr⟩).2 (m y) ⟨y, rfl, hr⟩
    rw [← hx1]
    omega
  | _ => exact ⟨σ', r', k'⟩
end Go.Am
namespace Go.Am
variable [T : Tab]
mutual
/-- All objects that a value names are among these. -/
def A.closed (dom : Nat → Bool) : A → Bool
  | .any | .d _ | .snil | .csl _ _ | .bx => true
  | .ptr o _ => dom o
  | .vec o _ => dom o
  | .vptr o _ _ _ => dom o
  | .clo _ caps => closedL dom caps
  | .agg cs => closedL dom cs
  | .tup vs => closedL dom vs
  | .mp o => dom o
  | .vs o _ => dom o
  | .itr o => dom o
  | .sub o _ _ _ => dom o
  | .xo _ o => dom o
  | .g o _ _ => dom o
def closedL (dom : Nat → Bool) : List A → Bool
  | [] => true
  | a :: as => a.closed dom && closedL dom as
end
def Ob.closed (dom : Nat → Bool) : Ob → Bool
  | .var cs => closedL dom cs
  | .vec .. => true
  | .mp _ _ => true
  | .it _ _ => true
  | .x _ as => closedL dom as
  | .bag _ _ => true
  | .gv _ cs => closedL dom cs
/-- E' knows the objects of a part of E, as E does. -/
structure Env.Sub (dom : Nat → Bool) (E E' : Env) : Prop where
  R : ∀ b i v, E.R b i v → E'.R b i v
  h : ∀ o, dom o = true → E'.h o = E.h o ∧ E'.β o = E.β o
  sz : ∀ b n, E.sz b n → E'.sz b n
mutual
theorem A.rep_sub {dom : Nat → Bool} {E E' : Env} (L : E.Sub dom E') : ∀ (a : A) (v : Value), a.closed dom = true → a.rep E v → a.rep E' v
  | .any, _, _, _ => by simp [A.rep]
  | .d x, v, _, h => by
    simp only [A.rep] at h ⊢
    exact D.rep_mono L.R x v h
  | .snil, v, _, h => by simpa [A.rep] using h
  | .ptr o off, v, hc, h => by
    simp only [A.closed] at hc
    obtain ⟨h1, h2⟩ := L.h o hc
    simp only [A.rep, h1, h2] at h ⊢
    exact h
  | .vec o n, v, hc, h => by
    simp only [A.closed] at hc
    obtain ⟨h1, h2⟩ := L.h o hc
    simp only [A.rep, h1, h2] at h ⊢
    obtain ⟨e, wd, rows, fz, g1, g2, g3, g4⟩ := h
    refine ⟨e, wd, rows, fz, g1, g2, g3, fun hn => ?_⟩
    rcases g4 hn with g | ⟨b, cap, g5, g6, g7, g8, g9⟩
    · exact .inl g
    · exact .inr ⟨b, cap, g5, g6, g7, g8, L.sz _ _ g9⟩
  | .vptr o n i off, v, hc, h => by
    simp only [A.closed] at hc
    obtain ⟨h1, h2⟩ := L.h o hc
    simp only [A.rep, h1, h2] at h ⊢
    exact h
  | .csl wd rows, v, _, h => by
    simp only [A.rep] at h ⊢
    obtain ⟨a, h1, h2, h3⟩ := h
    exact ⟨a, h1, h2, fun a' ha => ⟨(h3 a' ha).1, rowsAt_mono L.R (L.R a'.block) _ _ _ (h3 a' ha).2⟩⟩
  | .clo f caps, v, hc, h => by
    simp only [A.closed] at hc
    simp only [A.rep] at h ⊢
    obtain ⟨vs, h1, h2⟩ := h
    exact ⟨vs, h1, repL_sub L caps vs hc h2⟩
  | .agg cs, v, hc, h => by
    simp only [A.closed] at hc
    simp only [A.rep] at h ⊢
    obtain ⟨vs, h1, h2, h3⟩ := h
    exact ⟨vs, h1, repL_sub L cs vs hc h2, h3⟩
  | .tup as, v, hc, h => by
    simp only [A.closed] at hc
    simp only [A.rep] at h ⊢
    obtain ⟨vs, h1, h2⟩ := h
    exact ⟨vs, h1, repL_sub L as vs hc h2⟩
  | .mp o, v, hc, h => by
    simp only [A.closed] at hc
    obtain ⟨h1, h2⟩ := L.h o hc
    simp only [A.rep, h1, h2] at h ⊢
    exact h
  | .vs o n, v, hc, h => by
    simp only [A.closed] at hc
    obtain ⟨h1, h2⟩ := L.h o hc
    simp only [A.rep, h1, h2] at h ⊢
    exact h
  | .bx, v, _, h => by simpa [A.rep] using h
  | .itr o, v, hc, h => by
    simp only [A.closed] at hc
    obtain ⟨h1, h2⟩ := L.h o hc
    simp only [A.rep, h1, h2] at h ⊢
    exact h
  | .sub o m k n, v, hc, h => by
    simp only [A.closed] at hc
    obtain ⟨h1, h2⟩ := L.h o hc
    simp only [A.rep, h1, h2] at h ⊢
    obtain ⟨e, wd, rows, fz, g1, g2, g3, g4⟩ := h
    refine ⟨e, wd, rows, fz, g1, g2, g3, fun hn => ?_⟩
    rcases g4 hn with g | ⟨b, cap, g5, g6, g7, g8, g9, g10⟩
    · exact .inl g
    · exact .inr ⟨b, cap, g5, g6, g7, g8, g9, L.sz _ _ g10⟩
  | .xo y o, v, hc, h => by
    simp only [A.closed] at hc
    obtain ⟨h1, h2⟩ := L.h o hc
    simp only [A.rep, h1, h2] at h ⊢
    exact h
  | .g o n i, v, hc, h => by
    simp only [A.closed] at hc
    obtain ⟨h1, h2⟩ := L.h o hc
    simp only [A.rep, h1, h2] at h ⊢
    obtain ⟨e, cs, g1, g2, g3, g4⟩ := h
    exact ⟨e, cs, g1, g2, g3, fun hn => gRep_le L.sz (g4 hn)⟩
theorem repL_sub {dom : Nat → Bool} {E E' : Env} (L : E.Sub dom E') : ∀ (as : List A) (vs : List Value), closedL dom as = true → repL E as vs → repL E' as vs
  | [], vs, _, h => by simpa [repL] using h
  | a :: as, vs, hc, h => by
    simp only [closedL, Bool.and_eq_true] at hc
    simp only [repL] at h ⊢
    obtain ⟨u, us, h1, h2, h3⟩ := h
    exact ⟨u, us, h1, A.rep_sub L a u hc.1 h2, repL_sub L as us hc.2 h3⟩
end
/-- Objects are forgotten. -/
theorem Rel.drop {cx : Cx} {β : Nat → Option (Option Nat)} {h : Nat → Option Ob} {w : World} (r : Rel cx β h w) (dom : Nat → Bool) (hc : ∀ o ob, dom o = true → h o = some ob → ob.closed dom = true) (hent : ∀ o, (cx.h0 o).isSome = true → (h o).isSome = true → dom o = true) :
    Rel cx (fun o => if dom o then β o else none) (fun o => if dom o then h o else none) w ∧
      (envOf cx.Xo β h w).Sub dom (envOf cx.Xo (fun o => if dom o then β o else none) (fun o => if dom o then h o else none) w) := by
  have hX : ∀ b i, Xh (fun o => if dom o then β o else none) (fun o => if dom o then h o else none) b i → Xh β h b i := by
    rintro b i ⟨o, ob, h1, h2, h3⟩
    by_cases hd : dom o = true
    · simp only [hd, if_true] at h1 h2; exact ⟨o, ob, h1, h2, h3⟩
    · simp [hd] at h1
  have S : (envOf cx.Xo β h w).Sub dom (envOf cx.Xo (fun o => if dom o then β o else none) (fun o => if dom o then h o else none) w) :=
    ⟨fun b i v hr => ⟨hr.1, fun q => hr.2.1 (hX b i q), hr.2.2⟩, fun o hd => by simp [envOf, hd], fun _ _ h => h⟩
  refine ⟨⟨fun o => ?_, fun o ob bo h1 h2 => ?_, fun o o' b h1 h2 => ?_, fun o b i h1 => ?_, r.bnd, r.ev, fun b i q => r.own b i (hX b i q), fun o ob h1 => ?_, r.big, fun g row hg => rowAt_mono S.R (S.R g) row 0 (r.tab g row hg), fun g hg => (r.gi g hg).imp fun _ => S.R _ _ _, r.tsz⟩, S⟩
  · by_cases hd : dom o = true
    · simp only [hd, if_true]; exact r.dom o
    · simp [hd]
  · by_cases hd : dom o = true
    · simp only [hd, if_true] at h1 h2
      have := r.obj o ob bo h1 h2
      have hcl := hc o ob hd h1
      cases ob with
      | var cs =>
        simp only [Ob.rep] at this ⊢
        obtain ⟨b, c, el, g1, g2, g3, g4⟩ := this
        exact ⟨b, c, el, g1, g2, repL_sub S _ _ hcl g3, g4⟩
      | vec e wd rows fz =>
        simp only [Ob.rep] at this ⊢
        obtain ⟨g1, g2, g3⟩ := this
        refine ⟨g1, g2, ?_⟩
        rcases g3 with g3 | ⟨b, c, g3, g4, g5, g6⟩
        · exact .inl g3
        · exact .inr ⟨b, c, g3, g4, rowsAt_mono S.R (fun _ _ h => h) _ _ _ g5, g6⟩
      | mp es st => simpa only [Ob.rep] using this
      | it s p => simpa only [Ob.rep] using this
      | bag S n => simpa only [Ob.rep] using this
      | x k as =>
        simp only [Ob.rep] at this ⊢
        obtain ⟨b, x, vs, g1, g2, g3, g4⟩ := this
        exact ⟨b, x, vs, g1, g2, g3, repL_sub S _ _ hcl g4⟩
      | gv e cs =>
        simp only [Ob.rep] at this ⊢
        rcases this with g3 | ⟨b, c, vs, tl, g1, g2, g3, g4, g5⟩
        · exact .inl g3
        · exact .inr ⟨b, c, vs, tl, g1, g2, g3, repL_sub S _ _ hcl g4, g5⟩
    · simp [hd] at h1
  · by_cases hd : dom o = true <;> by_cases hd' : dom o' = true
    · simp only [hd, hd', if_true] at h1 h2; exact r.inj o o' b h1 h2
    · simp [hd'] at h2
    · simp [hd] at h1
    · simp [hd] at h1
  · by_cases hd : dom o = true
    · simp only [hd, if_true] at h1; exact r.out o b i h1
    · simp [hd] at h1
  · obtain ⟨ob', g1, g2⟩ := r.ent o ob h1
    have hd := hent o (by rw [h1]; rfl) (by rw [g1]; rfl)
    exact ⟨ob', by simp only [hd, if_true]; exact g1, by simp only [hd, if_true]; exact g2⟩
def inO (ol : List (Nat × Ob)) (o : Nat) : Bool := (lookO ol o).isSome
def keepT (t : Nat → A) (dom : Nat → Bool) : List (Nat × A) → Prop
  | [] => True
  | (k, v) :: l => (t k = v ∧ v.closed dom = true) ∧ keepT t dom l
def keepO (o : Nat → Option Ob) (dom : Nat → Bool) : List (Nat × Ob) → Prop
  | [] => True
  | (k, v) :: l => (o k = some v ∧ v.closed dom = true) ∧ keepO o dom l
theorem keepT_spec {t : Nat → A} {dom : Nat → Bool} : ∀ (l : List (Nat × A)), keepT t dom l → ∀ k, lookT l k = .any ∨ (lookT l k = t k ∧ (t k).closed dom = true)
  | [], _, k => .inl rfl
  | (j, v) :: l, h, k => by
    simp only [keepT] at h
    obtain ⟨⟨rfl, h2⟩, h3⟩ := h
    simp only [lookT]
    by_cases hj : j = k
    · subst hj; simp only [if_true]; exact .inr ⟨trivial, h2⟩
    · simp only [hj, if_false]; exact keepT_spec l h3 k
theorem keepO_spec {o : Nat → Option Ob} {dom : Nat → Bool} : ∀ (l : List (Nat × Ob)), keepO o dom l → ∀ k ob, lookO l k = some ob → o k = some ob ∧ ob.closed dom = true
  | [], _, k, ob, h => by simp [lookO] at h
  | (j, v) :: l, h, k, ob, hk => by
    simp only [keepO] at h
    obtain ⟨⟨h1, h2⟩, h3⟩ := h
    simp only [lookO] at hk
    by_cases hj : j = k
    · subst hj; simp only [if_true, Option.some.injEq] at hk; subst hk; exact ⟨h1, h2⟩
    · simp only [hj, if_false] at hk; exact keepO_spec l h3 k ob hk
/-- The objects that came in are kept. -/
def keepIn (dom : Nat → Bool) : List (Nat × Ob) → Prop
  | [] => True
  | (k, _) :: l => (hdd k = false ∨ dom k = true) ∧ keepIn dom l
theorem keepIn_spec {dom : Nat → Bool} : ∀ (l : List (Nat × Ob)), keepIn dom l → ∀ o, hdd o = true → (lookO l o).isSome = true → dom o = true
  | [], _, o, _, h => by simp [lookO] at h
  | (k, v) :: l, hk, o, ho, h => by
    simp only [keepIn] at hk
    simp only [lookO] at h
    by_cases hko : k = o
    · subst hko; exact hk.1.resolve_left (fun e => by rw [e] at ho; cases ho)
    · simp only [hko, if_false] at h; exact keepIn_spec l hk.2 o ho h
/-- Some slots and objects are kept, the others forgotten. -/
theorem Weak.keep {t : Nat → A} {l : List (Nat × Ob)} {σ : SL} (ht : keepT t (inO σ.o) σ.t) (ho : keepO (lookO l) (inO σ.o) σ.o) (hin : keepIn (inO σ.o) l) : Weak ⟨t, lookO l⟩ σ.st := by
  intro cx N a w ⟨β, h1, h2, h3, h4⟩
  obtain ⟨r1, S1⟩ := h1.drop (inO σ.o) (fun o ob hd hob => by
    unfold inO at hd
    obtain ⟨ob', hob'⟩ := Option.isSome_iff_exists.1 hd
    obtain ⟨g1, g2⟩ := keepO_spec σ.o ho o ob' hob'
    have hob2 : lookO l o = some ob := hob
    rw [hob2] at g1
    cases g1
    exact g2) (fun o g1 g2 => keepIn_spec l hin o (h1.big o g1) g2)
  have he : (fun o => if inO σ.o o then lookO l o else none) = lookO σ.o := by
    funext o
    unfold inO
    cases hl : lookO σ.o o with
    | none => simp
    | some ob => simp; exact (keepO_spec σ.o ho o ob hl).1
  rw [he] at r1 S1
  have h4' := MarksOk.drop (h := lookO l) (dom := inO σ.o) h4 (keepIn_spec l hin)
  rw [he] at h4'
  refine ⟨_, r1, fun k => ?_, h3, h4'⟩
  show (lookT σ.t k).rep _ _
  rcases keepT_spec σ.t ht k with q | ⟨q, hc⟩
  · rw [q]; simp [A.rep]
  · rw [q]; exact A.rep_sub S1 _ _ hc (h2 k)
/-- A slot's nil slice is an object from now on. -/
theorem Weak.nil {s : St} (k o e wd : Nat) (hk : s.t k = .snil) (ho : s.o o = none) : Weak s ⟨put s.t k (.vec o 0), put s.o o (some (.vec e wd [] 0))⟩ := by
  intro cx N a w ⟨β, h1, h2, h3, h4⟩
  obtain ⟨r1, L1⟩ := h1.nil o e wd ho
  refine ⟨_, r1, fun j => ?_, h3, MarksOk.le L1 h4⟩
  by_cases hj : j = k
  · subst hj
    have := h2 j
    rw [hk] at this
    simp only [A.rep] at this
    simp only [put_same]
    simp only [A.rep, envOf]
    exact ⟨e, wd, [], 0, by simp, by simp, by rw [this]; rfl, fun _ => .inl ⟨by simp, this⟩⟩
  · simp only [put_ne _ _ hj]; exact A.rep_le L1 _ _ (h2 j)
theorem repL_set {E : Env} : ∀ (cs : List A) (vs : List Value) (i : Nat) (a : A) (v : Value), repL E cs vs → vs[i]? = some v → a.rep E v → repL E (cs.set i a) vs
  | [], vs, i, a, v, h, _, _ => by simpa using h
  | c :: cs, vs, 0, a, v, h, hv, ha => by
    simp only [repL] at h
    obtain ⟨u, us, rfl, h2, h3⟩ := h
    simp at hv
    subst hv
    simp only [List.set_cons_zero, repL]
    exact ⟨u, us, rfl, ha, h3⟩
  | c :: cs, vs, i + 1, a, v, h, hv, ha => by
    simp only [repL] at h
    obtain ⟨u, us, rfl, h2, h3⟩ := h
    simp only [List.set_cons_succ, repL]
    exact ⟨u, us, rfl, h2, repL_set cs us i a v h3 (by simpa using hv) ha⟩
/-- What is known of a cell of a variable is changed to something that is so as well. -/
theorem Rel.recell {cx : Cx} {β : Nat → Option (Option Nat)} {h : Nat → Option Ob} {w : World} (r : Rel cx β h w) {o i : Nat} {cs : List A} {a c : A} (ho : h o = some (.var cs)) (hi : cs[i]? = some c)
    (hac : ∀ v, c.rep (envOf cx.Xo β h w) v → a.rep (envOf cx.Xo β h w) v) : Rel cx β (put h o (some (.var (cs.set i a)))) w ∧ (envOf cx.Xo β h w).Le (envOf cx.Xo β (put h o (some (.var (cs.set i a)))) w) := by
  refine r.step (Ev.refl _ _) (fun k => ?_) (fun k x hk => ?_) (fun _ _ h => .inl h) r.inj (fun b j hX => ?_) (fun k x bo h1 h2 => ?_)
  · by_cases hk : k = o
    · subst hk; rw [r.dom k, ho]; simp
    · rw [put_ne _ _ hk, r.dom k]
  · by_cases hk' : k = o
    · subst hk'
      rw [ho] at hk
      cases hk
      exact ⟨_, by simp; rfl, by simp [Ob.grow]⟩
    · exact ⟨x, by rw [put_ne _ _ hk', hk], Ob.grow_refl _ _⟩
  · obtain ⟨k, x, h1, h2, h3⟩ := hX
    by_cases hk : k = o
    · subst hk
      exact .inl ⟨k, _, ho, h2, trivial⟩
    · rw [put_ne _ _ hk] at h1; exact .inl ⟨k, x, h1, h2, h3⟩
  · by_cases hk : k = o
    · subst hk
      simp at h1
      subst h1
      refine .inr fun L => ?_
      have := r.obj k _ _ ho h2
      simp only [Ob.rep] at this ⊢
      obtain ⟨b, c', el, g1, g2, g3, g4⟩ := this
      obtain ⟨v, hv, hc⟩ := repL_get cs c'.toList i c g3 hi
      exact ⟨b, c', el, g1, g2, repL_le L _ _ (repL_set _ _ _ _ _ g3 hv (hac _ hc)), g4⟩
    · rw [put_ne _ _ hk] at h1
      exact .inl ⟨h1, h2, fun _ _ => rfl⟩
/-- A variable's cell: its nil slice is an object from now on. -/
theorem Weak.nilCell {s : St} (q i o e wd : Nat) {cs : List A} (hq : s.o q = some (.var cs)) (hi : cs[i]? = some .snil) (ho : s.o o = none) :
    Weak s ⟨s.t, put (put s.o o (some (.vec e wd [] 0))) q (some (.var (cs.set i (.vec o 0))))⟩ := by
  intro cx N a w ⟨β, h1, h2, h3, h4⟩
  obtain ⟨r1, L1⟩ := h1.nil o e wd ho
  have hne : q ≠ o := fun e => by rw [e, ho] at hq; cases hq
  obtain ⟨r2, L2⟩ := r1.recell (o := q) (i := i) (a := .vec o 0) (by rw [put_ne _ _ hne]; exact hq) hi (fun v hc => by
    simp only [A.rep] at hc
    simp only [A.rep, envOf]
    exact ⟨e, wd, [], 0, by simp, by simp, by rw [hc]; rfl, fun _ => .inl ⟨by simp, hc⟩⟩)
  exact ⟨_, r2, fun j => A.rep_le (L1.trans L2) _ _ (h2 j), h3, MarksOk.le (L1.trans L2) h4⟩
theorem frz_again {h : Nat → Option Ob} {wd : Nat} {c : A} {f : Frz} (hf : frz h wd c = some f) : frz (upds h f.upd) wd c = some f ∧ upds (upds h f.upd) f.upd = upds h f.upd := by
  unfold frz at hf ⊢
  split at hf
  · cases hf; exact ⟨rfl, rfl⟩
  · cases hf; exact ⟨rfl, rfl⟩
  · cases hf; exact ⟨rfl, rfl⟩
  · rename_i o n
    split at hf
    · cases hf
      simp only [upds, put_same]
      refine ⟨trivial, ?_⟩
      funext k
      by_cases hk : k = o
      · subst hk; simp
      · simp [put_ne _ _ hk]
    · cases hf
  · cases hf
/-- A variable's cell: its slice is shut. -/
theorem Weak.frzCell {s : St} (q i wd : Nat) {cs : List A} {c : A} {f : Frz} (hq : s.o q = some (.var cs)) (hi : cs[i]? = some c) (hf : frz s.o wd c = some f) (hs : f.side) (hk : upds s.o f.upd q = some (.var cs)) :
    Weak s ⟨s.t, put (upds s.o f.upd) q (some (.var (cs.set i (.d f.x))))⟩ := by
  intro cx N a w ⟨β, h1, h2, h3, h4⟩
  have hrest : ∃ v, c.rep (envOf cx.Xo β s.o w) v := by
    have hd := h1.dom q
    rw [hq] at hd
    obtain ⟨bo, hbo⟩ := Option.isSome_iff_exists.1 (by simpa using hd)
    have := h1.obj q _ _ hq hbo
    simp only [Ob.rep] at this
    obtain ⟨_, c', _, _, _, g3, _⟩ := this
    obtain ⟨v, _, hv⟩ := repL_get cs c'.toList i c g3 hi
    exact ⟨v, hv⟩
  obtain ⟨v0, hv0⟩ := hrest
  obtain ⟨r1, L1, _⟩ := frz_ok h1 hf hs hv0
  obtain ⟨k1, k2⟩ := frz_again hf
  obtain ⟨r2, L2⟩ := r1.recell (o := q) (i := i) (a := .d f.x) hk hi (fun v hc => by
    obtain ⟨_, _, x1⟩ := frz_ok r1 k1 hs hc
    rw [k2] at x1
    simpa [A.rep] using x1)
  exact ⟨_, r2, fun j => A.rep_le (L1.trans L2) _ _ (h2 j), h3, MarksOk.le (L1.trans L2) h4⟩
end Go.Am
namespace Go.Am
variable [T : Tab]
/-- The contract of a function: called with as (which name objects of os alone), it returns res, and the objects are as in os'. -/
structure ACall (P : Program) (f : FuncId) (as : List A) (os : List (Nat × Ob)) (res : A) (os' : List (Nat × Ob)) : Prop where
  fn : ∃ fn, P.funcs[f]? = some fn ∧ (fn.name == "runtime.NumGoroutine") = false ∧ fn.body.isSome = true
  calls : ∀ (Xo : Nat → Nat → Prop) (β : Nat → Option (Option Nat)) (w : World) (vs : List Value), Rel ⟨w, Xo, Xh β (lookO os), β, lookO os⟩ β (lookO os) w → repL (envOf Xo β (lookO os) w) as vs →
    Calls P f vs.toArray w fun en w' => ∃ v β', en = .returned v ∧ Rel ⟨w, Xo, Xh β (lookO os), β, lookO os⟩ β' (lookO os') w' ∧ res.rep (envOf Xo β' (lookO os') w') v
def argT (k : Nat) : List A → List (Nat × A)
  | [] => []
  | a :: as => (k, a) :: argT (k + 1) as
/-- One result, as the frame's slots have it. -/
def res1 (tt : Types) (σ : SL) : ResultVar → Option (Prop × A)
  | .tmp t => some (True, lookT σ.t t)
  | .cell p t => match lookT σ.t p with
    | .ptr o off => match lookO σ.o o with
      | some (.var cs) => loadA tt t cs off
      | _ => none
    | _ => none
def resL (tt : Types) (σ : SL) : List ResultVar → Option (Prop × List A)
  | [] => some (True, [])
  | r :: rs => match res1 tt σ r, resL tt σ rs with
    | some (p, a), some (q, as) => some (p ∧ q, a :: as)
    | _, _ => none
def resA (tt : Types) (σ : SL) (rs : List ResultVar) : Option (Prop × A) :=
  match resL tt σ rs with
  | some (p, [a]) => some (p, a)
  | some (p, as) => some (p, .tup as)
  | none => none
def retx (x : Option (Prop × A)) (σ : SL) (res : A) (os' : List (Nat × Ob)) : Prop :=
  match x with
  | some (p, a) => p ∧ Weak ⟨lookT [(0, a)], lookO σ.o⟩ ⟨lookT [(0, res)], lookO os'⟩
  | none => False
/-- The end of a body. -/
def bodyK (tt : Types) (rs : List ResultVar) (res : A) (os' : List (Nat × Ob)) : Exit → SL → Prop
  | .normal, σ => retx (resA tt σ rs) σ res os'
  | .ret, σ => retx (resA tt σ rs) σ res os'
  | _, _ => False
def resV (tmps : Array Value) : ResultVar → Sem Value
  | .tmp t => pure (tmps.getD t undef)
  | .cell q t => do loadVar t (← asAddr (tmps.getD q undef))
theorem res1_ok {P : Program} {tt : Types} (T : tt.ok P) {cx : Cx} {N : Nat} {σ : SL} {a : Act} {w : World} {β : Nat → Option (Option Nat)} (h1 : Rel cx β σ.st.o w) (h2 : ∀ k, (σ.st.t k).rep (envOf cx.Xo β σ.st.o w) (a.tmps.getD k undef)) {r : ResultVar} {p : Prop} {x : A}
    (hr : res1 tt σ r = some (p, x)) (hp : p) : ∃ v, (resV a.tmps r).run P w = .ok v w ∧ x.rep (envOf cx.Xo β σ.st.o w) v := by
  cases r with
  | tmp t =>
    simp only [res1, Option.some.injEq, Prod.mk.injEq] at hr
    obtain ⟨_, rfl⟩ := hr
    exact ⟨_, rfl, h2 t⟩
  | cell q t =>
    simp only [res1] at hr
    split at hr
    · rename_i o off hq
      split at hr
      · rename_i cs ho
        have hv := h2 q
        have hq' : σ.st.t q = .ptr o off := hq
        rw [hq'] at hv
        simp only [A.rep] at hv
        obtain ⟨b, _, hb, _, hval⟩ := hv
        obtain ⟨b', c, el, g1, g2, g3, g4⟩ := h1.obj o _ _ ho hb
        cases g1
        obtain ⟨v, hl, hx⟩ := load_run (w := w) T hr hp b 0 c.toList (fun j v hj => by simp only [World.cell?, g2]; simpa using hj) g3 g4
        rw [Nat.zero_add] at hl
        exact ⟨v, by simp [resV, hval, asAddr, hl], hx⟩
      · cases hr
    · cases hr
theorem resL_ok {P : Program} {tt : Types} (T : tt.ok P) {cx : Cx} {σ : SL} {a : Act} {w : World} {β : Nat → Option (Option Nat)} (h1 : Rel cx β σ.st.o w) (h2 : ∀ k, (σ.st.t k).rep (envOf cx.Xo β σ.st.o w) (a.tmps.getD k undef)) :
    ∀ (rs : List ResultVar) (p : Prop) (xs : List A), resL tt σ rs = some (p, xs) → p → ∃ vs, (rs.mapM (resV a.tmps)).run P w = .ok vs w ∧ repL (envOf cx.Xo β σ.st.o w) xs vs
  | [], p, xs, hr, _ => by
    simp only [resL, Option.some.injEq, Prod.mk.injEq] at hr
    obtain ⟨_, rfl⟩ := hr
    exact ⟨[], by simp, by simp [repL]⟩
  | r :: rs, p, xs, hr, hp => by
    simp only [resL] at hr
    split at hr
    · rename_i p1 x1 q1 xs1 e1 e2
      simp only [Option.some.injEq, Prod.mk.injEq] at hr
      obtain ⟨rfl, rfl⟩ := hr
      obtain ⟨v, g1, g2⟩ := res1_ok (N := 0) T h1 h2 e1 hp.1
      obtain ⟨vs, g3, g4⟩ := resL_ok T h1 h2 rs _ _ e2 hp.2
      refine ⟨v :: vs, ?_, ?_⟩
      · rw [List.mapM_cons]
        simp only [Sem.run_bind, g1, g3, Result.andThen_ok, Sem.run_pure]
      · simp only [repL]; exact ⟨v, vs, rfl, g2, g4⟩
    · cases hr
theorem lookT_arg : ∀ (as : List A) (k j : Nat), lookT (argT k as) j = if k ≤ j then (as[j - k]?).getD .any else .any
  | [], k, j => by simp [argT, lookT]
  | a :: as, k, j => by
    simp only [argT, lookT]
    rw [lookT_arg as (k + 1) j]
    by_cases h1 : k = j
    · subst h1; simp
    · simp only [h1, if_false]
      by_cases h2 : k + 1 ≤ j
      · have : j - k = (j - (k + 1)) + 1 := by omega
        rw [if_pos h2, if_pos (by omega), this, List.getElem?_cons_succ]
      · rw [if_neg h2, if_neg (by omega)]
/-- The value of the results, as the frame's slots have it. -/
theorem resA_ok {P : Program} {tt : Types} (T : tt.ok P) {cx : Cx} {σ : SL} {a : Act} {w : World} {β : Nat → Option (Option Nat)} (h1 : Rel cx β σ.st.o w) (h2 : ∀ k, (σ.st.t k).rep (envOf cx.Xo β σ.st.o w) (a.tmps.getD k undef)) {fn : Func} {rs : List ResultVar} (hrs : fn.results.toList = rs)
    {p : Prop} {x : A} (hx : resA tt σ rs = some (p, x)) (hp : p) : ∃ v, (results fn a.tmps).run P w = .ok v w ∧ x.rep (envOf cx.Xo β σ.st.o w) v := by
  have hres : ∀ w, (results fn a.tmps).run P w = (do let vs ← fn.results.mapM (resV a.tmps); pure (if h : vs.size = 1 then vs[0] else .tuple vs) : Sem Value).run P w := fun w => rfl
  unfold resA at hx
  have key : ∀ xs, resL tt σ rs = some (p, xs) → ∃ vs, (fn.results.mapM (resV a.tmps)).run P w = .ok vs.toArray w ∧ repL (envOf cx.Xo β σ.st.o w) xs vs := by
    intro xs hxs
    obtain ⟨vs, g1, g2⟩ := resL_ok T h1 h2 rs p xs hxs hp
    refine ⟨vs, ?_, g2⟩
    rw [Array.mapM_eq_mapM_toList, hrs]
    simp only [Sem.run_map, g1, Result.andThen_ok]
  split at hx
  · rename_i p' a1 hL
    simp only [Option.some.injEq, Prod.mk.injEq] at hx
    obtain ⟨rfl, rfl⟩ := hx
    obtain ⟨vs, g1, g2⟩ := key _ hL
    simp only [repL] at g2
    obtain ⟨u, us, rfl, g3, rfl⟩ := g2
    refine ⟨u, ?_, g3⟩
    rw [hres]
    simp only [Sem.run_bind, g1]
    simp
  · rename_i p' as1 hne hL
    simp only [Option.some.injEq, Prod.mk.injEq] at hx
    obtain ⟨rfl, rfl⟩ := hx
    obtain ⟨vs, g1, g2⟩ := key _ hL
    have hlen := repL_length _ _ g2
    refine ⟨.tuple vs.toArray, ?_, by simp only [A.rep]; exact ⟨vs, rfl, g2⟩⟩
    rw [hres]
    simp only [Sem.run_bind, g1]
    have h1 : ¬ vs.toArray.size = 1 := by
      intro h1
      simp at h1
      rcases as1 with _ | ⟨a1, _ | ⟨a2, as2⟩⟩
      · simp at hlen; simp [hlen] at h1
      · exact absurd rfl (hne a1)
      · simp at hlen; omega
    simp only [Result.andThen_ok, Sem.run_pure, h1, dite_false]
  · cases hx
theorem RelT.args {cx : Cx} {β : Nat → Option (Option Nat)} {os : List (Nat × Ob)} {as : List A} {vs : List Value} {w : World} {M N : Nat} (rel : Rel cx β (lookO os) w) (hr : repL (envOf cx.Xo β (lookO os) w) as vs) (hNn : M = N) (hN : as.length ≤ N) :
    RelT cx N (⟨argT 0 as, os⟩ : SL).st { tmps := vs.toArray ++ Array.replicate (M - vs.toArray.size) undef, defers := [] } w := by
  have hvl := repL_length _ _ hr
  refine ⟨β, rel, fun k => ?_, by simp; omega, MarksOk.nil _ _ _⟩
  show (lookT (argT 0 as) k).rep _ _
  rw [lookT_arg]
  simp only [Nat.zero_le, if_true, Nat.sub_zero]
  cases hk : as[k]? with
  | none => simp [A.rep]
  | some a =>
    obtain ⟨v, hv, hx⟩ := repL_get as vs k a hr hk
    have hlt : k < vs.length := by
      rcases Nat.lt_or_ge k vs.length with q | q
      · exact q
      · simp [List.getElem?_eq_none q] at hv
    have : (vs.toArray ++ Array.replicate (M - vs.toArray.size) undef).getD k undef = v := by
      rw [Array.getD_eq_getD_getElem?, Array.getElem?_append_left (by simpa using hlt)]
      simp [hv]
    rw [this]
    exact hx
/-- No object's number is of those of marks. -/
def noMk (os : List (Nat × Ob)) : Bool := os.all fun p => decide (p.1 < 1000000)
theorem noMk_spec : ∀ {os : List (Nat × Ob)}, noMk os = true → ∀ o, 1000000 ≤ o → lookO os o = none
  | [], _, _, _ => rfl
  | (k, v) :: os, h, o, ho => by
    simp only [noMk, List.all_cons, Bool.and_eq_true, decide_eq_true_eq] at h
    simp only [lookO]
    rw [if_neg (by omega)]
    exact noMk_spec (os := os) h.2 o ho
/-- A function's contract, from its body. -/
theorem ACall.enter {P : Program} {tt : Types} (hm : P.follows .mixedOrders = true) (T : tt.ok P) {f : FuncId} {fn : Func} {c : Code} {as : List A} {os os' : List (Nat × Ob)} {res : A} (hf : P.funcs[f]? = some fn) (hname : (fn.name == "runtime.NumGoroutine") = false) (hb : fn.body = some c)
    (N : Nat) (hNn : fn.ntmps = N) (hN : as.length ≤ N) (hc : cOk N c = true) (rs : List ResultVar) (hrs : fn.results.toList = rs) (h : ev P tt c (bodyK tt rs res os') ⟨argT 0 as, os⟩) (hmk : noMk os' = true) : ACall P f as os res os' where
  fn := ⟨fn, hf, hname, by rw [hb]; rfl⟩
  calls := fun Xo β w vs rel hr => by
    have rel0 := RelT.args (M := fn.ntmps) rel hr hNn hN
    refine calls_fw (n := 0) (callsIn_of_wp hf hb trivial (wpIn_mono (ev_ok hm T none c _ _ h (cOkF_of (r := none) hc) _ w rel0) fun e a' w' hp => ?_))
    obtain ⟨σ', r', k'⟩ := hp
    have fin : retx (resA tt σ' rs) σ' res os' → a'.defers = [] ∧ ∃ v, (results fn a'.tmps).run P w' = .ok v w' ∧ ∃ v_1 β', Ending.returned v = .returned v_1 ∧ Rel ⟨w, Xo, Xh β (lookO os), β, lookO os⟩ β' (lookO os') w' ∧ res.rep (envOf Xo β' (lookO os') w') v_1 := by
      intro hret
      obtain ⟨β1, q1, q2, q3, q4⟩ := r'
      unfold retx at hret
      split at hret
      · rename_i p x hx
        obtain ⟨hp, hw⟩ := hret
        obtain ⟨v, g1, g2⟩ := resA_ok T q1 q2 hrs hx hp
        have hst : RelT ⟨w, Xo, Xh β (lookO os), β, lookO os⟩ 1 ⟨lookT [(0, x)], lookO σ'.o⟩ { tmps := #[v], defers := a'.defers } w' := by
          refine ⟨β1, q1, fun k => ?_, rfl, q4⟩
          simp only [lookT]
          by_cases hk : 0 = k
          · subst hk; simp only [if_true]; exact g2
          · simp only [hk, if_false]; simp [A.rep]
        obtain ⟨β2, p1, p2, _, p4⟩ := hw _ 1 _ w' hst
        have := p2 0
        simp only [lookT, if_true] at this
        exact ⟨MarksOk.none p4 (noMk_spec hmk), v, g1, v, β2, rfl, p1, by simpa using this⟩
      · exact hret.elim
    cases e with
    | normal => exact fin k'
    | ret => exact fin k'
    | exit i => exact k'.elim
    | goto l => exact k'.elim
    | panic ch => exact k'.elim
    | outgrown => exact k'.elim
end Go.Am
namespace Go.Am
variable [T : Tab]
mutual
def A.ren (r : Nat → Nat) : A → A
  | .any => .any
  | .d x => .d x
  | .snil => .snil
  | .ptr o off => .ptr (r o) off
  | .vec o n => .vec (r o) n
  | .vptr o n i off => .vptr (r o) n i off
  | .csl w rows => .csl w rows
  | .clo f caps => .clo f (renL r caps)
  | .agg cs => .agg (renL r cs)
  | .tup vs => .tup (renL r vs)
  | .mp o => .mp (r o)
  | .vs o n => .vs (r o) n
  | .bx => .bx
  | .itr o => .itr (r o)
  | .sub o m k n => .sub (r o) m k n
  | .xo y o => .xo y (r o)
  | .g o n i => .g (r o) n i
def renL (r : Nat → Nat) : List A → List A
  | [] => []
  | a :: as => a.ren r :: renL r as
end
def Ob.ren (r : Nat → Nat) : Ob → Ob
  | .var cs => .var (renL r cs)
  | .vec e w rows fz => .vec e w rows fz
  | .mp es st => .mp es st
  | .it s p => .it s p
  | .x k as => .x k (renL r as)
  | .bag S n => .bag S n
  | .gv e cs => .gv e (renL r cs)
theorem renL_length (r : Nat → Nat) : ∀ as : List A, (renL r as).length = as.length
  | [] => rfl
  | a :: as => by simp [renL, renL_length r as]
/-- E has the objects of E' under other numbers. -/
structure Env.Ren (r : Nat → Nat) (E' E : Env) : Prop where
  R : ∀ b i v, E'.R b i v → E.R b i v
  h : ∀ o ob, E'.h o = some ob → E.h (r o) = some (ob.ren r) ∧ E.β (r o) = E'.β o
  sz : ∀ b n, E'.sz b n → E.sz b n
mutual
theorem A.rep_ren {r : Nat → Nat} {E' E : Env} (L : Env.Ren r E' E) : ∀ (a : A) (v : Value), a.rep E' v → (a.ren r).rep E v
  | .any, _, _ => by simp [A.ren, A.rep]
  | .d x, v, h => by
    simp only [A.ren, A.rep] at h ⊢
    exact D.rep_mono L.R x v h
  | .snil, v, h => by simpa [A.ren, A.rep] using h
  | .ptr o off, v, h => by
    simp only [A.ren, A.rep] at h ⊢
    obtain ⟨b, cs, h1, h2, h3⟩ := h
    obtain ⟨g1, g2⟩ := L.h o _ h2
    exact ⟨b, _, g2.trans h1, g1, h3⟩
  | .vec o n, v, h => by
    simp only [A.ren, A.rep] at h ⊢
    obtain ⟨e, wd, rows, fz, h1, h2, h3, h4⟩ := h
    obtain ⟨g1, g2⟩ := L.h o _ h1
    refine ⟨e, wd, rows, fz, g1, h2, h3, fun hn => ?_⟩
    rw [g2]
    rcases h4 hn with q | ⟨b, cap, q1, q2, q3, q4, q5⟩
    · exact .inl q
    · exact .inr ⟨b, cap, q1, q2, q3, q4, L.sz _ _ q5⟩
  | .vptr o n i off, v, h => by
    simp only [A.ren, A.rep] at h ⊢
    obtain ⟨e, wd, rows, fz, h1, h2, h3, h4⟩ := h
    obtain ⟨g1, g2⟩ := L.h o _ h1
    refine ⟨e, wd, rows, fz, g1, h2, h3, fun hn => ?_⟩
    rw [g2]
    exact h4 hn
  | .csl wd rows, v, h => by
    simp only [A.ren, A.rep] at h ⊢
    obtain ⟨a, h1, h2, h3⟩ := h
    exact ⟨a, h1, h2, fun a' ha => ⟨(h3 a' ha).1, rowsAt_mono L.R (L.R a'.block) _ _ _ (h3 a' ha).2⟩⟩
  | .clo f caps, v, h => by
    simp only [A.ren, A.rep] at h ⊢
    obtain ⟨vs, h1, h2⟩ := h
    exact ⟨vs, h1, repL_ren L caps vs h2⟩
  | .agg cs, v, h => by
    simp only [A.ren, A.rep] at h ⊢
    obtain ⟨vs, h1, h2, h3⟩ := h
    exact ⟨vs, h1, repL_ren L cs vs h2, h3⟩
  | .tup as, v, h => by
    simp only [A.ren, A.rep] at h ⊢
    obtain ⟨vs, h1, h2⟩ := h
    exact ⟨vs, h1, repL_ren L as vs h2⟩
  | .mp o, v, h => by
    simp only [A.ren, A.rep] at h ⊢
    obtain ⟨b, es, st, h1, h2, h3⟩ := h
    rcases h2 with h2 | ⟨S, n, h2⟩
    · obtain ⟨g1, g2⟩ := L.h o _ h2
      exact ⟨b, es, st, g2.trans h1, .inl g1, h3⟩
    · obtain ⟨g1, g2⟩ := L.h o _ h2
      exact ⟨b, es, st, g2.trans h1, .inr ⟨S, n, g1⟩, h3⟩
  | .vs o n, v, h => by
    simp only [A.ren, A.rep] at h ⊢
    obtain ⟨b, cs, h1, h2, h3⟩ := h
    obtain ⟨g1, g2⟩ := L.h o _ h2
    exact ⟨b, _, g2.trans h1, g1, h3⟩
  | .bx, v, h => by simpa [A.ren, A.rep] using h
  | .itr o, v, h => by
    simp only [A.ren, A.rep] at h ⊢
    obtain ⟨b, s, p, h1, h2, h3⟩ := h
    obtain ⟨g1, g2⟩ := L.h o _ h2
    exact ⟨b, _, _, g2.trans h1, g1, h3⟩
  | .sub o m k n, v, h => by
    simp only [A.ren, A.rep] at h ⊢
    obtain ⟨e, wd, rows, fz, h1, h2, h3, h4⟩ := h
    obtain ⟨g1, g2⟩ := L.h o _ h1
    refine ⟨e, wd, rows, fz, g1, h2, h3, fun hn => ?_⟩
    rw [g2]
    rcases h4 hn with q | ⟨b, cap, q1, q2, q3, q4, q5, q6⟩
    · exact .inl q
    · exact .inr ⟨b, cap, q1, q2, q3, q4, q5, L.sz _ _ q6⟩
  | .xo y o, v, h => by
    simp only [A.ren, A.rep] at h ⊢
    obtain ⟨b, k, as, h1, h2, h3⟩ := h
    obtain ⟨g1, g2⟩ := L.h o _ h2
    exact ⟨b, _, _, g2.trans h1, g1, h3⟩
  | .g o n i, v, h => by
    simp only [A.ren, A.rep] at h ⊢
    obtain ⟨e, cs, h1, h2, h3, h4⟩ := h
    obtain ⟨g1, g2⟩ := L.h o _ h1
    refine ⟨e, _, g1, by rw [renL_length]; exact h2, h3, fun hn => ?_⟩
    rw [g2]
    rw [renL_length] at hn
    exact gRep_le L.sz (h4 hn)
theorem repL_ren {r : Nat → Nat} {E' E : Env} (L : Env.Ren r E' E) : ∀ (as : List A) (vs : List Value), repL E' as vs → repL E (renL r as) vs
  | [], vs, h => by simpa [renL, repL] using h
  | a :: as, vs, h => by
    simp only [renL, repL] at h ⊢
    obtain ⟨u, us, h1, h2, h3⟩ := h
    exact ⟨u, us, h1, A.rep_ren L a u h2, repL_ren L as us h3⟩
end
/-- And back: E' has some of E's objects, under numbers of its own. -/
structure Env.Unren (dom : Nat → Bool) (r : Nat → Nat) (E E' : Env) : Prop where
  R : ∀ b i v, E.R b i v → E'.R b i v
  h : ∀ o, dom o = true → ∃ ob, E'.h o = some ob ∧ E.h (r o) = some (ob.ren r) ∧ E.β (r o) = E'.β o
  sz : ∀ b n, E.sz b n → E'.sz b n
mutual
theorem A.rep_unren {dom : Nat → Bool} {r : Nat → Nat} {E E' : Env} (L : Env.Unren dom r E E') : ∀ (a : A) (v : Value), a.closed dom = true → (a.ren r).rep E v → a.rep E' v
  | .any, _, _, _ => by simp [A.rep]
  | .d x, v, _, h => by
    simp only [A.ren, A.rep] at h ⊢
    exact D.rep_mono L.R x v h
  | .snil, v, _, h => by simpa [A.ren, A.rep] using h
  | .ptr o off, v, hc, h => by
    simp only [A.closed] at hc
    obtain ⟨ob, g1, g2, g3⟩ := L.h o hc
    simp only [A.ren, A.rep] at h ⊢
    obtain ⟨b, cs, h1, h2, h3⟩ := h
    rw [g2] at h2
    cases ob with
    | var cs' => exact ⟨b, cs', g3 ▸ h1, g1, h3⟩
    | vec => simp [Ob.ren] at h2
    | mp => simp [Ob.ren] at h2
    | it => simp [Ob.ren] at h2
    | x => simp [Ob.ren] at h2
    | bag => simp [Ob.ren] at h2
    | gv => simp [Ob.ren] at h2
  | .vec o n, v, hc, h => by
    simp only [A.closed] at hc
    obtain ⟨ob, g1, g2, g3⟩ := L.h o hc
    simp only [A.ren, A.rep] at h ⊢
    obtain ⟨e, wd, rows, fz, h1, h2, h3, h4⟩ := h
    rw [g2] at h1
    cases ob with
    | var cs' => simp [Ob.ren] at h1
    | mp => simp [Ob.ren] at h1
    | it => simp [Ob.ren] at h1
    | x => simp [Ob.ren] at h1
    | bag => simp [Ob.ren] at h1
    | gv => simp [Ob.ren] at h1
    | vec e' w' rows' fz' =>
      simp only [Ob.ren, Option.some.injEq, Ob.vec.injEq] at h1
      obtain ⟨rfl, rfl, rfl, rfl⟩ := h1
      refine ⟨_, _, _, _, g1, h2, h3, fun hn => ?_⟩
      rw [← g3]
      rcases h4 hn with q | ⟨b, cap, q1, q2, q3, q4, q5⟩
      · exact .inl q
      · exact .inr ⟨b, cap, q1, q2, q3, q4, L.sz _ _ q5⟩
  | .vptr o n i off, v, hc, h => by
    simp only [A.closed] at hc
    obtain ⟨ob, g1, g2, g3⟩ := L.h o hc
    simp only [A.ren, A.rep] at h ⊢
    obtain ⟨e, wd, rows, fz, h1, h2, h3, h4⟩ := h
    rw [g2] at h1
    cases ob with
    | var cs' => simp [Ob.ren] at h1
    | mp => simp [Ob.ren] at h1
    | it => simp [Ob.ren] at h1
    | x => simp [Ob.ren] at h1
    | bag => simp [Ob.ren] at h1
    | gv => simp [Ob.ren] at h1
    | vec e' w' rows' fz' =>
      simp only [Ob.ren, Option.some.injEq, Ob.vec.injEq] at h1
      obtain ⟨rfl, rfl, rfl, rfl⟩ := h1
      refine ⟨_, _, _, _, g1, h2, h3, fun hn => ?_⟩
      rw [← g3]
      exact h4 hn
  | .csl wd rows, v, _, h => by
    simp only [A.ren, A.rep] at h ⊢
    obtain ⟨a, h1, h2, h3⟩ := h
    exact ⟨a, h1, h2, fun a' ha => ⟨(h3 a' ha).1, rowsAt_mono L.R (L.R a'.block) _ _ _ (h3 a' ha).2⟩⟩
  | .clo f caps, v, hc, h => by
    simp only [A.closed] at hc
    simp only [A.ren, A.rep] at h ⊢
    obtain ⟨vs, h1, h2⟩ := h
    exact ⟨vs, h1, repL_unren L caps vs hc h2⟩
  | .agg cs, v, hc, h => by
    simp only [A.closed] at hc
    simp only [A.ren, A.rep] at h ⊢
    obtain ⟨vs, h1, h2, h3⟩ := h
    exact ⟨vs, h1, repL_unren L cs vs hc h2, h3⟩
  | .tup as, v, hc, h => by
    simp only [A.closed] at hc
    simp only [A.ren, A.rep] at h ⊢
    obtain ⟨vs, h1, h2⟩ := h
    exact ⟨vs, h1, repL_unren L as vs hc h2⟩
  | .mp o, v, hc, h => by
    simp only [A.closed] at hc
    obtain ⟨ob, g1, g2, g3⟩ := L.h o hc
    simp only [A.ren, A.rep] at h ⊢
    obtain ⟨b, es, st, h1, h2, h3⟩ := h
    rw [g2] at h2
    cases ob with
    | mp es' st' => exact ⟨b, es', st', g3 ▸ h1, .inl g1, h3⟩
    | bag S n => exact ⟨b, es, st, g3 ▸ h1, .inr ⟨S, n, g1⟩, h3⟩
    | _ => simp [Ob.ren] at h2
  | .vs o n, v, hc, h => by
    simp only [A.closed] at hc
    obtain ⟨ob, g1, g2, g3⟩ := L.h o hc
    simp only [A.ren, A.rep] at h ⊢
    obtain ⟨b, cs, h1, h2, h3⟩ := h
    rw [g2] at h2
    cases ob with
    | var cs' => exact ⟨b, cs', g3 ▸ h1, g1, h3⟩
    | vec => simp [Ob.ren] at h2
    | mp => simp [Ob.ren] at h2
    | it => simp [Ob.ren] at h2
    | x => simp [Ob.ren] at h2
    | bag => simp [Ob.ren] at h2
    | gv => simp [Ob.ren] at h2
  | .bx, v, _, h => by simpa [A.ren, A.rep] using h
  | .itr o, v, hc, h => by
    simp only [A.closed] at hc
    obtain ⟨ob, g1, g2, g3⟩ := L.h o hc
    simp only [A.ren, A.rep] at h ⊢
    obtain ⟨b, s, p, h1, h2, h3⟩ := h
    rw [g2] at h2
    cases ob with
    | it s' p' => exact ⟨b, s', p', g3 ▸ h1, g1, h3⟩
    | _ => simp [Ob.ren] at h2
  | .sub o m k n, v, hc, h => by
    simp only [A.closed] at hc
    obtain ⟨ob, g1, g2, g3⟩ := L.h o hc
    simp only [A.ren, A.rep] at h ⊢
    obtain ⟨e, wd, rows, fz, h1, h2, h3, h4⟩ := h
    rw [g2] at h1
    cases ob with
    | var cs' => simp [Ob.ren] at h1
    | mp => simp [Ob.ren] at h1
    | it => simp [Ob.ren] at h1
    | x => simp [Ob.ren] at h1
    | bag => simp [Ob.ren] at h1
    | gv => simp [Ob.ren] at h1
    | vec e' w' rows' fz' =>
      simp only [Ob.ren, Option.some.injEq, Ob.vec.injEq] at h1
      obtain ⟨rfl, rfl, rfl, rfl⟩ := h1
      refine ⟨_, _, _, _, g1, h2, h3, fun hn => ?_⟩
      rw [← g3]
      rcases h4 hn with q | ⟨b, cap, q1, q2, q3, q4, q5, q6⟩
      · exact .inl q
      · exact .inr ⟨b, cap, q1, q2, q3, q4, q5, L.sz _ _ q6⟩
  | .xo y o, v, hc, h => by
    simp only [A.closed] at hc
    obtain ⟨ob, g1, g2, g3⟩ := L.h o hc
    simp only [A.ren, A.rep] at h ⊢
    obtain ⟨b, k, as, h1, h2, h3⟩ := h
    rw [g2] at h2
    cases ob with
    | x k' as' => exact ⟨b, k', as', g3 ▸ h1, g1, h3⟩
    | _ => simp [Ob.ren] at h2
  | .g o n i, v, hc, h => by
    simp only [A.closed] at hc
    obtain ⟨ob, g1, g2, g3⟩ := L.h o hc
    simp only [A.ren, A.rep] at h ⊢
    obtain ⟨e, cs, h1, h2, h3, h4⟩ := h
    rw [g2] at h1
    cases ob with
    | gv e' cs' =>
      simp only [Ob.ren, Option.some.injEq, Ob.gv.injEq] at h1
      obtain ⟨rfl, rfl⟩ := h1
      rw [renL_length] at h2 h4
      refine ⟨_, _, g1, h2, h3, fun hn => ?_⟩
      rw [← g3]
      exact gRep_le L.sz (h4 hn)
    | _ => simp [Ob.ren] at h1
theorem repL_unren {dom : Nat → Bool} {r : Nat → Nat} {E E' : Env} (L : Env.Unren dom r E E') : ∀ (as : List A) (vs : List Value), closedL dom as = true → repL E (renL r as) vs → repL E' as vs
  | [], vs, _, h => by simpa [renL, repL] using h
  | a :: as, vs, hc, h => by
    simp only [closedL, Bool.and_eq_true] at hc
    simp only [renL, repL] at h ⊢
    obtain ⟨u, us, h1, h2, h3⟩ := h
    exact ⟨u, us, h1, A.rep_unren L a u hc.1 h2, repL_unren L as us hc.2 h3⟩
end
structure FrzS where
  x : A
  upd : List (Nat × Ob)
  rd : List Nat
  side : Prop
structure FrzSL where
  xs : List A
  upd : List (Nat × Ob)
  rd : List Nat
  side : Prop
/-- A value as an argument: slices of the frame's own are shut. -/
def frzS (h : Nat → Option Ob) (wd : Nat) : A → Option FrzS
  | .snil => some ⟨.d (.sl wd []), [], [], True⟩
  | .csl w rows => some ⟨.d (.sl w rows), [], [], True⟩
  | .vec o n => match h o with
    | some (.vec e w rows _) => some ⟨.d (.sl w rows), [(o, .vec e w rows rows.length)], [o], n = rows.length⟩
    | _ => none
  | a => some ⟨a, [], [], True⟩
def frzSL (h : Nat → Option Ob) : List Nat → List A → Option FrzSL
  | _, [] => some ⟨[], [], [], True⟩
  | ws, a :: as => match frzS h (ws.headD 0) a with
    | some f => match frzSL (upds h f.upd) ws.tail as with
      | some g => some ⟨f.x :: g.xs, f.upd ++ g.upd, f.rd ++ g.rd, f.side ∧ g.side⟩
      | none => none
    | none => none
def frzA (h : Nat → Option Ob) (ws : List Nat) : A → Option FrzS
  | .agg cs => match frzSL h ws cs with
    | some g => some ⟨.agg g.xs, g.upd, g.rd, g.side⟩
    | none => none
  | a => frzS h (ws.headD 0) a
def frzAL (h : Nat → Option Ob) : List (List Nat) → List A → Option FrzSL
  | _, [] => some ⟨[], [], [], True⟩
  | ws, a :: as => match frzA h (ws.headD []) a with
    | some f => match frzAL (upds h f.upd) ws.tail as with
      | some g => some ⟨f.x :: g.xs, f.upd ++ g.upd, f.rd ++ g.rd, f.side ∧ g.side⟩
      | none => none
    | none => none
theorem frzS_frz {h : Nat → Option Ob} {wd : Nat} {a : A} {f : FrzS} (hf : frzS h wd a = some f) : (∃ g, frz h wd a = some g ∧ f.x = .d g.x ∧ f.upd = g.upd ∧ f.rd = g.rd ∧ f.side = g.side) ∨ (f.x = a ∧ f.upd = [] ∧ f.rd = [] ∧ f.side = True) := by
  unfold frzS at hf
  split at hf
  · cases hf; exact .inl ⟨_, rfl, rfl, rfl, rfl, rfl⟩
  · cases hf; exact .inl ⟨_, rfl, rfl, rfl, rfl, rfl⟩
  · rename_i o n
    split at hf
    · rename_i ho
      cases hf
      refine .inl ⟨⟨_, _, _, _⟩, ?_, rfl, rfl, rfl, rfl⟩
      simp only [frz, ho]
    · cases hf
  · cases hf; exact .inr ⟨rfl, rfl, rfl, rfl⟩
section
variable {cx : Cx} {β : Nat → Option (Option Nat)} {w : World}
theorem frzS_ok {h : Nat → Option Ob} {wd : Nat} {a : A} {f : FrzS} {v : Value} (rel : Rel cx β h w) (hf : frzS h wd a = some f) (hs : f.side) (hv : a.rep (envOf cx.Xo β h w) v) :
    Rel cx β (upds h f.upd) w ∧ (envOf cx.Xo β h w).Le (envOf cx.Xo β (upds h f.upd) w) ∧ f.x.rep (envOf cx.Xo β (upds h f.upd) w) v := by
  rcases frzS_frz hf with ⟨g, g1, g2, g3, g4, g5⟩ | ⟨g1, g2, g3, g4⟩
  · obtain ⟨r1, L1, x1⟩ := frz_ok rel g1 (g5 ▸ hs) hv
    rw [g2, g3]
    exact ⟨r1, L1, by simpa [A.rep] using x1⟩
  · rw [g1, g2]
    exact ⟨rel, Env.Le.refl _, hv⟩
theorem frzSL_ok : ∀ (as : List A) (ws : List Nat) {h : Nat → Option Ob} {g : FrzSL} {vs : List Value}, Rel cx β h w → frzSL h ws as = some g → g.side → repL (envOf cx.Xo β h w) as vs →
    Rel cx β (upds h g.upd) w ∧ (envOf cx.Xo β h w).Le (envOf cx.Xo β (upds h g.upd) w) ∧ repL (envOf cx.Xo β (upds h g.upd) w) g.xs vs
  | [], ws, h, g, vs, rel, hg, _, hv => by
    simp only [frzSL, Option.some.injEq] at hg
    subst hg
    exact ⟨rel, Env.Le.refl _, hv⟩
  | a :: as, ws, h, g, vs, rel, hg, hs, hv => by
    simp only [frzSL] at hg
    split at hg
    · rename_i f hf
      split at hg
      · rename_i g' hg'
        cases hg
        simp only [repL] at hv
        obtain ⟨u, us, rfl, h1, h2⟩ := hv
        obtain ⟨r1, L1, x1⟩ := frzS_ok rel hf hs.1 h1
        obtain ⟨r2, L2, x2⟩ := frzSL_ok as ws.tail r1 hg' hs.2 (repL_le L1 as us h2)
        simp only [upds_append, repL]
        exact ⟨r2, L1.trans L2, u, us, rfl, A.rep_le L2 _ _ x1, x2⟩
      · cases hg
    · cases hg
theorem frzA_ok {h : Nat → Option Ob} {ws : List Nat} {a : A} {f : FrzS} {v : Value} (rel : Rel cx β h w) (hf : frzA h ws a = some f) (hs : f.side) (hv : a.rep (envOf cx.Xo β h w) v) :
    Rel cx β (upds h f.upd) w ∧ (envOf cx.Xo β h w).Le (envOf cx.Xo β (upds h f.upd) w) ∧ f.x.rep (envOf cx.Xo β (upds h f.upd) w) v := by
  unfold frzA at hf
  split at hf
  · split at hf
    · rename_i cs g hg
      cases hf
      simp only [A.rep] at hv
      obtain ⟨vs, rfl, h1, h2⟩ := hv
      obtain ⟨r1, L1, x1⟩ := frzSL_ok _ ws rel hg hs h1
      refine ⟨r1, L1, ?_⟩
      simp only [A.rep]
      exact ⟨vs, rfl, x1, h2⟩
    · cases hf
  · exact frzS_ok rel hf hs hv
theorem frzAL_ok : ∀ (as : List A) (ws : List (List Nat)) {h : Nat → Option Ob} {g : FrzSL} {vs : List Value}, Rel cx β h w → frzAL h ws as = some g → g.side → repL (envOf cx.Xo β h w) as vs →
    Rel cx β (upds h g.upd) w ∧ (envOf cx.Xo β h w).Le (envOf cx.Xo β (upds h g.upd) w) ∧ repL (envOf cx.Xo β (upds h g.upd) w) g.xs vs
  | [], ws, h, g, vs, rel, hg, _, hv => by
    simp only [frzAL, Option.some.injEq] at hg
    subst hg
    exact ⟨rel, Env.Le.refl _, hv⟩
  | a :: as, ws, h, g, vs, rel, hg, hs, hv => by
    simp only [frzAL] at hg
    split at hg
    · rename_i f hf
      split at hg
      · rename_i g' hg'
        cases hg
        simp only [repL] at hv
        obtain ⟨u, us, rfl, h1, h2⟩ := hv
        obtain ⟨r1, L1, x1⟩ := frzA_ok rel hf hs.1 h1
        obtain ⟨r2, L2, x2⟩ := frzAL_ok as ws.tail r1 hg' hs.2 (repL_le L1 as us h2)
        simp only [upds_append, repL]
        exact ⟨r2, L1.trans L2, u, us, rfl, A.rep_le L2 _ _ x1, x2⟩
      · cases hg
    · cases hg
end
theorem frzS_local {h h2 : Nat → Option Ob} {wd : Nat} {a : A} {f : FrzS} (hf : frzS h wd a = some f) (hr : ∀ i ∈ f.rd, h2 i = h i) : frzS h2 wd a = some f ∧ Keyed f.upd f.rd := by
  unfold frzS at hf ⊢
  split at hf
  · cases hf; exact ⟨rfl, keyed_nil⟩
  · cases hf; exact ⟨rfl, keyed_nil⟩
  · rename_i o n
    split at hf
    · rename_i ho
      cases hf
      have h2o := hr o (by simp)
      simp only [h2o, ho]
      exact ⟨by first | trivial | rfl, by simp [Keyed]⟩
    · cases hf
  · cases hf; exact ⟨rfl, keyed_nil⟩
theorem keyed_append {u1 u2 : List (Nat × Ob)} {r1 r2 : List Nat} (h1 : Keyed u1 r1) (h2 : Keyed u2 r2) : Keyed (u1 ++ u2) (r1 ++ r2) := by
  intro p hp
  rcases List.mem_append.1 hp with hp | hp
  · exact List.mem_append.2 (.inl (h1 p hp))
  · exact List.mem_append.2 (.inr (h2 p hp))
theorem frzSL_local : ∀ (as : List A) (ws : List Nat) {h h2 : Nat → Option Ob} {g : FrzSL}, frzSL h ws as = some g → (∀ i ∈ g.rd, h2 i = h i) → frzSL h2 ws as = some g ∧ Keyed g.upd g.rd
  | [], ws, h, h2, g, hg, _ => by
    simp only [frzSL, Option.some.injEq] at hg ⊢
    subst hg
    exact ⟨by first | trivial | rfl, keyed_nil⟩
  | a :: as, ws, h, h2, g, hg, hr => by
    simp only [frzSL] at hg ⊢
    split at hg
    · rename_i f hf
      split at hg
      · rename_i g' hg'
        cases hg
        obtain ⟨f1, f2⟩ := frzS_local hf (h2 := h2) (fun i hi => hr i (by simp [hi]))
        obtain ⟨g1, g2⟩ := frzSL_local as ws.tail (h2 := upds h2 f.upd) hg' (fun i hi => upds_congr _ _ (hr i (by simp [hi])))
        simp only [f1, g1]
        exact ⟨by first | trivial | rfl, keyed_append f2 g2⟩
      · cases hg
    · cases hg
theorem frzA_local {h h2 : Nat → Option Ob} {ws : List Nat} {a : A} {f : FrzS} (hf : frzA h ws a = some f) (hr : ∀ i ∈ f.rd, h2 i = h i) : frzA h2 ws a = some f ∧ Keyed f.upd f.rd := by
  unfold frzA at hf ⊢
  split at hf
  · split at hf
    · rename_i cs g hg
      cases hf
      obtain ⟨g1, g2⟩ := frzSL_local _ ws (h2 := h2) hg hr
      simp only [g1]
      exact ⟨by first | trivial | rfl, g2⟩
    · cases hf
  · exact frzS_local hf hr
theorem frzAL_local : ∀ (as : List A) (ws : List (List Nat)) {h h2 : Nat → Option Ob} {g : FrzSL}, frzAL h ws as = some g → (∀ i ∈ g.rd, h2 i = h i) → frzAL h2 ws as = some g ∧ Keyed g.upd g.rd
  | [], ws, h, h2, g, hg, _ => by
    simp only [frzAL, Option.some.injEq] at hg ⊢
    subst hg
    exact ⟨by first | trivial | rfl, keyed_nil⟩
  | a :: as, ws, h, h2, g, hg, hr => by
    simp only [frzAL] at hg ⊢
    split at hg
    · rename_i f hf
      split at hg
      · rename_i g' hg'
        cases hg
        obtain ⟨f1, f2⟩ := frzA_local hf (h2 := h2) (fun i hi => hr i (by simp [hi]))
        obtain ⟨g1, g2⟩ := frzAL_local as ws.tail (h2 := upds h2 f.upd) hg' (fun i hi => upds_congr _ _ (hr i (by simp [hi])))
        simp only [f1, g1]
        exact ⟨by first | trivial | rfl, keyed_append f2 g2⟩
      · cases hg
    · cases hg
end Go.Am
namespace Go.Am
variable [T : Tab]
theorem Ob.excl_ren {r : Nat → Nat} {ob : Ob} {i : Nat} : (ob.ren r).excl i ↔ ob.excl i := by cases ob <;> rfl
theorem Ob.grow_ren {r : Nat → Nat} {b b' : Option (Option Nat)} {x y : Ob} (h : Ob.grow b b' x y) : Ob.grow b b' (x.ren r) (y.ren r) := by
  cases x <;> cases y <;> simpa [Ob.grow, Ob.ren, renL_length] using h
theorem Ob.excl_some (ob : Ob) : ∃ i, ob.excl i := by
  cases ob with
  | var cs => exact ⟨0, trivial⟩
  | vec e w rows fz => exact ⟨fz * w, Nat.le_refl _⟩
  | mp es st => exact ⟨0, trivial⟩
  | it s p => exact ⟨0, trivial⟩
  | x k as => exact ⟨0, trivial⟩
  | bag S n => exact ⟨0, trivial⟩
  | gv e cs => exact ⟨0, trivial⟩
theorem Ev.same {Y : Nat → Nat → Prop} {w w' : World} (h : Ev Y w w') {b : Nat} (hb : b < w.heap.size) (hY : ∀ i, ¬ Y b i) : w'.heap[b]? = w.heap[b]? := by
  rcases h.block b hb with e | ⟨c, c', el, e1, e2, e3, e4⟩ | ⟨x, y, e1, e2, e0, e3⟩
  · exact e
  · rw [e1, e2]
    have : c' = c := Array.ext_getElem? fun i => e4 i (hY i)
    rw [this]
  · exact absurd e3 (hY 0)
theorem Ev.sz {Y : Nat → Nat → Prop} {w w' : World} (h : Ev Y w w') {b n : Nat} (hs : ∃ c el, w.heap[b]? = some (.cells c el (0, 0)) ∧ c.size = n) : ∃ c el, w'.heap[b]? = some (.cells c el (0, 0)) ∧ c.size = n := by
  obtain ⟨c, el, h1, h2⟩ := hs
  have hb : b < w.heap.size := by
    rcases Nat.lt_or_ge b w.heap.size with hl | hl
    · exact hl
    · simp [Array.getElem?_eq_none hl] at h1
  rcases h.block b hb with e | ⟨x, y, el', e1, e2, e3, _⟩ | ⟨x, y, e1, e2, e0, e3⟩
  · exact ⟨c, el, e.trans h1, h2⟩
  · rw [h1] at e1
    simp only [Option.some.injEq, Obj.cells.injEq, and_true] at e1
    obtain ⟨rfl, rfl⟩ := e1
    exact ⟨y, el, e2, by omega⟩
  · rw [h1] at e1; cases e1; exact e0.1.elim
theorem lookO_mem : ∀ (l : List (Nat × Ob)) (o : Nat) (ob : Ob), lookO l o = some ob → (o, ob) ∈ l
  | [], o, ob, h => by simp [lookO] at h
  | (k, v) :: l, o, ob, h => by
    simp only [lookO] at h
    by_cases hk : k = o
    · subst hk; simp only [if_true, Option.some.injEq] at h; subst h; simp
    · simp only [hk, if_false] at h; exact List.mem_cons_of_mem _ (lookO_mem l o ob h)
/-- The objects that come back, under the caller's numbers. -/
theorem upds_back {r : Nat → Nat} : ∀ (l : List (Nat × Ob)) (h : Nat → Option Ob), (l.map (·.1)).Nodup → (∀ o o', inO l o = true → inO l o' = true → r o = r o' → o = o') → ∀ o ob, lookO l o = some ob → upds h (l.map fun p => (r p.1, p.2.ren r)) (r o) = some (ob.ren r)
  | [], h, _, _, o, ob, hl => by simp [lookO] at hl
  | (k, v) :: l, h, hn, hi, o, ob, hl => by
    simp only [List.map_cons, List.nodup_cons] at hn
    have hmem : ∀ j, inO l j = true → inO ((k, v) :: l) j = true := by
      intro j hj
      unfold inO at hj ⊢
      simp only [lookO]
      split
      · rfl
      · exact hj
    have hi' : ∀ o o', inO l o = true → inO l o' = true → r o = r o' → o = o' := fun o o' h1 h2 => hi o o' (hmem o h1) (hmem o' h2)
    simp only [lookO] at hl
    simp only [List.map_cons, upds]
    by_cases hk : k = o
    · subst hk
      simp only [if_true, Option.some.injEq] at hl
      subst hl
      rw [upds_not]
      · simp
      · intro hm
        simp only [List.map_map, List.mem_map, Function.comp] at hm
        obtain ⟨p, hp, hpk⟩ := hm
        have hin : inO l p.1 = true := by
          obtain ⟨x, hx⟩ : ∃ x, lookO l p.1 = some x := by
            clear hpk hi hi' hmem hn
            induction l with
            | nil => simp at hp
            | cons q l ih =>
              simp only [lookO]
              by_cases hq : q.1 = p.1
              · exact ⟨q.2, by simp [hq]⟩
              · rcases List.mem_cons.1 hp with rfl | hp
                · exact absurd rfl hq
                · obtain ⟨x, hx⟩ := ih hp
                  exact ⟨x, by simp [hq, hx]⟩
          unfold inO
          rw [hx]
          rfl
        have heq := hi p.1 k (hmem _ hin) (by unfold inO; simp [lookO]) hpk
        exact hn.1 (List.mem_map.2 ⟨p, hp, heq⟩)
    · simp only [hk, if_false] at hl
      exact upds_back l _ hn.2 hi' o ob hl
theorem upds_back_not {r : Nat → Nat} {l : List (Nat × Ob)} {h : Nat → Option Ob} {j : Nat} (hj : ∀ o, inO l o = true → r o ≠ j) : upds h (l.map fun p => (r p.1, p.2.ren r)) j = h j := by
  refine upds_not _ _ fun hm => ?_
  simp only [List.map_map, List.mem_map, Function.comp] at hm
  obtain ⟨p, hp, hpk⟩ := hm
  refine hj p.1 ?_ hpk
  clear hj hpk
  induction l with
  | nil => simp at hp
  | cons q l ih =>
    unfold inO at ih ⊢
    simp only [lookO]
    by_cases hq : q.1 = p.1
    · simp [hq]
    · rcases List.mem_cons.1 hp with rfl | hp
      · exact absurd rfl hq
      · simp only [hq, if_false]; exact ih hp
/-- What is called: a function; the yield of a loop over a function (an object). -/
abbrev Runner := (Nat → Option (Option Nat)) → Array Value → World → (Ending → World → Prop) → Prop
/-- The contract of whatever is called. -/
def GCall (C : Runner) (as : List A) (os : List (Nat × Ob)) (res : A) (os' : List (Nat × Ob)) : Prop :=
  ∀ (Xo : Nat → Nat → Prop) (β : Nat → Option (Option Nat)) (w : World) (vs : List Value), Rel ⟨w, Xo, Xh β (lookO os), β, lookO os⟩ β (lookO os) w → repL (envOf Xo β (lookO os) w) as vs →
    C β vs.toArray w fun en w' => ∃ v β', en = .returned v ∧ Rel ⟨w, Xo, Xh β (lookO os), β, lookO os⟩ β' (lookO os') w' ∧ res.rep (envOf Xo β' (lookO os') w') v
open Classical in
theorem GCall.ofV {C C' : Runner} (hmono : ∀ β args w (R R' : Ending → World → Prop), C β args w R → (∀ e w, R e w → R' e w) → C β args w R') {as : List A} {h : Nat → Option Ob} {g : FrzSL}
    (hz : ∀ h2, (∀ i ∈ g.rd, h2 i = h i) → ∀ (cx : Cx) (β : Nat → Option (Option Nat)) (w : World) (vs : List Value), Rel cx β h2 w → repL (envOf cx.Xo β h2 w) as vs →
      Rel cx β (upds h2 g.upd) w ∧ (envOf cx.Xo β h2 w).Le (envOf cx.Xo β (upds h2 g.upd) w) ∧ repL (envOf cx.Xo β (upds h2 g.upd) w) g.xs vs) {cas : List A} {os os' : List (Nat × Ob)} {cres : A} (ac : GCall C cas os cres os')
    (r : Nat → Nat) (hCC : ∀ β βc args w R, (∀ o, inO os o = true → βc o = β (r o)) → C βc args w R → C' β args w R) (hargs : renL r cas = g.xs) (hcl : closedL (inO os) cas = true) (hos : ∀ o ob, lookO os o = some ob → upds h g.upd (r o) = some (ob.ren r) ∧ ob.closed (inO os) = true)
    (hsub : ∀ o, inO os o = true → inO os' o = true) (hinj : ∀ o o', inO os' o = true → inO os' o' = true → r o = r o' → o = o') (hnew : ∀ o, inO os' o = true → inO os o = false → upds h g.upd (r o) = none)
    (hbig : ∀ o, inO os o = true → hdd o = true) (hnd : (os'.map (·.1)).Nodup) (h2 : Nat → Option Ob) (hr2 : ∀ i ∈ g.rd ++ os'.map (fun p => r p.1), h2 i = h i) (cx : Cx) (β : Nat → Option (Option Nat)) (w : World) (vs : List Value) (rel0 : Rel cx β h2 w) (hvs0 : repL (envOf cx.Xo β h2 w) as vs) :
    C' β vs.toArray w fun en w' => ∃ v β', en = .returned v ∧ Rel cx β' (upds h2 (g.upd ++ os'.map (fun p => (r p.1, p.2.ren r)))) w' ∧ (envOf cx.Xo β h2 w).Le (envOf cx.Xo β' (upds h2 (g.upd ++ os'.map (fun p => (r p.1, p.2.ren r)))) w') ∧ (cres.ren r).rep (envOf cx.Xo β' (upds h2 (g.upd ++ os'.map (fun p => (r p.1, p.2.ren r)))) w') v := by
    obtain ⟨rel, L0, hvs⟩ := hz h2 (fun i hi => hr2 i (by simp [hi])) cx β w vs rel0 hvs0
    -- the numbers that the caller has for the callee's objects are among those that are read
    have hrd : ∀ o, inO os' o = true → r o ∈ os'.map (fun p => r p.1) := by
      intro o ho
      unfold inO at ho
      obtain ⟨ob, hob⟩ := Option.isSome_iff_exists.1 ho
      exact List.mem_map.2 ⟨_, lookO_mem _ _ _ hob, rfl⟩
    have hag : ∀ o, inO os' o = true → upds h2 g.upd (r o) = upds h g.upd (r o) := fun o ho => upds_congr _ _ (hr2 _ (List.mem_append.2 (.inr (hrd o ho))))
    have hos2 : ∀ o ob, lookO os o = some ob → upds h2 g.upd (r o) = some (ob.ren r) ∧ ob.closed (inO os) = true := by
      intro o ob ho
      obtain ⟨h3, h4⟩ := hos o ob ho
      exact ⟨(hag o (hsub o (by unfold inO; rw [ho]; rfl))).trans h3, h4⟩
    have hnew2 : ∀ o, inO os' o = true → inO os o = false → upds h2 g.upd (r o) = none := fun o h3 h4 => (hag o h3).trans (hnew o h3 h4)
    generalize hh1 : upds h2 g.upd = h1 at *
    -- the callee's view
    let βc : Nat → Option (Option Nat) := fun o => if inO os o = true then β (r o) else none
    let Xo' : Nat → Nat → Prop := fun b i => cx.Xo b i ∨ ∃ o' ob, h1 o' = some ob ∧ (∀ o, inO os o = true → r o ≠ o') ∧ β o' = some (some b) ∧ ob.excl i
    have hin : ∀ {o ob}, lookO os o = some ob → inO os o = true := fun {o ob} ho => by unfold inO; rw [ho]; rfl
    have hβc : ∀ o, inO os o = true → βc o = β (r o) := fun o ho => if_pos ho
    have hXc : ∀ b i, Xh βc (lookO os) b i → ∃ o, inO os o = true ∧ β (r o) = some (some b) ∧ Xh β h1 b i := by
      rintro b i ⟨o, ob, k1, k2, k3⟩
      have hio := hin k1
      rw [hβc o hio] at k2
      exact ⟨o, hio, k2, r o, ob.ren r, (hos2 o ob k1).1, k2, Ob.excl_ren.2 k3⟩
    have hXsplit : ∀ b i, Xh β h1 b i → (∃ o' ob, h1 o' = some ob ∧ (∀ o, inO os o = true → r o ≠ o') ∧ β o' = some (some b) ∧ ob.excl i) ∨ Xh βc (lookO os) b i := by
      rintro b i ⟨o', ob, k1, k2, k3⟩
      by_cases hp : ∃ o, inO os o = true ∧ r o = o'
      · obtain ⟨o, k4, rfl⟩ := hp
        obtain ⟨obc, hobc⟩ := Option.isSome_iff_exists.1 (show (lookO os o).isSome = true from k4)
        have k5 := (hos2 o obc hobc).1
        rw [k1] at k5
        cases k5
        exact .inr ⟨o, obc, hobc, (hβc o k4).trans k2, Ob.excl_ren.1 k3⟩
      · exact .inl ⟨o', ob, k1, fun o k4 k5 => hp ⟨o, k4, k5⟩, k2, k3⟩
    have U : Env.Unren (inO os) r (envOf cx.Xo β h1 w) (envOf Xo' βc (lookO os) w) := by
      refine ⟨fun b i v hr => ⟨fun hX => ?_, fun hX => ?_, hr.2.2⟩, fun o ho => ?_, fun _ _ h => h⟩
      · rcases hX with hX | ⟨o', ob, k1, _, k2, k3⟩
        · exact hr.1 hX
        · exact hr.2.1 ⟨o', ob, k1, k2, k3⟩
      · obtain ⟨_, _, _, k⟩ := hXc b i hX
        exact hr.2.1 k
      · obtain ⟨obc, hobc⟩ := Option.isSome_iff_exists.1 (show (lookO os o).isSome = true from ho)
        exact ⟨obc, hobc, (hos2 o obc hobc).1, (hβc o ho).symm⟩
    have relc : Rel ⟨w, Xo', Xh βc (lookO os), βc, lookO os⟩ βc (lookO os) w := by
      refine ⟨fun o => ?_, fun o ob bo k1 k2 => ?_, fun o o' b k1 k2 => ?_, fun o b i k1 hX => ?_, fun b i hX => ?_, Ev.refl _ _, fun b i hX => .inr hX, fun o ob k1 => ⟨ob, k1, Ob.grow_refl _ _⟩, fun o k1 => hbig o k1, fun g row hg => rowAt_mono U.R (U.R g) row 0 (rel.tab g row hg), fun g hg => (rel.gi g hg).imp fun _ => U.R _ _ _, rel.tsz⟩
      · by_cases ho : inO os o = true
        · rw [hβc o ho]
          obtain ⟨obc, hobc⟩ := Option.isSome_iff_exists.1 (show (lookO os o).isSome = true from ho)
          rw [rel.dom, (hos2 o obc hobc).1, hobc]
          rfl
        · have h3 : (lookO os o).isSome = false := by unfold inO at ho; simpa using ho
          rw [h3]
          show (if inO os o = true then β (r o) else none).isSome = false
          rw [if_neg ho]
          rfl
      · have hio := hin k1
        rw [hβc o hio] at k2
        obtain ⟨k3, k4⟩ := hos2 o ob k1
        have := rel.obj (r o) _ _ k3 k2
        cases ob with
        | var cs =>
          simp only [Ob.ren, Ob.rep] at this ⊢
          obtain ⟨b, c, el, g1, g2, g3, g4⟩ := this
          exact ⟨b, c, el, g1, g2, repL_unren U _ _ k4 g3, g4⟩
        | vec e wd rows fz =>
          simp only [Ob.ren, Ob.rep] at this ⊢
          obtain ⟨g1, g2, g3⟩ := this
          refine ⟨g1, g2, ?_⟩
          rcases g3 with g3 | ⟨b, c, g3, g4, g5, g6⟩
          · exact .inl g3
          · exact .inr ⟨b, c, g3, g4, rowsAt_mono U.R (fun _ _ h => h) _ _ _ g5, g6⟩
        | mp es st => simpa only [Ob.ren, Ob.rep] using this
        | it s p => simpa only [Ob.ren, Ob.rep] using this
        | bag S n => simpa only [Ob.ren, Ob.rep] using this
        | x k as =>
          simp only [Ob.ren, Ob.rep] at this ⊢
          obtain ⟨b, x, vs, g1, g2, g3, g4⟩ := this
          exact ⟨b, x, vs, g1, g2, g3, repL_unren U _ _ k4 g4⟩
        | gv e cs =>
          simp only [Ob.ren, Ob.rep] at this ⊢
          rcases this with g3 | ⟨b, c, vs, tl, g1, g2, g3, g4, g5⟩
          · exact .inl ⟨g3.1, by cases cs with | nil => rfl | cons a l => simp [renL] at g3⟩
          · exact .inr ⟨b, c, vs, tl, g1, g2, g3, repL_unren U _ _ k4 g4, g5⟩
      · have i1 : inO os o = true := by
          by_cases q : inO os o = true
          · exact q
          · have : βc o = none := if_neg q
            rw [this] at k1; cases k1
        have i2 : inO os o' = true := by
          by_cases q : inO os o' = true
          · exact q
          · have : βc o' = none := if_neg q
            rw [this] at k2; cases k2
        rw [hβc o i1] at k1
        rw [hβc o' i2] at k2
        exact hinj o o' (hsub o i1) (hsub o' i2) (rel.inj _ _ b k1 k2)
      · have i1 : inO os o = true := by
          by_cases q : inO os o = true
          · exact q
          · have : βc o = none := if_neg q
            rw [this] at k1; cases k1
        rw [hβc o i1] at k1
        rcases hX with hX | ⟨o', ob, k2, k3, k4, _⟩
        · exact rel.out _ b i k1 hX
        · exact k3 o i1 (rel.inj _ _ b k1 k4)
      · rcases hX with hX | ⟨o', ob, k2, k3, k4, _⟩
        · exact Nat.lt_of_lt_of_le (rel.bnd b i hX) rel.ev.size
        · exact rel.lt k4
    have hvc : repL (envOf Xo' βc (lookO os) w) cas vs := repL_unren U cas vs hcl (by rw [hargs]; exact hvs)
    refine hCC β βc _ _ _ hβc (hmono _ _ _ _ _ (ac Xo' βc w vs relc hvc) fun en w' hen => ?_)
    obtain ⟨v, β', rfl, R', hres⟩ := hen
    -- back in the caller
    have evw : Ev (Xh βc (lookO os)) w w' := R'.ev
    let β3 : Nat → Option (Option Nat) := fun j => if hj : ∃ o, inO os' o = true ∧ r o = j then β' (Classical.choose hj) else β j
    have hβ3 : ∀ o, inO os' o = true → β3 (r o) = β' o := by
      intro o ho
      have hex : ∃ o', inO os' o' = true ∧ r o' = r o := ⟨o, ho, rfl⟩
      have hc := Classical.choose_spec hex
      have : Classical.choose hex = o := hinj _ _ hc.1 ho hc.2
      show (if hj : ∃ o', inO os' o' = true ∧ r o' = r o then β' (Classical.choose hj) else β (r o)) = β' o
      rw [dif_pos hex, this]
    have hβ3n : ∀ j, (∀ o, inO os' o = true → r o ≠ j) → β3 j = β j := by
      intro j hj
      show (if hj : ∃ o', inO os' o' = true ∧ r o' = j then β' (Classical.choose hj) else β j) = β j
      rw [dif_neg (fun ⟨o, h3, h4⟩ => hj o h3 h4)]
    have hU : upds h2 (g.upd ++ os'.map fun p => (r p.1, p.2.ren r)) = upds h1 (os'.map fun p => (r p.1, p.2.ren r)) := by rw [upds_append, hh1]
    rw [hU]
    have h3P : ∀ o ob, lookO os' o = some ob → upds h1 (os'.map fun p => (r p.1, p.2.ren r)) (r o) = some (ob.ren r) := upds_back os' h1 hnd hinj
    have h3n : ∀ j, (∀ o, inO os' o = true → r o ≠ j) → upds h1 (os'.map fun p => (r p.1, p.2.ren r)) j = h1 j := fun j hj => upds_back_not hj
    generalize upds h1 (os'.map fun p => (r p.1, p.2.ren r)) = h3 at *
    have hin' : ∀ {o ob}, lookO os' o = some ob → inO os' o = true := fun {o ob} ho => by unfold inO; rw [ho]; rfl
    -- objects of the caller's that the callee did not see
    have hother : ∀ {j ob}, h1 j = some ob → (∀ o, inO os o = true → r o ≠ j) → ∀ o, inO os' o = true → r o ≠ j := by
      intro j ob k1 k2 o k3 k4
      by_cases q : inO os o = true
      · exact k2 o q k4
      · have := hnew2 o k3 (by simpa using q)
        rw [k4, k1] at this
        cases this
    have hX3 : ∀ b i, Xh β3 h3 b i → Xh β' (lookO os') b i ∨ ∃ o' ob, h1 o' = some ob ∧ (∀ o, inO os o = true → r o ≠ o') ∧ β o' = some (some b) ∧ ob.excl i := by
      rintro b i ⟨j, ob, k1, k2, k3⟩
      by_cases hp : ∃ o, inO os' o = true ∧ r o = j
      · obtain ⟨o, k4, rfl⟩ := hp
        obtain ⟨obc, hobc⟩ := Option.isSome_iff_exists.1 (show (lookO os' o).isSome = true from k4)
        rw [h3P o obc hobc] at k1
        cases k1
        rw [hβ3 o k4] at k2
        exact .inl ⟨o, obc, hobc, k2, Ob.excl_ren.1 k3⟩
      · have hp' : ∀ o, inO os' o = true → r o ≠ j := fun o k4 k5 => hp ⟨o, k4, k5⟩
        rw [h3n j hp'] at k1
        rw [hβ3n j hp'] at k2
        exact .inr ⟨j, ob, k1, fun o k4 => hp' o (hsub o k4), k2, k3⟩
    have hsz : ∀ b n, (envOf cx.Xo β h1 w).sz b n → (envOf cx.Xo β3 h3 w').sz b n := fun b n hs => evw.sz hs
    have L : (envOf cx.Xo β h1 w).Le (envOf cx.Xo β3 h3 w') := by
      refine ⟨fun b i v hr => ⟨hr.1, fun hX => ?_, evw.cell (fun hX => ?_) hr.2.2⟩, fun j ob k1 => ?_, hsz⟩
      · rcases hX3 b i hX with hX | ⟨o', ob, k1, _, k2, k3⟩
        · rcases R'.own b i hX with q | q
          · have := World.block_lt_of_cell? w _ hr.2.2
            simp at this
            simp only at q
            omega
          · obtain ⟨_, _, _, k⟩ := hXc b i q
            exact hr.2.1 k
        · exact hr.2.1 ⟨o', ob, k1, k2, k3⟩
      · obtain ⟨_, _, _, k⟩ := hXc b i hX
        exact hr.2.1 k
      · by_cases hp : ∃ o, inO os o = true ∧ r o = j
        · obtain ⟨o, k4, rfl⟩ := hp
          obtain ⟨obc, hobc⟩ := Option.isSome_iff_exists.1 (show (lookO os o).isSome = true from k4)
          have k5 := (hos2 o obc hobc).1
          have k1' : h1 (r o) = some ob := k1
          rw [k5] at k1'
          cases k1'
          obtain ⟨obc', g1, g2⟩ := R'.ent o obc hobc
          refine ⟨obc'.ren r, h3P o obc' g1, ?_⟩
          show Ob.grow (β (r o)) (β3 (r o)) _ _
          rw [hβ3 o (hsub o k4), ← hβc o k4]
          exact Ob.grow_ren g2
        · have hp' := hother k1 (fun o k4 k5 => hp ⟨o, k4, k5⟩)
          refine ⟨ob, (h3n j hp').trans k1, ?_⟩
          show Ob.grow (β j) (β3 j) ob ob
          rw [hβ3n j hp']
          exact Ob.grow_refl _ _
    have N : Env.Ren r (envOf Xo' β' (lookO os') w') (envOf cx.Xo β3 h3 w') := by
      refine ⟨fun b i v hr => ⟨fun hX => hr.1 (.inl hX), fun hX => ?_, hr.2.2⟩, fun o ob k1 => ⟨h3P o ob k1, hβ3 o (hin' k1)⟩, fun _ _ h => h⟩
      rcases hX3 b i hX with hX | hX
      · exact hr.2.1 hX
      · exact hr.1 (.inr hX)
    have hwsz : cx.w0.heap.size ≤ w.heap.size := rel.ev.size
    refine ⟨v, β3, rfl, ⟨fun j => ?_, fun j ob bo k1 k2 => ?_, fun j j' b k1 k2 => ?_, fun j b i k1 => ?_, rel.bnd, rel.ev.trans evw fun k i hk hX => ?_, fun b i hX => ?_, fun o ob k1 => ?_, rel.big, fun g row hg => rowAt_mono L.R (L.R g) row 0 (rel.tab g row hg), fun g hg => (rel.gi g hg).imp fun _ => L.R _ _ _, fun g row hg => (rel.tsz g row hg).step evw⟩, L0.trans L, A.rep_ren N _ _ hres⟩
    · by_cases hp : ∃ o, inO os' o = true ∧ r o = j
      · obtain ⟨o, k4, rfl⟩ := hp
        obtain ⟨obc, hobc⟩ := Option.isSome_iff_exists.1 (show (lookO os' o).isSome = true from k4)
        rw [hβ3 o k4, R'.dom, h3P o obc hobc, hobc]
        rfl
      · have hp' : ∀ o, inO os' o = true → r o ≠ j := fun o k4 k5 => hp ⟨o, k4, k5⟩
        rw [hβ3n j hp', h3n j hp', rel.dom]
    · by_cases hp : ∃ o, inO os' o = true ∧ r o = j
      · obtain ⟨o, k4, rfl⟩ := hp
        obtain ⟨obc, hobc⟩ := Option.isSome_iff_exists.1 (show (lookO os' o).isSome = true from k4)
        rw [h3P o obc hobc] at k1
        cases k1
        rw [hβ3 o k4] at k2
        have := R'.obj o obc bo hobc k2
        cases obc with
        | var cs =>
          simp only [Ob.ren, Ob.rep] at this ⊢
          obtain ⟨b, c, el, g1, g2, g3, g4⟩ := this
          exact ⟨b, c, el, g1, g2, repL_ren N _ _ g3, g4⟩
        | vec e wd rows fz =>
          simp only [Ob.ren, Ob.rep] at this ⊢
          obtain ⟨g1, g2, g3⟩ := this
          refine ⟨g1, g2, ?_⟩
          rcases g3 with g3 | ⟨b, c, g3, g4, g5, g6⟩
          · exact .inl g3
          · exact .inr ⟨b, c, g3, g4, rowsAt_mono N.R (fun _ _ h => h) _ _ _ g5, g6⟩
        | mp es st => simpa only [Ob.ren, Ob.rep] using this
        | it s p => simpa only [Ob.ren, Ob.rep] using this
        | bag S n => simpa only [Ob.ren, Ob.rep] using this
        | x k as =>
          simp only [Ob.ren, Ob.rep] at this ⊢
          obtain ⟨b, x, vs, g1, g2, g3, g4⟩ := this
          exact ⟨b, x, vs, g1, g2, g3, repL_ren N _ _ g4⟩
        | gv e cs =>
          simp only [Ob.ren, Ob.rep] at this ⊢
          rcases this with g3 | ⟨b, c, vs, tl, g1, g2, g3, g4, g5⟩
          · exact .inl ⟨g3.1, by rw [g3.2]; rfl⟩
          · exact .inr ⟨b, c, vs, tl, g1, g2, g3, repL_ren N _ _ g4, g5⟩
      · have hp' : ∀ o, inO os' o = true → r o ≠ j := fun o k4 k5 => hp ⟨o, k4, k5⟩
        rw [h3n j hp'] at k1
        rw [hβ3n j hp'] at k2
        refine Ob.rep_le L (fun b hb => evw.same (rel.lt (hb ▸ k2)) fun i hX => ?_) (rel.obj j ob bo k1 k2)
        obtain ⟨o, k4, k5, _⟩ := hXc b i hX
        exact hp' o (hsub o k4) (rel.inj _ _ b k5 (hb ▸ k2))
    · by_cases hp : ∃ o, inO os' o = true ∧ r o = j <;> by_cases hq : ∃ o, inO os' o = true ∧ r o = j'
      · obtain ⟨o, k4, rfl⟩ := hp
        obtain ⟨o', k5, rfl⟩ := hq
        rw [hβ3 o k4] at k1
        rw [hβ3 o' k5] at k2
        rw [R'.inj o o' b k1 k2]
      · obtain ⟨o, k4, rfl⟩ := hp
        have hq' : ∀ o, inO os' o = true → r o ≠ j' := fun o k4 k5 => hq ⟨o, k4, k5⟩
        rw [hβ3 o k4] at k1
        rw [hβ3n j' hq'] at k2
        have hd := rel.dom j'
        rw [k2] at hd
        obtain ⟨ob, hob⟩ := Option.isSome_iff_exists.1 hd.symm
        obtain ⟨i, hi⟩ := Ob.excl_some ob
        exact absurd (.inr ⟨j', ob, hob, fun o k6 => hq' o (hsub o k6), k2, hi⟩) (R'.out o b i k1)
      · obtain ⟨o, k4, rfl⟩ := hq
        have hp' : ∀ o, inO os' o = true → r o ≠ j := fun o k4 k5 => hp ⟨o, k4, k5⟩
        rw [hβ3 o k4] at k2
        rw [hβ3n j hp'] at k1
        have hd := rel.dom j
        rw [k1] at hd
        obtain ⟨ob, hob⟩ := Option.isSome_iff_exists.1 hd.symm
        obtain ⟨i, hi⟩ := Ob.excl_some ob
        exact absurd (.inr ⟨j, ob, hob, fun o k6 => hp' o (hsub o k6), k1, hi⟩) (R'.out o b i k2)
      · rw [hβ3n j (fun o k4 k5 => hp ⟨o, k4, k5⟩)] at k1
        rw [hβ3n j' (fun o k4 k5 => hq ⟨o, k4, k5⟩)] at k2
        exact rel.inj j j' b k1 k2
    · by_cases hp : ∃ o, inO os' o = true ∧ r o = j
      · obtain ⟨o, k4, rfl⟩ := hp
        rw [hβ3 o k4] at k1
        exact fun hX => R'.out o b i k1 (.inl hX)
      · rw [hβ3n j (fun o k4 k5 => hp ⟨o, k4, k5⟩)] at k1
        exact rel.out j b i k1
    · obtain ⟨_, _, _, k⟩ := hXc k i hX
      rcases rel.own _ i k with q | q
      · omega
      · exact q
    · rcases hX3 b i hX with hX | ⟨o', ob, k1, _, k2, k3⟩
      · rcases R'.own b i hX with q | q
        · exact .inl (by simp only at q; omega)
        · obtain ⟨_, _, _, k⟩ := hXc b i q
          exact rel.own b i k
      · exact rel.own b i ⟨o', ob, k1, k2, k3⟩
    · obtain ⟨ob1, g1, g2⟩ := rel.ent o ob k1
      obtain ⟨ob2, g3, g4⟩ := L.h o ob1 g1
      exact ⟨ob2, g3, Ob.grow_trans g2 g4⟩
theorem FnCall.ofV {P : Program} {f : FuncId} {as : List A} {h : Nat → Option Ob} {g : FrzSL} (hzk : Keyed g.upd g.rd)
    (hz : ∀ h2, (∀ i ∈ g.rd, h2 i = h i) → ∀ (cx : Cx) (β : Nat → Option (Option Nat)) (w : World) (vs : List Value), Rel cx β h2 w → repL (envOf cx.Xo β h2 w) as vs →
      Rel cx β (upds h2 g.upd) w ∧ (envOf cx.Xo β h2 w).Le (envOf cx.Xo β (upds h2 g.upd) w) ∧ repL (envOf cx.Xo β (upds h2 g.upd) w) g.xs vs) {cas : List A} {os os' : List (Nat × Ob)} {cres : A} (ac : ACall P f cas os cres os')
    (r : Nat → Nat) (hargs : renL r cas = g.xs) (hcl : closedL (inO os) cas = true) (hos : ∀ o ob, lookO os o = some ob → upds h g.upd (r o) = some (ob.ren r) ∧ ob.closed (inO os) = true)
    (hsub : ∀ o, inO os o = true → inO os' o = true) (hinj : ∀ o o', inO os' o = true → inO os' o' = true → r o = r o' → o = o') (hnew : ∀ o, inO os' o = true → inO os o = false → upds h g.upd (r o) = none)
    (hbig : ∀ o, inO os o = true → hdd o = true) (hnd : (os'.map (·.1)).Nodup) :
    FnCall P f as h ⟨True, cres.ren r, g.upd ++ os'.map (fun p => (r p.1, p.2.ren r)), g.rd ++ os'.map (fun p => r p.1)⟩ where
  fn := ac.fn
  keyed := keyed_append hzk (by intro p hp; simp only [List.mem_map] at hp ⊢; obtain ⟨q, hq, rfl⟩ := hp; exact ⟨q, hq, rfl⟩)
  calls := GCall.ofV (C := fun _ args w R => Calls P f args w R) (C' := fun _ args w R => Calls P f args w R) (fun _ _ _ _ _ hc hm => Calls.mono hc hm) hz ac.calls r (fun _ _ _ _ _ _ hc => hc) hargs hcl hos hsub hinj hnew hbig hnd
theorem FnCall.of {P : Program} {f : FuncId} {as : List A} {h : Nat → Option Ob} {cws : List (List Nat)} {g : FrzSL} (hz : frzAL h cws as = some g) (hgs : g.side) {cas : List A} {os os' : List (Nat × Ob)} {cres : A} (ac : ACall P f cas os cres os')
    (r : Nat → Nat) (hargs : renL r cas = g.xs) (hcl : closedL (inO os) cas = true) (hos : ∀ o ob, lookO os o = some ob → upds h g.upd (r o) = some (ob.ren r) ∧ ob.closed (inO os) = true)
    (hsub : ∀ o, inO os o = true → inO os' o = true) (hinj : ∀ o o', inO os' o = true → inO os' o' = true → r o = r o' → o = o') (hnew : ∀ o, inO os' o = true → inO os o = false → upds h g.upd (r o) = none)
    (hbig : ∀ o, inO os o = true → hdd o = true) (hnd : (os'.map (·.1)).Nodup) :
    FnCall P f as h ⟨True, cres.ren r, g.upd ++ os'.map (fun p => (r p.1, p.2.ren r)), g.rd ++ os'.map (fun p => r p.1)⟩ :=
  FnCall.ofV (frzAL_local as cws hz (fun _ _ => rfl)).2 (fun h2 hr2 cx β w vs rel hv => frzAL_ok as cws rel (frzAL_local as cws hz (h2 := h2) hr2).1 hgs hv) ac r hargs hcl hos hsub hinj hnew hbig hnd
end Go.Am
