/- Conditions over finite domains (part Wk) -/
import Derived.Test.YtiagabnddihchaaGreatDoorWj
import Derived.Test.YtiagabnddihchaaGreatDoorWe
set_option linter.all false
namespace Go.Proofs.YtiagabnddihchaaGreatDoor
open Go.Am
attribute [local simp, local push_cast] num boo str ints aV aTab aRow rRow vE
set_option linter.unusedVariables false
set_option maxRecDepth 100000
set_option maxHeartbeats 4000000
/-! Solve. -/
abbrev slv (ks ps : List Nat) (asg bd : Code) (st : LS) (e : Ex) (r : A) : List (Nat × Ob) := [(1000, .x (.lp ks ps asg bd st) [.ptr 1001 0, .ptr 1002 0, .ptr 1003 0]), (1001, .var (vE e)), (1002, .var [r]), (1003, .var [num 0])]
theorem c_slv1 {d : List Row} (hf : Full d) (hl : d.length ≤ 12) (hp : prodL d ≤ 5000) (hll : ∀ l ∈ d, l.length ≤ 5000) (e : Ex) (ks ps : List Nat) (asg bd : Code) {N : Nat} (hN : N + 1 = prodL d)
    (hc : ∀ k, k < prodL d → AYield Tryz.prog 1000 [num k, .vec 1009 d.length] (slv ks ps asg bd .ready e .snil ++ [(1009, xOb (ptM d k) 0)]) (boo true) (slv ks ps asg bd .ready e .snil ++ [(1009, xOb (ptM d k) 0)])) :
    ACall Tryz.prog 51 [.xo true 1000, .ptr 1004 0] (slv ks ps asg bd .ready e .snil ++ [(1004, .var [aTab d])]) (.tup []) (slv ks ps asg bd .ready e .snil ++ [(1004, .var [aTab d])]) := by
  refine enterq mixed ttok Tryz.func51 Tryz.ntmps51 Tryz.results51 ?_
  simp -implicitDefEqProofs only [List.cons_append, List.nil_append, argT, aTab, ↓steps, push_cast, simprocAttr, tte]
  refine callx_ofV [(1000, 1000), (1001, 1001), (1002, 1002), (1003, 1003)] (view_raw _ _) (c_eachY hf hl hp hll e hN hc) (by simp [vE, ends, bs]) (by simp [ends, bs]) (by simp [vE, ends]) (by simp [idsOk, lookO, updO, ren1]) ?_
  simp -implicitDefEqProofs only [↓steps, push_cast, simprocAttr, tte]
  exact ret_as trivial rfl (by simp [vE, ends]) (by simp [vE, ends])
theorem c_slv1s {d : List Row} (hf : Full d) (hl : d.length ≤ 12) (hp : prodL d ≤ 5000) (hll : ∀ l ∈ d, l.length ≤ 5000) (e : Ex) (ks ps : List Nat) (asg bd : Code) {N : Nat} (hN : N < prodL d)
    (hc : ∀ k, k < N → AYield Tryz.prog 1000 [num k, .vec 1009 d.length] (slv ks ps asg bd .ready e .snil ++ [(1009, xOb (ptM d k) 0)]) (boo true) (slv ks ps asg bd .ready e .snil ++ [(1009, xOb (ptM d k) 0)]))
    (hs : AYield Tryz.prog 1000 [num N, .vec 1009 d.length] (slv ks ps asg bd .ready e .snil ++ [(1009, xOb (ptM d N) 0)]) (boo false) (slv ks ps asg bd (.done .ret) e (.d (.sl 3 (rowsOf rV (ptM d N)))) ++ [(1009, xOb (ptM d N) d.length)])) :
    ACall Tryz.prog 51 [.xo true 1000, .ptr 1004 0] (slv ks ps asg bd .ready e .snil ++ [(1004, .var [aTab d])]) (.tup []) (slv ks ps asg bd (.done .ret) e (.d (.sl 3 (rowsOf rV (ptM d N)))) ++ [(1004, .var [aTab d])]) := by
  refine enterq mixed ttok Tryz.func51 Tryz.ntmps51 Tryz.results51 ?_
  simp -implicitDefEqProofs only [List.cons_append, List.nil_append, argT, aTab, ↓steps, push_cast, simprocAttr, tte]
  refine callx_ofV [(1000, 1000), (1001, 1001), (1002, 1002), (1003, 1003)] (view_raw _ _) (c_eachYs hf hl hp hll e hN hc hs) (by simp [vE, ends, bs]) (by simp [ends, bs]) (by simp [vE, ends]) (by simp [idsOk, lookO, updO, ren1]) ?_
  simp -implicitDefEqProofs only [↓steps, push_cast, simprocAttr, tte]
  exact ret_as trivial rfl (by simp [vE, ends]) (by simp [vE, ends])
theorem rfx_gen {P : Program} {f : Operand} {ps : Array Tmp} {asg bd : Code} {K : Exit → SL → Prop} {σ : SL} (h : ∀ asg' bd', asg = asg' → bd = bd' → rfx P f ps asg' bd' K σ) : rfx P f ps asg bd K σ := h _ _ rfl rfl
/-- The first point of a kind. -/
def holdsAt (d : List Row) (e : Ex) (k : Nat) : Bool := truthM (evalM (ptM d k) e) == 1
theorem c_solveX {d : List Row} (hf : Full d) (hl : d.length ≤ 12) (hp : prodL d ≤ 5000) (hll : ∀ l ∈ d, l.length ≤ 5000) (e : Ex) (ho : Ok12 e) (hV : ACall Tryz.prog 37 [aTab d, aE e] [] (num 0) [])
    (hn : ∀ k, k < prodL d → holdsAt d e k = false) :
    ACall Tryz.prog 12 [aTab d, aE e] [] (.tup [.d (.sl 3 []), num 12]) [] := by
  rw [aE_eq] at hV ⊢
  refine enterqM mixed ttok Tryz.func12 Tryz.ntmps12 Tryz.results12 ?_
  simp -implicitDefEqProofs only [argT, aTab, ↓steps, push_cast, simprocAttr, tte]
  refine callq [[1], [0, 0, 0, 0, 0, 6]] [] (hV) ?_
  simp -implicitDefEqProofs only [↓steps, push_cast, simprocAttr, tte]
  refine rfx_gen fun asg bd hA hB => ?_
  refine rf_intro (tt := tt) [(3, .ptr 3 0), (4, .ptr 4 0), (5, .ptr 5 0)] 600 1000000 rfl ⟨rfl, rfl, rfl, trivial⟩ rfl rfl (by omega) (by omega) ?_
  have hY : ∀ k, k < prodL d → AYield Tryz.prog 1000 [num k, .vec 1009 d.length] (slv [3, 4, 5] [16, 17] asg bd .ready e .snil ++ [(1009, xOb (ptM d k) 0)]) (boo true) (slv [3, 4, 5] [16, 17] asg bd .ready e .snil ++ [(1009, xOb (ptM d k) 0)]) := by
    intro k hk
    have hxl := ptM_length d k
    have hh := hn k hk
    unfold holdsAt at hh
    refine AYield.enter mixed ttok rfl rfl ?_
    rw [← hA]
    simp -implicitDefEqProofs only [setPs, zipT, slv, xOb, List.cons_append, List.nil_append, ↓steps, push_cast, simprocAttr, tte]
    refine asgK_n rfl ?_
    rw [← hB]
    simp -implicitDefEqProofs only [↓steps, push_cast, simprocAttr, tte]
    refine callx_seen (xs := [aE e, aRow (ptM d k)]) [1009] (c_holds e (ptM d k) ho) (fun h2 hr => seen_ev e (hr 1009 (by simp)) hxl.symm) ?_
    simp -implicitDefEqProofs only [hh, ↓steps, push_cast, simprocAttr, tte]
    exact rndK_n rfl (retx_of [0] rfl trivial trivial rfl rfl (by simp [ends]) (by simp [ends]))
  have hpp := prod_pos hf
  refine callx_ofV [(1000, 600), (1001, 3), (1002, 4), (1003, 5), (1004, 2)] (view_raw _ _) (c_slv1 hf hl hp hll e [3, 4, 5] [16, 17] asg bd (N := prodL d - 1) (by omega) hY) (by simp [vE, slv, rRow, ends, bs]) (by simp [ends, bs]) (by simp [vE, slv, rRow, ends]) (by simp [idsOk, lookO, updO, ren1]) ?_
  simp -implicitDefEqProofs only [vE, slv, ↓steps, push_cast, simprocAttr, tte]
  refine jmpK_n rfl ?_
  simp -implicitDefEqProofs only [↓steps, push_cast, simprocAttr, tte]
  refine ⟨⟨[(4, .ptr 4 0), (5, .ptr 5 0)], [(4, .var [.snil]), (5, .var [num 12])]⟩, ⟨by simp [ends], by simp [ends], by simp [keepM, hdd, inO, lookO], by simp [noMk]⟩, ?_⟩
  simp -implicitDefEqProofs only [↓steps, push_cast, simprocAttr, tte]
  refine retx_tup [[3], []] rfl (by simp) (by simp) ?_ rfl trivial (by simp [ends])
  rfl
theorem c_solveS {d : List Row} (hf : Full d) (hl : d.length ≤ 12) (hp : prodL d ≤ 5000) (hll : ∀ l ∈ d, l.length ≤ 5000) (e : Ex) (ho : Ok12 e) (hV : ACall Tryz.prog 37 [aTab d, aE e] [] (num 0) [])
    {N : Nat} (hN : N < prodL d) (hn : ∀ k, k < N → holdsAt d e k = false) (hh0 : holdsAt d e N = true) :
    ACall Tryz.prog 12 [aTab d, aE e] [] (.tup [aRow (ptM d N), num 0]) [] := by
  rw [aE_eq] at hV ⊢
  refine enterqM mixed ttok Tryz.func12 Tryz.ntmps12 Tryz.results12 ?_
  simp -implicitDefEqProofs only [argT, aTab, ↓steps, push_cast, simprocAttr, tte]
  refine callq [[1], [0, 0, 0, 0, 0, 6]] [] (hV) ?_
  simp -implicitDefEqProofs only [↓steps, push_cast, simprocAttr, tte]
  refine rfx_gen fun asg bd hA hB => ?_
  refine rf_intro (tt := tt) [(3, .ptr 3 0), (4, .ptr 4 0), (5, .ptr 5 0)] 600 1000000 rfl ⟨rfl, rfl, rfl, trivial⟩ rfl rfl (by omega) (by omega) ?_
  have hY : ∀ k, k < N → AYield Tryz.prog 1000 [num k, .vec 1009 d.length] (slv [3, 4, 5] [16, 17] asg bd .ready e .snil ++ [(1009, xOb (ptM d k) 0)]) (boo true) (slv [3, 4, 5] [16, 17] asg bd .ready e .snil ++ [(1009, xOb (ptM d k) 0)]) := by
    intro k hk
    have hxl := ptM_length d k
    have hh := hn k hk
    unfold holdsAt at hh
    refine AYield.enter mixed ttok rfl rfl ?_
    rw [← hA]
    simp -implicitDefEqProofs only [setPs, zipT, slv, xOb, List.cons_append, List.nil_append, ↓steps, push_cast, simprocAttr, tte]
    refine asgK_n rfl ?_
    rw [← hB]
    simp -implicitDefEqProofs only [↓steps, push_cast, simprocAttr, tte]
    refine callx_seen (xs := [aE e, aRow (ptM d k)]) [1009] (c_holds e (ptM d k) ho) (fun h2 hr => seen_ev e (hr 1009 (by simp)) hxl.symm) ?_
    simp -implicitDefEqProofs only [hh, ↓steps, push_cast, simprocAttr, tte]
    exact rndK_n rfl (retx_of [0] rfl trivial trivial rfl rfl (by simp [ends]) (by simp [ends]))
  have hS : AYield Tryz.prog 1000 [num N, .vec 1009 d.length] (slv [3, 4, 5] [16, 17] asg bd .ready e .snil ++ [(1009, xOb (ptM d N) 0)]) (boo false) (slv [3, 4, 5] [16, 17] asg bd (.done .ret) e (.d (.sl 3 (rowsOf rV (ptM d N)))) ++ [(1009, xOb (ptM d N) d.length)]) := by
    have hxl := ptM_length d N
    have hh := hh0
    unfold holdsAt at hh
    refine AYield.enter mixed ttok rfl rfl ?_
    rw [← hA]
    simp -implicitDefEqProofs only [setPs, zipT, slv, xOb, List.cons_append, List.nil_append, ↓steps, push_cast, simprocAttr, tte]
    refine asgK_n rfl ?_
    rw [← hB]
    simp -implicitDefEqProofs only [↓steps, push_cast, simprocAttr, tte]
    refine callx_seen (xs := [aE e, aRow (ptM d N)]) [1009] (c_holds e (ptM d N) ho) (fun h2 hr => seen_ev e (hr 1009 (by simp)) hxl.symm) ?_
    simp -implicitDefEqProofs only [hh, ↓steps, push_cast, simprocAttr, tte]
    rw [← hxl]
    refine callq [[3]] [] (c_cloneV (ptM d N) (by omega)) ?_
    simp -implicitDefEqProofs only [↓steps, push_cast, simprocAttr, tte]
    exact rndK_r rfl (retx_of [0] rfl trivial trivial rfl rfl (by simp [ends]) (by simp [ends]))
  refine callx_ofV [(1000, 600), (1001, 3), (1002, 4), (1003, 5), (1004, 2)] (view_raw _ _) (c_slv1s hf hl hp hll e [3, 4, 5] [16, 17] asg bd hN hY hS) (by simp [vE, slv, rRow, ends, bs]) (by simp [ends, bs]) (by simp [vE, slv, rRow, ends]) (by simp [idsOk, lookO, updO, ren1]) ?_
  simp -implicitDefEqProofs only [vE, slv, ↓steps, push_cast, simprocAttr, tte]
  refine jmpK_r rfl ?_
  simp -implicitDefEqProofs only [↓steps, push_cast, simprocAttr, tte]
  refine ⟨⟨[(4, .ptr 4 0), (5, .ptr 5 0)], [(4, .var [.d (.sl 3 (rowsOf rV (ptM d N)))]), (5, .var [num 0])]⟩, ⟨by simp [ends], by simp [ends], by simp [keepM, hdd, inO, lookO], by simp [noMk]⟩, ?_⟩
  simp -implicitDefEqProofs only [↓steps, push_cast, simprocAttr, tte]
  refine retx_tup [[3], []] rfl (by simp) (by simp) ?_ rfl trivial (by simp [ends])
  rfl
end Go.Proofs.YtiagabnddihchaaGreatDoor
namespace Go.Proofs.YtiagabnddihchaaGreatDoor
open Go.Am
attribute [local simp, local push_cast] num boo str ints aV aTab aRow rRow vE
set_option linter.unusedVariables false
set_option maxRecDepth 100000
set_option maxHeartbeats 4000000
/-! slices.SortedFunc of slices.Values. -/
theorem c_values (l : Row) : ACall Tryz.prog 107 [aRow l] [] (.clo 127 [.ptr 1000 0]) [(1000, .var [aRow l])] := by
  refine enterq mixed ttok Tryz.func107 Tryz.ntmps107 Tryz.results107 ?_
  simp -implicitDefEqProofs only [argT, ↓steps, push_cast, simprocAttr, tte]
  refine ret_ren 1 1000 trivial (by decide) (by decide) rfl (by simp [A.ren, renL, ren1to]) (by simp [A.closed, closedL, inO, lookO]) ?_ ?_
  · simp [renO, Ob.ren, A.ren, renL, ren1to, ends]
  · simp [renO, ren1to, ends]
abbrev asq (ks ps : List Nat) (asg bd : Code) (st : LS) (l : Row) (o k : Nat) : List (Nat × Ob) := [(1000, .x (.lp ks ps asg bd st) [.ptr 1002 0]), (1002, .var [.vec o k]), (o, .vec 53 3 (rowsOf rV (l.take k)) 0)]
def VS (l : Row) (ks ps : List Nat) (asg bd : Code) (k : Nat) : SL :=
  ⟨[(7, .d (.lit (.int .i64 k))), (6, .d (.lit (.int .i64 l.length))), (5, aRow l), (0, .xo true 1000)], asq ks ps asg bd .ready l 500 k ++ [(1001, .var [aRow l])]⟩
theorem c_vals1 (l : Row) (hl : l.length ≤ 1000000) (ks ps : List Nat) (asg bd : Code)
    (hc : ∀ k, k < l.length → AYield Tryz.prog 1000 [aV (l.getD k default)] (asq ks ps asg bd .ready l 1003 k) (boo true) (asq ks ps asg bd .ready l 1003 (k + 1))) :
    ACall Tryz.prog 127 [.xo true 1000, .ptr 1001 0] [(1000, .x (.lp ks ps asg bd .ready) [.ptr 1002 0]), (1001, .var [aRow l]), (1002, .var [.snil])] (.tup [])
      [(1000, .x (.lp ks ps asg bd .ready) [.ptr 1002 0]), (1001, .var [aRow l]), (1002, .var [.vec 1003 l.length]), (1003, .vec 53 3 (rowsOf rV l) 0)] := by
  refine enterq mixed ttok Tryz.func127 Tryz.ntmps127 Tryz.results127 ?_
  simp -implicitDefEqProofs only [argT, ↓steps, push_cast, simprocAttr, tte]
  refine loop_gen mixed ttok (fun k : Nat => VS l ks ps asg bd k) (fun k => l.length - k) (fun k => k ≤ l.length) 0 (Nat.zero_le _) ?_ ?_
  · exact (Weak.nilCellL 1002 0 500 53 3 rfl rfl rfl).trans (Weak.keepL (by simp [VS, ends]) (by simp [VS, rowsOf, ends]) (by simp [VS, ends]))
  intro I hI k hk
  simp -implicitDefEqProofs only [VS, List.cons_append, List.nil_append, ↓steps, push_cast, simprocAttr, tte]
  refine bcase_intro (fun h => ?_) fun h => ?_
  · have h' : k < l.length := by simpa using h
    have hw := wrap_succ h' (by omega)
    have hcn := hc k h'
    simp only [asq] at hcn
    refine ⟨⟨by omega, by omega⟩, ?_⟩
    refine callx_ofVy [(1000, 1000), (1002, 1002), (1003, 500)] (view_raw _ _) hcn rfl rfl (by simp [ends, bs]) (by simp [ends, bs]) (by simp [ends]) (by simp [idsOk, lookO, updO, ren1]) ?_
    simp -implicitDefEqProofs only [↓steps, push_cast, simprocAttr, tte]
    exact gen_again hI (k + 1) h' (by show l.length - (k + 1) < l.length - k; omega) (Weak.keepL (by simp [VS, hw, ends]) (by simp [VS, ends]) (by simp [VS, ends]))
  have hkk : k = l.length := by have := of_decide_eq_false h; omega
  subst hkk
  rw [List.take_length]
  refine ret_ren 500 1003 trivial (by decide) (by decide) rfl rfl rfl ?_ ?_
  · simp [renO, Ob.ren, A.ren, renL, ren1to, ends]
  · simp [renO, ren1to, ends]
theorem c_appseq (l : Row) (hl : l.length ≤ 1000000) :
    ACall Tryz.prog 141 [.snil, .clo 127 [.ptr 1000 0]] [(1000, .var [aRow l])] (.vec 1001 l.length) [(1000, .var [aRow l]), (1001, .vec 53 3 (rowsOf rV l) 0)] := by
  refine enterqM mixed ttok Tryz.func141 Tryz.ntmps141 Tryz.results141 ?_
  simp -implicitDefEqProofs only [argT, ↓steps, push_cast, simprocAttr, tte]
  refine rfx_gen fun asg bd hA hB => ?_
  refine rf_intro (tt := tt) [(2, .ptr 2 0)] 600 1000000 rfl ⟨rfl, trivial⟩ rfl rfl (by omega) (by omega) ?_
  have hY : ∀ k, k < l.length → AYield Tryz.prog 1000 [aV (l.getD k default)] (asq [2] [7] asg bd .ready l 1003 k) (boo true) (asq [2] [7] asg bd .ready l 1003 (k + 1)) := by
    intro k hk
    have hts := take_snoc l k hk
    have htl : (l.take k).length = k := by rw [List.length_take]; omega
    refine AYield.enter mixed ttok rfl rfl ?_
    rw [← hA]
    simp -implicitDefEqProofs only [setPs, zipT, asq, List.cons_append, List.nil_append, ↓steps, push_cast, simprocAttr, tte]
    refine asgK_n rfl ?_
    rw [← hB]
    simp -implicitDefEqProofs only [↓steps, push_cast, simprocAttr, tte]
    refine ⟨⟨htl.symm, by omega⟩, rndK_n rfl (retx_of [0] rfl trivial trivial rfl rfl ?_ (by simp [ends]))⟩
    rw [hts, htl]
    simp [ends]
  refine callx_ofV [(1000, 600), (1001, 1000), (1002, 2), (1003, 501)] (view_raw _ _) (c_vals1 l hl [2] [7] asg bd hY) (by simp [rRow, ends, bs]) (by simp [ends, bs]) (by simp [rRow, ends]) (by simp [idsOk, lookO, updO, ren1]) ?_
  simp -implicitDefEqProofs only [↓steps, push_cast, simprocAttr, tte]
  refine jmpK_n rfl ?_
  simp -implicitDefEqProofs only [↓steps, push_cast, simprocAttr, tte]
  refine ⟨⟨[(4, .vec 501 l.length)], [(1000, .var [aRow l]), (501, .vec 53 3 (rowsOf rV l) 0)]⟩, ⟨by simp [ends], by simp [ends], by simp [keepM, hdd, inO, lookO], by simp [noMk]⟩, ?_⟩
  simp -implicitDefEqProofs only [↓steps, push_cast, simprocAttr, tte]
  refine ret_ren 501 1001 trivial (by decide) (by decide) rfl (by simp [A.ren, renL, ren1to]) (by simp [A.closed, closedL, inO, lookO]) ?_ ?_
  · simp [renO, Ob.ren, A.ren, renL, ren1to, ends]
  · simp [renO, ren1to, ends]
theorem c_collect (l : Row) (hl : l.length ≤ 1000000) :
    ACall Tryz.prog 125 [.clo 127 [.ptr 1000 0]] [(1000, .var [aRow l])] (.vec 1001 l.length) [(1000, .var [aRow l]), (1001, .vec 53 3 (rowsOf rV l) 0)] := by
  refine enterq mixed ttok Tryz.func125 Tryz.ntmps125 Tryz.results125 ?_
  simp -implicitDefEqProofs only [argT, ↓steps, push_cast, simprocAttr, tte]
  refine callx_ofV [(1001, 501)] (view_raw _ _) (c_appseq l hl) (by simp [rRow, ends, bs]) (by simp [ends, bs]) (by simp [rRow, ends]) (by simp [idsOk, lookO, updO, ren1]) ?_
  simp -implicitDefEqProofs only [↓steps, push_cast, simprocAttr, tte]
  refine ret_ren 501 1001 trivial (by decide) (by decide) rfl (by simp [A.ren, renL, ren1to]) (by simp [A.closed, closedL, inO, lookO]) ?_ ?_
  · simp [renO, Ob.ren, A.ren, renL, ren1to, ends]
  · simp [renO, ren1to, ends]
theorem c_sorted (l : Row) (hl : l.length ≤ 1000000) :
    ACall Tryz.prog 106 [.clo 127 [.ptr 1000 0], .clo 108 []] [(1000, .var [aRow l])] (aRow (sortV l)) [(1000, .var [aRow l])] := by
  refine enterq mixed ttok Tryz.func106 Tryz.ntmps106 Tryz.results106 ?_
  simp -implicitDefEqProofs only [argT, ↓steps, push_cast, simprocAttr, tte]
  refine callx_ofV [(1001, 501)] (view_raw _ _) (c_collect l hl) (by simp [rRow, ends, bs]) (by simp [ends, bs]) (by simp [rRow, ends]) (by simp [idsOk, lookO, updO, ren1]) ?_
  simp -implicitDefEqProofs only [↓steps, push_cast, simprocAttr, tte]
  refine callx_fn (fn_sort rfl (by omega)) rfl ?_
  simp -implicitDefEqProofs only [↓steps, push_cast, simprocAttr, tte]
  refine retx_of [3] rfl trivial (by rw [rowsOf_length, sortV_length]) ?_ (by simp [ends]) (by simp [ends]) (by simp [ends])
  rfl
end Go.Proofs.YtiagabnddihchaaGreatDoor
namespace Go.Proofs.YtiagabnddihchaaGreatDoor
open Go.Am
attribute [local simp, local push_cast] num boo str ints aV aTab aRow rRow vE
set_option linter.unusedVariables false
set_option maxRecDepth 100000
set_option maxHeartbeats 4000000
/-! Kinds of domains. -/
def kindGo : Int → Row → Option Int
  | out, [] => some out
  | out, v :: l => if validM v = false then none else if v.kind = 0 then kindGo out l else if out = 0 then kindGo v.kind l else if v.kind ≠ out then none else kindGo out l
def dupS : Row → Bool
  | a :: b :: l => sameM a b || dupS (b :: l)
  | _ => false
def kindM (l : Row) : Int × Bool :=
  if l.length = 0 then (0, false) else match kindGo 0 l with
    | none => (0, false)
    | some out => if dupS (sortV l) = true then (0, false) else (if out = 0 then 1 else out, true)
theorem dupS_drop (l : Row) (n : Nat) (h : n + 1 < l.length) : dupS (l.drop n) = (sameM (l.getD n default) (l.getD (n + 1) default) || dupS (l.drop (n + 1))) := by
  rw [drop_cons l n (by omega), drop_cons l (n + 1) h]
  rfl
theorem dupS_end (l : Row) (n : Nat) (h : l.length ≤ n + 1) : dupS (l.drop n) = false := by
  match hd : l.drop n with
  | [] => rfl
  | [_] => rfl
  | _ :: _ :: _ =>
    have := congrArg List.length hd
    rw [List.length_drop] at this
    simp at this
    omega
def K1s (l : Row) (x : Nat × Int) : SL := ⟨[(14, .d (.lit (.int .i64 x.1))), (13, .d (.lit (.int .i64 l.length))), (12, aRow l), (4, num x.2), (0, aRow l)], []⟩
def K2s (l s : Row) (out : Int) (n : Nat) : SL := ⟨[(8, .d (.lit (.int .i64 n))), (7, aRow s), (4, num out)], []⟩
theorem c_kind (l : Row) (hl : l.length ≤ 1000000) : ACall Tryz.prog 85 [aRow l] [] (.tup [num (kindM l).1, boo (kindM l).2]) [] := by
  refine enterq mixed ttok Tryz.func85 Tryz.ntmps85 Tryz.results85 ?_
  generalize hr : A.tup [num (kindM l).1, boo (kindM l).2] = R
  simp -implicitDefEqProofs only [argT, ↓steps, push_cast, simprocAttr, tte]
  refine bcase_intro (fun h0 => ?_) fun h0 => ?_
  · have e0 : l.length = 0 := by simp only [beq_iff_eq] at h0; omega
    have hk : kindM l = (0, false) := by rw [kindM, if_pos e0]
    exact ret_d2 trivial (by rw [← hr, hk]; rfl) (by simp [ends])
  have e0 : ¬ l.length = 0 := by simp only [beq_eq_false_iff_ne, ne_eq] at h0; omega
  unfold kindM at hr
  rw [if_neg e0] at hr
  refine loop_gen mixed ttok (fun x : Nat × Int => K1s l x) (fun x => l.length - x.1) (fun x => x.1 ≤ l.length ∧ kindGo 0 l = kindGo x.2 (l.drop x.1)) (0, 0) ⟨Nat.zero_le _, rfl⟩ ?_ ?_
  · exact Weak.keepL (by simp [K1s, ends]) (by simp [K1s, ends]) (by simp [K1s, ends])
  rintro I hI ⟨n, out⟩ ⟨hn, hg⟩
  simp -implicitDefEqProofs only [K1s, ↓steps, push_cast, simprocAttr, tte]
  refine bcase_intro (fun h => ?_) fun h => ?_
  · have h' : n < l.length := by simpa using h
    have hw := wrap_succ h' (by omega)
    dsimp only at hg
    rw [drop_cons l n h', kindGo] at hg
    refine ⟨⟨by omega, by omega⟩, ?_⟩
    refine callq [[0, 0, 0]] [] (c_valid (l.getD n default)) ?_
    simp -implicitDefEqProofs only [↓steps, push_cast, simprocAttr, tte]
    refine bcase_intro (fun h1 => ?_) fun h1 => ?_
    · rw [if_pos (by simpa using h1)] at hg
      rw [hg] at hr
      exact ret_d2 trivial (by rw [← hr]; rfl) (by simp [ends])
    rw [if_neg (by simpa using h1)] at hg
    refine bcase_intro (fun h2 => ?_) fun h2 => ?_
    · rw [if_pos (by simpa using h2)] at hg
      exact gen_again hI (n + 1, out) ⟨h', hg⟩ (by show l.length - (n + 1) < l.length - n; omega) (Weak.keepL (by simp [K1s, hw, ends]) (by simp [K1s, ends]) (by simp [K1s, ends]))
    rw [if_neg (by simpa using h2)] at hg
    refine bcase_intro (fun h3 => ?_) fun h3 => ?_
    · have e3 : out = 0 := by simpa using h3
      rw [if_pos e3] at hg
      exact gen_again hI (n + 1, (l.getD n default).kind) ⟨h', hg⟩ (by show l.length - (n + 1) < l.length - n; omega) (Weak.keepL (by simp [K1s, hw, ends]) (by simp [K1s, ends]) (by simp [K1s, ends]))
    rw [if_neg (by simpa using h3)] at hg
    refine bcase_intro (fun h4 => ?_) fun h4 => ?_
    · rw [if_pos (by simpa using h4)] at hg
      rw [hg] at hr
      exact ret_d2 trivial (by rw [← hr]; rfl) (by simp [ends])
    rw [if_neg (by simpa using h4)] at hg
    exact gen_again hI (n + 1, out) ⟨h', hg⟩ (by show l.length - (n + 1) < l.length - n; omega) (Weak.keepL (by simp [K1s, hw, ends]) (by simp [K1s, ends]) (by simp [K1s, ends]))
  have hnn : n = l.length := by have := of_decide_eq_false h; omega
  subst hnn
  dsimp only at hg
  rw [List.drop_length, kindGo] at hg
  rw [hg] at hr
  clear hI I h hg
  refine callq [[3]] [(1000, 600)] (c_values l) ?_
  simp -implicitDefEqProofs only [↓steps, push_cast, simprocAttr, tte]
  refine callx_ofV [(1000, 600)] (view_raw _ _) (c_sorted l hl) (by simp [rRow, ends, bs]) (by simp [ends, bs]) (by simp [rRow, ends]) (by simp [idsOk, lookO, updO, ren1]) ?_
  simp -implicitDefEqProofs only [↓steps, push_cast, simprocAttr, tte]
  have hsl := sortV_length l
  generalize sortV l = s at hr hsl ⊢
  refine loop_gen mixed ttok (fun n : Nat => K2s l s out n) (fun n => s.length - n) (fun n => 1 ≤ n ∧ n ≤ s.length ∧ dupS s = dupS (s.drop (n - 1))) 1 ⟨Nat.le_refl _, by omega, rfl⟩ ?_ ?_
  · exact Weak.keepL (by simp [K2s, ends]) (by simp [K2s, ends]) (by simp [K2s, ends])
  rintro I hI n ⟨hn1, hn, hg⟩
  simp -implicitDefEqProofs only [K2s, ↓steps, push_cast, simprocAttr, tte]
  refine bcase_intro (fun h => ?_) fun h => ?_
  · have h' : n < s.length := by simpa using h
    have hw := wrap_succ h' (by omega)
    obtain ⟨m, rfl⟩ : ∃ m, n = m + 1 := ⟨n - 1, by omega⟩
    have wm : IntKind.i64.wrap (((m + 1 : Nat) : Int) - 1) = (m : Int) := by rw [wrap_eq (by omega) (by omega)]; omega
    have hw2 : IntKind.i64.wrap ((m : Int) + 1 + 1) = (m : Int) + 1 + 1 := wrap_eq (by omega) (by omega)
    rw [Nat.add_sub_cancel, dupS_drop s m h'] at hg
    simp only [wm, Int.toNat_natCast]
    refine ⟨⟨by omega, by omega⟩, ⟨by omega, by omega⟩, ?_⟩
    refine callq [[0, 0, 0], [0, 0, 0]] [] (c_same (s.getD m default) (s.getD (m + 1) default)) ?_
    simp -implicitDefEqProofs only [↓steps, push_cast, simprocAttr, tte]
    refine ⟨drawx_intro (by kernel_rfl), ?_⟩
    refine bcase_intro (fun h2 => ?_) fun h2 => ?_
    · rw [h2, Bool.true_or] at hg
      dsimp only at hr
      rw [if_pos hg] at hr
      exact ret_d2 trivial (by rw [← hr]; rfl) (by simp [ends])
    rw [h2, Bool.false_or] at hg
    exact gen_again hI (m + 1 + 1) ⟨by omega, by omega, hg⟩ (by show s.length - (m + 1 + 1) < s.length - (m + 1); omega) (Weak.keepL (by simp [K2s, hw2, ends]) (by simp [K2s, ends]) (by simp [K2s, ends]))
  have hnn : n = s.length := by have := of_decide_eq_false h; omega
  subst hnn
  rw [dupS_end s _ (by omega)] at hg
  dsimp only at hr
  rw [if_neg (by rw [hg]; decide)] at hr
  refine bcase_intro (fun h3 => ?_) fun h3 => ?_
  · rw [if_pos (by simpa using h3)] at hr
    exact ret_d2 trivial (by rw [← hr]; rfl) (by simp [ends])
  rw [if_neg (by simpa using h3)] at hr
  exact ret_d2 trivial (by rw [← hr]; rfl) (by simp [ends])
end Go.Proofs.YtiagabnddihchaaGreatDoor
namespace Go.Proofs.YtiagabnddihchaaGreatDoor
open Go.Am
attribute [local simp, local push_cast] num boo str ints aV aTab aRow rRow vE
set_option linter.unusedVariables false
set_option maxRecDepth 100000
set_option maxHeartbeats 4000000
/-! Validity, of the program. -/
def smallD (d : List Row) : Prop := d.length ≤ 1000000 ∧ ∀ l ∈ d, l.length ≤ 1000000
def domOk (d : List Row) : Bool := decide (d.length ≤ 12) && d.all fun l => (kindM l).2
def typesM (d : List Row) : List Int := if domOk d = true then d.map (fun l => (kindM l).1) else []
def pGo : Nat → List Row → Option Nat
  | n, [] => some n
  | n, l :: d => if n * l.length > 4096 then none else pGo (n * l.length) d
def validC (d : List Row) (e : Ex) : Int :=
  if domOk d = false then 1 else if prodL d > 4096 then 8 else
    if (typeM (ownM (typesM d)) e).2 = 0 then (if (typeM (ownM (typesM d)) e).1 = 2 then 0 else 4) else (typeM (ownM (typesM d)) e).2
theorem kind_len {l : Row} (h : (kindM l).2 = true) : 0 < l.length := by
  unfold kindM at h
  split at h
  · cases h
  · omega
theorem domOk_full {d : List Row} (h : domOk d = true) : Full d ∧ d.length ≤ 12 := by
  unfold domOk at h
  simp only [Bool.and_eq_true, decide_eq_true_eq] at h
  exact ⟨fun l hl => kind_len (List.all_eq_true.1 h.2 l hl), h.1⟩
theorem pGo_eq : ∀ (d : List Row) (n : Nat), Full d → 0 < n → n ≤ 4096 → pGo n d = if n * prodL d > 4096 then none else some (n * prodL d)
  | [], n, _, _, hn => by rw [pGo, prodL, Nat.mul_one, if_neg (by omega)]
  | l :: d, n, hf, hn, _ => by
    rw [pGo, prodL, ← Nat.mul_assoc]
    have hl := hf l (by simp)
    have hp := prod_pos hf.tail
    split
    · rename_i h
      have : n * l.length * 1 ≤ n * l.length * prodL d := Nat.mul_le_mul_left _ hp
      rw [if_pos (by omega)]
    · rename_i h
      exact pGo_eq d _ hf.tail (Nat.mul_pos hn hl) (by omega)
def T1s (d : List Row) (n : Nat) : SL := ⟨[(13, .d (.lit (.int .i64 n))), (12, .d (.lit (.int .i64 d.length))), (11, aTab d), (3, .vec 500 n)], [(500, .vec 3 1 (rowsOf rI ((d.take n).map fun l => (kindM l).1)) 0)]⟩
theorem c_ptypes (d : List Row) (hd : smallD d) : ACall Tryz.prog 36 [aTab d] [] (ints (typesM d)) [] := by
  refine enterq mixed ttok Tryz.func36 Tryz.ntmps36 Tryz.results36 ?_
  generalize hr : ints (typesM d) = R
  simp -implicitDefEqProofs only [argT, aTab, ↓steps, push_cast, simprocAttr, tte]
  refine bcase_intro (fun h0 => ?_) fun h0 => ?_
  · have e0 : typesM d = [] := by
      have : domOk d = false := by unfold domOk; rw [decide_eq_false (by simp only [decide_eq_true_eq] at h0; omega)]; rfl
      rw [typesM, this]; rfl
    rw [e0] at hr
    refine retx_of [1] rfl (by simp) (by simp [rowsOf_length] <;> omega) ?_ (by first | rfl | simp [ends] | (subst_vars; simp [ends])) (by simp [ends]) (by simp [ends])
    rw [← hr]; rfl
  have hl : d.length ≤ 12 := by simp only [decide_eq_false_iff_not] at h0; omega
  have hdo : domOk d = d.all fun l => (kindM l).2 := by unfold domOk; rw [decide_eq_true hl]; rfl
  refine loop_gen mixed ttok (fun n : Nat => T1s d n) (fun n => d.length - n) (fun n => n ≤ d.length ∧ (d.all fun l => (kindM l).2) = ((d.drop n).all fun l => (kindM l).2)) 0 ⟨Nat.zero_le _, rfl⟩ ?_ ?_
  · exact (Weak.nilL 3 500 3 1 rfl rfl).trans (Weak.keepL (by simp [T1s, ends]) (by simp [T1s, rowsOf, ends]) (by simp [T1s, ends]))
  rintro I hI n ⟨hn, hg⟩
  have hmn : min n d.length = n := by omega
  have htl : ((d.take n).map fun l => (kindM l).1).length = n := by rw [List.length_map, List.length_take]; omega
  simp -implicitDefEqProofs only [T1s, rRow, ↓steps, push_cast, simprocAttr, tte]
  refine bcase_intro (fun h => ?_) fun h => ?_
  · have h' : n < d.length := by simpa using h
    have hw := wrap_succ h' (by omega)
    have hts : (d.take (n + 1)).map (fun l => (kindM l).1) = (d.take n).map (fun l => (kindM l).1) ++ [(kindM (d.getD n default)).1] := by rw [take_snoc _ _ h', List.map_append]; rfl
    rw [drop_cons d n h', List.all_cons] at hg
    refine ⟨⟨by omega, by omega⟩, ?_⟩
    refine callq [[3]] [] (c_kind (d.getD n default) (hd.2 _ (getD_mem h'))) ?_
    simp -implicitDefEqProofs only [↓steps, push_cast, simprocAttr, tte]
    refine bcase_intro (fun h2 => ?_) fun h2 => ?_
    · have e2 : (kindM (d.getD n default)).2 = false := by simpa using h2
      rw [e2, Bool.false_and] at hg
      rw [typesM, hdo, hg, if_neg (by decide)] at hr
      refine retx_of [1] rfl (by simp) (by simp [rowsOf_length] <;> omega) ?_ (by first | rfl | simp [ends] | (subst_vars; simp [ends])) (by simp [ends]) (by simp [ends])
      rw [← hr]; rfl
    have e2 : (kindM (d.getD n default)).2 = true := by simpa using h2
    rw [e2, Bool.true_and] at hg
    refine ⟨⟨htl.symm, by omega⟩, ?_⟩
    exact gen_again hI (n + 1) ⟨h', hg⟩ (by show d.length - (n + 1) < d.length - n; omega) (Weak.keepL (by simp [T1s, hw, htl, hmn, ends]) (by simp only [T1s, hts, htl, ends, ite_true, ite_false, reduceIte, Nat.reduceEqDiff, Nat.reduceLeDiff, Nat.reduceLT, Nat.reduceAdd, reduceCtorEq, num, boo, str, ints, aV, aTab, aRow, rRow, vE] <;> simp [hmn, ends]) (by simp [T1s, ends]))
  have hnn : n = d.length := by have := of_decide_eq_false h; omega
  subst hnn
  rw [List.drop_length, List.all_nil] at hg
  rw [typesM, hdo, hg, if_pos rfl] at hr
  rw [List.take_length] at htl ⊢
  refine retx_of [1] rfl (by simp) (by simp [rowsOf_length] <;> omega) ?_ (by first | rfl | simp [ends] | (subst_vars; simp [ends])) (by simp [ends]) (by simp [ends])
  rw [← hr]; rfl
def P1s (d : List Row) (x : Nat × Nat) : SL := ⟨[(9, .d (.lit (.int .i64 x.1))), (8, .d (.lit (.int .i64 d.length))), (7, aTab d), (4, num x.2)], []⟩
theorem c_points (d : List Row) (hd : smallD d) : ACall Tryz.prog 86 [aTab d] [] (.tup (match pGo 1 d with | some n => [num n, num 0] | none => [num 0, num 8])) [] := by
  refine enterq mixed ttok Tryz.func86 Tryz.ntmps86 Tryz.results86 ?_
  generalize hr : A.tup (match pGo 1 d with | some n => [num n, num 0] | none => [num 0, num 8]) = R
  simp -implicitDefEqProofs only [argT, aTab, ↓steps, push_cast, simprocAttr, tte]
  refine loop_gen mixed ttok (fun x : Nat × Nat => P1s d x) (fun x => d.length - x.1) (fun x => x.1 ≤ d.length ∧ x.2 ≤ 4096 ∧ pGo 1 d = pGo x.2 (d.drop x.1)) (0, 1) ⟨Nat.zero_le _, by decide, rfl⟩ ?_ ?_
  · exact Weak.keepL (by simp [P1s, ends]) (by simp [P1s, ends]) (by simp [P1s, ends])
  rintro I hI ⟨n, p⟩ ⟨hn, hp, hg⟩
  dsimp only at hn hp hg
  have hd1 := hd.1
  simp -implicitDefEqProofs only [P1s, rRow, ↓steps, push_cast, simprocAttr, tte]
  refine bcase_intro (fun h => ?_) fun h => ?_
  · have h' : n < d.length := by simpa using h
    have hw := wrap_succ h' (by omega)
    have hlb := hd.2 _ (getD_mem h')
    rw [drop_cons d n h', pGo] at hg
    generalize (d.getD n default).length = m at hg hlb
    obtain ⟨q, hq⟩ : ∃ q, p * m = q := ⟨_, rfl⟩
    have hqb : q ≤ 4096 * 1000000 := by rw [← hq]; exact Nat.mul_le_mul hp hlb
    have hwp : IntKind.i64.wrap ((p : Int) * (m : Int)) = (q : Int) := by
      have : (p : Int) * (m : Int) = (q : Int) := by rw [← hq]; exact (Int.natCast_mul p m).symm
      rw [this, wrap_eq (by omega) (by omega)]
    rw [hq] at hg
    simp only [hwp]
    refine ⟨⟨by omega, by omega⟩, ?_⟩
    refine bcase_intro (fun h2 => ?_) fun h2 => ?_
    · rw [if_pos (by simp only [decide_eq_true_eq] at h2; omega)] at hg
      rw [hg] at hr
      exact ret_d2 trivial (by rw [← hr]; rfl) (by simp [ends])
    have h2' : q ≤ 4096 := by simp only [decide_eq_false_iff_not] at h2; omega
    rw [if_neg (by omega)] at hg
    exact gen_again hI (n + 1, q) ⟨h', h2', hg⟩ (by show d.length - (n + 1) < d.length - n; omega) (Weak.keepL (by simp [P1s, hw, ends]) (by simp [P1s, ends]) (by simp [P1s, ends]))
  have hnn : n = d.length := by have := of_decide_eq_false h; omega
  subst hnn
  rw [List.drop_length, pGo] at hg
  rw [hg] at hr
  exact ret_d2 trivial (by rw [← hr]; rfl) (by simp [ends])
theorem c_pvalid (d : List Row) (hd : smallD d) (e : Ex) (ho : Ok12 e) : ACall Tryz.prog 37 [aTab d, aE e] [] (num (validC d e)) [] := by
  refine enterq mixed ttok Tryz.func37 Tryz.ntmps37 Tryz.results37 ?_
  generalize hr : num (validC d e) = R
  unfold validC at hr
  simp -implicitDefEqProofs only [argT, aTab, ↓steps, push_cast, simprocAttr, tte]
  refine callq [[1]] [] (c_ptypes d hd) ?_
  simp -implicitDefEqProofs only [↓steps, push_cast, simprocAttr, tte]
  by_cases hdo : domOk d = true
  · have htl : (typesM d).length = d.length := by rw [typesM, if_pos hdo, List.length_map]
    obtain ⟨hf, hl12⟩ := domOk_full hdo
    rw [if_neg (by rw [hdo]; decide)] at hr
    have d0 : (((typesM d).length : Int) != (d.length : Int)) = false := by rw [htl]; simp
    simp -implicitDefEqProofs only [htl, bne_self_eq_false, ↓steps, push_cast, simprocAttr, tte]
    have hP := c_points d hd
    rw [pGo_eq d 1 hf (by decide) (by decide), Nat.one_mul] at hP
    by_cases hp : prodL d > 4096
    · rw [if_pos hp] at hr hP
      refine callq [[1]] [] (hP) ?_
      simp -implicitDefEqProofs only [↓steps, push_cast, simprocAttr, tte]
      exact ret_d trivial hr (by simp [ends])
    rw [if_neg hp] at hr hP
    refine callq [[1]] [] (hP) ?_
    simp -implicitDefEqProofs only [↓steps, push_cast, simprocAttr, tte]
    refine callq [[1], [0, 0, 0, 0, 0, 6]] [] (c_type (typesM d) (by rw [htl]; omega) e ho) ?_
    simp -implicitDefEqProofs only [pairA, ↓steps, push_cast, simprocAttr, tte]
    refine bcase_intro (fun h1 => ?_) fun h1 => ?_
    · have e1 : (typeM (ownM (typesM d)) e).2 = 0 := by simpa using h1
      rw [if_pos e1] at hr
      refine bcase_intro (fun h2 => ?_) fun h2 => ?_
      · rw [if_neg (by simpa using h2)] at hr
        exact ret_d trivial hr (by simp [ends])
      · rw [if_pos (by simpa using h2)] at hr
        rw [e1]
        exact ret_d trivial hr (by simp [ends])
    · rw [if_neg (by simpa using h1)] at hr
      exact ret_d trivial hr (by simp [ends])
  · have hdf : domOk d = false := by simpa using hdo
    rw [if_pos hdf] at hr
    have ht0 : typesM d = [] := by rw [typesM, if_neg hdo]
    have hdl : d.length ≠ 0 := fun h => by
      have := List.length_eq_zero_iff.1 h
      rw [this] at hdf
      exact absurd hdf (by decide)
    rw [ht0]
    refine bcase_intro (fun _ => ?_) fun h => absurd h (by simp only [bne_eq_false_iff_eq, List.length_nil]; omega)
    exact ret_d trivial hr (by simp [ends])
end Go.Proofs.YtiagabnddihchaaGreatDoor
