/- Conditions over finite domains (part Wz): the number of points, of the specification -/
import Derived.Test.YtiagabnddihchaaGreatDoorWp
set_option linter.all false

namespace Go.Proofs.YtiagabnddihchaaGreatDoor
open Go.Am
set_option linter.unusedVariables false
set_option maxRecDepth 100000
set_option maxHeartbeats 4000000
attribute [local simp, local push_cast] num boo str ints aV aTab aRow rRow vE
theorem pts_le : ∀ (d : List Row) (n : Nat), n ≤ 1048576 → d.foldl ptF n ≤ 1048576
  | [], n, h => h
  | l :: d, n, h => by rw [List.foldl_cons]; exact pts_le d _ (Nat.min_le_right _ _)
def Q1s (d : List Row) (n : Nat) : SL := ⟨[(8, .d (.lit (.int .i64 n))), (7, .d (.lit (.int .i64 d.length))), (6, aTab d), (3, .d (.lit (.int .i64 ((d.take n).foldl ptF 1 : Nat))))], []⟩
theorem c_points23 (d : List Row) (hd : smallD d) : ACall Tryz.prog 14 [aTab d] [] (num (pts23 d : Nat)) [] := by
  refine enterq mixed ttok Tryz.func14 Tryz.ntmps14 Tryz.results14 ?_
  generalize hr : num (pts23 d : Nat) = R
  have hd1 := hd.1
  simp -implicitDefEqProofs only [argT, aTab, ↓steps, push_cast, simprocAttr, tte]
  refine loop_gen mixed ttok (fun n : Nat => Q1s d n) (fun n => d.length - n) (fun n => n ≤ d.length) 0 (Nat.zero_le _) ?_ ?_
  · exact Weak.keepL (by simp [Q1s, ends]) (by simp [Q1s, ends]) (by simp [Q1s, ends])
  intro I hI n hn
  simp -implicitDefEqProofs only [Q1s, rRow, ↓steps, push_cast, simprocAttr, tte]
  refine bcase_intro (fun h => ?_) fun h => ?_
  · have h' : n < d.length := by simpa using h
    have hw := wrap_succ h' (by omega)
    have hfs : (d.take (n + 1)).foldl ptF 1 = ptF ((d.take n).foldl ptF 1) (d.getD n default) := by rw [take_snoc _ _ h', List.foldl_append]; rfl
    have hlb := hd.2 _ (getD_mem h')
    have hpl := pts_le (d.take n) 1 (by decide)
    generalize (d.take n).foldl ptF 1 = p at hfs hpl ⊢
    rw [show ptF p (d.getD n default) = min (p * (d.getD n default).length) 1048576 from rfl] at hfs
    generalize (d.getD n default).length = m at hfs hlb ⊢
    obtain ⟨q, hq⟩ : ∃ q, p * m = q := ⟨_, rfl⟩
    have hqb : q ≤ 1048576 * 1000000 := by rw [← hq]; exact Nat.mul_le_mul hpl hlb
    have hwp : IntKind.i64.wrap ((p : Int) * (m : Int)) = (q : Int) := by
      have : (p : Int) * (m : Int) = (q : Int) := by rw [← hq]; exact (Int.natCast_mul p m).symm
      rw [this, wrap_eq (by omega) (by omega)]
    rw [hq] at hfs
    simp only [hwp]
    have hmi : (if 1048576 < (q : Int) then 1048576 else (q : Int)) = ((min q 1048576 : Nat) : Int) := by split <;> omega
    simp only [hmi]
    rw [← hfs]
    refine ⟨⟨by omega, by omega⟩, ?_⟩
    exact gen_again hI (n + 1) h' (by show d.length - (n + 1) < d.length - n; omega) (Weak.keepL (by simp [Q1s, hw, ends]) (by simp [Q1s, ends]) (by simp [Q1s, ends]))
  have hnn : n = d.length := by have := of_decide_eq_false h; omega
  subst hnn
  rw [List.take_length]
  exact ret_d trivial hr (by simp [ends])
end Go.Proofs.YtiagabnddihchaaGreatDoor
