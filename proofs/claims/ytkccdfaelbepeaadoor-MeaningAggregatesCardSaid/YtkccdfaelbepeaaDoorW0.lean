/- Any aggregate over any rows is what the specification says: a proof over an abstract machine of our own (part W0) -/
import Derived.Test.YtkccdfaelbepeaaDoorChecked
import Derived.Test.YtkccdfaelbepeaaDoorLd
set_option linter.all false

namespace Go.Proofs.YtkccdfaelbepeaaDoor
open Go.Am
set_option linter.unusedVariables false

instance tabs : Tab := ⟨(fun | 0 => some opRow | 1 => some [.lit (.int .i64 0), .lit (.int .i64 0), .lit (.string ⟨#[]⟩)] | _ => none), [2]⟩
theorem tab0 : Tab.tab 0 = some opRow := rfl
theorem tab1 : Tab.tab 1 = some [.lit (.int .i64 0), .lit (.int .i64 0), .lit (.string ⟨#[]⟩)] := rfl

def tt : Types
  | 2 => some ⟨.int .i64, 1, 8, [.int .i64 0], [0], false⟩
  | 3 => some ⟨.int .i64, 1, 8, [.int .i64 0], [0], false⟩
  | 4 => some ⟨.bool, 1, 1, [.bool false], [0], false⟩
  | 5 => some ⟨.int .u8, 1, 1, [.int .u8 0], [0], false⟩
  | 9 => some ⟨.string, 1, 16, [.string ByteArray.empty], [0], false⟩
  | 12 => some ⟨.int .u64, 1, 8, [.int .u64 0], [0], false⟩
  | 13 => some ⟨.struct [(9, 0), (12, 1)], 2, 24, [.string ByteArray.empty, .int .u64 0], [0, 0], false⟩
  | 21 => some ⟨.int .i32, 1, 4, [.int .i32 0], [0], false⟩
  | 22 => some ⟨.slice 50, 1, 24, [.slice none 0 0], [6], false⟩
  | 23 => some ⟨.struct [(22, 0)], 1, 24, [.slice none 0 0], [6], false⟩
  | 24 => some ⟨.struct [(22, 0)], 1, 24, [.slice none 0 0], [6], false⟩
  | 25 => some ⟨.slice 38, 1, 24, [.slice none 0 0], [1], false⟩
  | 26 => some ⟨.struct [(25, 0)], 1, 24, [.slice none 0 0], [1], false⟩
  | 27 => some ⟨.struct [(25, 0)], 1, 24, [.slice none 0 0], [1], false⟩
  | 30 => some ⟨.int .i64, 1, 8, [.int .i64 0], [0], false⟩
  | 33 => some ⟨.slice 35, 1, 24, [.slice none 0 0], [6], false⟩
  | 34 => some ⟨.struct [(3, 0), (3, 1), (2, 2), (9, 3), (3, 4), (33, 5)], 6, 72, [.int .i64 0, .int .i64 0, .int .i64 0, .string ByteArray.empty, .int .i64 0, .slice none 0 0], [0, 0, 0, 0, 0, 6], false⟩
  | 35 => some ⟨.struct [(3, 0), (3, 1), (2, 2), (9, 3), (3, 4), (33, 5)], 6, 72, [.int .i64 0, .int .i64 0, .int .i64 0, .string ByteArray.empty, .int .i64 0, .slice none 0 0], [0, 0, 0, 0, 0, 6], false⟩
  | 36 => some ⟨.struct [(3, 0), (35, 1)], 7, 80, [.int .i64 0, .int .i64 0, .int .i64 0, .int .i64 0, .string ByteArray.empty, .int .i64 0, .slice none 0 0], [0, 0, 0, 0, 0, 0, 6], false⟩
  | 37 => some ⟨.struct [(3, 0), (35, 1)], 7, 80, [.int .i64 0, .int .i64 0, .int .i64 0, .int .i64 0, .string ByteArray.empty, .int .i64 0, .slice none 0 0], [0, 0, 0, 0, 0, 0, 6], false⟩
  | 38 => some ⟨.slice 54, 1, 24, [.slice none 0 0], [1], false⟩
  | 41 => some ⟨.struct [(3, 0), (2, 1), (9, 2)], 3, 32, [.int .i64 0, .int .i64 0, .string ByteArray.empty], [0, 0, 0], true⟩
  | 42 => some ⟨.struct [(3, 0), (2, 1), (9, 2)], 3, 32, [.int .i64 0, .int .i64 0, .string ByteArray.empty], [0, 0, 0], true⟩
  | 45 => some ⟨.slice 57, 1, 24, [.slice none 0 0], [3], false⟩
  | 46 => some ⟨.slice 3, 1, 24, [.slice none 0 0], [1], false⟩
  | 47 => some ⟨.slice 46, 1, 24, [.slice none 0 0], [1], false⟩
  | 48 => some ⟨.slice 52, 1, 24, [.slice none 0 0], [2], false⟩
  | 49 => some ⟨.struct [(9, 0), (45, 1), (46, 2), (47, 3), (48, 4), (33, 5)], 6, 136, [.string ByteArray.empty, .slice none 0 0, .slice none 0 0, .slice none 0 0, .slice none 0 0, .slice none 0 0], [0, 3, 1, 1, 2, 6], false⟩
  | 50 => some ⟨.struct [(9, 0), (45, 1), (46, 2), (47, 3), (48, 4), (33, 5)], 6, 136, [.string ByteArray.empty, .slice none 0 0, .slice none 0 0, .slice none 0 0, .slice none 0 0, .slice none 0 0], [0, 3, 1, 1, 2, 6], false⟩
  | 51 => some ⟨.struct [(46, 0), (9, 1)], 2, 40, [.slice none 0 0, .string ByteArray.empty], [1, 0], false⟩
  | 52 => some ⟨.struct [(46, 0), (9, 1)], 2, 40, [.slice none 0 0, .string ByteArray.empty], [1, 0], false⟩
  | 54 => some ⟨.slice 42, 1, 24, [.slice none 0 0], [3], false⟩
  | 56 => some ⟨.struct [(9, 0), (3, 1), (4, 2)], 3, 32, [.string ByteArray.empty, .int .i64 0, .bool false], [0, 0, 0], true⟩
  | 57 => some ⟨.struct [(9, 0), (3, 1), (4, 2)], 3, 32, [.string ByteArray.empty, .int .i64 0, .bool false], [0, 0, 0], true⟩
  | 76 => some ⟨.struct [(9, 0), (3, 1), (3, 2), (3, 3)], 4, 40, [.string ByteArray.empty, .int .i64 0, .int .i64 0, .int .i64 0], [0, 0, 0, 0], true⟩
  | 77 => some ⟨.struct [(9, 0), (3, 1), (3, 2), (3, 3)], 4, 40, [.string ByteArray.empty, .int .i64 0, .int .i64 0, .int .i64 0], [0, 0, 0, 0], true⟩
  | 84 => some ⟨.int .u64, 1, 8, [.int .u64 0], [0], false⟩
  | 107 => some ⟨.slice 108, 1, 24, [.slice none 0 0], [1], false⟩
  | 108 => some ⟨.map 3 4, 1, 8, [.map none], [0], false⟩
  | 113 => some ⟨.slice 9, 1, 24, [.slice none 0 0], [1], false⟩
  | 116 => some ⟨.slice 4, 1, 24, [.slice none 0 0], [1], false⟩
  | 120 => some ⟨.int .i64, 1, 8, [.int .i64 0], [0], false⟩
  | 127 => some ⟨.int .u32, 1, 4, [.int .u32 0], [0], false⟩
  | 129 => some ⟨.int .u64, 1, 8, [.int .u64 0], [0], false⟩
  | 135 => some ⟨.slice 138, 1, 24, [.slice none 0 0], [3], false⟩
  | 137 => some ⟨.struct [(54, 0), (3, 1), (3, 2)], 3, 40, [.slice none 0 0, .int .i64 0, .int .i64 0], [3, 0, 0], false⟩
  | 138 => some ⟨.struct [(54, 0), (3, 1), (3, 2)], 3, 40, [.slice none 0 0, .int .i64 0, .int .i64 0], [3, 0, 0], false⟩
  | 146 => some ⟨.array 29 77, 116, 1160, [.string ByteArray.empty, .int .i64 0, .int .i64 0, .int .i64 0, .string ByteArray.empty, .int .i64 0, .int .i64 0, .int .i64 0, .string ByteArray.empty, .int .i64 0, .int .i64 0, .int .i64 0, .string ByteArray.empty, .int .i64 0, .int .i64 0, .int .i64 0, .string ByteArray.empty, .int .i64 0, .int .i64 0, .int .i64 0, .string ByteArray.empty, .int .i64 0, .int .i64 0, .int .i64 0, .string ByteArray.empty, .int .i64 0, .int .i64 0, .int .i64 0, .string ByteArray.empty, .int .i64 0, .int .i64 0, .int .i64 0, .string ByteArray.empty, .int .i64 0, .int .i64 0, .int .i64 0, .string ByteArray.empty, .int .i64 0, .int .i64 0, .int .i64 0, .string ByteArray.empty, .int .i64 0, .int .i64 0, .int .i64 0, .string ByteArray.empty, .int .i64 0, .int .i64 0, .int .i64 0, .string ByteArray.empty, .int .i64 0, .int .i64 0, .int .i64 0, .string ByteArray.empty, .int .i64 0, .int .i64 0, .int .i64 0, .string ByteArray.empty, .int .i64 0, .int .i64 0, .int .i64 0, .string ByteArray.empty, .int .i64 0, .int .i64 0, .int .i64 0, .string ByteArray.empty, .int .i64 0, .int .i64 0, .int .i64 0, .string ByteArray.empty, .int .i64 0, .int .i64 0, .int .i64 0, .string ByteArray.empty, .int .i64 0, .int .i64 0, .int .i64 0, .string ByteArray.empty, .int .i64 0, .int .i64 0, .int .i64 0, .string ByteArray.empty, .int .i64 0, .int .i64 0, .int .i64 0, .string ByteArray.empty, .int .i64 0, .int .i64 0, .int .i64 0, .string ByteArray.empty, .int .i64 0, .int .i64 0, .int .i64 0, .string ByteArray.empty, .int .i64 0, .int .i64 0, .int .i64 0, .string ByteArray.empty, .int .i64 0, .int .i64 0, .int .i64 0, .string ByteArray.empty, .int .i64 0, .int .i64 0, .int .i64 0, .string ByteArray.empty, .int .i64 0, .int .i64 0, .int .i64 0, .string ByteArray.empty, .int .i64 0, .int .i64 0, .int .i64 0, .string ByteArray.empty, .int .i64 0, .int .i64 0, .int .i64 0], [0, 0, 0, 0, 0, 0, 0, 0, 0, 0, 0, 0, 0, 0, 0, 0, 0, 0, 0, 0, 0, 0, 0, 0, 0, 0, 0, 0, 0, 0, 0, 0, 0, 0, 0, 0, 0, 0, 0, 0, 0, 0, 0, 0, 0, 0, 0, 0, 0, 0, 0, 0, 0, 0, 0, 0, 0, 0, 0, 0, 0, 0, 0, 0, 0, 0, 0, 0, 0, 0, 0, 0, 0, 0, 0, 0, 0, 0, 0, 0, 0, 0, 0, 0, 0, 0, 0, 0, 0, 0, 0, 0, 0, 0, 0, 0, 0, 0, 0, 0, 0, 0, 0, 0, 0, 0, 0, 0, 0, 0, 0, 0, 0, 0, 0, 0], false⟩
  | 148 => some ⟨.int .u64, 1, 8, [.int .u64 0], [0], false⟩
  | 152 => some ⟨.pointer 3, 1, 8, [.pointer none], [0], false⟩
  | 158 => some ⟨.pointer 148, 1, 8, [.pointer none], [0], false⟩
  | 177 => some ⟨.pointer 5, 1, 8, [.pointer none], [0], false⟩
  | _ => none

theorem tinfo2 : (Tryd.prog.info? 2).map (fun i => (i.size, i.bytes, i.zero)) = some (1, 8, some (.int .i64 0)) := by kernel_rfl
theorem tok2 : TOk Tryd.prog 2 ⟨.int .i64, 1, 8, [.int .i64 0], [0], false⟩ := ⟨by obtain ⟨i, h1, h2⟩ := Option.map_eq_some_iff.1 tinfo2; simp only [Prod.mk.injEq] at h2; exact ⟨i, h1, h2.1, h2.2.1, _, h2.2.2, rfl⟩, rfl, by simp [one], Tryd.underlying2, (fun h => by cases h), (fun _ z hz => by cases hz; obtain ⟨i, h1, h2⟩ := Option.map_eq_some_iff.1 tinfo2; simp only [Prod.mk.injEq] at h2; exact ⟨i, h1, h2.2.2⟩)⟩
theorem tinfo3 : (Tryd.prog.info? 3).map (fun i => (i.size, i.bytes, i.zero)) = some (1, 8, some (.int .i64 0)) := by kernel_rfl
theorem tok3 : TOk Tryd.prog 3 ⟨.int .i64, 1, 8, [.int .i64 0], [0], false⟩ := ⟨by obtain ⟨i, h1, h2⟩ := Option.map_eq_some_iff.1 tinfo3; simp only [Prod.mk.injEq] at h2; exact ⟨i, h1, h2.1, h2.2.1, _, h2.2.2, rfl⟩, rfl, by simp [one], Tryd.underlying3, (fun h => by cases h), (fun _ z hz => by cases hz; obtain ⟨i, h1, h2⟩ := Option.map_eq_some_iff.1 tinfo3; simp only [Prod.mk.injEq] at h2; exact ⟨i, h1, h2.2.2⟩)⟩
theorem tinfo4 : (Tryd.prog.info? 4).map (fun i => (i.size, i.bytes, i.zero)) = some (1, 1, some (.bool false)) := by kernel_rfl
theorem tok4 : TOk Tryd.prog 4 ⟨.bool, 1, 1, [.bool false], [0], false⟩ := ⟨by obtain ⟨i, h1, h2⟩ := Option.map_eq_some_iff.1 tinfo4; simp only [Prod.mk.injEq] at h2; exact ⟨i, h1, h2.1, h2.2.1, _, h2.2.2, rfl⟩, rfl, by simp [one], Tryd.underlying4, (fun h => by cases h), (fun _ z hz => by cases hz; obtain ⟨i, h1, h2⟩ := Option.map_eq_some_iff.1 tinfo4; simp only [Prod.mk.injEq] at h2; exact ⟨i, h1, h2.2.2⟩)⟩
theorem tinfo5 : (Tryd.prog.info? 5).map (fun i => (i.size, i.bytes, i.zero)) = some (1, 1, some (.int .u8 0)) := by kernel_rfl
theorem tok5 : TOk Tryd.prog 5 ⟨.int .u8, 1, 1, [.int .u8 0], [0], false⟩ := ⟨by obtain ⟨i, h1, h2⟩ := Option.map_eq_some_iff.1 tinfo5; simp only [Prod.mk.injEq] at h2; exact ⟨i, h1, h2.1, h2.2.1, _, h2.2.2, rfl⟩, rfl, by simp [one], Tryd.underlying5, (fun h => by cases h), (fun _ z hz => by cases hz; obtain ⟨i, h1, h2⟩ := Option.map_eq_some_iff.1 tinfo5; simp only [Prod.mk.injEq] at h2; exact ⟨i, h1, h2.2.2⟩)⟩
theorem tinfo9 : (Tryd.prog.info? 9).map (fun i => (i.size, i.bytes, i.zero)) = some (1, 16, some (.string ByteArray.empty)) := by kernel_rfl
theorem tok9 : TOk Tryd.prog 9 ⟨.string, 1, 16, [.string ByteArray.empty], [0], false⟩ := ⟨by obtain ⟨i, h1, h2⟩ := Option.map_eq_some_iff.1 tinfo9; simp only [Prod.mk.injEq] at h2; exact ⟨i, h1, h2.1, h2.2.1, _, h2.2.2, rfl⟩, rfl, by simp [one], Tryd.underlying9, (fun h => by cases h), (fun _ z hz => by cases hz; obtain ⟨i, h1, h2⟩ := Option.map_eq_some_iff.1 tinfo9; simp only [Prod.mk.injEq] at h2; exact ⟨i, h1, h2.2.2⟩)⟩
theorem tinfo12 : (Tryd.prog.info? 12).map (fun i => (i.size, i.bytes, i.zero)) = some (1, 8, some (.int .u64 0)) := by kernel_rfl
theorem tok12 : TOk Tryd.prog 12 ⟨.int .u64, 1, 8, [.int .u64 0], [0], false⟩ := ⟨by obtain ⟨i, h1, h2⟩ := Option.map_eq_some_iff.1 tinfo12; simp only [Prod.mk.injEq] at h2; exact ⟨i, h1, h2.1, h2.2.1, _, h2.2.2, rfl⟩, rfl, by simp [one], Tryd.underlying12, (fun h => by cases h), (fun _ z hz => by cases hz; obtain ⟨i, h1, h2⟩ := Option.map_eq_some_iff.1 tinfo12; simp only [Prod.mk.injEq] at h2; exact ⟨i, h1, h2.2.2⟩)⟩
theorem tinfo13 : (Tryd.prog.info? 13).map (fun i => (i.size, i.bytes, i.zero)) = some (2, 24, some (.agg #[.string ByteArray.empty, .int .u64 0])) := by kernel_rfl
theorem tok13 : TOk Tryd.prog 13 ⟨.struct [(9, 0), (12, 1)], 2, 24, [.string ByteArray.empty, .int .u64 0], [0, 0], false⟩ := ⟨by obtain ⟨i, h1, h2⟩ := Option.map_eq_some_iff.1 tinfo13; simp only [Prod.mk.injEq] at h2; exact ⟨i, h1, h2.1, h2.2.1, _, h2.2.2, rfl⟩, rfl, by simp [one], ⟨_, Tryd.underlying13, rfl⟩, (fun h => by cases h), (fun h => by cases h)⟩
theorem tinfo21 : (Tryd.prog.info? 21).map (fun i => (i.size, i.bytes, i.zero)) = some (1, 4, some (.int .i32 0)) := by kernel_rfl
theorem tok21 : TOk Tryd.prog 21 ⟨.int .i32, 1, 4, [.int .i32 0], [0], false⟩ := ⟨by obtain ⟨i, h1, h2⟩ := Option.map_eq_some_iff.1 tinfo21; simp only [Prod.mk.injEq] at h2; exact ⟨i, h1, h2.1, h2.2.1, _, h2.2.2, rfl⟩, rfl, by simp [one], Tryd.underlying21, (fun h => by cases h), (fun _ z hz => by cases hz; obtain ⟨i, h1, h2⟩ := Option.map_eq_some_iff.1 tinfo21; simp only [Prod.mk.injEq] at h2; exact ⟨i, h1, h2.2.2⟩)⟩
theorem tinfo22 : (Tryd.prog.info? 22).map (fun i => (i.size, i.bytes, i.zero)) = some (1, 24, some (.slice none 0 0)) := by kernel_rfl
theorem tok22 : TOk Tryd.prog 22 ⟨.slice 50, 1, 24, [.slice none 0 0], [6], false⟩ := ⟨by obtain ⟨i, h1, h2⟩ := Option.map_eq_some_iff.1 tinfo22; simp only [Prod.mk.injEq] at h2; exact ⟨i, h1, h2.1, h2.2.1, _, h2.2.2, rfl⟩, rfl, by simp [one], Tryd.underlying22, (fun h => by cases h), (fun _ z hz => by cases hz; obtain ⟨i, h1, h2⟩ := Option.map_eq_some_iff.1 tinfo22; simp only [Prod.mk.injEq] at h2; exact ⟨i, h1, h2.2.2⟩)⟩
theorem tinfo23 : (Tryd.prog.info? 23).map (fun i => (i.size, i.bytes, i.zero)) = some (1, 24, some (.agg #[.slice none 0 0])) := by kernel_rfl
theorem tok23 : TOk Tryd.prog 23 ⟨.struct [(22, 0)], 1, 24, [.slice none 0 0], [6], false⟩ := ⟨by obtain ⟨i, h1, h2⟩ := Option.map_eq_some_iff.1 tinfo23; simp only [Prod.mk.injEq] at h2; exact ⟨i, h1, h2.1, h2.2.1, _, h2.2.2, rfl⟩, rfl, by simp [one], ⟨_, Tryd.underlying23, rfl⟩, (fun h => by cases h), (fun h => by cases h)⟩
theorem tinfo24 : (Tryd.prog.info? 24).map (fun i => (i.size, i.bytes, i.zero)) = some (1, 24, some (.agg #[.slice none 0 0])) := by kernel_rfl
theorem tok24 : TOk Tryd.prog 24 ⟨.struct [(22, 0)], 1, 24, [.slice none 0 0], [6], false⟩ := ⟨by obtain ⟨i, h1, h2⟩ := Option.map_eq_some_iff.1 tinfo24; simp only [Prod.mk.injEq] at h2; exact ⟨i, h1, h2.1, h2.2.1, _, h2.2.2, rfl⟩, rfl, by simp [one], ⟨_, Tryd.underlying24, rfl⟩, (fun h => by cases h), (fun h => by cases h)⟩
theorem tinfo25 : (Tryd.prog.info? 25).map (fun i => (i.size, i.bytes, i.zero)) = some (1, 24, some (.slice none 0 0)) := by kernel_rfl
theorem tok25 : TOk Tryd.prog 25 ⟨.slice 38, 1, 24, [.slice none 0 0], [1], false⟩ := ⟨by obtain ⟨i, h1, h2⟩ := Option.map_eq_some_iff.1 tinfo25; simp only [Prod.mk.injEq] at h2; exact ⟨i, h1, h2.1, h2.2.1, _, h2.2.2, rfl⟩, rfl, by simp [one], Tryd.underlying25, (fun h => by cases h), (fun _ z hz => by cases hz; obtain ⟨i, h1, h2⟩ := Option.map_eq_some_iff.1 tinfo25; simp only [Prod.mk.injEq] at h2; exact ⟨i, h1, h2.2.2⟩)⟩
theorem tinfo26 : (Tryd.prog.info? 26).map (fun i => (i.size, i.bytes, i.zero)) = some (1, 24, some (.agg #[.slice none 0 0])) := by kernel_rfl
theorem tok26 : TOk Tryd.prog 26 ⟨.struct [(25, 0)], 1, 24, [.slice none 0 0], [1], false⟩ := ⟨by obtain ⟨i, h1, h2⟩ := Option.map_eq_some_iff.1 tinfo26; simp only [Prod.mk.injEq] at h2; exact ⟨i, h1, h2.1, h2.2.1, _, h2.2.2, rfl⟩, rfl, by simp [one], ⟨_, Tryd.underlying26, rfl⟩, (fun h => by cases h), (fun h => by cases h)⟩
theorem tinfo27 : (Tryd.prog.info? 27).map (fun i => (i.size, i.bytes, i.zero)) = some (1, 24, some (.agg #[.slice none 0 0])) := by kernel_rfl
theorem tok27 : TOk Tryd.prog 27 ⟨.struct [(25, 0)], 1, 24, [.slice none 0 0], [1], false⟩ := ⟨by obtain ⟨i, h1, h2⟩ := Option.map_eq_some_iff.1 tinfo27; simp only [Prod.mk.injEq] at h2; exact ⟨i, h1, h2.1, h2.2.1, _, h2.2.2, rfl⟩, rfl, by simp [one], ⟨_, Tryd.underlying27, rfl⟩, (fun h => by cases h), (fun h => by cases h)⟩
theorem tinfo30 : (Tryd.prog.info? 30).map (fun i => (i.size, i.bytes, i.zero)) = some (1, 8, some (.int .i64 0)) := by kernel_rfl
theorem tok30 : TOk Tryd.prog 30 ⟨.int .i64, 1, 8, [.int .i64 0], [0], false⟩ := ⟨by obtain ⟨i, h1, h2⟩ := Option.map_eq_some_iff.1 tinfo30; simp only [Prod.mk.injEq] at h2; exact ⟨i, h1, h2.1, h2.2.1, _, h2.2.2, rfl⟩, rfl, by simp [one], Tryd.underlying30, (fun h => by cases h), (fun _ z hz => by cases hz; obtain ⟨i, h1, h2⟩ := Option.map_eq_some_iff.1 tinfo30; simp only [Prod.mk.injEq] at h2; exact ⟨i, h1, h2.2.2⟩)⟩
theorem tinfo33 : (Tryd.prog.info? 33).map (fun i => (i.size, i.bytes, i.zero)) = some (1, 24, some (.slice none 0 0)) := by kernel_rfl
theorem tok33 : TOk Tryd.prog 33 ⟨.slice 35, 1, 24, [.slice none 0 0], [6], false⟩ := ⟨by obtain ⟨i, h1, h2⟩ := Option.map_eq_some_iff.1 tinfo33; simp only [Prod.mk.injEq] at h2; exact ⟨i, h1, h2.1, h2.2.1, _, h2.2.2, rfl⟩, rfl, by simp [one], Tryd.underlying33, (fun h => by cases h), (fun _ z hz => by cases hz; obtain ⟨i, h1, h2⟩ := Option.map_eq_some_iff.1 tinfo33; simp only [Prod.mk.injEq] at h2; exact ⟨i, h1, h2.2.2⟩)⟩
theorem tinfo34 : (Tryd.prog.info? 34).map (fun i => (i.size, i.bytes, i.zero)) = some (6, 72, some (.agg #[.int .i64 0, .int .i64 0, .int .i64 0, .string ByteArray.empty, .int .i64 0, .slice none 0 0])) := by kernel_rfl
theorem tok34 : TOk Tryd.prog 34 ⟨.struct [(3, 0), (3, 1), (2, 2), (9, 3), (3, 4), (33, 5)], 6, 72, [.int .i64 0, .int .i64 0, .int .i64 0, .string ByteArray.empty, .int .i64 0, .slice none 0 0], [0, 0, 0, 0, 0, 6], false⟩ := ⟨by obtain ⟨i, h1, h2⟩ := Option.map_eq_some_iff.1 tinfo34; simp only [Prod.mk.injEq] at h2; exact ⟨i, h1, h2.1, h2.2.1, _, h2.2.2, rfl⟩, rfl, by simp [one], ⟨_, Tryd.underlying34, rfl⟩, (fun h => by cases h), (fun h => by cases h)⟩
theorem tinfo35 : (Tryd.prog.info? 35).map (fun i => (i.size, i.bytes, i.zero)) = some (6, 72, some (.agg #[.int .i64 0, .int .i64 0, .int .i64 0, .string ByteArray.empty, .int .i64 0, .slice none 0 0])) := by kernel_rfl
theorem tok35 : TOk Tryd.prog 35 ⟨.struct [(3, 0), (3, 1), (2, 2), (9, 3), (3, 4), (33, 5)], 6, 72, [.int .i64 0, .int .i64 0, .int .i64 0, .string ByteArray.empty, .int .i64 0, .slice none 0 0], [0, 0, 0, 0, 0, 6], false⟩ := ⟨by obtain ⟨i, h1, h2⟩ := Option.map_eq_some_iff.1 tinfo35; simp only [Prod.mk.injEq] at h2; exact ⟨i, h1, h2.1, h2.2.1, _, h2.2.2, rfl⟩, rfl, by simp [one], ⟨_, Tryd.underlying35, rfl⟩, (fun h => by cases h), (fun h => by cases h)⟩
theorem tinfo36 : (Tryd.prog.info? 36).map (fun i => (i.size, i.bytes, i.zero)) = some (7, 80, some (.agg #[.int .i64 0, .int .i64 0, .int .i64 0, .int .i64 0, .string ByteArray.empty, .int .i64 0, .slice none 0 0])) := by kernel_rfl
theorem tok36 : TOk Tryd.prog 36 ⟨.struct [(3, 0), (35, 1)], 7, 80, [.int .i64 0, .int .i64 0, .int .i64 0, .int .i64 0, .string ByteArray.empty, .int .i64 0, .slice none 0 0], [0, 0, 0, 0, 0, 0, 6], false⟩ := ⟨by obtain ⟨i, h1, h2⟩ := Option.map_eq_some_iff.1 tinfo36; simp only [Prod.mk.injEq] at h2; exact ⟨i, h1, h2.1, h2.2.1, _, h2.2.2, rfl⟩, rfl, by simp [one], ⟨_, Tryd.underlying36, rfl⟩, (fun h => by cases h), (fun h => by cases h)⟩
theorem tinfo37 : (Tryd.prog.info? 37).map (fun i => (i.size, i.bytes, i.zero)) = some (7, 80, some (.agg #[.int .i64 0, .int .i64 0, .int .i64 0, .int .i64 0, .string ByteArray.empty, .int .i64 0, .slice none 0 0])) := by kernel_rfl
theorem tok37 : TOk Tryd.prog 37 ⟨.struct [(3, 0), (35, 1)], 7, 80, [.int .i64 0, .int .i64 0, .int .i64 0, .int .i64 0, .string ByteArray.empty, .int .i64 0, .slice none 0 0], [0, 0, 0, 0, 0, 0, 6], false⟩ := ⟨by obtain ⟨i, h1, h2⟩ := Option.map_eq_some_iff.1 tinfo37; simp only [Prod.mk.injEq] at h2; exact ⟨i, h1, h2.1, h2.2.1, _, h2.2.2, rfl⟩, rfl, by simp [one], ⟨_, Tryd.underlying37, rfl⟩, (fun h => by cases h), (fun h => by cases h)⟩
theorem tinfo38 : (Tryd.prog.info? 38).map (fun i => (i.size, i.bytes, i.zero)) = some (1, 24, some (.slice none 0 0)) := by kernel_rfl
theorem tok38 : TOk Tryd.prog 38 ⟨.slice 54, 1, 24, [.slice none 0 0], [1], false⟩ := ⟨by obtain ⟨i, h1, h2⟩ := Option.map_eq_some_iff.1 tinfo38; simp only [Prod.mk.injEq] at h2; exact ⟨i, h1, h2.1, h2.2.1, _, h2.2.2, rfl⟩, rfl, by simp [one], Tryd.underlying38, (fun h => by cases h), (fun _ z hz => by cases hz; obtain ⟨i, h1, h2⟩ := Option.map_eq_some_iff.1 tinfo38; simp only [Prod.mk.injEq] at h2; exact ⟨i, h1, h2.2.2⟩)⟩
theorem tinfo41 : (Tryd.prog.info? 41).map (fun i => (i.size, i.bytes, i.zero)) = some (3, 32, some (.agg #[.int .i64 0, .int .i64 0, .string ByteArray.empty])) := by kernel_rfl
theorem tflat41 : Tryd.prog.stoodInHeld 41 = false ∧ Tryd.prog.eqGuardType Tryd.prog.depth 41 = false := ⟨by kernel_rfl, by kernel_rfl⟩
theorem tok41 : TOk Tryd.prog 41 ⟨.struct [(3, 0), (2, 1), (9, 2)], 3, 32, [.int .i64 0, .int .i64 0, .string ByteArray.empty], [0, 0, 0], true⟩ := ⟨by obtain ⟨i, h1, h2⟩ := Option.map_eq_some_iff.1 tinfo41; simp only [Prod.mk.injEq] at h2; exact ⟨i, h1, h2.1, h2.2.1, _, h2.2.2, rfl⟩, rfl, by simp [one], ⟨_, Tryd.underlying41, rfl⟩, (fun _ => ⟨tflat41.1, tflat41.2, fun fs hfs => by rw [Tryd.underlying41] at hfs; cases hfs; simp⟩), (fun h => by cases h)⟩
theorem tinfo42 : (Tryd.prog.info? 42).map (fun i => (i.size, i.bytes, i.zero)) = some (3, 32, some (.agg #[.int .i64 0, .int .i64 0, .string ByteArray.empty])) := by kernel_rfl
theorem tflat42 : Tryd.prog.stoodInHeld 42 = false ∧ Tryd.prog.eqGuardType Tryd.prog.depth 42 = false := ⟨by kernel_rfl, by kernel_rfl⟩
theorem tok42 : TOk Tryd.prog 42 ⟨.struct [(3, 0), (2, 1), (9, 2)], 3, 32, [.int .i64 0, .int .i64 0, .string ByteArray.empty], [0, 0, 0], true⟩ := ⟨by obtain ⟨i, h1, h2⟩ := Option.map_eq_some_iff.1 tinfo42; simp only [Prod.mk.injEq] at h2; exact ⟨i, h1, h2.1, h2.2.1, _, h2.2.2, rfl⟩, rfl, by simp [one], ⟨_, Tryd.underlying42, rfl⟩, (fun _ => ⟨tflat42.1, tflat42.2, fun fs hfs => by rw [Tryd.underlying42] at hfs; cases hfs; simp⟩), (fun h => by cases h)⟩
theorem tinfo45 : (Tryd.prog.info? 45).map (fun i => (i.size, i.bytes, i.zero)) = some (1, 24, some (.slice none 0 0)) := by kernel_rfl
theorem tok45 : TOk Tryd.prog 45 ⟨.slice 57, 1, 24, [.slice none 0 0], [3], false⟩ := ⟨by obtain ⟨i, h1, h2⟩ := Option.map_eq_some_iff.1 tinfo45; simp only [Prod.mk.injEq] at h2; exact ⟨i, h1, h2.1, h2.2.1, _, h2.2.2, rfl⟩, rfl, by simp [one], Tryd.underlying45, (fun h => by cases h), (fun _ z hz => by cases hz; obtain ⟨i, h1, h2⟩ := Option.map_eq_some_iff.1 tinfo45; simp only [Prod.mk.injEq] at h2; exact ⟨i, h1, h2.2.2⟩)⟩
theorem tinfo46 : (Tryd.prog.info? 46).map (fun i => (i.size, i.bytes, i.zero)) = some (1, 24, some (.slice none 0 0)) := by kernel_rfl
theorem tok46 : TOk Tryd.prog 46 ⟨.slice 3, 1, 24, [.slice none 0 0], [1], false⟩ := ⟨by obtain ⟨i, h1, h2⟩ := Option.map_eq_some_iff.1 tinfo46; simp only [Prod.mk.injEq] at h2; exact ⟨i, h1, h2.1, h2.2.1, _, h2.2.2, rfl⟩, rfl, by simp [one], Tryd.underlying46, (fun h => by cases h), (fun _ z hz => by cases hz; obtain ⟨i, h1, h2⟩ := Option.map_eq_some_iff.1 tinfo46; simp only [Prod.mk.injEq] at h2; exact ⟨i, h1, h2.2.2⟩)⟩
theorem tinfo47 : (Tryd.prog.info? 47).map (fun i => (i.size, i.bytes, i.zero)) = some (1, 24, some (.slice none 0 0)) := by kernel_rfl
theorem tok47 : TOk Tryd.prog 47 ⟨.slice 46, 1, 24, [.slice none 0 0], [1], false⟩ := ⟨by obtain ⟨i, h1, h2⟩ := Option.map_eq_some_iff.1 tinfo47; simp only [Prod.mk.injEq] at h2; exact ⟨i, h1, h2.1, h2.2.1, _, h2.2.2, rfl⟩, rfl, by simp [one], Tryd.underlying47, (fun h => by cases h), (fun _ z hz => by cases hz; obtain ⟨i, h1, h2⟩ := Option.map_eq_some_iff.1 tinfo47; simp only [Prod.mk.injEq] at h2; exact ⟨i, h1, h2.2.2⟩)⟩
theorem tinfo48 : (Tryd.prog.info? 48).map (fun i => (i.size, i.bytes, i.zero)) = some (1, 24, some (.slice none 0 0)) := by kernel_rfl
theorem tok48 : TOk Tryd.prog 48 ⟨.slice 52, 1, 24, [.slice none 0 0], [2], false⟩ := ⟨by obtain ⟨i, h1, h2⟩ := Option.map_eq_some_iff.1 tinfo48; simp only [Prod.mk.injEq] at h2; exact ⟨i, h1, h2.1, h2.2.1, _, h2.2.2, rfl⟩, rfl, by simp [one], Tryd.underlying48, (fun h => by cases h), (fun _ z hz => by cases hz; obtain ⟨i, h1, h2⟩ := Option.map_eq_some_iff.1 tinfo48; simp only [Prod.mk.injEq] at h2; exact ⟨i, h1, h2.2.2⟩)⟩
theorem tinfo49 : (Tryd.prog.info? 49).map (fun i => (i.size, i.bytes, i.zero)) = some (6, 136, some (.agg #[.string ByteArray.empty, .slice none 0 0, .slice none 0 0, .slice none 0 0, .slice none 0 0, .slice none 0 0])) := by kernel_rfl
theorem tok49 : TOk Tryd.prog 49 ⟨.struct [(9, 0), (45, 1), (46, 2), (47, 3), (48, 4), (33, 5)], 6, 136, [.string ByteArray.empty, .slice none 0 0, .slice none 0 0, .slice none 0 0, .slice none 0 0, .slice none 0 0], [0, 3, 1, 1, 2, 6], false⟩ := ⟨by obtain ⟨i, h1, h2⟩ := Option.map_eq_some_iff.1 tinfo49; simp only [Prod.mk.injEq] at h2; exact ⟨i, h1, h2.1, h2.2.1, _, h2.2.2, rfl⟩, rfl, by simp [one], ⟨_, Tryd.underlying49, rfl⟩, (fun h => by cases h), (fun h => by cases h)⟩
theorem tinfo50 : (Tryd.prog.info? 50).map (fun i => (i.size, i.bytes, i.zero)) = some (6, 136, some (.agg #[.string ByteArray.empty, .slice none 0 0, .slice none 0 0, .slice none 0 0, .slice none 0 0, .slice none 0 0])) := by kernel_rfl
theorem tok50 : TOk Tryd.prog 50 ⟨.struct [(9, 0), (45, 1), (46, 2), (47, 3), (48, 4), (33, 5)], 6, 136, [.string ByteArray.empty, .slice none 0 0, .slice none 0 0, .slice none 0 0, .slice none 0 0, .slice none 0 0], [0, 3, 1, 1, 2, 6], false⟩ := ⟨by obtain ⟨i, h1, h2⟩ := Option.map_eq_some_iff.1 tinfo50; simp only [Prod.mk.injEq] at h2; exact ⟨i, h1, h2.1, h2.2.1, _, h2.2.2, rfl⟩, rfl, by simp [one], ⟨_, Tryd.underlying50, rfl⟩, (fun h => by cases h), (fun h => by cases h)⟩
theorem tinfo51 : (Tryd.prog.info? 51).map (fun i => (i.size, i.bytes, i.zero)) = some (2, 40, some (.agg #[.slice none 0 0, .string ByteArray.empty])) := by kernel_rfl
theorem tok51 : TOk Tryd.prog 51 ⟨.struct [(46, 0), (9, 1)], 2, 40, [.slice none 0 0, .string ByteArray.empty], [1, 0], false⟩ := ⟨by obtain ⟨i, h1, h2⟩ := Option.map_eq_some_iff.1 tinfo51; simp only [Prod.mk.injEq] at h2; exact ⟨i, h1, h2.1, h2.2.1, _, h2.2.2, rfl⟩, rfl, by simp [one], ⟨_, Tryd.underlying51, rfl⟩, (fun h => by cases h), (fun h => by cases h)⟩
theorem tinfo52 : (Tryd.prog.info? 52).map (fun i => (i.size, i.bytes, i.zero)) = some (2, 40, some (.agg #[.slice none 0 0, .string ByteArray.empty])) := by kernel_rfl
theorem tok52 : TOk Tryd.prog 52 ⟨.struct [(46, 0), (9, 1)], 2, 40, [.slice none 0 0, .string ByteArray.empty], [1, 0], false⟩ := ⟨by obtain ⟨i, h1, h2⟩ := Option.map_eq_some_iff.1 tinfo52; simp only [Prod.mk.injEq] at h2; exact ⟨i, h1, h2.1, h2.2.1, _, h2.2.2, rfl⟩, rfl, by simp [one], ⟨_, Tryd.underlying52, rfl⟩, (fun h => by cases h), (fun h => by cases h)⟩
theorem tinfo54 : (Tryd.prog.info? 54).map (fun i => (i.size, i.bytes, i.zero)) = some (1, 24, some (.slice none 0 0)) := by kernel_rfl
theorem tok54 : TOk Tryd.prog 54 ⟨.slice 42, 1, 24, [.slice none 0 0], [3], false⟩ := ⟨by obtain ⟨i, h1, h2⟩ := Option.map_eq_some_iff.1 tinfo54; simp only [Prod.mk.injEq] at h2; exact ⟨i, h1, h2.1, h2.2.1, _, h2.2.2, rfl⟩, rfl, by simp [one], Tryd.underlying54, (fun h => by cases h), (fun _ z hz => by cases hz; obtain ⟨i, h1, h2⟩ := Option.map_eq_some_iff.1 tinfo54; simp only [Prod.mk.injEq] at h2; exact ⟨i, h1, h2.2.2⟩)⟩
theorem tinfo56 : (Tryd.prog.info? 56).map (fun i => (i.size, i.bytes, i.zero)) = some (3, 32, some (.agg #[.string ByteArray.empty, .int .i64 0, .bool false])) := by kernel_rfl
theorem tflat56 : Tryd.prog.stoodInHeld 56 = false ∧ Tryd.prog.eqGuardType Tryd.prog.depth 56 = false := ⟨by kernel_rfl, by kernel_rfl⟩
theorem tok56 : TOk Tryd.prog 56 ⟨.struct [(9, 0), (3, 1), (4, 2)], 3, 32, [.string ByteArray.empty, .int .i64 0, .bool false], [0, 0, 0], true⟩ := ⟨by obtain ⟨i, h1, h2⟩ := Option.map_eq_some_iff.1 tinfo56; simp only [Prod.mk.injEq] at h2; exact ⟨i, h1, h2.1, h2.2.1, _, h2.2.2, rfl⟩, rfl, by simp [one], ⟨_, Tryd.underlying56, rfl⟩, (fun _ => ⟨tflat56.1, tflat56.2, fun fs hfs => by rw [Tryd.underlying56] at hfs; cases hfs; simp⟩), (fun h => by cases h)⟩
theorem tinfo57 : (Tryd.prog.info? 57).map (fun i => (i.size, i.bytes, i.zero)) = some (3, 32, some (.agg #[.string ByteArray.empty, .int .i64 0, .bool false])) := by kernel_rfl
theorem tflat57 : Tryd.prog.stoodInHeld 57 = false ∧ Tryd.prog.eqGuardType Tryd.prog.depth 57 = false := ⟨by kernel_rfl, by kernel_rfl⟩
theorem tok57 : TOk Tryd.prog 57 ⟨.struct [(9, 0), (3, 1), (4, 2)], 3, 32, [.string ByteArray.empty, .int .i64 0, .bool false], [0, 0, 0], true⟩ := ⟨by obtain ⟨i, h1, h2⟩ := Option.map_eq_some_iff.1 tinfo57; simp only [Prod.mk.injEq] at h2; exact ⟨i, h1, h2.1, h2.2.1, _, h2.2.2, rfl⟩, rfl, by simp [one], ⟨_, Tryd.underlying57, rfl⟩, (fun _ => ⟨tflat57.1, tflat57.2, fun fs hfs => by rw [Tryd.underlying57] at hfs; cases hfs; simp⟩), (fun h => by cases h)⟩
theorem tinfo76 : (Tryd.prog.info? 76).map (fun i => (i.size, i.bytes, i.zero)) = some (4, 40, some (.agg #[.string ByteArray.empty, .int .i64 0, .int .i64 0, .int .i64 0])) := by kernel_rfl
theorem tflat76 : Tryd.prog.stoodInHeld 76 = false ∧ Tryd.prog.eqGuardType Tryd.prog.depth 76 = false := ⟨by kernel_rfl, by kernel_rfl⟩
theorem tok76 : TOk Tryd.prog 76 ⟨.struct [(9, 0), (3, 1), (3, 2), (3, 3)], 4, 40, [.string ByteArray.empty, .int .i64 0, .int .i64 0, .int .i64 0], [0, 0, 0, 0], true⟩ := ⟨by obtain ⟨i, h1, h2⟩ := Option.map_eq_some_iff.1 tinfo76; simp only [Prod.mk.injEq] at h2; exact ⟨i, h1, h2.1, h2.2.1, _, h2.2.2, rfl⟩, rfl, by simp [one], ⟨_, Tryd.underlying76, rfl⟩, (fun _ => ⟨tflat76.1, tflat76.2, fun fs hfs => by rw [Tryd.underlying76] at hfs; cases hfs; simp⟩), (fun h => by cases h)⟩
theorem tinfo77 : (Tryd.prog.info? 77).map (fun i => (i.size, i.bytes, i.zero)) = some (4, 40, some (.agg #[.string ByteArray.empty, .int .i64 0, .int .i64 0, .int .i64 0])) := by kernel_rfl
theorem tflat77 : Tryd.prog.stoodInHeld 77 = false ∧ Tryd.prog.eqGuardType Tryd.prog.depth 77 = false := ⟨by kernel_rfl, by kernel_rfl⟩
theorem tok77 : TOk Tryd.prog 77 ⟨.struct [(9, 0), (3, 1), (3, 2), (3, 3)], 4, 40, [.string ByteArray.empty, .int .i64 0, .int .i64 0, .int .i64 0], [0, 0, 0, 0], true⟩ := ⟨by obtain ⟨i, h1, h2⟩ := Option.map_eq_some_iff.1 tinfo77; simp only [Prod.mk.injEq] at h2; exact ⟨i, h1, h2.1, h2.2.1, _, h2.2.2, rfl⟩, rfl, by simp [one], ⟨_, Tryd.underlying77, rfl⟩, (fun _ => ⟨tflat77.1, tflat77.2, fun fs hfs => by rw [Tryd.underlying77] at hfs; cases hfs; simp⟩), (fun h => by cases h)⟩
theorem tinfo84 : (Tryd.prog.info? 84).map (fun i => (i.size, i.bytes, i.zero)) = some (1, 8, some (.int .u64 0)) := by kernel_rfl
theorem tok84 : TOk Tryd.prog 84 ⟨.int .u64, 1, 8, [.int .u64 0], [0], false⟩ := ⟨by obtain ⟨i, h1, h2⟩ := Option.map_eq_some_iff.1 tinfo84; simp only [Prod.mk.injEq] at h2; exact ⟨i, h1, h2.1, h2.2.1, _, h2.2.2, rfl⟩, rfl, by simp [one], Tryd.underlying84, (fun h => by cases h), (fun _ z hz => by cases hz; obtain ⟨i, h1, h2⟩ := Option.map_eq_some_iff.1 tinfo84; simp only [Prod.mk.injEq] at h2; exact ⟨i, h1, h2.2.2⟩)⟩
theorem tinfo107 : (Tryd.prog.info? 107).map (fun i => (i.size, i.bytes, i.zero)) = some (1, 24, some (.slice none 0 0)) := by kernel_rfl
theorem tok107 : TOk Tryd.prog 107 ⟨.slice 108, 1, 24, [.slice none 0 0], [1], false⟩ := ⟨by obtain ⟨i, h1, h2⟩ := Option.map_eq_some_iff.1 tinfo107; simp only [Prod.mk.injEq] at h2; exact ⟨i, h1, h2.1, h2.2.1, _, h2.2.2, rfl⟩, rfl, by simp [one], Tryd.underlying107, (fun h => by cases h), (fun _ z hz => by cases hz; obtain ⟨i, h1, h2⟩ := Option.map_eq_some_iff.1 tinfo107; simp only [Prod.mk.injEq] at h2; exact ⟨i, h1, h2.2.2⟩)⟩
theorem tinfo108 : (Tryd.prog.info? 108).map (fun i => (i.size, i.bytes, i.zero)) = some (1, 8, some (.map none)) := by kernel_rfl
theorem tok108 : TOk Tryd.prog 108 ⟨.map 3 4, 1, 8, [.map none], [0], false⟩ := ⟨by obtain ⟨i, h1, h2⟩ := Option.map_eq_some_iff.1 tinfo108; simp only [Prod.mk.injEq] at h2; exact ⟨i, h1, h2.1, h2.2.1, _, h2.2.2, rfl⟩, rfl, by simp [one], Tryd.underlying108, (fun h => by cases h), (fun _ z hz => by cases hz; obtain ⟨i, h1, h2⟩ := Option.map_eq_some_iff.1 tinfo108; simp only [Prod.mk.injEq] at h2; exact ⟨i, h1, h2.2.2⟩)⟩
theorem tinfo113 : (Tryd.prog.info? 113).map (fun i => (i.size, i.bytes, i.zero)) = some (1, 24, some (.slice none 0 0)) := by kernel_rfl
theorem tok113 : TOk Tryd.prog 113 ⟨.slice 9, 1, 24, [.slice none 0 0], [1], false⟩ := ⟨by obtain ⟨i, h1, h2⟩ := Option.map_eq_some_iff.1 tinfo113; simp only [Prod.mk.injEq] at h2; exact ⟨i, h1, h2.1, h2.2.1, _, h2.2.2, rfl⟩, rfl, by simp [one], Tryd.underlying113, (fun h => by cases h), (fun _ z hz => by cases hz; obtain ⟨i, h1, h2⟩ := Option.map_eq_some_iff.1 tinfo113; simp only [Prod.mk.injEq] at h2; exact ⟨i, h1, h2.2.2⟩)⟩
theorem tinfo116 : (Tryd.prog.info? 116).map (fun i => (i.size, i.bytes, i.zero)) = some (1, 24, some (.slice none 0 0)) := by kernel_rfl
theorem tok116 : TOk Tryd.prog 116 ⟨.slice 4, 1, 24, [.slice none 0 0], [1], false⟩ := ⟨by obtain ⟨i, h1, h2⟩ := Option.map_eq_some_iff.1 tinfo116; simp only [Prod.mk.injEq] at h2; exact ⟨i, h1, h2.1, h2.2.1, _, h2.2.2, rfl⟩, rfl, by simp [one], Tryd.underlying116, (fun h => by cases h), (fun _ z hz => by cases hz; obtain ⟨i, h1, h2⟩ := Option.map_eq_some_iff.1 tinfo116; simp only [Prod.mk.injEq] at h2; exact ⟨i, h1, h2.2.2⟩)⟩
theorem tinfo120 : (Tryd.prog.info? 120).map (fun i => (i.size, i.bytes, i.zero)) = some (1, 8, some (.int .i64 0)) := by kernel_rfl
theorem tok120 : TOk Tryd.prog 120 ⟨.int .i64, 1, 8, [.int .i64 0], [0], false⟩ := ⟨by obtain ⟨i, h1, h2⟩ := Option.map_eq_some_iff.1 tinfo120; simp only [Prod.mk.injEq] at h2; exact ⟨i, h1, h2.1, h2.2.1, _, h2.2.2, rfl⟩, rfl, by simp [one], Tryd.underlying120, (fun h => by cases h), (fun _ z hz => by cases hz; obtain ⟨i, h1, h2⟩ := Option.map_eq_some_iff.1 tinfo120; simp only [Prod.mk.injEq] at h2; exact ⟨i, h1, h2.2.2⟩)⟩
theorem tinfo127 : (Tryd.prog.info? 127).map (fun i => (i.size, i.bytes, i.zero)) = some (1, 4, some (.int .u32 0)) := by kernel_rfl
theorem tok127 : TOk Tryd.prog 127 ⟨.int .u32, 1, 4, [.int .u32 0], [0], false⟩ := ⟨by obtain ⟨i, h1, h2⟩ := Option.map_eq_some_iff.1 tinfo127; simp only [Prod.mk.injEq] at h2; exact ⟨i, h1, h2.1, h2.2.1, _, h2.2.2, rfl⟩, rfl, by simp [one], Tryd.underlying127, (fun h => by cases h), (fun _ z hz => by cases hz; obtain ⟨i, h1, h2⟩ := Option.map_eq_some_iff.1 tinfo127; simp only [Prod.mk.injEq] at h2; exact ⟨i, h1, h2.2.2⟩)⟩
theorem tinfo129 : (Tryd.prog.info? 129).map (fun i => (i.size, i.bytes, i.zero)) = some (1, 8, some (.int .u64 0)) := by kernel_rfl
theorem tok129 : TOk Tryd.prog 129 ⟨.int .u64, 1, 8, [.int .u64 0], [0], false⟩ := ⟨by obtain ⟨i, h1, h2⟩ := Option.map_eq_some_iff.1 tinfo129; simp only [Prod.mk.injEq] at h2; exact ⟨i, h1, h2.1, h2.2.1, _, h2.2.2, rfl⟩, rfl, by simp [one], Tryd.underlying129, (fun h => by cases h), (fun _ z hz => by cases hz; obtain ⟨i, h1, h2⟩ := Option.map_eq_some_iff.1 tinfo129; simp only [Prod.mk.injEq] at h2; exact ⟨i, h1, h2.2.2⟩)⟩
theorem tinfo135 : (Tryd.prog.info? 135).map (fun i => (i.size, i.bytes, i.zero)) = some (1, 24, some (.slice none 0 0)) := by kernel_rfl
theorem tok135 : TOk Tryd.prog 135 ⟨.slice 138, 1, 24, [.slice none 0 0], [3], false⟩ := ⟨by obtain ⟨i, h1, h2⟩ := Option.map_eq_some_iff.1 tinfo135; simp only [Prod.mk.injEq] at h2; exact ⟨i, h1, h2.1, h2.2.1, _, h2.2.2, rfl⟩, rfl, by simp [one], Tryd.underlying135, (fun h => by cases h), (fun _ z hz => by cases hz; obtain ⟨i, h1, h2⟩ := Option.map_eq_some_iff.1 tinfo135; simp only [Prod.mk.injEq] at h2; exact ⟨i, h1, h2.2.2⟩)⟩
theorem tinfo137 : (Tryd.prog.info? 137).map (fun i => (i.size, i.bytes, i.zero)) = some (3, 40, some (.agg #[.slice none 0 0, .int .i64 0, .int .i64 0])) := by kernel_rfl
theorem tok137 : TOk Tryd.prog 137 ⟨.struct [(54, 0), (3, 1), (3, 2)], 3, 40, [.slice none 0 0, .int .i64 0, .int .i64 0], [3, 0, 0], false⟩ := ⟨by obtain ⟨i, h1, h2⟩ := Option.map_eq_some_iff.1 tinfo137; simp only [Prod.mk.injEq] at h2; exact ⟨i, h1, h2.1, h2.2.1, _, h2.2.2, rfl⟩, rfl, by simp [one], ⟨_, Tryd.underlying137, rfl⟩, (fun h => by cases h), (fun h => by cases h)⟩
theorem tinfo138 : (Tryd.prog.info? 138).map (fun i => (i.size, i.bytes, i.zero)) = some (3, 40, some (.agg #[.slice none 0 0, .int .i64 0, .int .i64 0])) := by kernel_rfl
theorem tok138 : TOk Tryd.prog 138 ⟨.struct [(54, 0), (3, 1), (3, 2)], 3, 40, [.slice none 0 0, .int .i64 0, .int .i64 0], [3, 0, 0], false⟩ := ⟨by obtain ⟨i, h1, h2⟩ := Option.map_eq_some_iff.1 tinfo138; simp only [Prod.mk.injEq] at h2; exact ⟨i, h1, h2.1, h2.2.1, _, h2.2.2, rfl⟩, rfl, by simp [one], ⟨_, Tryd.underlying138, rfl⟩, (fun h => by cases h), (fun h => by cases h)⟩
theorem tinfo146 : (Tryd.prog.info? 146).map (fun i => (i.size, i.bytes, i.zero)) = some (116, 1160, some (.agg #[.string ByteArray.empty, .int .i64 0, .int .i64 0, .int .i64 0, .string ByteArray.empty, .int .i64 0, .int .i64 0, .int .i64 0, .string ByteArray.empty, .int .i64 0, .int .i64 0, .int .i64 0, .string ByteArray.empty, .int .i64 0, .int .i64 0, .int .i64 0, .string ByteArray.empty, .int .i64 0, .int .i64 0, .int .i64 0, .string ByteArray.empty, .int .i64 0, .int .i64 0, .int .i64 0, .string ByteArray.empty, .int .i64 0, .int .i64 0, .int .i64 0, .string ByteArray.empty, .int .i64 0, .int .i64 0, .int .i64 0, .string ByteArray.empty, .int .i64 0, .int .i64 0, .int .i64 0, .string ByteArray.empty, .int .i64 0, .int .i64 0, .int .i64 0, .string ByteArray.empty, .int .i64 0, .int .i64 0, .int .i64 0, .string ByteArray.empty, .int .i64 0, .int .i64 0, .int .i64 0, .string ByteArray.empty, .int .i64 0, .int .i64 0, .int .i64 0, .string ByteArray.empty, .int .i64 0, .int .i64 0, .int .i64 0, .string ByteArray.empty, .int .i64 0, .int .i64 0, .int .i64 0, .string ByteArray.empty, .int .i64 0, .int .i64 0, .int .i64 0, .string ByteArray.empty, .int .i64 0, .int .i64 0, .int .i64 0, .string ByteArray.empty, .int .i64 0, .int .i64 0, .int .i64 0, .string ByteArray.empty, .int .i64 0, .int .i64 0, .int .i64 0, .string ByteArray.empty, .int .i64 0, .int .i64 0, .int .i64 0, .string ByteArray.empty, .int .i64 0, .int .i64 0, .int .i64 0, .string ByteArray.empty, .int .i64 0, .int .i64 0, .int .i64 0, .string ByteArray.empty, .int .i64 0, .int .i64 0, .int .i64 0, .string ByteArray.empty, .int .i64 0, .int .i64 0, .int .i64 0, .string ByteArray.empty, .int .i64 0, .int .i64 0, .int .i64 0, .string ByteArray.empty, .int .i64 0, .int .i64 0, .int .i64 0, .string ByteArray.empty, .int .i64 0, .int .i64 0, .int .i64 0, .string ByteArray.empty, .int .i64 0, .int .i64 0, .int .i64 0, .string ByteArray.empty, .int .i64 0, .int .i64 0, .int .i64 0])) := by kernel_rfl
theorem tok146 : TOk Tryd.prog 146 ⟨.array 29 77, 116, 1160, [.string ByteArray.empty, .int .i64 0, .int .i64 0, .int .i64 0, .string ByteArray.empty, .int .i64 0, .int .i64 0, .int .i64 0, .string ByteArray.empty, .int .i64 0, .int .i64 0, .int .i64 0, .string ByteArray.empty, .int .i64 0, .int .i64 0, .int .i64 0, .string ByteArray.empty, .int .i64 0, .int .i64 0, .int .i64 0, .string ByteArray.empty, .int .i64 0, .int .i64 0, .int .i64 0, .string ByteArray.empty, .int .i64 0, .int .i64 0, .int .i64 0, .string ByteArray.empty, .int .i64 0, .int .i64 0, .int .i64 0, .string ByteArray.empty, .int .i64 0, .int .i64 0, .int .i64 0, .string ByteArray.empty, .int .i64 0, .int .i64 0, .int .i64 0, .string ByteArray.empty, .int .i64 0, .int .i64 0, .int .i64 0, .string ByteArray.empty, .int .i64 0, .int .i64 0, .int .i64 0, .string ByteArray.empty, .int .i64 0, .int .i64 0, .int .i64 0, .string ByteArray.empty, .int .i64 0, .int .i64 0, .int .i64 0, .string ByteArray.empty, .int .i64 0, .int .i64 0, .int .i64 0, .string ByteArray.empty, .int .i64 0, .int .i64 0, .int .i64 0, .string ByteArray.empty, .int .i64 0, .int .i64 0, .int .i64 0, .string ByteArray.empty, .int .i64 0, .int .i64 0, .int .i64 0, .string ByteArray.empty, .int .i64 0, .int .i64 0, .int .i64 0, .string ByteArray.empty, .int .i64 0, .int .i64 0, .int .i64 0, .string ByteArray.empty, .int .i64 0, .int .i64 0, .int .i64 0, .string ByteArray.empty, .int .i64 0, .int .i64 0, .int .i64 0, .string ByteArray.empty, .int .i64 0, .int .i64 0, .int .i64 0, .string ByteArray.empty, .int .i64 0, .int .i64 0, .int .i64 0, .string ByteArray.empty, .int .i64 0, .int .i64 0, .int .i64 0, .string ByteArray.empty, .int .i64 0, .int .i64 0, .int .i64 0, .string ByteArray.empty, .int .i64 0, .int .i64 0, .int .i64 0, .string ByteArray.empty, .int .i64 0, .int .i64 0, .int .i64 0, .string ByteArray.empty, .int .i64 0, .int .i64 0, .int .i64 0], [0, 0, 0, 0, 0, 0, 0, 0, 0, 0, 0, 0, 0, 0, 0, 0, 0, 0, 0, 0, 0, 0, 0, 0, 0, 0, 0, 0, 0, 0, 0, 0, 0, 0, 0, 0, 0, 0, 0, 0, 0, 0, 0, 0, 0, 0, 0, 0, 0, 0, 0, 0, 0, 0, 0, 0, 0, 0, 0, 0, 0, 0, 0, 0, 0, 0, 0, 0, 0, 0, 0, 0, 0, 0, 0, 0, 0, 0, 0, 0, 0, 0, 0, 0, 0, 0, 0, 0, 0, 0, 0, 0, 0, 0, 0, 0, 0, 0, 0, 0, 0, 0, 0, 0, 0, 0, 0, 0, 0, 0, 0, 0, 0, 0, 0, 0], false⟩ := ⟨by obtain ⟨i, h1, h2⟩ := Option.map_eq_some_iff.1 tinfo146; simp only [Prod.mk.injEq] at h2; exact ⟨i, h1, h2.1, h2.2.1, _, h2.2.2, rfl⟩, rfl, by simp [one], Tryd.underlying146, (fun h => by cases h), (fun h => by cases h)⟩
theorem tinfo148 : (Tryd.prog.info? 148).map (fun i => (i.size, i.bytes, i.zero)) = some (1, 8, some (.int .u64 0)) := by kernel_rfl
theorem tok148 : TOk Tryd.prog 148 ⟨.int .u64, 1, 8, [.int .u64 0], [0], false⟩ := ⟨by obtain ⟨i, h1, h2⟩ := Option.map_eq_some_iff.1 tinfo148; simp only [Prod.mk.injEq] at h2; exact ⟨i, h1, h2.1, h2.2.1, _, h2.2.2, rfl⟩, rfl, by simp [one], Tryd.underlying148, (fun h => by cases h), (fun _ z hz => by cases hz; obtain ⟨i, h1, h2⟩ := Option.map_eq_some_iff.1 tinfo148; simp only [Prod.mk.injEq] at h2; exact ⟨i, h1, h2.2.2⟩)⟩
theorem tinfo152 : (Tryd.prog.info? 152).map (fun i => (i.size, i.bytes, i.zero)) = some (1, 8, some (.pointer none)) := by kernel_rfl
theorem tok152 : TOk Tryd.prog 152 ⟨.pointer 3, 1, 8, [.pointer none], [0], false⟩ := ⟨by obtain ⟨i, h1, h2⟩ := Option.map_eq_some_iff.1 tinfo152; simp only [Prod.mk.injEq] at h2; exact ⟨i, h1, h2.1, h2.2.1, _, h2.2.2, rfl⟩, rfl, by simp [one], Tryd.underlying152, (fun h => by cases h), (fun _ z hz => by cases hz; obtain ⟨i, h1, h2⟩ := Option.map_eq_some_iff.1 tinfo152; simp only [Prod.mk.injEq] at h2; exact ⟨i, h1, h2.2.2⟩)⟩
theorem tinfo158 : (Tryd.prog.info? 158).map (fun i => (i.size, i.bytes, i.zero)) = some (1, 8, some (.pointer none)) := by kernel_rfl
theorem tok158 : TOk Tryd.prog 158 ⟨.pointer 148, 1, 8, [.pointer none], [0], false⟩ := ⟨by obtain ⟨i, h1, h2⟩ := Option.map_eq_some_iff.1 tinfo158; simp only [Prod.mk.injEq] at h2; exact ⟨i, h1, h2.1, h2.2.1, _, h2.2.2, rfl⟩, rfl, by simp [one], Tryd.underlying158, (fun h => by cases h), (fun _ z hz => by cases hz; obtain ⟨i, h1, h2⟩ := Option.map_eq_some_iff.1 tinfo158; simp only [Prod.mk.injEq] at h2; exact ⟨i, h1, h2.2.2⟩)⟩
theorem tinfo177 : (Tryd.prog.info? 177).map (fun i => (i.size, i.bytes, i.zero)) = some (1, 8, some (.pointer none)) := by kernel_rfl
theorem tok177 : TOk Tryd.prog 177 ⟨.pointer 5, 1, 8, [.pointer none], [0], false⟩ := ⟨by obtain ⟨i, h1, h2⟩ := Option.map_eq_some_iff.1 tinfo177; simp only [Prod.mk.injEq] at h2; exact ⟨i, h1, h2.1, h2.2.1, _, h2.2.2, rfl⟩, rfl, by simp [one], Tryd.underlying177, (fun h => by cases h), (fun _ z hz => by cases hz; obtain ⟨i, h1, h2⟩ := Option.map_eq_some_iff.1 tinfo177; simp only [Prod.mk.injEq] at h2; exact ⟨i, h1, h2.2.2⟩)⟩

/-- The table, as simp reads it. -/
theorem tte : tt 2 = some ⟨.int .i64, 1, 8, [.int .i64 0], [0], false⟩ ∧ tt 3 = some ⟨.int .i64, 1, 8, [.int .i64 0], [0], false⟩ ∧ tt 4 = some ⟨.bool, 1, 1, [.bool false], [0], false⟩ ∧ tt 5 = some ⟨.int .u8, 1, 1, [.int .u8 0], [0], false⟩ ∧ tt 9 = some ⟨.string, 1, 16, [.string ByteArray.empty], [0], false⟩ ∧ tt 12 = some ⟨.int .u64, 1, 8, [.int .u64 0], [0], false⟩ ∧ tt 13 = some ⟨.struct [(9, 0), (12, 1)], 2, 24, [.string ByteArray.empty, .int .u64 0], [0, 0], false⟩ ∧ tt 21 = some ⟨.int .i32, 1, 4, [.int .i32 0], [0], false⟩ ∧ tt 22 = some ⟨.slice 50, 1, 24, [.slice none 0 0], [6], false⟩ ∧ tt 23 = some ⟨.struct [(22, 0)], 1, 24, [.slice none 0 0], [6], false⟩ ∧ tt 24 = some ⟨.struct [(22, 0)], 1, 24, [.slice none 0 0], [6], false⟩ ∧ tt 25 = some ⟨.slice 38, 1, 24, [.slice none 0 0], [1], false⟩ ∧ tt 26 = some ⟨.struct [(25, 0)], 1, 24, [.slice none 0 0], [1], false⟩ ∧ tt 27 = some ⟨.struct [(25, 0)], 1, 24, [.slice none 0 0], [1], false⟩ ∧ tt 30 = some ⟨.int .i64, 1, 8, [.int .i64 0], [0], false⟩ ∧ tt 33 = some ⟨.slice 35, 1, 24, [.slice none 0 0], [6], false⟩ ∧ tt 34 = some ⟨.struct [(3, 0), (3, 1), (2, 2), (9, 3), (3, 4), (33, 5)], 6, 72, [.int .i64 0, .int .i64 0, .int .i64 0, .string ByteArray.empty, .int .i64 0, .slice none 0 0], [0, 0, 0, 0, 0, 6], false⟩ ∧ tt 35 = some ⟨.struct [(3, 0), (3, 1), (2, 2), (9, 3), (3, 4), (33, 5)], 6, 72, [.int .i64 0, .int .i64 0, .int .i64 0, .string ByteArray.empty, .int .i64 0, .slice none 0 0], [0, 0, 0, 0, 0, 6], false⟩ ∧ tt 36 = some ⟨.struct [(3, 0), (35, 1)], 7, 80, [.int .i64 0, .int .i64 0, .int .i64 0, .int .i64 0, .string ByteArray.empty, .int .i64 0, .slice none 0 0], [0, 0, 0, 0, 0, 0, 6], false⟩ ∧ tt 37 = some ⟨.struct [(3, 0), (35, 1)], 7, 80, [.int .i64 0, .int .i64 0, .int .i64 0, .int .i64 0, .string ByteArray.empty, .int .i64 0, .slice none 0 0], [0, 0, 0, 0, 0, 0, 6], false⟩ ∧ tt 38 = some ⟨.slice 54, 1, 24, [.slice none 0 0], [1], false⟩ ∧ tt 41 = some ⟨.struct [(3, 0), (2, 1), (9, 2)], 3, 32, [.int .i64 0, .int .i64 0, .string ByteArray.empty], [0, 0, 0], true⟩ ∧ tt 42 = some ⟨.struct [(3, 0), (2, 1), (9, 2)], 3, 32, [.int .i64 0, .int .i64 0, .string ByteArray.empty], [0, 0, 0], true⟩ ∧ tt 45 = some ⟨.slice 57, 1, 24, [.slice none 0 0], [3], false⟩ ∧ tt 46 = some ⟨.slice 3, 1, 24, [.slice none 0 0], [1], false⟩ ∧ tt 47 = some ⟨.slice 46, 1, 24, [.slice none 0 0], [1], false⟩ ∧ tt 48 = some ⟨.slice 52, 1, 24, [.slice none 0 0], [2], false⟩ ∧ tt 49 = some ⟨.struct [(9, 0), (45, 1), (46, 2), (47, 3), (48, 4), (33, 5)], 6, 136, [.string ByteArray.empty, .slice none 0 0, .slice none 0 0, .slice none 0 0, .slice none 0 0, .slice none 0 0], [0, 3, 1, 1, 2, 6], false⟩ ∧ tt 50 = some ⟨.struct [(9, 0), (45, 1), (46, 2), (47, 3), (48, 4), (33, 5)], 6, 136, [.string ByteArray.empty, .slice none 0 0, .slice none 0 0, .slice none 0 0, .slice none 0 0, .slice none 0 0], [0, 3, 1, 1, 2, 6], false⟩ ∧ tt 51 = some ⟨.struct [(46, 0), (9, 1)], 2, 40, [.slice none 0 0, .string ByteArray.empty], [1, 0], false⟩ ∧ tt 52 = some ⟨.struct [(46, 0), (9, 1)], 2, 40, [.slice none 0 0, .string ByteArray.empty], [1, 0], false⟩ ∧ tt 54 = some ⟨.slice 42, 1, 24, [.slice none 0 0], [3], false⟩ ∧ tt 56 = some ⟨.struct [(9, 0), (3, 1), (4, 2)], 3, 32, [.string ByteArray.empty, .int .i64 0, .bool false], [0, 0, 0], true⟩ ∧ tt 57 = some ⟨.struct [(9, 0), (3, 1), (4, 2)], 3, 32, [.string ByteArray.empty, .int .i64 0, .bool false], [0, 0, 0], true⟩ ∧ tt 76 = some ⟨.struct [(9, 0), (3, 1), (3, 2), (3, 3)], 4, 40, [.string ByteArray.empty, .int .i64 0, .int .i64 0, .int .i64 0], [0, 0, 0, 0], true⟩ ∧ tt 77 = some ⟨.struct [(9, 0), (3, 1), (3, 2), (3, 3)], 4, 40, [.string ByteArray.empty, .int .i64 0, .int .i64 0, .int .i64 0], [0, 0, 0, 0], true⟩ ∧ tt 84 = some ⟨.int .u64, 1, 8, [.int .u64 0], [0], false⟩ ∧ tt 107 = some ⟨.slice 108, 1, 24, [.slice none 0 0], [1], false⟩ ∧ tt 108 = some ⟨.map 3 4, 1, 8, [.map none], [0], false⟩ ∧ tt 113 = some ⟨.slice 9, 1, 24, [.slice none 0 0], [1], false⟩ ∧ tt 116 = some ⟨.slice 4, 1, 24, [.slice none 0 0], [1], false⟩ ∧ tt 120 = some ⟨.int .i64, 1, 8, [.int .i64 0], [0], false⟩ ∧ tt 127 = some ⟨.int .u32, 1, 4, [.int .u32 0], [0], false⟩ ∧ tt 129 = some ⟨.int .u64, 1, 8, [.int .u64 0], [0], false⟩ ∧ tt 135 = some ⟨.slice 138, 1, 24, [.slice none 0 0], [3], false⟩ ∧ tt 137 = some ⟨.struct [(54, 0), (3, 1), (3, 2)], 3, 40, [.slice none 0 0, .int .i64 0, .int .i64 0], [3, 0, 0], false⟩ ∧ tt 138 = some ⟨.struct [(54, 0), (3, 1), (3, 2)], 3, 40, [.slice none 0 0, .int .i64 0, .int .i64 0], [3, 0, 0], false⟩ ∧ tt 146 = some ⟨.array 29 77, 116, 1160, [.string ByteArray.empty, .int .i64 0, .int .i64 0, .int .i64 0, .string ByteArray.empty, .int .i64 0, .int .i64 0, .int .i64 0, .string ByteArray.empty, .int .i64 0, .int .i64 0, .int .i64 0, .string ByteArray.empty, .int .i64 0, .int .i64 0, .int .i64 0, .string ByteArray.empty, .int .i64 0, .int .i64 0, .int .i64 0, .string ByteArray.empty, .int .i64 0, .int .i64 0, .int .i64 0, .string ByteArray.empty, .int .i64 0, .int .i64 0, .int .i64 0, .string ByteArray.empty, .int .i64 0, .int .i64 0, .int .i64 0, .string ByteArray.empty, .int .i64 0, .int .i64 0, .int .i64 0, .string ByteArray.empty, .int .i64 0, .int .i64 0, .int .i64 0, .string ByteArray.empty, .int .i64 0, .int .i64 0, .int .i64 0, .string ByteArray.empty, .int .i64 0, .int .i64 0, .int .i64 0, .string ByteArray.empty, .int .i64 0, .int .i64 0, .int .i64 0, .string ByteArray.empty, .int .i64 0, .int .i64 0, .int .i64 0, .string ByteArray.empty, .int .i64 0, .int .i64 0, .int .i64 0, .string ByteArray.empty, .int .i64 0, .int .i64 0, .int .i64 0, .string ByteArray.empty, .int .i64 0, .int .i64 0, .int .i64 0, .string ByteArray.empty, .int .i64 0, .int .i64 0, .int .i64 0, .string ByteArray.empty, .int .i64 0, .int .i64 0, .int .i64 0, .string ByteArray.empty, .int .i64 0, .int .i64 0, .int .i64 0, .string ByteArray.empty, .int .i64 0, .int .i64 0, .int .i64 0, .string ByteArray.empty, .int .i64 0, .int .i64 0, .int .i64 0, .string ByteArray.empty, .int .i64 0, .int .i64 0, .int .i64 0, .string ByteArray.empty, .int .i64 0, .int .i64 0, .int .i64 0, .string ByteArray.empty, .int .i64 0, .int .i64 0, .int .i64 0, .string ByteArray.empty, .int .i64 0, .int .i64 0, .int .i64 0, .string ByteArray.empty, .int .i64 0, .int .i64 0, .int .i64 0, .string ByteArray.empty, .int .i64 0, .int .i64 0, .int .i64 0, .string ByteArray.empty, .int .i64 0, .int .i64 0, .int .i64 0], [0, 0, 0, 0, 0, 0, 0, 0, 0, 0, 0, 0, 0, 0, 0, 0, 0, 0, 0, 0, 0, 0, 0, 0, 0, 0, 0, 0, 0, 0, 0, 0, 0, 0, 0, 0, 0, 0, 0, 0, 0, 0, 0, 0, 0, 0, 0, 0, 0, 0, 0, 0, 0, 0, 0, 0, 0, 0, 0, 0, 0, 0, 0, 0, 0, 0, 0, 0, 0, 0, 0, 0, 0, 0, 0, 0, 0, 0, 0, 0, 0, 0, 0, 0, 0, 0, 0, 0, 0, 0, 0, 0, 0, 0, 0, 0, 0, 0, 0, 0, 0, 0, 0, 0, 0, 0, 0, 0, 0, 0, 0, 0, 0, 0, 0, 0], false⟩ ∧ tt 148 = some ⟨.int .u64, 1, 8, [.int .u64 0], [0], false⟩ ∧ tt 152 = some ⟨.pointer 3, 1, 8, [.pointer none], [0], false⟩ ∧ tt 158 = some ⟨.pointer 148, 1, 8, [.pointer none], [0], false⟩ ∧ tt 177 = some ⟨.pointer 5, 1, 8, [.pointer none], [0], false⟩ := by refine ⟨?_, ?_, ?_, ?_, ?_, ?_, ?_, ?_, ?_, ?_, ?_, ?_, ?_, ?_, ?_, ?_, ?_, ?_, ?_, ?_, ?_, ?_, ?_, ?_, ?_, ?_, ?_, ?_, ?_, ?_, ?_, ?_, ?_, ?_, ?_, ?_, ?_, ?_, ?_, ?_, ?_, ?_, ?_, ?_, ?_, ?_, ?_, ?_, ?_, ?_, ?_, ?_⟩ <;> rfl

theorem ttok : tt.ok Tryd.prog := by
  intro t ti h
  unfold tt at h
  split at h
  · cases h; exact tok2
  · cases h; exact tok3
  · cases h; exact tok4
  · cases h; exact tok5
  · cases h; exact tok9
  · cases h; exact tok12
  · cases h; exact tok13
  · cases h; exact tok21
  · cases h; exact tok22
  · cases h; exact tok23
  · cases h; exact tok24
  · cases h; exact tok25
  · cases h; exact tok26
  · cases h; exact tok27
  · cases h; exact tok30
  · cases h; exact tok33
  · cases h; exact tok34
  · cases h; exact tok35
  · cases h; exact tok36
  · cases h; exact tok37
  · cases h; exact tok38
  · cases h; exact tok41
  · cases h; exact tok42
  · cases h; exact tok45
  · cases h; exact tok46
  · cases h; exact tok47
  · cases h; exact tok48
  · cases h; exact tok49
  · cases h; exact tok50
  · cases h; exact tok51
  · cases h; exact tok52
  · cases h; exact tok54
  · cases h; exact tok56
  · cases h; exact tok57
  · cases h; exact tok76
  · cases h; exact tok77
  · cases h; exact tok84
  · cases h; exact tok107
  · cases h; exact tok108
  · cases h; exact tok113
  · cases h; exact tok116
  · cases h; exact tok120
  · cases h; exact tok127
  · cases h; exact tok129
  · cases h; exact tok135
  · cases h; exact tok137
  · cases h; exact tok138
  · cases h; exact tok146
  · cases h; exact tok148
  · cases h; exact tok152
  · cases h; exact tok158
  · cases h; exact tok177
  · cases h

theorem mixed : Tryd.prog.follows .mixedOrders = true := Tryd.checked.mixed
end Go.Proofs.YtkccdfaelbepeaaDoor

namespace Go.Proofs.YtkccdfaelbepeaaDoor
open Go.Am
set_option linter.unusedVariables false
set_option maxRecDepth 100000
set_option maxHeartbeats 4000000

abbrev Row := List Val
abbrev Tab2 := List Row
def rRow (r : Row) : List D := [.sl 3 (rowsOf rV r)]
def rTab (l : Tab2) : List D := [.sl 1 (rowsOf rRow l)]
def aTab (l : Tab2) : A := .d (.sl 1 (rowsOf rRow l))
def few07 (l : Tab2) : Bool := decide (l.length ≤ 80) && l.all fun r => decide (r.length ≤ 20)

theorem c_few07 (l : Tab2) : ACall Tryd.prog 9 [aTab l] [] (boo (few07 l)) [] := by
  refine ACall.enter mixed ttok Tryd.func9 rfl rfl _ Tryd.ntmps9 (Nat.le_of_ble_eq_true rfl) (by kernel_rfl) _ (congrArg Array.toList Tryd.results9) ?_
  generalize hr : boo (few07 l) = R
  simp -implicitDefEqProofs only [argT, aTab, ↓steps, push_cast, reduceIte, Nat.reduceEqDiff, Nat.reduceAdd, Nat.reduceMul, Nat.reduceLT, Nat.reduceLeDiff, Int.reduceToNat, Int.reduceLE, Int.reduceLT, reduceCtorEq, tte, num, boo, str, ints, aV]
  refine bcase_intro (fun h => ?_) fun h => ?_
  · have : few07 l = false := by simp at h; simp [few07]; omega
    refine retx_of [0] rfl (by simp) (by first | (simp; done) | (simp [rowsOf_length]; done) | (simp [rowsOf_length]; omega)) ?_ (by first | rfl | simp only [ends, ite_true, ite_false, reduceIte, Nat.reduceEqDiff, Nat.reduceLeDiff, Nat.reduceLT, Nat.reduceAdd, reduceCtorEq, num, boo, str, ints, aV] | (subst_vars; simp only [ends, ite_true, ite_false, reduceIte, Nat.reduceEqDiff, Nat.reduceLeDiff, Nat.reduceLT, Nat.reduceAdd, reduceCtorEq, num, boo, str, ints, aV])) (by simp only [ends, ite_true, ite_false, reduceIte, Nat.reduceEqDiff, Nat.reduceLeDiff, Nat.reduceLT, Nat.reduceAdd, reduceCtorEq, num, boo, str, ints, aV]) (by simp only [ends, ite_true, ite_false, reduceIte, Nat.reduceEqDiff, Nat.reduceLeDiff, Nat.reduceLT, Nat.reduceAdd, reduceCtorEq, num, boo, str, ints, aV])
    rw [← hr, this]; rfl
  simp only [decide_eq_false_iff_not] at h
  have hl : l.length ≤ 80 := by omega
  refine loop_count mixed ttok 3 [0] [] (by simp only [pickT, ends, ite_true, ite_false, reduceIte, Nat.reduceEqDiff, Nat.reduceLeDiff, Nat.reduceLT, Nat.reduceAdd, reduceCtorEq, num, boo, str, ints, aV]; rfl) (by simp only [pickO, consO_some, ends, ite_true, ite_false, reduceIte, Nat.reduceEqDiff, Nat.reduceLeDiff, Nat.reduceLT, Nat.reduceAdd, reduceCtorEq, num, boo, str, ints, aV]; rfl) l.length (fun n => (l.drop n).all (fun r => decide (r.length ≤ 20)) = l.all fun r => decide (r.length ≤ 20)) (fun _ => []) (fun _ => []) rfl ?_ ?_
  · exact Weak.keepL (by simp [cst, ends, ite_true, ite_false, reduceIte, Nat.reduceEqDiff, Nat.reduceLeDiff, Nat.reduceLT, Nat.reduceAdd, reduceCtorEq, num, boo, str, ints, aV]) (by simp [cst, ends, ite_true, ite_false, reduceIte, Nat.reduceEqDiff, Nat.reduceLeDiff, Nat.reduceLT, Nat.reduceAdd, reduceCtorEq, num, boo, str, ints, aV]) (by simp [cst, ends, ite_true, ite_false, reduceIte, Nat.reduceEqDiff, Nat.reduceLeDiff, Nat.reduceLT, Nat.reduceAdd, reduceCtorEq, num, boo, str, ints, aV])
  intro I hI n hn hi
  have hw : n < l.length → IntKind.i64.wrap ((n : Int) + 1) = ((n + 1 : Nat) : Int) := fun h => by rw [wrap_eq (by omega) (by omega)]; rfl
  simp -implicitDefEqProofs only [cst, rRow, ↓steps, push_cast, reduceIte, Nat.reduceEqDiff, Nat.reduceAdd, Nat.reduceMul, Nat.reduceLT, Nat.reduceLeDiff, Int.reduceToNat, Int.reduceLE, Int.reduceLT, reduceCtorEq, tte, num, boo, str, ints, aV]
  refine bcase_intro (fun h => ?_) fun h => ?_
  · simp only [decide_eq_true_eq] at h
    have h' : n < l.length := by omega
    rw [drop_cons l n h', List.all_cons] at hi
    refine ⟨(by first | omega | trivial | (refine ⟨?_, ?_⟩ <;> first | omega | trivial | (refine ⟨?_, ?_⟩ <;> first | omega | trivial | (refine ⟨?_, ?_⟩ <;> first | omega | trivial | rfl)))), ?_⟩
    refine bcase_intro (fun h2 => ?_) fun h2 => ?_
    · simp only [decide_eq_true_eq] at h2
      have : few07 l = false := by rw [few07, ← hi, decide_eq_false (by omega : ¬ (l.getD n default).length ≤ 20)]; simp
      refine retx_of [0] rfl (by simp) (by first | (simp; done) | (simp [rowsOf_length]; done) | (simp [rowsOf_length]; omega)) ?_ (by first | rfl | simp only [ends, ite_true, ite_false, reduceIte, Nat.reduceEqDiff, Nat.reduceLeDiff, Nat.reduceLT, Nat.reduceAdd, reduceCtorEq, num, boo, str, ints, aV] | (subst_vars; simp only [ends, ite_true, ite_false, reduceIte, Nat.reduceEqDiff, Nat.reduceLeDiff, Nat.reduceLT, Nat.reduceAdd, reduceCtorEq, num, boo, str, ints, aV])) (by simp only [ends, ite_true, ite_false, reduceIte, Nat.reduceEqDiff, Nat.reduceLeDiff, Nat.reduceLT, Nat.reduceAdd, reduceCtorEq, num, boo, str, ints, aV]) (by simp only [ends, ite_true, ite_false, reduceIte, Nat.reduceEqDiff, Nat.reduceLeDiff, Nat.reduceLT, Nat.reduceAdd, reduceCtorEq, num, boo, str, ints, aV])
      rw [← hr, this]; rfl
    · simp only [decide_eq_false_iff_not] at h2
      exact cnt_again hI n rfl h' (by rw [← hi, decide_eq_true (by omega : (l.getD n default).length ≤ 20), Bool.true_and]) (by simp only [hw h', ends, ite_true, ite_false, reduceIte, Nat.reduceEqDiff, Nat.reduceLeDiff, Nat.reduceLT, Nat.reduceAdd, reduceCtorEq, num, boo, str, ints, aV]) (by simp [hw h', ends, ite_true, ite_false, reduceIte, Nat.reduceEqDiff, Nat.reduceLeDiff, Nat.reduceLT, Nat.reduceAdd, reduceCtorEq, num, boo, str, ints, aV]) (by simp [hw h', ends, ite_true, ite_false, reduceIte, Nat.reduceEqDiff, Nat.reduceLeDiff, Nat.reduceLT, Nat.reduceAdd, reduceCtorEq, num, boo, str, ints, aV]) (by simp [hw h', ends, ite_true, ite_false, reduceIte, Nat.reduceEqDiff, Nat.reduceLeDiff, Nat.reduceLT, Nat.reduceAdd, reduceCtorEq, num, boo, str, ints, aV])
  · simp only [decide_eq_false_iff_not] at h
    have hn' : n = l.length := by omega
    subst hn'
    have : few07 l = true := by rw [few07, ← hi]; simp; omega
    refine retx_of [0] rfl (by simp) (by first | (simp; done) | (simp [rowsOf_length]; done) | (simp [rowsOf_length]; omega)) ?_ (by first | rfl | simp only [ends, ite_true, ite_false, reduceIte, Nat.reduceEqDiff, Nat.reduceLeDiff, Nat.reduceLT, Nat.reduceAdd, reduceCtorEq, num, boo, str, ints, aV] | (subst_vars; simp only [ends, ite_true, ite_false, reduceIte, Nat.reduceEqDiff, Nat.reduceLeDiff, Nat.reduceLT, Nat.reduceAdd, reduceCtorEq, num, boo, str, ints, aV])) (by simp only [ends, ite_true, ite_false, reduceIte, Nat.reduceEqDiff, Nat.reduceLeDiff, Nat.reduceLT, Nat.reduceAdd, reduceCtorEq, num, boo, str, ints, aV]) (by simp only [ends, ite_true, ite_false, reduceIte, Nat.reduceEqDiff, Nat.reduceLeDiff, Nat.reduceLT, Nat.reduceAdd, reduceCtorEq, num, boo, str, ints, aV])
    rw [← hr, this]; rfl
end Go.Proofs.YtkccdfaelbepeaaDoor

namespace Go.Proofs.YtkccdfaelbepeaaDoor
open Go.Am
set_option linter.unusedVariables false
set_option maxRecDepth 100000
set_option maxHeartbeats 4000000

abbrev Inst := List Tab2
def aInst (i : Inst) : A := .agg [.d (.sl 1 (rowsOf rTab i))]
def few08 (i : Inst) : Bool := decide (i.length ≤ 10) && i.all few07

theorem c_few08 (l : Inst) : ACall Tryd.prog 6 [aInst l] [] (boo (few08 l)) [] := by
  refine ACall.enter mixed ttok Tryd.func6 rfl rfl _ Tryd.ntmps6 (Nat.le_of_ble_eq_true rfl) (by kernel_rfl) _ (congrArg Array.toList Tryd.results6) ?_
  generalize hr : boo (few08 l) = R
  simp -implicitDefEqProofs only [argT, aInst, ↓steps, push_cast, reduceIte, Nat.reduceEqDiff, Nat.reduceAdd, Nat.reduceMul, Nat.reduceLT, Nat.reduceLeDiff, Int.reduceToNat, Int.reduceLE, Int.reduceLT, reduceCtorEq, tte, num, boo, str, ints, aV, aTab, aInst]
  refine bcase_intro (fun h => ?_) fun h => ?_
  · have : few08 l = false := by simp at h; simp [few08]; omega
    refine retx_of [0] rfl (by simp) (by first | (simp; done) | (simp [rowsOf_length]; done) | (simp [rowsOf_length]; omega)) ?_ (by first | rfl | simp only [ends, ite_true, ite_false, reduceIte, Nat.reduceEqDiff, Nat.reduceLeDiff, Nat.reduceLT, Nat.reduceAdd, reduceCtorEq, num, boo, str, ints, aV, aTab, aInst] | (subst_vars; simp only [ends, ite_true, ite_false, reduceIte, Nat.reduceEqDiff, Nat.reduceLeDiff, Nat.reduceLT, Nat.reduceAdd, reduceCtorEq, num, boo, str, ints, aV, aTab, aInst])) (by simp only [ends, ite_true, ite_false, reduceIte, Nat.reduceEqDiff, Nat.reduceLeDiff, Nat.reduceLT, Nat.reduceAdd, reduceCtorEq, num, boo, str, ints, aV, aTab, aInst]) (by simp only [ends, ite_true, ite_false, reduceIte, Nat.reduceEqDiff, Nat.reduceLeDiff, Nat.reduceLT, Nat.reduceAdd, reduceCtorEq, num, boo, str, ints, aV, aTab, aInst])
    rw [← hr, this]; rfl
  simp only [decide_eq_false_iff_not] at h
  have hl : l.length ≤ 10 := by omega
  refine loop_count mixed ttok 3 [1] [1] (by simp only [pickT, ends, ite_true, ite_false, reduceIte, Nat.reduceEqDiff, Nat.reduceLeDiff, Nat.reduceLT, Nat.reduceAdd, reduceCtorEq, num, boo, str, ints, aV, aTab, aInst]; rfl) (by simp only [pickO, consO_some, ends, ite_true, ite_false, reduceIte, Nat.reduceEqDiff, Nat.reduceLeDiff, Nat.reduceLT, Nat.reduceAdd, reduceCtorEq, num, boo, str, ints, aV, aTab, aInst]; rfl) l.length (fun n => (l.drop n).all few07 = l.all few07) (fun _ => []) (fun _ => []) rfl ?_ ?_
  · exact Weak.keepL (by simp [cst, ends, ite_true, ite_false, reduceIte, Nat.reduceEqDiff, Nat.reduceLeDiff, Nat.reduceLT, Nat.reduceAdd, reduceCtorEq, num, boo, str, ints, aV, aTab, aInst]) (by simp [cst, ends, ite_true, ite_false, reduceIte, Nat.reduceEqDiff, Nat.reduceLeDiff, Nat.reduceLT, Nat.reduceAdd, reduceCtorEq, num, boo, str, ints, aV, aTab, aInst]) (by simp [cst, ends, ite_true, ite_false, reduceIte, Nat.reduceEqDiff, Nat.reduceLeDiff, Nat.reduceLT, Nat.reduceAdd, reduceCtorEq, num, boo, str, ints, aV, aTab, aInst])
  intro I hI n hn hi
  have hw : n < l.length → IntKind.i64.wrap ((n : Int) + 1) = ((n + 1 : Nat) : Int) := fun h => by rw [wrap_eq (by omega) (by omega)]; rfl
  simp -implicitDefEqProofs only [cst, rTab, ↓steps, push_cast, reduceIte, Nat.reduceEqDiff, Nat.reduceAdd, Nat.reduceMul, Nat.reduceLT, Nat.reduceLeDiff, Int.reduceToNat, Int.reduceLE, Int.reduceLT, reduceCtorEq, tte, num, boo, str, ints, aV, aTab, aInst]
  refine bcase_intro (fun h => ?_) fun h => ?_
  · simp only [decide_eq_true_eq] at h
    have h' : n < l.length := by omega
    rw [drop_cons l n h', List.all_cons] at hi
    refine ⟨(by first | omega | trivial | (refine ⟨?_, ?_⟩ <;> first | omega | trivial | (refine ⟨?_, ?_⟩ <;> first | omega | trivial | (refine ⟨?_, ?_⟩ <;> first | omega | trivial | rfl)))), ?_⟩
    refine callx_of [[1]] [] rfl (c_few07 (l.getD n default)) (by first | (simp; done) | (simp [rowsOf_length]; done) | (simp [rowsOf_length]; omega)) (by first | (simp only [ends, ite_true, ite_false, reduceIte, Nat.reduceEqDiff, Nat.reduceLeDiff, Nat.reduceLT, Nat.reduceAdd, reduceCtorEq, num, boo, str, ints, aV, aTab, aInst, num, boo, str, aE_eq, aV]; done) | simp [ends, ite_true, ite_false, reduceIte, Nat.reduceEqDiff, Nat.reduceLeDiff, Nat.reduceLT, Nat.reduceAdd, reduceCtorEq, num, boo, str, ints, aV, aTab, aInst, num, boo, str, aE_eq, aV]) (by first | rfl | (simp only [ends, ite_true, ite_false, reduceIte, Nat.reduceEqDiff, Nat.reduceLeDiff, Nat.reduceLT, Nat.reduceAdd, reduceCtorEq, num, boo, str, ints, aV, aTab, aInst, num, boo, str, aE_eq, aV]; done) | simp [ends, ite_true, ite_false, reduceIte, Nat.reduceEqDiff, Nat.reduceLeDiff, Nat.reduceLT, Nat.reduceAdd, reduceCtorEq, num, boo, str, ints, aV, aTab, aInst, num, boo, str, aE_eq, aV]) (by simp only [ends, ite_true, ite_false, reduceIte, Nat.reduceEqDiff, Nat.reduceLeDiff, Nat.reduceLT, Nat.reduceAdd, reduceCtorEq, num, boo, str, ints, aV, aTab, aInst]) (by simp [idsOk, lookO, updO, ren1]) ?_
    simp -implicitDefEqProofs only [↓steps, push_cast, reduceIte, Nat.reduceEqDiff, Nat.reduceAdd, Nat.reduceMul, Nat.reduceLT, Nat.reduceLeDiff, Int.reduceToNat, Int.reduceLE, Int.reduceLT, reduceCtorEq, tte, num, boo, str, ints, aV, aTab, aInst]
    refine bcase_intro (fun h2 => ?_) fun h2 => ?_
    · simp only [Bool.not_eq_true'] at h2
      have : few08 l = false := by rw [few08, ← hi, h2]; simp
      refine retx_of [0] rfl (by simp) (by first | (simp; done) | (simp [rowsOf_length]; done) | (simp [rowsOf_length]; omega)) ?_ (by first | rfl | simp only [ends, ite_true, ite_false, reduceIte, Nat.reduceEqDiff, Nat.reduceLeDiff, Nat.reduceLT, Nat.reduceAdd, reduceCtorEq, num, boo, str, ints, aV, aTab, aInst] | (subst_vars; simp only [ends, ite_true, ite_false, reduceIte, Nat.reduceEqDiff, Nat.reduceLeDiff, Nat.reduceLT, Nat.reduceAdd, reduceCtorEq, num, boo, str, ints, aV, aTab, aInst])) (by simp only [ends, ite_true, ite_false, reduceIte, Nat.reduceEqDiff, Nat.reduceLeDiff, Nat.reduceLT, Nat.reduceAdd, reduceCtorEq, num, boo, str, ints, aV, aTab, aInst]) (by simp only [ends, ite_true, ite_false, reduceIte, Nat.reduceEqDiff, Nat.reduceLeDiff, Nat.reduceLT, Nat.reduceAdd, reduceCtorEq, num, boo, str, ints, aV, aTab, aInst])
      rw [← hr, this]; rfl
    · simp only [Bool.not_eq_false'] at h2
      exact cnt_again hI n rfl h' (by rw [← hi, h2, Bool.true_and]) (by simp only [hw h', ends, ite_true, ite_false, reduceIte, Nat.reduceEqDiff, Nat.reduceLeDiff, Nat.reduceLT, Nat.reduceAdd, reduceCtorEq, num, boo, str, ints, aV, aTab, aInst]) (by simp [hw h', ends, ite_true, ite_false, reduceIte, Nat.reduceEqDiff, Nat.reduceLeDiff, Nat.reduceLT, Nat.reduceAdd, reduceCtorEq, num, boo, str, ints, aV, aTab, aInst]) (by simp [hw h', ends, ite_true, ite_false, reduceIte, Nat.reduceEqDiff, Nat.reduceLeDiff, Nat.reduceLT, Nat.reduceAdd, reduceCtorEq, num, boo, str, ints, aV, aTab, aInst]) (by simp [hw h', ends, ite_true, ite_false, reduceIte, Nat.reduceEqDiff, Nat.reduceLeDiff, Nat.reduceLT, Nat.reduceAdd, reduceCtorEq, num, boo, str, ints, aV, aTab, aInst])
  · simp only [decide_eq_false_iff_not] at h
    have hn' : n = l.length := by omega
    subst hn'
    have : few08 l = true := by rw [few08, ← hi]; simp; omega
    refine retx_of [0] rfl (by simp) (by first | (simp; done) | (simp [rowsOf_length]; done) | (simp [rowsOf_length]; omega)) ?_ (by first | rfl | simp only [ends, ite_true, ite_false, reduceIte, Nat.reduceEqDiff, Nat.reduceLeDiff, Nat.reduceLT, Nat.reduceAdd, reduceCtorEq, num, boo, str, ints, aV, aTab, aInst] | (subst_vars; simp only [ends, ite_true, ite_false, reduceIte, Nat.reduceEqDiff, Nat.reduceLeDiff, Nat.reduceLT, Nat.reduceAdd, reduceCtorEq, num, boo, str, ints, aV, aTab, aInst])) (by simp only [ends, ite_true, ite_false, reduceIte, Nat.reduceEqDiff, Nat.reduceLeDiff, Nat.reduceLT, Nat.reduceAdd, reduceCtorEq, num, boo, str, ints, aV, aTab, aInst]) (by simp only [ends, ite_true, ite_false, reduceIte, Nat.reduceEqDiff, Nat.reduceLeDiff, Nat.reduceLT, Nat.reduceAdd, reduceCtorEq, num, boo, str, ints, aV, aTab, aInst])
    rw [← hr, this]; rfl

mutual
/-- Few operands, at few levels. -/
def few02 : Ex → Int → Bool
  | .mk _ _ _ t _ ks, d => (decide (d ≤ 60) && decide (ks.length ≤ 12) && decide (t.size ≤ 200)) && fewL ks (d + 1)
def fewL : List Ex → Int → Bool
  | [], _ => true
  | e :: l, d => few02 e d && fewL l d
end
theorem fewL_eq (d : Int) : ∀ l : List Ex, fewL l d = l.all fun e => few02 e d
  | [] => rfl
  | e :: l => by rw [fewL, fewL_eq d l]; rfl
theorem few02_eq (e : Ex) (d : Int) : few02 e d = ((decide (d ≤ 60) && decide (e.kids.length ≤ 12) && decide (e.text.size ≤ 200)) && e.kids.all fun k => few02 k (d + 1)) := by
  cases e; rw [few02, fewL_eq]; rfl

mutual
/-- The number of expressions, as the machine counts. -/
def sizeW : Ex → Int
  | .mk _ _ _ _ _ ks => sizeL 1 ks
def sizeL : Int → List Ex → Int
  | n, [] => n
  | n, e :: l => sizeL (IntKind.i64.wrap (n + sizeW e)) l
end
theorem sizeW_eq (e : Ex) : sizeW e = sizeL 1 e.kids := by cases e; rw [sizeW]; rfl
theorem sizeL_snoc (e : Ex) : ∀ (l : List Ex) (n : Int), sizeL n (l ++ [e]) = IntKind.i64.wrap (sizeL n l + sizeW e)
  | [], n => by simp [sizeL]
  | x :: l, n => by simp only [List.cons_append, sizeL]; exact sizeL_snoc e l _
mutual
def depthW : Ex → Int
  | .mk _ _ _ _ _ ks => IntKind.i64.wrap (depthL 0 ks + 1)
def depthL : Int → List Ex → Int
  | n, [] => n
  | n, e :: l => depthL (if depthW e > n then depthW e else n) l
end
theorem depthW_eq (e : Ex) : depthW e = IntKind.i64.wrap (depthL 0 e.kids + 1) := by cases e; rw [depthW]; rfl

/-- How deep it is in truth. -/
theorem ex_ind {p : Ex → Prop} (h : ∀ e : Ex, (∀ k ∈ e.kids, p k) → p e) : ∀ e, p e := by
  intro e
  exact Ex.rec (motive_1 := p) (motive_2 := fun l => ∀ k ∈ l, p k) (fun a b c d f ks ih => h _ ih) (by simp) (fun k l h1 h2 => by simpa using ⟨h1, h2⟩) e

/-- Nowhere many operands. -/
inductive Ok12 : Ex → Prop
  | mk (e : Ex) (h : e.kids.length ≤ 12) (hk : ∀ k ∈ e.kids, Ok12 k) : Ok12 e
theorem Ok12.kids {e : Ex} (h : Ok12 e) : e.kids.length ≤ 12 := by cases h; assumption
theorem Ok12.kid {e k : Ex} (h : Ok12 e) (hk : k ∈ e.kids) : Ok12 k := by cases h with | mk _ _ h2 => exact h2 k hk
theorem few_ok : ∀ (e : Ex) (d : Int), few02 e d = true → Ok12 e :=
  ex_ind (p := fun e => ∀ d : Int, few02 e d = true → Ok12 e) fun e ih d h => by
    rw [few02_eq] at h
    simp only [Bool.and_eq_true, decide_eq_true_eq, List.all_eq_true] at h
    exact ⟨e, h.1.1.2, fun k hk => ih k hk _ (h.2 k hk)⟩
theorem c_few02 : ∀ (e : Ex) (d : Int), 0 ≤ d → d ≤ 61 → ACall Tryd.prog 17 [aE e, num d] [] (boo (few02 e d)) [] :=
  ex_ind (p := fun e => ∀ d : Int, 0 ≤ d → d ≤ 61 → ACall Tryd.prog 17 [aE e, num d] [] (boo (few02 e d)) []) fun e ih d hd hd2 => by
  refine ACall.enter mixed ttok Tryd.func17 rfl rfl _ Tryd.ntmps17 (Nat.le_of_ble_eq_true rfl) (by kernel_rfl) _ (congrArg Array.toList Tryd.results17) ?_
  generalize hr : boo (few02 e d) = R
  have hM := few02_eq e d
  simp -implicitDefEqProofs only [argT, ↓steps, push_cast, reduceIte, Nat.reduceEqDiff, Nat.reduceAdd, Nat.reduceMul, Nat.reduceLT, Nat.reduceLeDiff, Int.reduceToNat, Int.reduceLE, Int.reduceLT, reduceCtorEq, tte, num, boo, str, ints, aV, aTab, aInst]
  have fail : ¬ (d ≤ 60 ∧ e.kids.length ≤ 12 ∧ e.text.size ≤ 200) → few02 e d = false := fun h => by
    rw [hM, Bool.and_eq_false_iff]; left; simp only [Bool.and_eq_false_iff, decide_eq_false_iff_not]; omega
  have key : d ≤ 60 → e.kids.length ≤ 12 → e.text.size ≤ 200 → few02 e d = e.kids.all fun k => few02 k (d + 1) := fun h1 h2 h3 => by
    rw [hM, decide_eq_true h1, decide_eq_true h2, decide_eq_true h3]; rfl
  refine bcase_intro (fun h1 => ?_) fun h1 => ?_
  · exact ret_d trivial (by rw [← hr, fail (by simp at h1; omega)]; rfl) (by simp only [ends, ite_true, ite_false, reduceIte, Nat.reduceEqDiff, Nat.reduceLeDiff, Nat.reduceLT, Nat.reduceAdd, reduceCtorEq, num, boo, str, ints, aV, aTab, aInst])
  refine bcase_intro (fun h2 => ?_) fun h2 => ?_
  · exact ret_d trivial (by rw [← hr, fail (by simp at h2; omega)]; rfl) (by simp only [ends, ite_true, ite_false, reduceIte, Nat.reduceEqDiff, Nat.reduceLeDiff, Nat.reduceLT, Nat.reduceAdd, reduceCtorEq, num, boo, str, ints, aV, aTab, aInst])
  refine bcase_intro (fun h3 => ?_) fun h3 => ?_
  · exact ret_d trivial (by rw [← hr, fail (by simp at h3; omega)]; rfl) (by simp only [ends, ite_true, ite_false, reduceIte, Nat.reduceEqDiff, Nat.reduceLeDiff, Nat.reduceLT, Nat.reduceAdd, reduceCtorEq, num, boo, str, ints, aV, aTab, aInst])
  simp only [decide_eq_false_iff_not] at h1 h2 h3
  have key := key (by omega) (by omega) (by omega)
  refine loop_count mixed ttok 5 [1, 2] [2] (by simp only [pickT, ends, ite_true, ite_false, reduceIte, Nat.reduceEqDiff, Nat.reduceLeDiff, Nat.reduceLT, Nat.reduceAdd, reduceCtorEq, num, boo, str, ints, aV, aTab, aInst]; rfl) (by simp only [pickO, consO_some, ends, ite_true, ite_false, reduceIte, Nat.reduceEqDiff, Nat.reduceLeDiff, Nat.reduceLT, Nat.reduceAdd, reduceCtorEq, num, boo, str, ints, aV, aTab, aInst]; rfl) e.kids.length (fun n => ((e.kids.drop n).all fun k => few02 k (d + 1)) = e.kids.all fun k => few02 k (d + 1)) (fun _ => []) (fun _ => []) rfl ?_ ?_
  · exact Weak.keepL (by simp [cst, ends, ite_true, ite_false, reduceIte, Nat.reduceEqDiff, Nat.reduceLeDiff, Nat.reduceLT, Nat.reduceAdd, reduceCtorEq, num, boo, str, ints, aV, aTab, aInst]) (by simp [cst, ends, ite_true, ite_false, reduceIte, Nat.reduceEqDiff, Nat.reduceLeDiff, Nat.reduceLT, Nat.reduceAdd, reduceCtorEq, num, boo, str, ints, aV, aTab, aInst]) (by simp [cst, ends, ite_true, ite_false, reduceIte, Nat.reduceEqDiff, Nat.reduceLeDiff, Nat.reduceLT, Nat.reduceAdd, reduceCtorEq, num, boo, str, ints, aV, aTab, aInst])
  intro I hI n hn hi
  have hw : n < e.kids.length → IntKind.i64.wrap ((n : Int) + 1) = ((n + 1 : Nat) : Int) := fun h => by rw [wrap_eq (by omega) (by omega)]; rfl
  have hwd : IntKind.i64.wrap (d + 1) = d + 1 := wrap_eq (by omega) (by omega)
  simp -implicitDefEqProofs only [cst, ↓steps, push_cast, reduceIte, Nat.reduceEqDiff, Nat.reduceAdd, Nat.reduceMul, Nat.reduceLT, Nat.reduceLeDiff, Int.reduceToNat, Int.reduceLE, Int.reduceLT, reduceCtorEq, tte, num, boo, str, ints, aV, aTab, aInst]
  refine bcase_intro (fun h => ?_) fun h => ?_
  · simp only [decide_eq_true_eq] at h
    have h' : n < e.kids.length := by omega
    rw [drop_cons _ n h', List.all_cons] at hi
    refine ⟨(by first | omega | trivial | (refine ⟨?_, ?_⟩ <;> first | omega | trivial | (refine ⟨?_, ?_⟩ <;> first | omega | trivial | (refine ⟨?_, ?_⟩ <;> first | omega | trivial | rfl)))), ?_⟩
    simp only [hwd]
    refine callx_of [[0, 0, 0, 0, 0, 6], [0]] [] rfl (ih _ (getD_mem h') (d + 1) (by omega) (by omega)) (by first | (simp; done) | (simp [rowsOf_length]; done) | (simp [rowsOf_length]; omega)) (by first | (simp only [ends, ite_true, ite_false, reduceIte, Nat.reduceEqDiff, Nat.reduceLeDiff, Nat.reduceLT, Nat.reduceAdd, reduceCtorEq, num, boo, str, ints, aV, aTab, aInst, num, boo, str, aE_eq, aV]; done) | simp [ends, ite_true, ite_false, reduceIte, Nat.reduceEqDiff, Nat.reduceLeDiff, Nat.reduceLT, Nat.reduceAdd, reduceCtorEq, num, boo, str, ints, aV, aTab, aInst, num, boo, str, aE_eq, aV]) (by first | rfl | (simp only [ends, ite_true, ite_false, reduceIte, Nat.reduceEqDiff, Nat.reduceLeDiff, Nat.reduceLT, Nat.reduceAdd, reduceCtorEq, num, boo, str, ints, aV, aTab, aInst, num, boo, str, aE_eq, aV]; done) | simp [ends, ite_true, ite_false, reduceIte, Nat.reduceEqDiff, Nat.reduceLeDiff, Nat.reduceLT, Nat.reduceAdd, reduceCtorEq, num, boo, str, ints, aV, aTab, aInst, num, boo, str, aE_eq, aV]) (by simp only [ends, ite_true, ite_false, reduceIte, Nat.reduceEqDiff, Nat.reduceLeDiff, Nat.reduceLT, Nat.reduceAdd, reduceCtorEq, num, boo, str, ints, aV, aTab, aInst]) (by simp [idsOk, lookO, updO, ren1]) ?_
    simp -implicitDefEqProofs only [↓steps, push_cast, reduceIte, Nat.reduceEqDiff, Nat.reduceAdd, Nat.reduceMul, Nat.reduceLT, Nat.reduceLeDiff, Int.reduceToNat, Int.reduceLE, Int.reduceLT, reduceCtorEq, tte, num, boo, str, ints, aV, aTab, aInst]
    refine bcase_intro (fun h4 => ?_) fun h4 => ?_
    · simp only [Bool.not_eq_true'] at h4
      exact ret_d trivial (by rw [← hr, key, ← hi, h4]; rfl) (by simp only [ends, ite_true, ite_false, reduceIte, Nat.reduceEqDiff, Nat.reduceLeDiff, Nat.reduceLT, Nat.reduceAdd, reduceCtorEq, num, boo, str, ints, aV, aTab, aInst])
    · simp only [Bool.not_eq_false'] at h4
      exact cnt_again hI n rfl h' (by rw [← hi, h4, Bool.true_and]) (by simp only [hw h', ends, ite_true, ite_false, reduceIte, Nat.reduceEqDiff, Nat.reduceLeDiff, Nat.reduceLT, Nat.reduceAdd, reduceCtorEq, num, boo, str, ints, aV, aTab, aInst]) (by simp [hw h', ends, ite_true, ite_false, reduceIte, Nat.reduceEqDiff, Nat.reduceLeDiff, Nat.reduceLT, Nat.reduceAdd, reduceCtorEq, num, boo, str, ints, aV, aTab, aInst]) (by simp [hw h', ends, ite_true, ite_false, reduceIte, Nat.reduceEqDiff, Nat.reduceLeDiff, Nat.reduceLT, Nat.reduceAdd, reduceCtorEq, num, boo, str, ints, aV, aTab, aInst]) (by simp [hw h', ends, ite_true, ite_false, reduceIte, Nat.reduceEqDiff, Nat.reduceLeDiff, Nat.reduceLT, Nat.reduceAdd, reduceCtorEq, num, boo, str, ints, aV, aTab, aInst])
  · simp only [decide_eq_false_iff_not] at h
    have hn' : n = e.kids.length := by omega
    subst hn'
    exact ret_d trivial (by rw [← hr, key, ← hi, List.drop_length]; rfl) (by simp only [ends, ite_true, ite_false, reduceIte, Nat.reduceEqDiff, Nat.reduceLeDiff, Nat.reduceLT, Nat.reduceAdd, reduceCtorEq, num, boo, str, ints, aV, aTab, aInst])

theorem c_size02 : ∀ e : Ex, Ok12 e → ACall Tryd.prog 18 [aE e] [] (num (sizeW e)) [] :=
  ex_ind (p := fun e => Ok12 e → ACall Tryd.prog 18 [aE e] [] (num (sizeW e)) []) fun e ih ho => by
  refine ACall.enter mixed ttok Tryd.func18 rfl rfl _ Tryd.ntmps18 (Nat.le_of_ble_eq_true rfl) (by kernel_rfl) _ (congrArg Array.toList Tryd.results18) ?_
  generalize hr : num (sizeW e) = R
  have hl := ho.kids
  simp -implicitDefEqProofs only [argT, ↓steps, push_cast, reduceIte, Nat.reduceEqDiff, Nat.reduceAdd, Nat.reduceMul, Nat.reduceLT, Nat.reduceLeDiff, Int.reduceToNat, Int.reduceLE, Int.reduceLT, reduceCtorEq, tte, num, boo, str, ints, aV, aTab, aInst]
  refine loop_count mixed ttok 4 [1] [1] (by simp only [pickT, ends, ite_true, ite_false, reduceIte, Nat.reduceEqDiff, Nat.reduceLeDiff, Nat.reduceLT, Nat.reduceAdd, reduceCtorEq, num, boo, str, ints, aV, aTab, aInst]; rfl) (by simp only [pickO, consO_some, ends, ite_true, ite_false, reduceIte, Nat.reduceEqDiff, Nat.reduceLeDiff, Nat.reduceLT, Nat.reduceAdd, reduceCtorEq, num, boo, str, ints, aV, aTab, aInst]; rfl) e.kids.length (fun n => sizeL (sizeL 1 (e.kids.take n)) (e.kids.drop n) = sizeW e) (fun n => [(3, num (sizeL 1 (e.kids.take n)))]) (fun _ => []) (by rw [sizeW_eq]; rfl) ?_ ?_
  · exact Weak.keepL (by simp [cst, sizeL, ends, ite_true, ite_false, reduceIte, Nat.reduceEqDiff, Nat.reduceLeDiff, Nat.reduceLT, Nat.reduceAdd, reduceCtorEq, num, boo, str, ints, aV, aTab, aInst]) (by simp [cst, ends, ite_true, ite_false, reduceIte, Nat.reduceEqDiff, Nat.reduceLeDiff, Nat.reduceLT, Nat.reduceAdd, reduceCtorEq, num, boo, str, ints, aV, aTab, aInst]) (by simp [cst, ends, ite_true, ite_false, reduceIte, Nat.reduceEqDiff, Nat.reduceLeDiff, Nat.reduceLT, Nat.reduceAdd, reduceCtorEq, num, boo, str, ints, aV, aTab, aInst])
  intro I hI n hn hi
  have hw : n < e.kids.length → IntKind.i64.wrap ((n : Int) + 1) = ((n + 1 : Nat) : Int) := fun h => by rw [wrap_eq (by omega) (by omega)]; rfl
  simp -implicitDefEqProofs only [cst, ↓steps, push_cast, reduceIte, Nat.reduceEqDiff, Nat.reduceAdd, Nat.reduceMul, Nat.reduceLT, Nat.reduceLeDiff, Int.reduceToNat, Int.reduceLE, Int.reduceLT, reduceCtorEq, tte, num, boo, str, ints, aV, aTab, aInst]
  refine bcase_intro (fun h => ?_) fun h => ?_
  · simp only [decide_eq_true_eq] at h
    have h' : n < e.kids.length := by omega
    have ht : sizeL 1 (e.kids.take (n + 1)) = IntKind.i64.wrap (sizeL 1 (e.kids.take n) + sizeW (e.kids.getD n default)) := by
      rw [take_snoc _ _ h', sizeL_snoc]
    refine ⟨(by first | omega | trivial | (refine ⟨?_, ?_⟩ <;> first | omega | trivial | (refine ⟨?_, ?_⟩ <;> first | omega | trivial | (refine ⟨?_, ?_⟩ <;> first | omega | trivial | rfl)))), ?_⟩
    refine callx_of [[0, 0, 0, 0, 0, 6]] [] rfl (ih _ (getD_mem h') (ho.kid (getD_mem h'))) (by first | (simp; done) | (simp [rowsOf_length]; done) | (simp [rowsOf_length]; omega)) (by first | (simp only [ends, ite_true, ite_false, reduceIte, Nat.reduceEqDiff, Nat.reduceLeDiff, Nat.reduceLT, Nat.reduceAdd, reduceCtorEq, num, boo, str, ints, aV, aTab, aInst, num, boo, str, aE_eq, aV]; done) | simp [ends, ite_true, ite_false, reduceIte, Nat.reduceEqDiff, Nat.reduceLeDiff, Nat.reduceLT, Nat.reduceAdd, reduceCtorEq, num, boo, str, ints, aV, aTab, aInst, num, boo, str, aE_eq, aV]) (by first | rfl | (simp only [ends, ite_true, ite_false, reduceIte, Nat.reduceEqDiff, Nat.reduceLeDiff, Nat.reduceLT, Nat.reduceAdd, reduceCtorEq, num, boo, str, ints, aV, aTab, aInst, num, boo, str, aE_eq, aV]; done) | simp [ends, ite_true, ite_false, reduceIte, Nat.reduceEqDiff, Nat.reduceLeDiff, Nat.reduceLT, Nat.reduceAdd, reduceCtorEq, num, boo, str, ints, aV, aTab, aInst, num, boo, str, aE_eq, aV]) (by simp only [ends, ite_true, ite_false, reduceIte, Nat.reduceEqDiff, Nat.reduceLeDiff, Nat.reduceLT, Nat.reduceAdd, reduceCtorEq, num, boo, str, ints, aV, aTab, aInst]) (by simp [idsOk, lookO, updO, ren1]) ?_
    simp -implicitDefEqProofs only [↓steps, push_cast, reduceIte, Nat.reduceEqDiff, Nat.reduceAdd, Nat.reduceMul, Nat.reduceLT, Nat.reduceLeDiff, Int.reduceToNat, Int.reduceLE, Int.reduceLT, reduceCtorEq, tte, num, boo, str, ints, aV, aTab, aInst]
    exact cnt_again hI n rfl h' (by rw [drop_cons _ n h', sizeL] at hi; rw [ht]; exact hi) (by simp only [hw h', ht, ends, ite_true, ite_false, reduceIte, Nat.reduceEqDiff, Nat.reduceLeDiff, Nat.reduceLT, Nat.reduceAdd, reduceCtorEq, num, boo, str, ints, aV, aTab, aInst]) (by simp [hw h', ht, ends, ite_true, ite_false, reduceIte, Nat.reduceEqDiff, Nat.reduceLeDiff, Nat.reduceLT, Nat.reduceAdd, reduceCtorEq, num, boo, str, ints, aV, aTab, aInst]) (by simp [hw h', ht, ends, ite_true, ite_false, reduceIte, Nat.reduceEqDiff, Nat.reduceLeDiff, Nat.reduceLT, Nat.reduceAdd, reduceCtorEq, num, boo, str, ints, aV, aTab, aInst]) (by simp [hw h', ht, ends, ite_true, ite_false, reduceIte, Nat.reduceEqDiff, Nat.reduceLeDiff, Nat.reduceLT, Nat.reduceAdd, reduceCtorEq, num, boo, str, ints, aV, aTab, aInst])
  · simp only [decide_eq_false_iff_not] at h
    have hn' : n = e.kids.length := by omega
    subst hn'
    refine retx_of [0] rfl (by simp) (by first | (simp; done) | (simp [rowsOf_length]; done) | (simp [rowsOf_length]; omega)) ?_ (by first | rfl | simp only [ends, ite_true, ite_false, reduceIte, Nat.reduceEqDiff, Nat.reduceLeDiff, Nat.reduceLT, Nat.reduceAdd, reduceCtorEq, num, boo, str, ints, aV, aTab, aInst] | (subst_vars; simp only [ends, ite_true, ite_false, reduceIte, Nat.reduceEqDiff, Nat.reduceLeDiff, Nat.reduceLT, Nat.reduceAdd, reduceCtorEq, num, boo, str, ints, aV, aTab, aInst])) (by simp only [ends, ite_true, ite_false, reduceIte, Nat.reduceEqDiff, Nat.reduceLeDiff, Nat.reduceLT, Nat.reduceAdd, reduceCtorEq, num, boo, str, ints, aV, aTab, aInst]) (by simp only [ends, ite_true, ite_false, reduceIte, Nat.reduceEqDiff, Nat.reduceLeDiff, Nat.reduceLT, Nat.reduceAdd, reduceCtorEq, num, boo, str, ints, aV, aTab, aInst])
    rw [← hr, ← hi]; simp [sizeL, num]
end Go.Proofs.YtkccdfaelbepeaaDoor

namespace Go.Proofs.YtkccdfaelbepeaaDoor
open Go.Am
set_option linter.unusedVariables false
set_option maxRecDepth 100000
set_option maxHeartbeats 4000000

def fewE (e : Ex) : Bool := few02 e 0 && decide (sizeW e ≤ 600)
theorem c_few02t (e : Ex) : ACall Tryd.prog 10 [aE e] [] (boo (fewE e)) [] := by
  refine ACall.enter mixed ttok Tryd.func10 rfl rfl _ Tryd.ntmps10 (Nat.le_of_ble_eq_true rfl) (by kernel_rfl) _ (congrArg Array.toList Tryd.results10) ?_
  generalize hr : boo (fewE e) = R
  simp -implicitDefEqProofs only [argT, ↓steps, push_cast, reduceIte, Nat.reduceEqDiff, Nat.reduceAdd, Nat.reduceMul, Nat.reduceLT, Nat.reduceLeDiff, Int.reduceToNat, Int.reduceLE, Int.reduceLT, reduceCtorEq, tte, num, boo, str, ints, aV, aTab, aInst, aS]
  refine callx_of [[0, 0, 0, 0, 0, 6], [0]] [] rfl (c_few02 e 0 (by omega) (by omega)) (by first | (simp; done) | (simp [rowsOf_length]; done) | (simp [rowsOf_length]; omega)) (by first | (simp only [ends, ite_true, ite_false, reduceIte, Nat.reduceEqDiff, Nat.reduceLeDiff, Nat.reduceLT, Nat.reduceAdd, reduceCtorEq, num, boo, str, ints, aV, aTab, aInst, aS, num, boo, str, aE_eq, aV]; done) | simp [ends, ite_true, ite_false, reduceIte, Nat.reduceEqDiff, Nat.reduceLeDiff, Nat.reduceLT, Nat.reduceAdd, reduceCtorEq, num, boo, str, ints, aV, aTab, aInst, aS, num, boo, str, aE_eq, aV]) (by first | rfl | (simp only [ends, ite_true, ite_false, reduceIte, Nat.reduceEqDiff, Nat.reduceLeDiff, Nat.reduceLT, Nat.reduceAdd, reduceCtorEq, num, boo, str, ints, aV, aTab, aInst, aS, num, boo, str, aE_eq, aV]; done) | simp [ends, ite_true, ite_false, reduceIte, Nat.reduceEqDiff, Nat.reduceLeDiff, Nat.reduceLT, Nat.reduceAdd, reduceCtorEq, num, boo, str, ints, aV, aTab, aInst, aS, num, boo, str, aE_eq, aV]) (by simp only [ends, ite_true, ite_false, reduceIte, Nat.reduceEqDiff, Nat.reduceLeDiff, Nat.reduceLT, Nat.reduceAdd, reduceCtorEq, num, boo, str, ints, aV, aTab, aInst, aS]) (by simp [idsOk, lookO, updO, ren1]) ?_
  simp -implicitDefEqProofs only [↓steps, push_cast, reduceIte, Nat.reduceEqDiff, Nat.reduceAdd, Nat.reduceMul, Nat.reduceLT, Nat.reduceLeDiff, Int.reduceToNat, Int.reduceLE, Int.reduceLT, reduceCtorEq, tte, num, boo, str, ints, aV, aTab, aInst, aS]
  refine bcase_intro (fun h => ?_) fun h => ?_
  · refine callx_of [[0, 0, 0, 0, 0, 6]] [] rfl (c_size02 e (few_ok e 0 h)) (by first | (simp; done) | (simp [rowsOf_length]; done) | (simp [rowsOf_length]; omega)) (by first | (simp only [ends, ite_true, ite_false, reduceIte, Nat.reduceEqDiff, Nat.reduceLeDiff, Nat.reduceLT, Nat.reduceAdd, reduceCtorEq, num, boo, str, ints, aV, aTab, aInst, aS, num, boo, str, aE_eq, aV]; done) | simp [ends, ite_true, ite_false, reduceIte, Nat.reduceEqDiff, Nat.reduceLeDiff, Nat.reduceLT, Nat.reduceAdd, reduceCtorEq, num, boo, str, ints, aV, aTab, aInst, aS, num, boo, str, aE_eq, aV]) (by first | rfl | (simp only [ends, ite_true, ite_false, reduceIte, Nat.reduceEqDiff, Nat.reduceLeDiff, Nat.reduceLT, Nat.reduceAdd, reduceCtorEq, num, boo, str, ints, aV, aTab, aInst, aS, num, boo, str, aE_eq, aV]; done) | simp [ends, ite_true, ite_false, reduceIte, Nat.reduceEqDiff, Nat.reduceLeDiff, Nat.reduceLT, Nat.reduceAdd, reduceCtorEq, num, boo, str, ints, aV, aTab, aInst, aS, num, boo, str, aE_eq, aV]) (by simp only [ends, ite_true, ite_false, reduceIte, Nat.reduceEqDiff, Nat.reduceLeDiff, Nat.reduceLT, Nat.reduceAdd, reduceCtorEq, num, boo, str, ints, aV, aTab, aInst, aS]) (by simp [idsOk, lookO, updO, ren1]) ?_
    simp -implicitDefEqProofs only [↓steps, push_cast, reduceIte, Nat.reduceEqDiff, Nat.reduceAdd, Nat.reduceMul, Nat.reduceLT, Nat.reduceLeDiff, Int.reduceToNat, Int.reduceLE, Int.reduceLT, reduceCtorEq, tte, num, boo, str, ints, aV, aTab, aInst, aS]
    exact ret_d trivial (by rw [← hr, fewE, h, Bool.true_and]; rfl) (by simp only [ends, ite_true, ite_false, reduceIte, Nat.reduceEqDiff, Nat.reduceLeDiff, Nat.reduceLT, Nat.reduceAdd, reduceCtorEq, num, boo, str, ints, aV, aTab, aInst, aS])
  · exact ret_d trivial (by rw [← hr, fewE, h, Bool.false_and]; rfl) (by simp only [ends, ite_true, ite_false, reduceIte, Nat.reduceEqDiff, Nat.reduceLeDiff, Nat.reduceLT, Nat.reduceAdd, reduceCtorEq, num, boo, str, ints, aV, aTab, aInst, aS])

def fewT0 (t : Tbl) : Bool := decide (t.columns.length ≤ 20) && decide (t.primary.length ≤ 20) && decide (t.uniques.length ≤ 8) && decide (t.foreigns.length ≤ 8) && decide (t.checks.length ≤ 8)
def fewT (t : Tbl) : Bool := fewT0 t && (t.checks.all fewE && (t.foreigns.all (fun f => decide (f.columns.length ≤ 20)) && t.uniques.all fun u => decide (u.length ≤ 20)))
def few03 (s : Sch) : Bool := decide (s.length ≤ 10) && s.all fewT

theorem c_few03 (s : Sch) : ACall Tryd.prog 5 [aS s] [] (boo (few03 s)) [] := by
  refine ACall.enter mixed ttok Tryd.func5 rfl rfl _ Tryd.ntmps5 (Nat.le_of_ble_eq_true rfl) (by kernel_rfl) _ (congrArg Array.toList Tryd.results5) ?_
  generalize hr : boo (few03 s) = R
  simp -implicitDefEqProofs only [argT, ↓steps, push_cast, reduceIte, Nat.reduceEqDiff, Nat.reduceAdd, Nat.reduceMul, Nat.reduceLT, Nat.reduceLeDiff, Int.reduceToNat, Int.reduceLE, Int.reduceLT, reduceCtorEq, tte, num, boo, str, ints, aV, aTab, aInst, aS]
  refine bcase_intro (fun h => ?_) fun h => ?_
  · have : few03 s = false := by simp at h; simp [few03]; omega
    exact ret_d trivial (by rw [← hr, this]; rfl) (by simp only [ends, ite_true, ite_false, reduceIte, Nat.reduceEqDiff, Nat.reduceLeDiff, Nat.reduceLT, Nat.reduceAdd, reduceCtorEq, num, boo, str, ints, aV, aTab, aInst, aS])
  simp only [decide_eq_false_iff_not] at h
  have hl : s.length ≤ 10 := by omega
  refine loop_count mixed ttok 3 [1] [1] (by simp only [pickT, ends, ite_true, ite_false, reduceIte, Nat.reduceEqDiff, Nat.reduceLeDiff, Nat.reduceLT, Nat.reduceAdd, reduceCtorEq, num, boo, str, ints, aV, aTab, aInst, aS]; rfl) (by simp only [pickO, consO_some, ends, ite_true, ite_false, reduceIte, Nat.reduceEqDiff, Nat.reduceLeDiff, Nat.reduceLT, Nat.reduceAdd, reduceCtorEq, num, boo, str, ints, aV, aTab, aInst, aS]; rfl) s.length (fun n => (s.drop n).all fewT = s.all fewT) (fun _ => []) (fun _ => []) rfl ?_ ?_
  · exact Weak.keepL (by simp [cst, ends, ite_true, ite_false, reduceIte, Nat.reduceEqDiff, Nat.reduceLeDiff, Nat.reduceLT, Nat.reduceAdd, reduceCtorEq, num, boo, str, ints, aV, aTab, aInst, aS]) (by simp [cst, ends, ite_true, ite_false, reduceIte, Nat.reduceEqDiff, Nat.reduceLeDiff, Nat.reduceLT, Nat.reduceAdd, reduceCtorEq, num, boo, str, ints, aV, aTab, aInst, aS]) (by simp [cst, ends, ite_true, ite_false, reduceIte, Nat.reduceEqDiff, Nat.reduceLeDiff, Nat.reduceLT, Nat.reduceAdd, reduceCtorEq, num, boo, str, ints, aV, aTab, aInst, aS])
  intro I hI n hn hi
  simp -implicitDefEqProofs only [cst, ↓steps, push_cast, reduceIte, Nat.reduceEqDiff, Nat.reduceAdd, Nat.reduceMul, Nat.reduceLT, Nat.reduceLeDiff, Int.reduceToNat, Int.reduceLE, Int.reduceLT, reduceCtorEq, tte, num, boo, str, ints, aV, aTab, aInst, aS]
  refine bcase_intro (fun h => ?_) fun h => ?_
  · simp only [decide_eq_true_eq] at h
    have h' : n < s.length := by omega
    have hw := wrap_succ h' (by omega)
    rw [drop_cons s n h', List.all_cons] at hi
    generalize hT : s.getD n default = t at hi ⊢
    have bad : fewT t = false → few03 s = false := fun h => by rw [few03, ← hi, h]; simp
    have bad0 : fewT0 t = false → few03 s = false := fun h => bad (by rw [fewT, h]; rfl)
    refine ⟨(by first | omega | trivial | (refine ⟨?_, ?_⟩ <;> first | omega | trivial | (refine ⟨?_, ?_⟩ <;> first | omega | trivial | (refine ⟨?_, ?_⟩ <;> first | omega | trivial | rfl)))), ?_⟩
    refine bcase_intro (fun k1 => ?_) fun k1 => ?_
    · have : few03 s = false := bad0 (by simp at k1; simp only [fewT0, Bool.and_eq_false_iff, decide_eq_false_iff_not]; omega)
      exact ret_d trivial (by rw [← hr, this]; rfl) (by simp only [ends, ite_true, ite_false, reduceIte, Nat.reduceEqDiff, Nat.reduceLeDiff, Nat.reduceLT, Nat.reduceAdd, reduceCtorEq, num, boo, str, ints, aV, aTab, aInst, aS])
    refine bcase_intro (fun k2 => ?_) fun k2 => ?_
    · have : few03 s = false := bad0 (by simp at k2; simp only [fewT0, Bool.and_eq_false_iff, decide_eq_false_iff_not]; omega)
      exact ret_d trivial (by rw [← hr, this]; rfl) (by simp only [ends, ite_true, ite_false, reduceIte, Nat.reduceEqDiff, Nat.reduceLeDiff, Nat.reduceLT, Nat.reduceAdd, reduceCtorEq, num, boo, str, ints, aV, aTab, aInst, aS])
    refine bcase_intro (fun k3 => ?_) fun k3 => ?_
    · have : few03 s = false := bad0 (by simp at k3; simp only [fewT0, Bool.and_eq_false_iff, decide_eq_false_iff_not]; omega)
      exact ret_d trivial (by rw [← hr, this]; rfl) (by simp only [ends, ite_true, ite_false, reduceIte, Nat.reduceEqDiff, Nat.reduceLeDiff, Nat.reduceLT, Nat.reduceAdd, reduceCtorEq, num, boo, str, ints, aV, aTab, aInst, aS])
    refine bcase_intro (fun k4 => ?_) fun k4 => ?_
    · have : few03 s = false := bad0 (by simp at k4; simp only [fewT0, Bool.and_eq_false_iff, decide_eq_false_iff_not]; omega)
      exact ret_d trivial (by rw [← hr, this]; rfl) (by simp only [ends, ite_true, ite_false, reduceIte, Nat.reduceEqDiff, Nat.reduceLeDiff, Nat.reduceLT, Nat.reduceAdd, reduceCtorEq, num, boo, str, ints, aV, aTab, aInst, aS])
    refine bcase_intro (fun k5 => ?_) fun k5 => ?_
    · have : few03 s = false := bad0 (by simp at k5; simp only [fewT0, Bool.and_eq_false_iff, decide_eq_false_iff_not]; omega)
      exact ret_d trivial (by rw [← hr, this]; rfl) (by simp only [ends, ite_true, ite_false, reduceIte, Nat.reduceEqDiff, Nat.reduceLeDiff, Nat.reduceLT, Nat.reduceAdd, reduceCtorEq, num, boo, str, ints, aV, aTab, aInst, aS])
    simp only [decide_eq_false_iff_not] at k1 k2 k3 k4 k5
    have f0 : fewT0 t = true := by simp only [fewT0, Bool.and_eq_true, decide_eq_true_eq]; omega
    refine loop_count mixed ttok 5 [1, 3, 4] [1, 4] (by simp only [pickT, ends, ite_true, ite_false, reduceIte, Nat.reduceEqDiff, Nat.reduceLeDiff, Nat.reduceLT, Nat.reduceAdd, reduceCtorEq, num, boo, str, ints, aV, aTab, aInst, aS]; rfl) (by simp only [pickO, consO_some, ends, ite_true, ite_false, reduceIte, Nat.reduceEqDiff, Nat.reduceLeDiff, Nat.reduceLT, Nat.reduceAdd, reduceCtorEq, num, boo, str, ints, aV, aTab, aInst, aS]; rfl) t.checks.length (fun n => (t.checks.drop n).all fewE = t.checks.all fewE) (fun _ => []) (fun _ => []) rfl ?_ ?_
    · exact Weak.keepL (by simp [cst, ends, ite_true, ite_false, reduceIte, Nat.reduceEqDiff, Nat.reduceLeDiff, Nat.reduceLT, Nat.reduceAdd, reduceCtorEq, num, boo, str, ints, aV, aTab, aInst, aS]) (by simp [cst, ends, ite_true, ite_false, reduceIte, Nat.reduceEqDiff, Nat.reduceLeDiff, Nat.reduceLT, Nat.reduceAdd, reduceCtorEq, num, boo, str, ints, aV, aTab, aInst, aS]) (by simp [cst, ends, ite_true, ite_false, reduceIte, Nat.reduceEqDiff, Nat.reduceLeDiff, Nat.reduceLT, Nat.reduceAdd, reduceCtorEq, num, boo, str, ints, aV, aTab, aInst, aS])
    intro I5 hI5 n5 hn5 hi5
    simp -implicitDefEqProofs only [cst, ↓steps, push_cast, reduceIte, Nat.reduceEqDiff, Nat.reduceAdd, Nat.reduceMul, Nat.reduceLT, Nat.reduceLeDiff, Int.reduceToNat, Int.reduceLE, Int.reduceLT, reduceCtorEq, tte, num, boo, str, ints, aV, aTab, aInst, aS]
    refine bcase_intro (fun h5 => ?_) fun h5 => ?_
    · simp only [decide_eq_true_eq] at h5
      have h5' : n5 < t.checks.length := by omega
      have hw5 := wrap_succ h5' (by omega)
      rw [drop_cons _ n5 h5', List.all_cons] at hi5
      refine ⟨(by first | omega | trivial | (refine ⟨?_, ?_⟩ <;> first | omega | trivial | (refine ⟨?_, ?_⟩ <;> first | omega | trivial | (refine ⟨?_, ?_⟩ <;> first | omega | trivial | rfl)))), ?_⟩
      refine callx_of [[0, 0, 0, 0, 0, 6]] [] rfl (c_few02t (t.checks.getD n5 default)) (by first | (simp; done) | (simp [rowsOf_length]; done) | (simp [rowsOf_length]; omega)) (by first | (simp only [ends, ite_true, ite_false, reduceIte, Nat.reduceEqDiff, Nat.reduceLeDiff, Nat.reduceLT, Nat.reduceAdd, reduceCtorEq, num, boo, str, ints, aV, aTab, aInst, aS, num, boo, str, aE_eq, aV]; done) | simp [ends, ite_true, ite_false, reduceIte, Nat.reduceEqDiff, Nat.reduceLeDiff, Nat.reduceLT, Nat.reduceAdd, reduceCtorEq, num, boo, str, ints, aV, aTab, aInst, aS, num, boo, str, aE_eq, aV]) (by first | rfl | (simp only [ends, ite_true, ite_false, reduceIte, Nat.reduceEqDiff, Nat.reduceLeDiff, Nat.reduceLT, Nat.reduceAdd, reduceCtorEq, num, boo, str, ints, aV, aTab, aInst, aS, num, boo, str, aE_eq, aV]; done) | simp [ends, ite_true, ite_false, reduceIte, Nat.reduceEqDiff, Nat.reduceLeDiff, Nat.reduceLT, Nat.reduceAdd, reduceCtorEq, num, boo, str, ints, aV, aTab, aInst, aS, num, boo, str, aE_eq, aV]) (by simp only [ends, ite_true, ite_false, reduceIte, Nat.reduceEqDiff, Nat.reduceLeDiff, Nat.reduceLT, Nat.reduceAdd, reduceCtorEq, num, boo, str, ints, aV, aTab, aInst, aS]) (by simp [idsOk, lookO, updO, ren1]) ?_
      simp -implicitDefEqProofs only [↓steps, push_cast, reduceIte, Nat.reduceEqDiff, Nat.reduceAdd, Nat.reduceMul, Nat.reduceLT, Nat.reduceLeDiff, Int.reduceToNat, Int.reduceLE, Int.reduceLT, reduceCtorEq, tte, num, boo, str, ints, aV, aTab, aInst, aS]
      refine bcase_intro (fun g => ?_) fun g => ?_
      · simp only [Bool.not_eq_true'] at g
        have : few03 s = false := bad (by rw [fewT, ← hi5, g]; simp)
        exact ret_d trivial (by rw [← hr, this]; rfl) (by simp only [ends, ite_true, ite_false, reduceIte, Nat.reduceEqDiff, Nat.reduceLeDiff, Nat.reduceLT, Nat.reduceAdd, reduceCtorEq, num, boo, str, ints, aV, aTab, aInst, aS])
      · simp only [Bool.not_eq_false'] at g
        exact cnt_again hI5 n5 rfl h5' (by rw [← hi5, g, Bool.true_and]) (by simp only [hw5, ends, ite_true, ite_false, reduceIte, Nat.reduceEqDiff, Nat.reduceLeDiff, Nat.reduceLT, Nat.reduceAdd, reduceCtorEq, num, boo, str, ints, aV, aTab, aInst, aS]) (by simp [hw5, ends, ite_true, ite_false, reduceIte, Nat.reduceEqDiff, Nat.reduceLeDiff, Nat.reduceLT, Nat.reduceAdd, reduceCtorEq, num, boo, str, ints, aV, aTab, aInst, aS]) (by simp [hw5, ends, ite_true, ite_false, reduceIte, Nat.reduceEqDiff, Nat.reduceLeDiff, Nat.reduceLT, Nat.reduceAdd, reduceCtorEq, num, boo, str, ints, aV, aTab, aInst, aS]) (by simp [hw5, ends, ite_true, ite_false, reduceIte, Nat.reduceEqDiff, Nat.reduceLeDiff, Nat.reduceLT, Nat.reduceAdd, reduceCtorEq, num, boo, str, ints, aV, aTab, aInst, aS])
    simp only [decide_eq_false_iff_not] at h5
    obtain rfl : n5 = t.checks.length := by omega
    clear hI5
    have f1 : t.checks.all fewE = true := by rw [← hi5]; simp
    refine loop_count mixed ttok 6 [1, 3, 4] [1, 4] (by simp only [pickT, ends, ite_true, ite_false, reduceIte, Nat.reduceEqDiff, Nat.reduceLeDiff, Nat.reduceLT, Nat.reduceAdd, reduceCtorEq, num, boo, str, ints, aV, aTab, aInst, aS]; rfl) (by simp only [pickO, consO_some, ends, ite_true, ite_false, reduceIte, Nat.reduceEqDiff, Nat.reduceLeDiff, Nat.reduceLT, Nat.reduceAdd, reduceCtorEq, num, boo, str, ints, aV, aTab, aInst, aS]; rfl) t.foreigns.length (fun n => (t.foreigns.drop n).all (fun f => decide (f.columns.length ≤ 20)) = t.foreigns.all fun f => decide (f.columns.length ≤ 20)) (fun _ => []) (fun _ => []) rfl ?_ ?_
    · exact Weak.keepL (by simp [cst, ends, ite_true, ite_false, reduceIte, Nat.reduceEqDiff, Nat.reduceLeDiff, Nat.reduceLT, Nat.reduceAdd, reduceCtorEq, num, boo, str, ints, aV, aTab, aInst, aS]) (by simp [cst, ends, ite_true, ite_false, reduceIte, Nat.reduceEqDiff, Nat.reduceLeDiff, Nat.reduceLT, Nat.reduceAdd, reduceCtorEq, num, boo, str, ints, aV, aTab, aInst, aS]) (by simp [cst, ends, ite_true, ite_false, reduceIte, Nat.reduceEqDiff, Nat.reduceLeDiff, Nat.reduceLT, Nat.reduceAdd, reduceCtorEq, num, boo, str, ints, aV, aTab, aInst, aS])
    intro I6 hI6 n6 hn6 hi6
    simp -implicitDefEqProofs only [cst, ↓steps, push_cast, reduceIte, Nat.reduceEqDiff, Nat.reduceAdd, Nat.reduceMul, Nat.reduceLT, Nat.reduceLeDiff, Int.reduceToNat, Int.reduceLE, Int.reduceLT, reduceCtorEq, tte, num, boo, str, ints, aV, aTab, aInst, aS]
    refine bcase_intro (fun h6 => ?_) fun h6 => ?_
    · simp only [decide_eq_true_eq] at h6
      have h6' : n6 < t.foreigns.length := by omega
      have hw6 := wrap_succ h6' (by omega)
      rw [drop_cons _ n6 h6', List.all_cons] at hi6
      refine ⟨(by first | omega | trivial | (refine ⟨?_, ?_⟩ <;> first | omega | trivial | (refine ⟨?_, ?_⟩ <;> first | omega | trivial | (refine ⟨?_, ?_⟩ <;> first | omega | trivial | rfl)))), ?_⟩
      refine bcase_intro (fun g => ?_) fun g => ?_
      · simp only [decide_eq_true_eq] at g
        have : few03 s = false := bad (by rw [fewT, ← hi6, decide_eq_false (by omega : ¬ (t.foreigns.getD n6 default).columns.length ≤ 20)]; simp)
        exact ret_d trivial (by rw [← hr, this]; rfl) (by simp only [ends, ite_true, ite_false, reduceIte, Nat.reduceEqDiff, Nat.reduceLeDiff, Nat.reduceLT, Nat.reduceAdd, reduceCtorEq, num, boo, str, ints, aV, aTab, aInst, aS])
      · simp only [decide_eq_false_iff_not] at g
        exact cnt_again hI6 n6 rfl h6' (by rw [← hi6, decide_eq_true (by omega : (t.foreigns.getD n6 default).columns.length ≤ 20), Bool.true_and]) (by simp only [hw6, ends, ite_true, ite_false, reduceIte, Nat.reduceEqDiff, Nat.reduceLeDiff, Nat.reduceLT, Nat.reduceAdd, reduceCtorEq, num, boo, str, ints, aV, aTab, aInst, aS]) (by simp [hw6, ends, ite_true, ite_false, reduceIte, Nat.reduceEqDiff, Nat.reduceLeDiff, Nat.reduceLT, Nat.reduceAdd, reduceCtorEq, num, boo, str, ints, aV, aTab, aInst, aS]) (by simp [hw6, ends, ite_true, ite_false, reduceIte, Nat.reduceEqDiff, Nat.reduceLeDiff, Nat.reduceLT, Nat.reduceAdd, reduceCtorEq, num, boo, str, ints, aV, aTab, aInst, aS]) (by simp [hw6, ends, ite_true, ite_false, reduceIte, Nat.reduceEqDiff, Nat.reduceLeDiff, Nat.reduceLT, Nat.reduceAdd, reduceCtorEq, num, boo, str, ints, aV, aTab, aInst, aS])
    simp only [decide_eq_false_iff_not] at h6
    obtain rfl : n6 = t.foreigns.length := by omega
    clear hI6
    have f2 : (t.foreigns.all fun f => decide (f.columns.length ≤ 20)) = true := by rw [← hi6]; simp
    refine loop_count mixed ttok 7 [1, 3, 4] [1, 4] (by simp only [pickT, ends, ite_true, ite_false, reduceIte, Nat.reduceEqDiff, Nat.reduceLeDiff, Nat.reduceLT, Nat.reduceAdd, reduceCtorEq, num, boo, str, ints, aV, aTab, aInst, aS]; rfl) (by simp only [pickO, consO_some, ends, ite_true, ite_false, reduceIte, Nat.reduceEqDiff, Nat.reduceLeDiff, Nat.reduceLT, Nat.reduceAdd, reduceCtorEq, num, boo, str, ints, aV, aTab, aInst, aS]; rfl) t.uniques.length (fun n => (t.uniques.drop n).all (fun u => decide (u.length ≤ 20)) = t.uniques.all fun u => decide (u.length ≤ 20)) (fun _ => []) (fun _ => []) rfl ?_ ?_
    · exact Weak.keepL (by simp [cst, ends, ite_true, ite_false, reduceIte, Nat.reduceEqDiff, Nat.reduceLeDiff, Nat.reduceLT, Nat.reduceAdd, reduceCtorEq, num, boo, str, ints, aV, aTab, aInst, aS]) (by simp [cst, ends, ite_true, ite_false, reduceIte, Nat.reduceEqDiff, Nat.reduceLeDiff, Nat.reduceLT, Nat.reduceAdd, reduceCtorEq, num, boo, str, ints, aV, aTab, aInst, aS]) (by simp [cst, ends, ite_true, ite_false, reduceIte, Nat.reduceEqDiff, Nat.reduceLeDiff, Nat.reduceLT, Nat.reduceAdd, reduceCtorEq, num, boo, str, ints, aV, aTab, aInst, aS])
    intro I7 hI7 n7 hn7 hi7
    simp -implicitDefEqProofs only [cst, ↓steps, push_cast, reduceIte, Nat.reduceEqDiff, Nat.reduceAdd, Nat.reduceMul, Nat.reduceLT, Nat.reduceLeDiff, Int.reduceToNat, Int.reduceLE, Int.reduceLT, reduceCtorEq, tte, num, boo, str, ints, aV, aTab, aInst, aS]
    refine bcase_intro (fun h7 => ?_) fun h7 => ?_
    · simp only [decide_eq_true_eq] at h7
      have h7' : n7 < t.uniques.length := by omega
      have hw7 := wrap_succ h7' (by omega)
      rw [drop_cons _ n7 h7', List.all_cons] at hi7
      refine ⟨(by first | omega | trivial | (refine ⟨?_, ?_⟩ <;> first | omega | trivial | (refine ⟨?_, ?_⟩ <;> first | omega | trivial | (refine ⟨?_, ?_⟩ <;> first | omega | trivial | rfl)))), ?_⟩
      refine bcase_intro (fun g => ?_) fun g => ?_
      · simp only [decide_eq_true_eq] at g
        have : few03 s = false := bad (by rw [fewT, ← hi7, decide_eq_false (by omega : ¬ (t.uniques.getD n7 default).length ≤ 20)]; simp)
        exact ret_d trivial (by rw [← hr, this]; rfl) (by simp only [ends, ite_true, ite_false, reduceIte, Nat.reduceEqDiff, Nat.reduceLeDiff, Nat.reduceLT, Nat.reduceAdd, reduceCtorEq, num, boo, str, ints, aV, aTab, aInst, aS])
      · simp only [decide_eq_false_iff_not] at g
        exact cnt_again hI7 n7 rfl h7' (by rw [← hi7, decide_eq_true (by omega : (t.uniques.getD n7 default).length ≤ 20), Bool.true_and]) (by simp only [hw7, ends, ite_true, ite_false, reduceIte, Nat.reduceEqDiff, Nat.reduceLeDiff, Nat.reduceLT, Nat.reduceAdd, reduceCtorEq, num, boo, str, ints, aV, aTab, aInst, aS]) (by simp [hw7, ends, ite_true, ite_false, reduceIte, Nat.reduceEqDiff, Nat.reduceLeDiff, Nat.reduceLT, Nat.reduceAdd, reduceCtorEq, num, boo, str, ints, aV, aTab, aInst, aS]) (by simp [hw7, ends, ite_true, ite_false, reduceIte, Nat.reduceEqDiff, Nat.reduceLeDiff, Nat.reduceLT, Nat.reduceAdd, reduceCtorEq, num, boo, str, ints, aV, aTab, aInst, aS]) (by simp [hw7, ends, ite_true, ite_false, reduceIte, Nat.reduceEqDiff, Nat.reduceLeDiff, Nat.reduceLT, Nat.reduceAdd, reduceCtorEq, num, boo, str, ints, aV, aTab, aInst, aS])
    simp only [decide_eq_false_iff_not] at h7
    obtain rfl : n7 = t.uniques.length := by omega
    clear hI7
    have f3 : (t.uniques.all fun u => decide (u.length ≤ 20)) = true := by rw [← hi7]; simp
    have ft : fewT t = true := by rw [fewT, f0, f1, f2, f3]; rfl
    exact cnt_again hI n rfl h' (by rw [← hi, ft, Bool.true_and]) (by simp only [hw, ends, ite_true, ite_false, reduceIte, Nat.reduceEqDiff, Nat.reduceLeDiff, Nat.reduceLT, Nat.reduceAdd, reduceCtorEq, num, boo, str, ints, aV, aTab, aInst, aS]) (by simp [hw, ends, ite_true, ite_false, reduceIte, Nat.reduceEqDiff, Nat.reduceLeDiff, Nat.reduceLT, Nat.reduceAdd, reduceCtorEq, num, boo, str, ints, aV, aTab, aInst, aS]) (by simp [hw, ends, ite_true, ite_false, reduceIte, Nat.reduceEqDiff, Nat.reduceLeDiff, Nat.reduceLT, Nat.reduceAdd, reduceCtorEq, num, boo, str, ints, aV, aTab, aInst, aS]) (by simp [hw, ends, ite_true, ite_false, reduceIte, Nat.reduceEqDiff, Nat.reduceLeDiff, Nat.reduceLT, Nat.reduceAdd, reduceCtorEq, num, boo, str, ints, aV, aTab, aInst, aS])
  · simp only [decide_eq_false_iff_not] at h
    obtain rfl : n = s.length := by omega
    have : few03 s = true := by rw [few03, ← hi]; simp; omega
    exact ret_d trivial (by rw [← hr, this]; rfl) (by simp only [ends, ite_true, ite_false, reduceIte, Nat.reduceEqDiff, Nat.reduceLeDiff, Nat.reduceLT, Nat.reduceAdd, reduceCtorEq, num, boo, str, ints, aV, aTab, aInst, aS])
end Go.Proofs.YtkccdfaelbepeaaDoor
