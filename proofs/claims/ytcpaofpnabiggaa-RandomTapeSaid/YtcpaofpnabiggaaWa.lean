/- Whatever the two tapes and the factor are, the law of tapes says true and leaves its arguments as they were; there are no conditions. (part Wa) -/
import Derived.Test.YtcpaofpnabiggaaChecked
import Derived.Test.YtcpaofpnabiggaaLc
set_option linter.all false

namespace Go.Proofs.Ytcpaofpnabiggaa
open Go.Am
set_option linter.unusedVariables false

def tt : Types
  | 1 => some ⟨.func, 1, 8, [.nilFunc], [0], false⟩
  | 2 => some ⟨.int .i64, 1, 8, [.int .i64 0], [0], false⟩
  | 3 => some ⟨.int .i64, 1, 8, [.int .i64 0], [0], false⟩
  | 4 => some ⟨.bool, 1, 1, [.bool false], [0], false⟩
  | 5 => some ⟨.int .u8, 1, 1, [.int .u8 0], [0], false⟩
  | 6 => some ⟨.int .u8, 1, 1, [.int .u8 0], [0], false⟩
  | 7 => some ⟨.struct [(2, 0), (3, 1), (4, 2), (6, 3)], 4, 24, [.int .i64 0, .int .i64 0, .bool false, .int .u8 0], [0, 0, 0, 0], false⟩
  | 8 => some ⟨.struct [(2, 0), (3, 1), (4, 2), (6, 3)], 4, 24, [.int .i64 0, .int .i64 0, .bool false, .int .u8 0], [0, 0, 0, 0], false⟩
  | 9 => some ⟨.string, 1, 16, [.string ByteArray.empty], [0], false⟩
  | 10 => some ⟨.string, 1, 16, [.string ByteArray.empty], [0], false⟩
  | 11 => some ⟨.string, 1, 16, [.string ByteArray.empty], [0], false⟩
  | 12 => some ⟨.int .u64, 1, 8, [.int .u64 0], [0], false⟩
  | 13 => some ⟨.struct [(9, 0), (12, 1)], 2, 24, [.string ByteArray.empty, .int .u64 0], [0, 0], false⟩
  | 14 => some ⟨.struct [(9, 0), (12, 1)], 2, 24, [.string ByteArray.empty, .int .u64 0], [0, 0], false⟩
  | 15 => some ⟨.pointer 66, 1, 8, [.pointer none], [0], false⟩
  | 16 => some ⟨.pointer 69, 1, 8, [.pointer none], [0], false⟩
  | 17 => some ⟨.pointer 79, 1, 8, [.pointer none], [0], false⟩
  | 18 => some ⟨.struct [(17, 0)], 1, 8, [.pointer none], [0], false⟩
  | 19 => some ⟨.struct [(17, 0)], 1, 8, [.pointer none], [0], false⟩
  | 21 => some ⟨.int .i32, 1, 4, [.int .i32 0], [0], false⟩
  | 22 => some ⟨.slice 3, 1, 24, [.slice none 0 0], [1], false⟩
  | 23 => some ⟨.int .i8, 1, 1, [.int .i8 0], [0], false⟩
  | 24 => some ⟨.func, 1, 8, [.nilFunc], [0], false⟩
  | 25 => some ⟨.slice 27, 1, 24, [.slice none 0 0], [6], false⟩
  | 26 => some ⟨.struct [(3, 0), (3, 1), (2, 2), (9, 3), (3, 4), (25, 5)], 6, 72, [.int .i64 0, .int .i64 0, .int .i64 0, .string ByteArray.empty, .int .i64 0, .slice none 0 0], [0, 0, 0, 0, 0, 6], false⟩
  | 27 => some ⟨.struct [(3, 0), (3, 1), (2, 2), (9, 3), (3, 4), (25, 5)], 6, 72, [.int .i64 0, .int .i64 0, .int .i64 0, .string ByteArray.empty, .int .i64 0, .slice none 0 0], [0, 0, 0, 0, 0, 6], false⟩
  | 28 => some ⟨.int .i64, 1, 8, [.int .i64 0], [0], false⟩
  | 30 => some ⟨.func, 1, 8, [.nilFunc], [0], false⟩
  | 31 => some ⟨.func, 1, 8, [.nilFunc], [0], false⟩
  | 32 => some ⟨.func, 1, 8, [.nilFunc], [0], false⟩
  | 33 => some ⟨.slice 48, 1, 24, [.slice none 0 0], [6], false⟩
  | 34 => some ⟨.struct [(33, 0)], 1, 24, [.slice none 0 0], [6], false⟩
  | 35 => some ⟨.struct [(33, 0)], 1, 24, [.slice none 0 0], [6], false⟩
  | 36 => some ⟨.func, 1, 8, [.nilFunc], [0], false⟩
  | 37 => some ⟨.func, 1, 8, [.nilFunc], [0], false⟩
  | 38 => some ⟨.func, 1, 8, [.nilFunc], [0], false⟩
  | 39 => some ⟨.pointer 56, 1, 8, [.pointer none], [0], false⟩
  | 40 => some ⟨.func, 1, 8, [.nilFunc], [0], false⟩
  | 41 => some ⟨.struct [(39, 0), (22, 1)], 2, 32, [.pointer none, .slice none 0 0], [0, 1], false⟩
  | 42 => some ⟨.struct [(39, 0), (22, 1)], 2, 32, [.pointer none, .slice none 0 0], [0, 1], false⟩
  | 43 => some ⟨.func, 1, 8, [.nilFunc], [0], false⟩
  | 44 => some ⟨.slice 51, 1, 24, [.slice none 0 0], [3], false⟩
  | 45 => some ⟨.slice 22, 1, 24, [.slice none 0 0], [1], false⟩
  | 46 => some ⟨.slice 53, 1, 24, [.slice none 0 0], [2], false⟩
  | 47 => some ⟨.struct [(9, 0), (44, 1), (22, 2), (45, 3), (46, 4), (25, 5)], 6, 136, [.string ByteArray.empty, .slice none 0 0, .slice none 0 0, .slice none 0 0, .slice none 0 0, .slice none 0 0], [0, 3, 1, 1, 2, 6], false⟩
  | 48 => some ⟨.struct [(9, 0), (44, 1), (22, 2), (45, 3), (46, 4), (25, 5)], 6, 136, [.string ByteArray.empty, .slice none 0 0, .slice none 0 0, .slice none 0 0, .slice none 0 0, .slice none 0 0], [0, 3, 1, 1, 2, 6], false⟩
  | 49 => some ⟨.func, 1, 8, [.nilFunc], [0], false⟩
  | 50 => some ⟨.struct [(9, 0), (3, 1), (4, 2)], 3, 32, [.string ByteArray.empty, .int .i64 0, .bool false], [0, 0, 0], true⟩
  | 51 => some ⟨.struct [(9, 0), (3, 1), (4, 2)], 3, 32, [.string ByteArray.empty, .int .i64 0, .bool false], [0, 0, 0], true⟩
  | 52 => some ⟨.struct [(22, 0), (9, 1)], 2, 40, [.slice none 0 0, .string ByteArray.empty], [1, 0], false⟩
  | 53 => some ⟨.struct [(22, 0), (9, 1)], 2, 40, [.slice none 0 0, .string ByteArray.empty], [1, 0], false⟩
  | 54 => some ⟨.func, 1, 8, [.nilFunc], [0], false⟩
  | 55 => some ⟨.struct [(22, 0), (3, 1)], 2, 32, [.slice none 0 0, .int .i64 0], [1, 0], false⟩
  | 56 => some ⟨.struct [(22, 0), (3, 1)], 2, 32, [.slice none 0 0, .int .i64 0], [1, 0], false⟩
  | 57 => some ⟨.func, 1, 8, [.nilFunc], [0], false⟩
  | 58 => some ⟨.func, 1, 8, [.nilFunc], [0], false⟩
  | 59 => some ⟨.func, 1, 8, [.nilFunc], [0], false⟩
  | 60 => some ⟨.struct [(3, 0), (2, 1), (9, 2)], 3, 32, [.int .i64 0, .int .i64 0, .string ByteArray.empty], [0, 0, 0], true⟩
  | 61 => some ⟨.struct [(3, 0), (2, 1), (9, 2)], 3, 32, [.int .i64 0, .int .i64 0, .string ByteArray.empty], [0, 0, 0], true⟩
  | 62 => some ⟨.func, 1, 8, [.nilFunc], [0], false⟩
  | 63 => some ⟨.array 4 9, 4, 64, [.string ByteArray.empty, .string ByteArray.empty, .string ByteArray.empty, .string ByteArray.empty], [0, 0, 0, 0], false⟩
  | 64 => some ⟨.func, 1, 8, [.nilFunc], [0], false⟩
  | 65 => some ⟨.struct [(17, 0), (17, 1), (17, 2), (9, 3)], 4, 40, [.pointer none, .pointer none, .pointer none, .string ByteArray.empty], [0, 0, 0, 0], false⟩
  | 66 => some ⟨.struct [(17, 0), (17, 1), (17, 2), (9, 3)], 4, 40, [.pointer none, .pointer none, .pointer none, .string ByteArray.empty], [0, 0, 0, 0], false⟩
  | 67 => some ⟨.array 0 16, 0, 0, [], [], false⟩
  | 68 => some ⟨.struct [(67, 0)], 0, 0, [], [], false⟩
  | 69 => some ⟨.struct [(67, 0)], 0, 0, [], [], false⟩
  | 70 => some ⟨.func, 1, 8, [.nilFunc], [0], false⟩
  | 71 => some ⟨.int .u32, 1, 4, [.int .u32 0], [0], false⟩
  | 72 => some ⟨.int .u8, 1, 1, [.int .u8 0], [0], false⟩
  | 73 => some ⟨.int .u8, 1, 1, [.int .u8 0], [0], false⟩
  | 74 => some ⟨.func, 1, 8, [.nilFunc], [0], false⟩
  | 75 => some ⟨.pointer 5, 1, 8, [.pointer none], [0], false⟩
  | 76 => some ⟨.int .i32, 1, 4, [.int .i32 0], [0], false⟩
  | 77 => some ⟨.int .i32, 1, 4, [.int .i32 0], [0], false⟩
  | 78 => some ⟨.struct [(12, 0), (12, 1), (71, 2), (72, 3), (5, 4), (5, 5), (73, 6), (74, 7), (75, 8), (76, 9), (77, 10)], 11, 48, [.int .u64 0, .int .u64 0, .int .u32 0, .int .u8 0, .int .u8 0, .int .u8 0, .int .u8 0, .nilFunc, .pointer none, .int .i32 0, .int .i32 0], [0, 0, 0, 0, 0, 0, 0, 0, 0, 0, 0], false⟩
  | 79 => some ⟨.struct [(12, 0), (12, 1), (71, 2), (72, 3), (5, 4), (5, 5), (73, 6), (74, 7), (75, 8), (76, 9), (77, 10)], 11, 48, [.int .u64 0, .int .u64 0, .int .u32 0, .int .u8 0, .int .u8 0, .int .u8 0, .int .u8 0, .nilFunc, .pointer none, .int .i32 0, .int .i32 0], [0, 0, 0, 0, 0, 0, 0, 0, 0, 0, 0], false⟩
  | _ => none

theorem tinfo1 : (Try.prog.info? 1).map (fun i => (i.size, i.bytes, i.zero)) = some (1, 8, some (.nilFunc)) := by kernel_rfl
theorem tok1 : TOk Try.prog 1 ⟨.func, 1, 8, [.nilFunc], [0], false⟩ := ⟨by obtain ⟨i, h1, h2⟩ := Option.map_eq_some_iff.1 tinfo1; simp only [Prod.mk.injEq] at h2; exact ⟨i, h1, h2.1, h2.2.1, _, h2.2.2, rfl⟩, rfl, by simp [one], ⟨_, _, _, Try.underlying1⟩, fun h => by cases h⟩
theorem tinfo2 : (Try.prog.info? 2).map (fun i => (i.size, i.bytes, i.zero)) = some (1, 8, some (.int .i64 0)) := by kernel_rfl
theorem tok2 : TOk Try.prog 2 ⟨.int .i64, 1, 8, [.int .i64 0], [0], false⟩ := ⟨by obtain ⟨i, h1, h2⟩ := Option.map_eq_some_iff.1 tinfo2; simp only [Prod.mk.injEq] at h2; exact ⟨i, h1, h2.1, h2.2.1, _, h2.2.2, rfl⟩, rfl, by simp [one], Try.underlying2, fun h => by cases h⟩
theorem tinfo3 : (Try.prog.info? 3).map (fun i => (i.size, i.bytes, i.zero)) = some (1, 8, some (.int .i64 0)) := by kernel_rfl
theorem tok3 : TOk Try.prog 3 ⟨.int .i64, 1, 8, [.int .i64 0], [0], false⟩ := ⟨by obtain ⟨i, h1, h2⟩ := Option.map_eq_some_iff.1 tinfo3; simp only [Prod.mk.injEq] at h2; exact ⟨i, h1, h2.1, h2.2.1, _, h2.2.2, rfl⟩, rfl, by simp [one], Try.underlying3, fun h => by cases h⟩
theorem tinfo4 : (Try.prog.info? 4).map (fun i => (i.size, i.bytes, i.zero)) = some (1, 1, some (.bool false)) := by kernel_rfl
theorem tok4 : TOk Try.prog 4 ⟨.bool, 1, 1, [.bool false], [0], false⟩ := ⟨by obtain ⟨i, h1, h2⟩ := Option.map_eq_some_iff.1 tinfo4; simp only [Prod.mk.injEq] at h2; exact ⟨i, h1, h2.1, h2.2.1, _, h2.2.2, rfl⟩, rfl, by simp [one], Try.underlying4, fun h => by cases h⟩
theorem tinfo5 : (Try.prog.info? 5).map (fun i => (i.size, i.bytes, i.zero)) = some (1, 1, some (.int .u8 0)) := by kernel_rfl
theorem tok5 : TOk Try.prog 5 ⟨.int .u8, 1, 1, [.int .u8 0], [0], false⟩ := ⟨by obtain ⟨i, h1, h2⟩ := Option.map_eq_some_iff.1 tinfo5; simp only [Prod.mk.injEq] at h2; exact ⟨i, h1, h2.1, h2.2.1, _, h2.2.2, rfl⟩, rfl, by simp [one], Try.underlying5, fun h => by cases h⟩
theorem tinfo6 : (Try.prog.info? 6).map (fun i => (i.size, i.bytes, i.zero)) = some (1, 1, some (.int .u8 0)) := by kernel_rfl
theorem tok6 : TOk Try.prog 6 ⟨.int .u8, 1, 1, [.int .u8 0], [0], false⟩ := ⟨by obtain ⟨i, h1, h2⟩ := Option.map_eq_some_iff.1 tinfo6; simp only [Prod.mk.injEq] at h2; exact ⟨i, h1, h2.1, h2.2.1, _, h2.2.2, rfl⟩, rfl, by simp [one], Try.underlying6, fun h => by cases h⟩
theorem tinfo7 : (Try.prog.info? 7).map (fun i => (i.size, i.bytes, i.zero)) = some (4, 24, some (.agg #[.int .i64 0, .int .i64 0, .bool false, .int .u8 0])) := by kernel_rfl
theorem tok7 : TOk Try.prog 7 ⟨.struct [(2, 0), (3, 1), (4, 2), (6, 3)], 4, 24, [.int .i64 0, .int .i64 0, .bool false, .int .u8 0], [0, 0, 0, 0], false⟩ := ⟨by obtain ⟨i, h1, h2⟩ := Option.map_eq_some_iff.1 tinfo7; simp only [Prod.mk.injEq] at h2; exact ⟨i, h1, h2.1, h2.2.1, _, h2.2.2, rfl⟩, rfl, by simp [one], ⟨_, Try.underlying7, rfl⟩, fun h => by cases h⟩
theorem tinfo8 : (Try.prog.info? 8).map (fun i => (i.size, i.bytes, i.zero)) = some (4, 24, some (.agg #[.int .i64 0, .int .i64 0, .bool false, .int .u8 0])) := by kernel_rfl
theorem tok8 : TOk Try.prog 8 ⟨.struct [(2, 0), (3, 1), (4, 2), (6, 3)], 4, 24, [.int .i64 0, .int .i64 0, .bool false, .int .u8 0], [0, 0, 0, 0], false⟩ := ⟨by obtain ⟨i, h1, h2⟩ := Option.map_eq_some_iff.1 tinfo8; simp only [Prod.mk.injEq] at h2; exact ⟨i, h1, h2.1, h2.2.1, _, h2.2.2, rfl⟩, rfl, by simp [one], ⟨_, Try.underlying8, rfl⟩, fun h => by cases h⟩
theorem tinfo9 : (Try.prog.info? 9).map (fun i => (i.size, i.bytes, i.zero)) = some (1, 16, some (.string ByteArray.empty)) := by kernel_rfl
theorem tok9 : TOk Try.prog 9 ⟨.string, 1, 16, [.string ByteArray.empty], [0], false⟩ := ⟨by obtain ⟨i, h1, h2⟩ := Option.map_eq_some_iff.1 tinfo9; simp only [Prod.mk.injEq] at h2; exact ⟨i, h1, h2.1, h2.2.1, _, h2.2.2, rfl⟩, rfl, by simp [one], Try.underlying9, fun h => by cases h⟩
theorem tinfo10 : (Try.prog.info? 10).map (fun i => (i.size, i.bytes, i.zero)) = some (1, 16, some (.string ByteArray.empty)) := by kernel_rfl
theorem tok10 : TOk Try.prog 10 ⟨.string, 1, 16, [.string ByteArray.empty], [0], false⟩ := ⟨by obtain ⟨i, h1, h2⟩ := Option.map_eq_some_iff.1 tinfo10; simp only [Prod.mk.injEq] at h2; exact ⟨i, h1, h2.1, h2.2.1, _, h2.2.2, rfl⟩, rfl, by simp [one], Try.underlying10, fun h => by cases h⟩
theorem tinfo11 : (Try.prog.info? 11).map (fun i => (i.size, i.bytes, i.zero)) = some (1, 16, some (.string ByteArray.empty)) := by kernel_rfl
theorem tok11 : TOk Try.prog 11 ⟨.string, 1, 16, [.string ByteArray.empty], [0], false⟩ := ⟨by obtain ⟨i, h1, h2⟩ := Option.map_eq_some_iff.1 tinfo11; simp only [Prod.mk.injEq] at h2; exact ⟨i, h1, h2.1, h2.2.1, _, h2.2.2, rfl⟩, rfl, by simp [one], Try.underlying11, fun h => by cases h⟩
theorem tinfo12 : (Try.prog.info? 12).map (fun i => (i.size, i.bytes, i.zero)) = some (1, 8, some (.int .u64 0)) := by kernel_rfl
theorem tok12 : TOk Try.prog 12 ⟨.int .u64, 1, 8, [.int .u64 0], [0], false⟩ := ⟨by obtain ⟨i, h1, h2⟩ := Option.map_eq_some_iff.1 tinfo12; simp only [Prod.mk.injEq] at h2; exact ⟨i, h1, h2.1, h2.2.1, _, h2.2.2, rfl⟩, rfl, by simp [one], Try.underlying12, fun h => by cases h⟩
theorem tinfo13 : (Try.prog.info? 13).map (fun i => (i.size, i.bytes, i.zero)) = some (2, 24, some (.agg #[.string ByteArray.empty, .int .u64 0])) := by kernel_rfl
theorem tok13 : TOk Try.prog 13 ⟨.struct [(9, 0), (12, 1)], 2, 24, [.string ByteArray.empty, .int .u64 0], [0, 0], false⟩ := ⟨by obtain ⟨i, h1, h2⟩ := Option.map_eq_some_iff.1 tinfo13; simp only [Prod.mk.injEq] at h2; exact ⟨i, h1, h2.1, h2.2.1, _, h2.2.2, rfl⟩, rfl, by simp [one], ⟨_, Try.underlying13, rfl⟩, fun h => by cases h⟩
theorem tinfo14 : (Try.prog.info? 14).map (fun i => (i.size, i.bytes, i.zero)) = some (2, 24, some (.agg #[.string ByteArray.empty, .int .u64 0])) := by kernel_rfl
theorem tok14 : TOk Try.prog 14 ⟨.struct [(9, 0), (12, 1)], 2, 24, [.string ByteArray.empty, .int .u64 0], [0, 0], false⟩ := ⟨by obtain ⟨i, h1, h2⟩ := Option.map_eq_some_iff.1 tinfo14; simp only [Prod.mk.injEq] at h2; exact ⟨i, h1, h2.1, h2.2.1, _, h2.2.2, rfl⟩, rfl, by simp [one], ⟨_, Try.underlying14, rfl⟩, fun h => by cases h⟩
theorem tinfo15 : (Try.prog.info? 15).map (fun i => (i.size, i.bytes, i.zero)) = some (1, 8, some (.pointer none)) := by kernel_rfl
theorem tok15 : TOk Try.prog 15 ⟨.pointer 66, 1, 8, [.pointer none], [0], false⟩ := ⟨by obtain ⟨i, h1, h2⟩ := Option.map_eq_some_iff.1 tinfo15; simp only [Prod.mk.injEq] at h2; exact ⟨i, h1, h2.1, h2.2.1, _, h2.2.2, rfl⟩, rfl, by simp [one], Try.underlying15, fun h => by cases h⟩
theorem tinfo16 : (Try.prog.info? 16).map (fun i => (i.size, i.bytes, i.zero)) = some (1, 8, some (.pointer none)) := by kernel_rfl
theorem tok16 : TOk Try.prog 16 ⟨.pointer 69, 1, 8, [.pointer none], [0], false⟩ := ⟨by obtain ⟨i, h1, h2⟩ := Option.map_eq_some_iff.1 tinfo16; simp only [Prod.mk.injEq] at h2; exact ⟨i, h1, h2.1, h2.2.1, _, h2.2.2, rfl⟩, rfl, by simp [one], Try.underlying16, fun h => by cases h⟩
theorem tinfo17 : (Try.prog.info? 17).map (fun i => (i.size, i.bytes, i.zero)) = some (1, 8, some (.pointer none)) := by kernel_rfl
theorem tok17 : TOk Try.prog 17 ⟨.pointer 79, 1, 8, [.pointer none], [0], false⟩ := ⟨by obtain ⟨i, h1, h2⟩ := Option.map_eq_some_iff.1 tinfo17; simp only [Prod.mk.injEq] at h2; exact ⟨i, h1, h2.1, h2.2.1, _, h2.2.2, rfl⟩, rfl, by simp [one], Try.underlying17, fun h => by cases h⟩
theorem tinfo18 : (Try.prog.info? 18).map (fun i => (i.size, i.bytes, i.zero)) = some (1, 8, some (.agg #[.pointer none])) := by kernel_rfl
theorem tok18 : TOk Try.prog 18 ⟨.struct [(17, 0)], 1, 8, [.pointer none], [0], false⟩ := ⟨by obtain ⟨i, h1, h2⟩ := Option.map_eq_some_iff.1 tinfo18; simp only [Prod.mk.injEq] at h2; exact ⟨i, h1, h2.1, h2.2.1, _, h2.2.2, rfl⟩, rfl, by simp [one], ⟨_, Try.underlying18, rfl⟩, fun h => by cases h⟩
theorem tinfo19 : (Try.prog.info? 19).map (fun i => (i.size, i.bytes, i.zero)) = some (1, 8, some (.agg #[.pointer none])) := by kernel_rfl
theorem tok19 : TOk Try.prog 19 ⟨.struct [(17, 0)], 1, 8, [.pointer none], [0], false⟩ := ⟨by obtain ⟨i, h1, h2⟩ := Option.map_eq_some_iff.1 tinfo19; simp only [Prod.mk.injEq] at h2; exact ⟨i, h1, h2.1, h2.2.1, _, h2.2.2, rfl⟩, rfl, by simp [one], ⟨_, Try.underlying19, rfl⟩, fun h => by cases h⟩
theorem tinfo21 : (Try.prog.info? 21).map (fun i => (i.size, i.bytes, i.zero)) = some (1, 4, some (.int .i32 0)) := by kernel_rfl
theorem tok21 : TOk Try.prog 21 ⟨.int .i32, 1, 4, [.int .i32 0], [0], false⟩ := ⟨by obtain ⟨i, h1, h2⟩ := Option.map_eq_some_iff.1 tinfo21; simp only [Prod.mk.injEq] at h2; exact ⟨i, h1, h2.1, h2.2.1, _, h2.2.2, rfl⟩, rfl, by simp [one], Try.underlying21, fun h => by cases h⟩
theorem tinfo22 : (Try.prog.info? 22).map (fun i => (i.size, i.bytes, i.zero)) = some (1, 24, some (.slice none 0 0)) := by kernel_rfl
theorem tok22 : TOk Try.prog 22 ⟨.slice 3, 1, 24, [.slice none 0 0], [1], false⟩ := ⟨by obtain ⟨i, h1, h2⟩ := Option.map_eq_some_iff.1 tinfo22; simp only [Prod.mk.injEq] at h2; exact ⟨i, h1, h2.1, h2.2.1, _, h2.2.2, rfl⟩, rfl, by simp [one], Try.underlying22, fun h => by cases h⟩
theorem tinfo23 : (Try.prog.info? 23).map (fun i => (i.size, i.bytes, i.zero)) = some (1, 1, some (.int .i8 0)) := by kernel_rfl
theorem tok23 : TOk Try.prog 23 ⟨.int .i8, 1, 1, [.int .i8 0], [0], false⟩ := ⟨by obtain ⟨i, h1, h2⟩ := Option.map_eq_some_iff.1 tinfo23; simp only [Prod.mk.injEq] at h2; exact ⟨i, h1, h2.1, h2.2.1, _, h2.2.2, rfl⟩, rfl, by simp [one], Try.underlying23, fun h => by cases h⟩
theorem tinfo24 : (Try.prog.info? 24).map (fun i => (i.size, i.bytes, i.zero)) = some (1, 8, some (.nilFunc)) := by kernel_rfl
theorem tok24 : TOk Try.prog 24 ⟨.func, 1, 8, [.nilFunc], [0], false⟩ := ⟨by obtain ⟨i, h1, h2⟩ := Option.map_eq_some_iff.1 tinfo24; simp only [Prod.mk.injEq] at h2; exact ⟨i, h1, h2.1, h2.2.1, _, h2.2.2, rfl⟩, rfl, by simp [one], ⟨_, _, _, Try.underlying24⟩, fun h => by cases h⟩
theorem tinfo25 : (Try.prog.info? 25).map (fun i => (i.size, i.bytes, i.zero)) = some (1, 24, some (.slice none 0 0)) := by kernel_rfl
theorem tok25 : TOk Try.prog 25 ⟨.slice 27, 1, 24, [.slice none 0 0], [6], false⟩ := ⟨by obtain ⟨i, h1, h2⟩ := Option.map_eq_some_iff.1 tinfo25; simp only [Prod.mk.injEq] at h2; exact ⟨i, h1, h2.1, h2.2.1, _, h2.2.2, rfl⟩, rfl, by simp [one], Try.underlying25, fun h => by cases h⟩
theorem tinfo26 : (Try.prog.info? 26).map (fun i => (i.size, i.bytes, i.zero)) = some (6, 72, some (.agg #[.int .i64 0, .int .i64 0, .int .i64 0, .string ByteArray.empty, .int .i64 0, .slice none 0 0])) := by kernel_rfl
theorem tok26 : TOk Try.prog 26 ⟨.struct [(3, 0), (3, 1), (2, 2), (9, 3), (3, 4), (25, 5)], 6, 72, [.int .i64 0, .int .i64 0, .int .i64 0, .string ByteArray.empty, .int .i64 0, .slice none 0 0], [0, 0, 0, 0, 0, 6], false⟩ := ⟨by obtain ⟨i, h1, h2⟩ := Option.map_eq_some_iff.1 tinfo26; simp only [Prod.mk.injEq] at h2; exact ⟨i, h1, h2.1, h2.2.1, _, h2.2.2, rfl⟩, rfl, by simp [one], ⟨_, Try.underlying26, rfl⟩, fun h => by cases h⟩
theorem tinfo27 : (Try.prog.info? 27).map (fun i => (i.size, i.bytes, i.zero)) = some (6, 72, some (.agg #[.int .i64 0, .int .i64 0, .int .i64 0, .string ByteArray.empty, .int .i64 0, .slice none 0 0])) := by kernel_rfl
theorem tok27 : TOk Try.prog 27 ⟨.struct [(3, 0), (3, 1), (2, 2), (9, 3), (3, 4), (25, 5)], 6, 72, [.int .i64 0, .int .i64 0, .int .i64 0, .string ByteArray.empty, .int .i64 0, .slice none 0 0], [0, 0, 0, 0, 0, 6], false⟩ := ⟨by obtain ⟨i, h1, h2⟩ := Option.map_eq_some_iff.1 tinfo27; simp only [Prod.mk.injEq] at h2; exact ⟨i, h1, h2.1, h2.2.1, _, h2.2.2, rfl⟩, rfl, by simp [one], ⟨_, Try.underlying27, rfl⟩, fun h => by cases h⟩
theorem tinfo28 : (Try.prog.info? 28).map (fun i => (i.size, i.bytes, i.zero)) = some (1, 8, some (.int .i64 0)) := by kernel_rfl
theorem tok28 : TOk Try.prog 28 ⟨.int .i64, 1, 8, [.int .i64 0], [0], false⟩ := ⟨by obtain ⟨i, h1, h2⟩ := Option.map_eq_some_iff.1 tinfo28; simp only [Prod.mk.injEq] at h2; exact ⟨i, h1, h2.1, h2.2.1, _, h2.2.2, rfl⟩, rfl, by simp [one], Try.underlying28, fun h => by cases h⟩
theorem tinfo30 : (Try.prog.info? 30).map (fun i => (i.size, i.bytes, i.zero)) = some (1, 8, some (.nilFunc)) := by kernel_rfl
theorem tok30 : TOk Try.prog 30 ⟨.func, 1, 8, [.nilFunc], [0], false⟩ := ⟨by obtain ⟨i, h1, h2⟩ := Option.map_eq_some_iff.1 tinfo30; simp only [Prod.mk.injEq] at h2; exact ⟨i, h1, h2.1, h2.2.1, _, h2.2.2, rfl⟩, rfl, by simp [one], ⟨_, _, _, Try.underlying30⟩, fun h => by cases h⟩
theorem tinfo31 : (Try.prog.info? 31).map (fun i => (i.size, i.bytes, i.zero)) = some (1, 8, some (.nilFunc)) := by kernel_rfl
theorem tok31 : TOk Try.prog 31 ⟨.func, 1, 8, [.nilFunc], [0], false⟩ := ⟨by obtain ⟨i, h1, h2⟩ := Option.map_eq_some_iff.1 tinfo31; simp only [Prod.mk.injEq] at h2; exact ⟨i, h1, h2.1, h2.2.1, _, h2.2.2, rfl⟩, rfl, by simp [one], ⟨_, _, _, Try.underlying31⟩, fun h => by cases h⟩
theorem tinfo32 : (Try.prog.info? 32).map (fun i => (i.size, i.bytes, i.zero)) = some (1, 8, some (.nilFunc)) := by kernel_rfl
theorem tok32 : TOk Try.prog 32 ⟨.func, 1, 8, [.nilFunc], [0], false⟩ := ⟨by obtain ⟨i, h1, h2⟩ := Option.map_eq_some_iff.1 tinfo32; simp only [Prod.mk.injEq] at h2; exact ⟨i, h1, h2.1, h2.2.1, _, h2.2.2, rfl⟩, rfl, by simp [one], ⟨_, _, _, Try.underlying32⟩, fun h => by cases h⟩
theorem tinfo33 : (Try.prog.info? 33).map (fun i => (i.size, i.bytes, i.zero)) = some (1, 24, some (.slice none 0 0)) := by kernel_rfl
theorem tok33 : TOk Try.prog 33 ⟨.slice 48, 1, 24, [.slice none 0 0], [6], false⟩ := ⟨by obtain ⟨i, h1, h2⟩ := Option.map_eq_some_iff.1 tinfo33; simp only [Prod.mk.injEq] at h2; exact ⟨i, h1, h2.1, h2.2.1, _, h2.2.2, rfl⟩, rfl, by simp [one], Try.underlying33, fun h => by cases h⟩
theorem tinfo34 : (Try.prog.info? 34).map (fun i => (i.size, i.bytes, i.zero)) = some (1, 24, some (.agg #[.slice none 0 0])) := by kernel_rfl
theorem tok34 : TOk Try.prog 34 ⟨.struct [(33, 0)], 1, 24, [.slice none 0 0], [6], false⟩ := ⟨by obtain ⟨i, h1, h2⟩ := Option.map_eq_some_iff.1 tinfo34; simp only [Prod.mk.injEq] at h2; exact ⟨i, h1, h2.1, h2.2.1, _, h2.2.2, rfl⟩, rfl, by simp [one], ⟨_, Try.underlying34, rfl⟩, fun h => by cases h⟩
theorem tinfo35 : (Try.prog.info? 35).map (fun i => (i.size, i.bytes, i.zero)) = some (1, 24, some (.agg #[.slice none 0 0])) := by kernel_rfl
theorem tok35 : TOk Try.prog 35 ⟨.struct [(33, 0)], 1, 24, [.slice none 0 0], [6], false⟩ := ⟨by obtain ⟨i, h1, h2⟩ := Option.map_eq_some_iff.1 tinfo35; simp only [Prod.mk.injEq] at h2; exact ⟨i, h1, h2.1, h2.2.1, _, h2.2.2, rfl⟩, rfl, by simp [one], ⟨_, Try.underlying35, rfl⟩, fun h => by cases h⟩
theorem tinfo36 : (Try.prog.info? 36).map (fun i => (i.size, i.bytes, i.zero)) = some (1, 8, some (.nilFunc)) := by kernel_rfl
theorem tok36 : TOk Try.prog 36 ⟨.func, 1, 8, [.nilFunc], [0], false⟩ := ⟨by obtain ⟨i, h1, h2⟩ := Option.map_eq_some_iff.1 tinfo36; simp only [Prod.mk.injEq] at h2; exact ⟨i, h1, h2.1, h2.2.1, _, h2.2.2, rfl⟩, rfl, by simp [one], ⟨_, _, _, Try.underlying36⟩, fun h => by cases h⟩
theorem tinfo37 : (Try.prog.info? 37).map (fun i => (i.size, i.bytes, i.zero)) = some (1, 8, some (.nilFunc)) := by kernel_rfl
theorem tok37 : TOk Try.prog 37 ⟨.func, 1, 8, [.nilFunc], [0], false⟩ := ⟨by obtain ⟨i, h1, h2⟩ := Option.map_eq_some_iff.1 tinfo37; simp only [Prod.mk.injEq] at h2; exact ⟨i, h1, h2.1, h2.2.1, _, h2.2.2, rfl⟩, rfl, by simp [one], ⟨_, _, _, Try.underlying37⟩, fun h => by cases h⟩
theorem tinfo38 : (Try.prog.info? 38).map (fun i => (i.size, i.bytes, i.zero)) = some (1, 8, some (.nilFunc)) := by kernel_rfl
theorem tok38 : TOk Try.prog 38 ⟨.func, 1, 8, [.nilFunc], [0], false⟩ := ⟨by obtain ⟨i, h1, h2⟩ := Option.map_eq_some_iff.1 tinfo38; simp only [Prod.mk.injEq] at h2; exact ⟨i, h1, h2.1, h2.2.1, _, h2.2.2, rfl⟩, rfl, by simp [one], ⟨_, _, _, Try.underlying38⟩, fun h => by cases h⟩
theorem tinfo39 : (Try.prog.info? 39).map (fun i => (i.size, i.bytes, i.zero)) = some (1, 8, some (.pointer none)) := by kernel_rfl
theorem tok39 : TOk Try.prog 39 ⟨.pointer 56, 1, 8, [.pointer none], [0], false⟩ := ⟨by obtain ⟨i, h1, h2⟩ := Option.map_eq_some_iff.1 tinfo39; simp only [Prod.mk.injEq] at h2; exact ⟨i, h1, h2.1, h2.2.1, _, h2.2.2, rfl⟩, rfl, by simp [one], Try.underlying39, fun h => by cases h⟩
theorem tinfo40 : (Try.prog.info? 40).map (fun i => (i.size, i.bytes, i.zero)) = some (1, 8, some (.nilFunc)) := by kernel_rfl
theorem tok40 : TOk Try.prog 40 ⟨.func, 1, 8, [.nilFunc], [0], false⟩ := ⟨by obtain ⟨i, h1, h2⟩ := Option.map_eq_some_iff.1 tinfo40; simp only [Prod.mk.injEq] at h2; exact ⟨i, h1, h2.1, h2.2.1, _, h2.2.2, rfl⟩, rfl, by simp [one], ⟨_, _, _, Try.underlying40⟩, fun h => by cases h⟩
theorem tinfo41 : (Try.prog.info? 41).map (fun i => (i.size, i.bytes, i.zero)) = some (2, 32, some (.agg #[.pointer none, .slice none 0 0])) := by kernel_rfl
theorem tok41 : TOk Try.prog 41 ⟨.struct [(39, 0), (22, 1)], 2, 32, [.pointer none, .slice none 0 0], [0, 1], false⟩ := ⟨by obtain ⟨i, h1, h2⟩ := Option.map_eq_some_iff.1 tinfo41; simp only [Prod.mk.injEq] at h2; exact ⟨i, h1, h2.1, h2.2.1, _, h2.2.2, rfl⟩, rfl, by simp [one], ⟨_, Try.underlying41, rfl⟩, fun h => by cases h⟩
theorem tinfo42 : (Try.prog.info? 42).map (fun i => (i.size, i.bytes, i.zero)) = some (2, 32, some (.agg #[.pointer none, .slice none 0 0])) := by kernel_rfl
theorem tok42 : TOk Try.prog 42 ⟨.struct [(39, 0), (22, 1)], 2, 32, [.pointer none, .slice none 0 0], [0, 1], false⟩ := ⟨by obtain ⟨i, h1, h2⟩ := Option.map_eq_some_iff.1 tinfo42; simp only [Prod.mk.injEq] at h2; exact ⟨i, h1, h2.1, h2.2.1, _, h2.2.2, rfl⟩, rfl, by simp [one], ⟨_, Try.underlying42, rfl⟩, fun h => by cases h⟩
theorem tinfo43 : (Try.prog.info? 43).map (fun i => (i.size, i.bytes, i.zero)) = some (1, 8, some (.nilFunc)) := by kernel_rfl
theorem tok43 : TOk Try.prog 43 ⟨.func, 1, 8, [.nilFunc], [0], false⟩ := ⟨by obtain ⟨i, h1, h2⟩ := Option.map_eq_some_iff.1 tinfo43; simp only [Prod.mk.injEq] at h2; exact ⟨i, h1, h2.1, h2.2.1, _, h2.2.2, rfl⟩, rfl, by simp [one], ⟨_, _, _, Try.underlying43⟩, fun h => by cases h⟩
theorem tinfo44 : (Try.prog.info? 44).map (fun i => (i.size, i.bytes, i.zero)) = some (1, 24, some (.slice none 0 0)) := by kernel_rfl
theorem tok44 : TOk Try.prog 44 ⟨.slice 51, 1, 24, [.slice none 0 0], [3], false⟩ := ⟨by obtain ⟨i, h1, h2⟩ := Option.map_eq_some_iff.1 tinfo44; simp only [Prod.mk.injEq] at h2; exact ⟨i, h1, h2.1, h2.2.1, _, h2.2.2, rfl⟩, rfl, by simp [one], Try.underlying44, fun h => by cases h⟩
theorem tinfo45 : (Try.prog.info? 45).map (fun i => (i.size, i.bytes, i.zero)) = some (1, 24, some (.slice none 0 0)) := by kernel_rfl
theorem tok45 : TOk Try.prog 45 ⟨.slice 22, 1, 24, [.slice none 0 0], [1], false⟩ := ⟨by obtain ⟨i, h1, h2⟩ := Option.map_eq_some_iff.1 tinfo45; simp only [Prod.mk.injEq] at h2; exact ⟨i, h1, h2.1, h2.2.1, _, h2.2.2, rfl⟩, rfl, by simp [one], Try.underlying45, fun h => by cases h⟩
theorem tinfo46 : (Try.prog.info? 46).map (fun i => (i.size, i.bytes, i.zero)) = some (1, 24, some (.slice none 0 0)) := by kernel_rfl
theorem tok46 : TOk Try.prog 46 ⟨.slice 53, 1, 24, [.slice none 0 0], [2], false⟩ := ⟨by obtain ⟨i, h1, h2⟩ := Option.map_eq_some_iff.1 tinfo46; simp only [Prod.mk.injEq] at h2; exact ⟨i, h1, h2.1, h2.2.1, _, h2.2.2, rfl⟩, rfl, by simp [one], Try.underlying46, fun h => by cases h⟩
theorem tinfo47 : (Try.prog.info? 47).map (fun i => (i.size, i.bytes, i.zero)) = some (6, 136, some (.agg #[.string ByteArray.empty, .slice none 0 0, .slice none 0 0, .slice none 0 0, .slice none 0 0, .slice none 0 0])) := by kernel_rfl
theorem tok47 : TOk Try.prog 47 ⟨.struct [(9, 0), (44, 1), (22, 2), (45, 3), (46, 4), (25, 5)], 6, 136, [.string ByteArray.empty, .slice none 0 0, .slice none 0 0, .slice none 0 0, .slice none 0 0, .slice none 0 0], [0, 3, 1, 1, 2, 6], false⟩ := ⟨by obtain ⟨i, h1, h2⟩ := Option.map_eq_some_iff.1 tinfo47; simp only [Prod.mk.injEq] at h2; exact ⟨i, h1, h2.1, h2.2.1, _, h2.2.2, rfl⟩, rfl, by simp [one], ⟨_, Try.underlying47, rfl⟩, fun h => by cases h⟩
theorem tinfo48 : (Try.prog.info? 48).map (fun i => (i.size, i.bytes, i.zero)) = some (6, 136, some (.agg #[.string ByteArray.empty, .slice none 0 0, .slice none 0 0, .slice none 0 0, .slice none 0 0, .slice none 0 0])) := by kernel_rfl
theorem tok48 : TOk Try.prog 48 ⟨.struct [(9, 0), (44, 1), (22, 2), (45, 3), (46, 4), (25, 5)], 6, 136, [.string ByteArray.empty, .slice none 0 0, .slice none 0 0, .slice none 0 0, .slice none 0 0, .slice none 0 0], [0, 3, 1, 1, 2, 6], false⟩ := ⟨by obtain ⟨i, h1, h2⟩ := Option.map_eq_some_iff.1 tinfo48; simp only [Prod.mk.injEq] at h2; exact ⟨i, h1, h2.1, h2.2.1, _, h2.2.2, rfl⟩, rfl, by simp [one], ⟨_, Try.underlying48, rfl⟩, fun h => by cases h⟩
theorem tinfo49 : (Try.prog.info? 49).map (fun i => (i.size, i.bytes, i.zero)) = some (1, 8, some (.nilFunc)) := by kernel_rfl
theorem tok49 : TOk Try.prog 49 ⟨.func, 1, 8, [.nilFunc], [0], false⟩ := ⟨by obtain ⟨i, h1, h2⟩ := Option.map_eq_some_iff.1 tinfo49; simp only [Prod.mk.injEq] at h2; exact ⟨i, h1, h2.1, h2.2.1, _, h2.2.2, rfl⟩, rfl, by simp [one], ⟨_, _, _, Try.underlying49⟩, fun h => by cases h⟩
theorem tinfo50 : (Try.prog.info? 50).map (fun i => (i.size, i.bytes, i.zero)) = some (3, 32, some (.agg #[.string ByteArray.empty, .int .i64 0, .bool false])) := by kernel_rfl
theorem tflat50 : Try.prog.stoodInHeld 50 = false ∧ Try.prog.eqGuardType Try.prog.depth 50 = false := ⟨by kernel_rfl, by kernel_rfl⟩
theorem tok50 : TOk Try.prog 50 ⟨.struct [(9, 0), (3, 1), (4, 2)], 3, 32, [.string ByteArray.empty, .int .i64 0, .bool false], [0, 0, 0], true⟩ := ⟨by obtain ⟨i, h1, h2⟩ := Option.map_eq_some_iff.1 tinfo50; simp only [Prod.mk.injEq] at h2; exact ⟨i, h1, h2.1, h2.2.1, _, h2.2.2, rfl⟩, rfl, by simp [one], ⟨_, Try.underlying50, rfl⟩, fun _ => ⟨tflat50.1, tflat50.2, fun fs hfs => by rw [Try.underlying50] at hfs; cases hfs; simp⟩⟩
theorem tinfo51 : (Try.prog.info? 51).map (fun i => (i.size, i.bytes, i.zero)) = some (3, 32, some (.agg #[.string ByteArray.empty, .int .i64 0, .bool false])) := by kernel_rfl
theorem tflat51 : Try.prog.stoodInHeld 51 = false ∧ Try.prog.eqGuardType Try.prog.depth 51 = false := ⟨by kernel_rfl, by kernel_rfl⟩
theorem tok51 : TOk Try.prog 51 ⟨.struct [(9, 0), (3, 1), (4, 2)], 3, 32, [.string ByteArray.empty, .int .i64 0, .bool false], [0, 0, 0], true⟩ := ⟨by obtain ⟨i, h1, h2⟩ := Option.map_eq_some_iff.1 tinfo51; simp only [Prod.mk.injEq] at h2; exact ⟨i, h1, h2.1, h2.2.1, _, h2.2.2, rfl⟩, rfl, by simp [one], ⟨_, Try.underlying51, rfl⟩, fun _ => ⟨tflat51.1, tflat51.2, fun fs hfs => by rw [Try.underlying51] at hfs; cases hfs; simp⟩⟩
theorem tinfo52 : (Try.prog.info? 52).map (fun i => (i.size, i.bytes, i.zero)) = some (2, 40, some (.agg #[.slice none 0 0, .string ByteArray.empty])) := by kernel_rfl
theorem tok52 : TOk Try.prog 52 ⟨.struct [(22, 0), (9, 1)], 2, 40, [.slice none 0 0, .string ByteArray.empty], [1, 0], false⟩ := ⟨by obtain ⟨i, h1, h2⟩ := Option.map_eq_some_iff.1 tinfo52; simp only [Prod.mk.injEq] at h2; exact ⟨i, h1, h2.1, h2.2.1, _, h2.2.2, rfl⟩, rfl, by simp [one], ⟨_, Try.underlying52, rfl⟩, fun h => by cases h⟩
theorem tinfo53 : (Try.prog.info? 53).map (fun i => (i.size, i.bytes, i.zero)) = some (2, 40, some (.agg #[.slice none 0 0, .string ByteArray.empty])) := by kernel_rfl
theorem tok53 : TOk Try.prog 53 ⟨.struct [(22, 0), (9, 1)], 2, 40, [.slice none 0 0, .string ByteArray.empty], [1, 0], false⟩ := ⟨by obtain ⟨i, h1, h2⟩ := Option.map_eq_some_iff.1 tinfo53; simp only [Prod.mk.injEq] at h2; exact ⟨i, h1, h2.1, h2.2.1, _, h2.2.2, rfl⟩, rfl, by simp [one], ⟨_, Try.underlying53, rfl⟩, fun h => by cases h⟩
theorem tinfo54 : (Try.prog.info? 54).map (fun i => (i.size, i.bytes, i.zero)) = some (1, 8, some (.nilFunc)) := by kernel_rfl
theorem tok54 : TOk Try.prog 54 ⟨.func, 1, 8, [.nilFunc], [0], false⟩ := ⟨by obtain ⟨i, h1, h2⟩ := Option.map_eq_some_iff.1 tinfo54; simp only [Prod.mk.injEq] at h2; exact ⟨i, h1, h2.1, h2.2.1, _, h2.2.2, rfl⟩, rfl, by simp [one], ⟨_, _, _, Try.underlying54⟩, fun h => by cases h⟩
theorem tinfo55 : (Try.prog.info? 55).map (fun i => (i.size, i.bytes, i.zero)) = some (2, 32, some (.agg #[.slice none 0 0, .int .i64 0])) := by kernel_rfl
theorem tok55 : TOk Try.prog 55 ⟨.struct [(22, 0), (3, 1)], 2, 32, [.slice none 0 0, .int .i64 0], [1, 0], false⟩ := ⟨by obtain ⟨i, h1, h2⟩ := Option.map_eq_some_iff.1 tinfo55; simp only [Prod.mk.injEq] at h2; exact ⟨i, h1, h2.1, h2.2.1, _, h2.2.2, rfl⟩, rfl, by simp [one], ⟨_, Try.underlying55, rfl⟩, fun h => by cases h⟩
theorem tinfo56 : (Try.prog.info? 56).map (fun i => (i.size, i.bytes, i.zero)) = some (2, 32, some (.agg #[.slice none 0 0, .int .i64 0])) := by kernel_rfl
theorem tok56 : TOk Try.prog 56 ⟨.struct [(22, 0), (3, 1)], 2, 32, [.slice none 0 0, .int .i64 0], [1, 0], false⟩ := ⟨by obtain ⟨i, h1, h2⟩ := Option.map_eq_some_iff.1 tinfo56; simp only [Prod.mk.injEq] at h2; exact ⟨i, h1, h2.1, h2.2.1, _, h2.2.2, rfl⟩, rfl, by simp [one], ⟨_, Try.underlying56, rfl⟩, fun h => by cases h⟩
theorem tinfo57 : (Try.prog.info? 57).map (fun i => (i.size, i.bytes, i.zero)) = some (1, 8, some (.nilFunc)) := by kernel_rfl
theorem tok57 : TOk Try.prog 57 ⟨.func, 1, 8, [.nilFunc], [0], false⟩ := ⟨by obtain ⟨i, h1, h2⟩ := Option.map_eq_some_iff.1 tinfo57; simp only [Prod.mk.injEq] at h2; exact ⟨i, h1, h2.1, h2.2.1, _, h2.2.2, rfl⟩, rfl, by simp [one], ⟨_, _, _, Try.underlying57⟩, fun h => by cases h⟩
theorem tinfo58 : (Try.prog.info? 58).map (fun i => (i.size, i.bytes, i.zero)) = some (1, 8, some (.nilFunc)) := by kernel_rfl
theorem tok58 : TOk Try.prog 58 ⟨.func, 1, 8, [.nilFunc], [0], false⟩ := ⟨by obtain ⟨i, h1, h2⟩ := Option.map_eq_some_iff.1 tinfo58; simp only [Prod.mk.injEq] at h2; exact ⟨i, h1, h2.1, h2.2.1, _, h2.2.2, rfl⟩, rfl, by simp [one], ⟨_, _, _, Try.underlying58⟩, fun h => by cases h⟩
theorem tinfo59 : (Try.prog.info? 59).map (fun i => (i.size, i.bytes, i.zero)) = some (1, 8, some (.nilFunc)) := by kernel_rfl
theorem tok59 : TOk Try.prog 59 ⟨.func, 1, 8, [.nilFunc], [0], false⟩ := ⟨by obtain ⟨i, h1, h2⟩ := Option.map_eq_some_iff.1 tinfo59; simp only [Prod.mk.injEq] at h2; exact ⟨i, h1, h2.1, h2.2.1, _, h2.2.2, rfl⟩, rfl, by simp [one], ⟨_, _, _, Try.underlying59⟩, fun h => by cases h⟩
theorem tinfo60 : (Try.prog.info? 60).map (fun i => (i.size, i.bytes, i.zero)) = some (3, 32, some (.agg #[.int .i64 0, .int .i64 0, .string ByteArray.empty])) := by kernel_rfl
theorem tflat60 : Try.prog.stoodInHeld 60 = false ∧ Try.prog.eqGuardType Try.prog.depth 60 = false := ⟨by kernel_rfl, by kernel_rfl⟩
theorem tok60 : TOk Try.prog 60 ⟨.struct [(3, 0), (2, 1), (9, 2)], 3, 32, [.int .i64 0, .int .i64 0, .string ByteArray.empty], [0, 0, 0], true⟩ := ⟨by obtain ⟨i, h1, h2⟩ := Option.map_eq_some_iff.1 tinfo60; simp only [Prod.mk.injEq] at h2; exact ⟨i, h1, h2.1, h2.2.1, _, h2.2.2, rfl⟩, rfl, by simp [one], ⟨_, Try.underlying60, rfl⟩, fun _ => ⟨tflat60.1, tflat60.2, fun fs hfs => by rw [Try.underlying60] at hfs; cases hfs; simp⟩⟩
theorem tinfo61 : (Try.prog.info? 61).map (fun i => (i.size, i.bytes, i.zero)) = some (3, 32, some (.agg #[.int .i64 0, .int .i64 0, .string ByteArray.empty])) := by kernel_rfl
theorem tflat61 : Try.prog.stoodInHeld 61 = false ∧ Try.prog.eqGuardType Try.prog.depth 61 = false := ⟨by kernel_rfl, by kernel_rfl⟩
theorem tok61 : TOk Try.prog 61 ⟨.struct [(3, 0), (2, 1), (9, 2)], 3, 32, [.int .i64 0, .int .i64 0, .string ByteArray.empty], [0, 0, 0], true⟩ := ⟨by obtain ⟨i, h1, h2⟩ := Option.map_eq_some_iff.1 tinfo61; simp only [Prod.mk.injEq] at h2; exact ⟨i, h1, h2.1, h2.2.1, _, h2.2.2, rfl⟩, rfl, by simp [one], ⟨_, Try.underlying61, rfl⟩, fun _ => ⟨tflat61.1, tflat61.2, fun fs hfs => by rw [Try.underlying61] at hfs; cases hfs; simp⟩⟩
theorem tinfo62 : (Try.prog.info? 62).map (fun i => (i.size, i.bytes, i.zero)) = some (1, 8, some (.nilFunc)) := by kernel_rfl
theorem tok62 : TOk Try.prog 62 ⟨.func, 1, 8, [.nilFunc], [0], false⟩ := ⟨by obtain ⟨i, h1, h2⟩ := Option.map_eq_some_iff.1 tinfo62; simp only [Prod.mk.injEq] at h2; exact ⟨i, h1, h2.1, h2.2.1, _, h2.2.2, rfl⟩, rfl, by simp [one], ⟨_, _, _, Try.underlying62⟩, fun h => by cases h⟩
theorem tinfo63 : (Try.prog.info? 63).map (fun i => (i.size, i.bytes, i.zero)) = some (4, 64, some (.agg #[.string ByteArray.empty, .string ByteArray.empty, .string ByteArray.empty, .string ByteArray.empty])) := by kernel_rfl
theorem tok63 : TOk Try.prog 63 ⟨.array 4 9, 4, 64, [.string ByteArray.empty, .string ByteArray.empty, .string ByteArray.empty, .string ByteArray.empty], [0, 0, 0, 0], false⟩ := ⟨by obtain ⟨i, h1, h2⟩ := Option.map_eq_some_iff.1 tinfo63; simp only [Prod.mk.injEq] at h2; exact ⟨i, h1, h2.1, h2.2.1, _, h2.2.2, rfl⟩, rfl, by simp [one], Try.underlying63, fun h => by cases h⟩
theorem tinfo64 : (Try.prog.info? 64).map (fun i => (i.size, i.bytes, i.zero)) = some (1, 8, some (.nilFunc)) := by kernel_rfl
theorem tok64 : TOk Try.prog 64 ⟨.func, 1, 8, [.nilFunc], [0], false⟩ := ⟨by obtain ⟨i, h1, h2⟩ := Option.map_eq_some_iff.1 tinfo64; simp only [Prod.mk.injEq] at h2; exact ⟨i, h1, h2.1, h2.2.1, _, h2.2.2, rfl⟩, rfl, by simp [one], ⟨_, _, _, Try.underlying64⟩, fun h => by cases h⟩
theorem tinfo65 : (Try.prog.info? 65).map (fun i => (i.size, i.bytes, i.zero)) = some (4, 40, some (.agg #[.pointer none, .pointer none, .pointer none, .string ByteArray.empty])) := by kernel_rfl
theorem tok65 : TOk Try.prog 65 ⟨.struct [(17, 0), (17, 1), (17, 2), (9, 3)], 4, 40, [.pointer none, .pointer none, .pointer none, .string ByteArray.empty], [0, 0, 0, 0], false⟩ := ⟨by obtain ⟨i, h1, h2⟩ := Option.map_eq_some_iff.1 tinfo65; simp only [Prod.mk.injEq] at h2; exact ⟨i, h1, h2.1, h2.2.1, _, h2.2.2, rfl⟩, rfl, by simp [one], ⟨_, Try.underlying65, rfl⟩, fun h => by cases h⟩
theorem tinfo66 : (Try.prog.info? 66).map (fun i => (i.size, i.bytes, i.zero)) = some (4, 40, some (.agg #[.pointer none, .pointer none, .pointer none, .string ByteArray.empty])) := by kernel_rfl
theorem tok66 : TOk Try.prog 66 ⟨.struct [(17, 0), (17, 1), (17, 2), (9, 3)], 4, 40, [.pointer none, .pointer none, .pointer none, .string ByteArray.empty], [0, 0, 0, 0], false⟩ := ⟨by obtain ⟨i, h1, h2⟩ := Option.map_eq_some_iff.1 tinfo66; simp only [Prod.mk.injEq] at h2; exact ⟨i, h1, h2.1, h2.2.1, _, h2.2.2, rfl⟩, rfl, by simp [one], ⟨_, Try.underlying66, rfl⟩, fun h => by cases h⟩
theorem tinfo67 : (Try.prog.info? 67).map (fun i => (i.size, i.bytes, i.zero)) = some (0, 0, some (.agg #[])) := by kernel_rfl
theorem tok67 : TOk Try.prog 67 ⟨.array 0 16, 0, 0, [], [], false⟩ := ⟨by obtain ⟨i, h1, h2⟩ := Option.map_eq_some_iff.1 tinfo67; simp only [Prod.mk.injEq] at h2; exact ⟨i, h1, h2.1, h2.2.1, _, h2.2.2, rfl⟩, rfl, by simp [one], Try.underlying67, fun h => by cases h⟩
theorem tinfo68 : (Try.prog.info? 68).map (fun i => (i.size, i.bytes, i.zero)) = some (0, 0, some (.agg #[])) := by kernel_rfl
theorem tok68 : TOk Try.prog 68 ⟨.struct [(67, 0)], 0, 0, [], [], false⟩ := ⟨by obtain ⟨i, h1, h2⟩ := Option.map_eq_some_iff.1 tinfo68; simp only [Prod.mk.injEq] at h2; exact ⟨i, h1, h2.1, h2.2.1, _, h2.2.2, rfl⟩, rfl, by simp [one], ⟨_, Try.underlying68, rfl⟩, fun h => by cases h⟩
theorem tinfo69 : (Try.prog.info? 69).map (fun i => (i.size, i.bytes, i.zero)) = some (0, 0, some (.agg #[])) := by kernel_rfl
theorem tok69 : TOk Try.prog 69 ⟨.struct [(67, 0)], 0, 0, [], [], false⟩ := ⟨by obtain ⟨i, h1, h2⟩ := Option.map_eq_some_iff.1 tinfo69; simp only [Prod.mk.injEq] at h2; exact ⟨i, h1, h2.1, h2.2.1, _, h2.2.2, rfl⟩, rfl, by simp [one], ⟨_, Try.underlying69, rfl⟩, fun h => by cases h⟩
theorem tinfo70 : (Try.prog.info? 70).map (fun i => (i.size, i.bytes, i.zero)) = some (1, 8, some (.nilFunc)) := by kernel_rfl
theorem tok70 : TOk Try.prog 70 ⟨.func, 1, 8, [.nilFunc], [0], false⟩ := ⟨by obtain ⟨i, h1, h2⟩ := Option.map_eq_some_iff.1 tinfo70; simp only [Prod.mk.injEq] at h2; exact ⟨i, h1, h2.1, h2.2.1, _, h2.2.2, rfl⟩, rfl, by simp [one], ⟨_, _, _, Try.underlying70⟩, fun h => by cases h⟩
theorem tinfo71 : (Try.prog.info? 71).map (fun i => (i.size, i.bytes, i.zero)) = some (1, 4, some (.int .u32 0)) := by kernel_rfl
theorem tok71 : TOk Try.prog 71 ⟨.int .u32, 1, 4, [.int .u32 0], [0], false⟩ := ⟨by obtain ⟨i, h1, h2⟩ := Option.map_eq_some_iff.1 tinfo71; simp only [Prod.mk.injEq] at h2; exact ⟨i, h1, h2.1, h2.2.1, _, h2.2.2, rfl⟩, rfl, by simp [one], Try.underlying71, fun h => by cases h⟩
theorem tinfo72 : (Try.prog.info? 72).map (fun i => (i.size, i.bytes, i.zero)) = some (1, 1, some (.int .u8 0)) := by kernel_rfl
theorem tok72 : TOk Try.prog 72 ⟨.int .u8, 1, 1, [.int .u8 0], [0], false⟩ := ⟨by obtain ⟨i, h1, h2⟩ := Option.map_eq_some_iff.1 tinfo72; simp only [Prod.mk.injEq] at h2; exact ⟨i, h1, h2.1, h2.2.1, _, h2.2.2, rfl⟩, rfl, by simp [one], Try.underlying72, fun h => by cases h⟩
theorem tinfo73 : (Try.prog.info? 73).map (fun i => (i.size, i.bytes, i.zero)) = some (1, 1, some (.int .u8 0)) := by kernel_rfl
theorem tok73 : TOk Try.prog 73 ⟨.int .u8, 1, 1, [.int .u8 0], [0], false⟩ := ⟨by obtain ⟨i, h1, h2⟩ := Option.map_eq_some_iff.1 tinfo73; simp only [Prod.mk.injEq] at h2; exact ⟨i, h1, h2.1, h2.2.1, _, h2.2.2, rfl⟩, rfl, by simp [one], Try.underlying73, fun h => by cases h⟩
theorem tinfo74 : (Try.prog.info? 74).map (fun i => (i.size, i.bytes, i.zero)) = some (1, 8, some (.nilFunc)) := by kernel_rfl
theorem tok74 : TOk Try.prog 74 ⟨.func, 1, 8, [.nilFunc], [0], false⟩ := ⟨by obtain ⟨i, h1, h2⟩ := Option.map_eq_some_iff.1 tinfo74; simp only [Prod.mk.injEq] at h2; exact ⟨i, h1, h2.1, h2.2.1, _, h2.2.2, rfl⟩, rfl, by simp [one], ⟨_, _, _, Try.underlying74⟩, fun h => by cases h⟩
theorem tinfo75 : (Try.prog.info? 75).map (fun i => (i.size, i.bytes, i.zero)) = some (1, 8, some (.pointer none)) := by kernel_rfl
theorem tok75 : TOk Try.prog 75 ⟨.pointer 5, 1, 8, [.pointer none], [0], false⟩ := ⟨by obtain ⟨i, h1, h2⟩ := Option.map_eq_some_iff.1 tinfo75; simp only [Prod.mk.injEq] at h2; exact ⟨i, h1, h2.1, h2.2.1, _, h2.2.2, rfl⟩, rfl, by simp [one], Try.underlying75, fun h => by cases h⟩
theorem tinfo76 : (Try.prog.info? 76).map (fun i => (i.size, i.bytes, i.zero)) = some (1, 4, some (.int .i32 0)) := by kernel_rfl
theorem tok76 : TOk Try.prog 76 ⟨.int .i32, 1, 4, [.int .i32 0], [0], false⟩ := ⟨by obtain ⟨i, h1, h2⟩ := Option.map_eq_some_iff.1 tinfo76; simp only [Prod.mk.injEq] at h2; exact ⟨i, h1, h2.1, h2.2.1, _, h2.2.2, rfl⟩, rfl, by simp [one], Try.underlying76, fun h => by cases h⟩
theorem tinfo77 : (Try.prog.info? 77).map (fun i => (i.size, i.bytes, i.zero)) = some (1, 4, some (.int .i32 0)) := by kernel_rfl
theorem tok77 : TOk Try.prog 77 ⟨.int .i32, 1, 4, [.int .i32 0], [0], false⟩ := ⟨by obtain ⟨i, h1, h2⟩ := Option.map_eq_some_iff.1 tinfo77; simp only [Prod.mk.injEq] at h2; exact ⟨i, h1, h2.1, h2.2.1, _, h2.2.2, rfl⟩, rfl, by simp [one], Try.underlying77, fun h => by cases h⟩
theorem tinfo78 : (Try.prog.info? 78).map (fun i => (i.size, i.bytes, i.zero)) = some (11, 48, some (.agg #[.int .u64 0, .int .u64 0, .int .u32 0, .int .u8 0, .int .u8 0, .int .u8 0, .int .u8 0, .nilFunc, .pointer none, .int .i32 0, .int .i32 0])) := by kernel_rfl
theorem tok78 : TOk Try.prog 78 ⟨.struct [(12, 0), (12, 1), (71, 2), (72, 3), (5, 4), (5, 5), (73, 6), (74, 7), (75, 8), (76, 9), (77, 10)], 11, 48, [.int .u64 0, .int .u64 0, .int .u32 0, .int .u8 0, .int .u8 0, .int .u8 0, .int .u8 0, .nilFunc, .pointer none, .int .i32 0, .int .i32 0], [0, 0, 0, 0, 0, 0, 0, 0, 0, 0, 0], false⟩ := ⟨by obtain ⟨i, h1, h2⟩ := Option.map_eq_some_iff.1 tinfo78; simp only [Prod.mk.injEq] at h2; exact ⟨i, h1, h2.1, h2.2.1, _, h2.2.2, rfl⟩, rfl, by simp [one], ⟨_, Try.underlying78, rfl⟩, fun h => by cases h⟩
theorem tinfo79 : (Try.prog.info? 79).map (fun i => (i.size, i.bytes, i.zero)) = some (11, 48, some (.agg #[.int .u64 0, .int .u64 0, .int .u32 0, .int .u8 0, .int .u8 0, .int .u8 0, .int .u8 0, .nilFunc, .pointer none, .int .i32 0, .int .i32 0])) := by kernel_rfl
theorem tok79 : TOk Try.prog 79 ⟨.struct [(12, 0), (12, 1), (71, 2), (72, 3), (5, 4), (5, 5), (73, 6), (74, 7), (75, 8), (76, 9), (77, 10)], 11, 48, [.int .u64 0, .int .u64 0, .int .u32 0, .int .u8 0, .int .u8 0, .int .u8 0, .int .u8 0, .nilFunc, .pointer none, .int .i32 0, .int .i32 0], [0, 0, 0, 0, 0, 0, 0, 0, 0, 0, 0], false⟩ := ⟨by obtain ⟨i, h1, h2⟩ := Option.map_eq_some_iff.1 tinfo79; simp only [Prod.mk.injEq] at h2; exact ⟨i, h1, h2.1, h2.2.1, _, h2.2.2, rfl⟩, rfl, by simp [one], ⟨_, Try.underlying79, rfl⟩, fun h => by cases h⟩

/-- The table, as simp reads it. -/
theorem tte : tt 1 = some ⟨.func, 1, 8, [.nilFunc], [0], false⟩ ∧ tt 2 = some ⟨.int .i64, 1, 8, [.int .i64 0], [0], false⟩ ∧ tt 3 = some ⟨.int .i64, 1, 8, [.int .i64 0], [0], false⟩ ∧ tt 4 = some ⟨.bool, 1, 1, [.bool false], [0], false⟩ ∧ tt 5 = some ⟨.int .u8, 1, 1, [.int .u8 0], [0], false⟩ ∧ tt 6 = some ⟨.int .u8, 1, 1, [.int .u8 0], [0], false⟩ ∧ tt 7 = some ⟨.struct [(2, 0), (3, 1), (4, 2), (6, 3)], 4, 24, [.int .i64 0, .int .i64 0, .bool false, .int .u8 0], [0, 0, 0, 0], false⟩ ∧ tt 8 = some ⟨.struct [(2, 0), (3, 1), (4, 2), (6, 3)], 4, 24, [.int .i64 0, .int .i64 0, .bool false, .int .u8 0], [0, 0, 0, 0], false⟩ ∧ tt 9 = some ⟨.string, 1, 16, [.string ByteArray.empty], [0], false⟩ ∧ tt 10 = some ⟨.string, 1, 16, [.string ByteArray.empty], [0], false⟩ ∧ tt 11 = some ⟨.string, 1, 16, [.string ByteArray.empty], [0], false⟩ ∧ tt 12 = some ⟨.int .u64, 1, 8, [.int .u64 0], [0], false⟩ ∧ tt 13 = some ⟨.struct [(9, 0), (12, 1)], 2, 24, [.string ByteArray.empty, .int .u64 0], [0, 0], false⟩ ∧ tt 14 = some ⟨.struct [(9, 0), (12, 1)], 2, 24, [.string ByteArray.empty, .int .u64 0], [0, 0], false⟩ ∧ tt 15 = some ⟨.pointer 66, 1, 8, [.pointer none], [0], false⟩ ∧ tt 16 = some ⟨.pointer 69, 1, 8, [.pointer none], [0], false⟩ ∧ tt 17 = some ⟨.pointer 79, 1, 8, [.pointer none], [0], false⟩ ∧ tt 18 = some ⟨.struct [(17, 0)], 1, 8, [.pointer none], [0], false⟩ ∧ tt 19 = some ⟨.struct [(17, 0)], 1, 8, [.pointer none], [0], false⟩ ∧ tt 21 = some ⟨.int .i32, 1, 4, [.int .i32 0], [0], false⟩ ∧ tt 22 = some ⟨.slice 3, 1, 24, [.slice none 0 0], [1], false⟩ ∧ tt 23 = some ⟨.int .i8, 1, 1, [.int .i8 0], [0], false⟩ ∧ tt 24 = some ⟨.func, 1, 8, [.nilFunc], [0], false⟩ ∧ tt 25 = some ⟨.slice 27, 1, 24, [.slice none 0 0], [6], false⟩ ∧ tt 26 = some ⟨.struct [(3, 0), (3, 1), (2, 2), (9, 3), (3, 4), (25, 5)], 6, 72, [.int .i64 0, .int .i64 0, .int .i64 0, .string ByteArray.empty, .int .i64 0, .slice none 0 0], [0, 0, 0, 0, 0, 6], false⟩ ∧ tt 27 = some ⟨.struct [(3, 0), (3, 1), (2, 2), (9, 3), (3, 4), (25, 5)], 6, 72, [.int .i64 0, .int .i64 0, .int .i64 0, .string ByteArray.empty, .int .i64 0, .slice none 0 0], [0, 0, 0, 0, 0, 6], false⟩ ∧ tt 28 = some ⟨.int .i64, 1, 8, [.int .i64 0], [0], false⟩ ∧ tt 30 = some ⟨.func, 1, 8, [.nilFunc], [0], false⟩ ∧ tt 31 = some ⟨.func, 1, 8, [.nilFunc], [0], false⟩ ∧ tt 32 = some ⟨.func, 1, 8, [.nilFunc], [0], false⟩ ∧ tt 33 = some ⟨.slice 48, 1, 24, [.slice none 0 0], [6], false⟩ ∧ tt 34 = some ⟨.struct [(33, 0)], 1, 24, [.slice none 0 0], [6], false⟩ ∧ tt 35 = some ⟨.struct [(33, 0)], 1, 24, [.slice none 0 0], [6], false⟩ ∧ tt 36 = some ⟨.func, 1, 8, [.nilFunc], [0], false⟩ ∧ tt 37 = some ⟨.func, 1, 8, [.nilFunc], [0], false⟩ ∧ tt 38 = some ⟨.func, 1, 8, [.nilFunc], [0], false⟩ ∧ tt 39 = some ⟨.pointer 56, 1, 8, [.pointer none], [0], false⟩ ∧ tt 40 = some ⟨.func, 1, 8, [.nilFunc], [0], false⟩ ∧ tt 41 = some ⟨.struct [(39, 0), (22, 1)], 2, 32, [.pointer none, .slice none 0 0], [0, 1], false⟩ ∧ tt 42 = some ⟨.struct [(39, 0), (22, 1)], 2, 32, [.pointer none, .slice none 0 0], [0, 1], false⟩ ∧ tt 43 = some ⟨.func, 1, 8, [.nilFunc], [0], false⟩ ∧ tt 44 = some ⟨.slice 51, 1, 24, [.slice none 0 0], [3], false⟩ ∧ tt 45 = some ⟨.slice 22, 1, 24, [.slice none 0 0], [1], false⟩ ∧ tt 46 = some ⟨.slice 53, 1, 24, [.slice none 0 0], [2], false⟩ ∧ tt 47 = some ⟨.struct [(9, 0), (44, 1), (22, 2), (45, 3), (46, 4), (25, 5)], 6, 136, [.string ByteArray.empty, .slice none 0 0, .slice none 0 0, .slice none 0 0, .slice none 0 0, .slice none 0 0], [0, 3, 1, 1, 2, 6], false⟩ ∧ tt 48 = some ⟨.struct [(9, 0), (44, 1), (22, 2), (45, 3), (46, 4), (25, 5)], 6, 136, [.string ByteArray.empty, .slice none 0 0, .slice none 0 0, .slice none 0 0, .slice none 0 0, .slice none 0 0], [0, 3, 1, 1, 2, 6], false⟩ ∧ tt 49 = some ⟨.func, 1, 8, [.nilFunc], [0], false⟩ ∧ tt 50 = some ⟨.struct [(9, 0), (3, 1), (4, 2)], 3, 32, [.string ByteArray.empty, .int .i64 0, .bool false], [0, 0, 0], true⟩ ∧ tt 51 = some ⟨.struct [(9, 0), (3, 1), (4, 2)], 3, 32, [.string ByteArray.empty, .int .i64 0, .bool false], [0, 0, 0], true⟩ ∧ tt 52 = some ⟨.struct [(22, 0), (9, 1)], 2, 40, [.slice none 0 0, .string ByteArray.empty], [1, 0], false⟩ ∧ tt 53 = some ⟨.struct [(22, 0), (9, 1)], 2, 40, [.slice none 0 0, .string ByteArray.empty], [1, 0], false⟩ ∧ tt 54 = some ⟨.func, 1, 8, [.nilFunc], [0], false⟩ ∧ tt 55 = some ⟨.struct [(22, 0), (3, 1)], 2, 32, [.slice none 0 0, .int .i64 0], [1, 0], false⟩ ∧ tt 56 = some ⟨.struct [(22, 0), (3, 1)], 2, 32, [.slice none 0 0, .int .i64 0], [1, 0], false⟩ ∧ tt 57 = some ⟨.func, 1, 8, [.nilFunc], [0], false⟩ ∧ tt 58 = some ⟨.func, 1, 8, [.nilFunc], [0], false⟩ ∧ tt 59 = some ⟨.func, 1, 8, [.nilFunc], [0], false⟩ ∧ tt 60 = some ⟨.struct [(3, 0), (2, 1), (9, 2)], 3, 32, [.int .i64 0, .int .i64 0, .string ByteArray.empty], [0, 0, 0], true⟩ ∧ tt 61 = some ⟨.struct [(3, 0), (2, 1), (9, 2)], 3, 32, [.int .i64 0, .int .i64 0, .string ByteArray.empty], [0, 0, 0], true⟩ ∧ tt 62 = some ⟨.func, 1, 8, [.nilFunc], [0], false⟩ ∧ tt 63 = some ⟨.array 4 9, 4, 64, [.string ByteArray.empty, .string ByteArray.empty, .string ByteArray.empty, .string ByteArray.empty], [0, 0, 0, 0], false⟩ ∧ tt 64 = some ⟨.func, 1, 8, [.nilFunc], [0], false⟩ ∧ tt 65 = some ⟨.struct [(17, 0), (17, 1), (17, 2), (9, 3)], 4, 40, [.pointer none, .pointer none, .pointer none, .string ByteArray.empty], [0, 0, 0, 0], false⟩ ∧ tt 66 = some ⟨.struct [(17, 0), (17, 1), (17, 2), (9, 3)], 4, 40, [.pointer none, .pointer none, .pointer none, .string ByteArray.empty], [0, 0, 0, 0], false⟩ ∧ tt 67 = some ⟨.array 0 16, 0, 0, [], [], false⟩ ∧ tt 68 = some ⟨.struct [(67, 0)], 0, 0, [], [], false⟩ ∧ tt 69 = some ⟨.struct [(67, 0)], 0, 0, [], [], false⟩ ∧ tt 70 = some ⟨.func, 1, 8, [.nilFunc], [0], false⟩ ∧ tt 71 = some ⟨.int .u32, 1, 4, [.int .u32 0], [0], false⟩ ∧ tt 72 = some ⟨.int .u8, 1, 1, [.int .u8 0], [0], false⟩ ∧ tt 73 = some ⟨.int .u8, 1, 1, [.int .u8 0], [0], false⟩ ∧ tt 74 = some ⟨.func, 1, 8, [.nilFunc], [0], false⟩ ∧ tt 75 = some ⟨.pointer 5, 1, 8, [.pointer none], [0], false⟩ ∧ tt 76 = some ⟨.int .i32, 1, 4, [.int .i32 0], [0], false⟩ ∧ tt 77 = some ⟨.int .i32, 1, 4, [.int .i32 0], [0], false⟩ ∧ tt 78 = some ⟨.struct [(12, 0), (12, 1), (71, 2), (72, 3), (5, 4), (5, 5), (73, 6), (74, 7), (75, 8), (76, 9), (77, 10)], 11, 48, [.int .u64 0, .int .u64 0, .int .u32 0, .int .u8 0, .int .u8 0, .int .u8 0, .int .u8 0, .nilFunc, .pointer none, .int .i32 0, .int .i32 0], [0, 0, 0, 0, 0, 0, 0, 0, 0, 0, 0], false⟩ ∧ tt 79 = some ⟨.struct [(12, 0), (12, 1), (71, 2), (72, 3), (5, 4), (5, 5), (73, 6), (74, 7), (75, 8), (76, 9), (77, 10)], 11, 48, [.int .u64 0, .int .u64 0, .int .u32 0, .int .u8 0, .int .u8 0, .int .u8 0, .int .u8 0, .nilFunc, .pointer none, .int .i32 0, .int .i32 0], [0, 0, 0, 0, 0, 0, 0, 0, 0, 0, 0], false⟩ := by refine ⟨?_, ?_, ?_, ?_, ?_, ?_, ?_, ?_, ?_, ?_, ?_, ?_, ?_, ?_, ?_, ?_, ?_, ?_, ?_, ?_, ?_, ?_, ?_, ?_, ?_, ?_, ?_, ?_, ?_, ?_, ?_, ?_, ?_, ?_, ?_, ?_, ?_, ?_, ?_, ?_, ?_, ?_, ?_, ?_, ?_, ?_, ?_, ?_, ?_, ?_, ?_, ?_, ?_, ?_, ?_, ?_, ?_, ?_, ?_, ?_, ?_, ?_, ?_, ?_, ?_, ?_, ?_, ?_, ?_, ?_, ?_, ?_, ?_, ?_, ?_, ?_, ?_⟩ <;> rfl

theorem ttok : tt.ok Try.prog := by
  intro t ti h
  unfold tt at h
  split at h
  · cases h; exact tok1
  · cases h; exact tok2
  · cases h; exact tok3
  · cases h; exact tok4
  · cases h; exact tok5
  · cases h; exact tok6
  · cases h; exact tok7
  · cases h; exact tok8
  · cases h; exact tok9
  · cases h; exact tok10
  · cases h; exact tok11
  · cases h; exact tok12
  · cases h; exact tok13
  · cases h; exact tok14
  · cases h; exact tok15
  · cases h; exact tok16
  · cases h; exact tok17
  · cases h; exact tok18
  · cases h; exact tok19
  · cases h; exact tok21
  · cases h; exact tok22
  · cases h; exact tok23
  · cases h; exact tok24
  · cases h; exact tok25
  · cases h; exact tok26
  · cases h; exact tok27
  · cases h; exact tok28
  · cases h; exact tok30
  · cases h; exact tok31
  · cases h; exact tok32
  · cases h; exact tok33
  · cases h; exact tok34
  · cases h; exact tok35
  · cases h; exact tok36
  · cases h; exact tok37
  · cases h; exact tok38
  · cases h; exact tok39
  · cases h; exact tok40
  · cases h; exact tok41
  · cases h; exact tok42
  · cases h; exact tok43
  · cases h; exact tok44
  · cases h; exact tok45
  · cases h; exact tok46
  · cases h; exact tok47
  · cases h; exact tok48
  · cases h; exact tok49
  · cases h; exact tok50
  · cases h; exact tok51
  · cases h; exact tok52
  · cases h; exact tok53
  · cases h; exact tok54
  · cases h; exact tok55
  · cases h; exact tok56
  · cases h; exact tok57
  · cases h; exact tok58
  · cases h; exact tok59
  · cases h; exact tok60
  · cases h; exact tok61
  · cases h; exact tok62
  · cases h; exact tok63
  · cases h; exact tok64
  · cases h; exact tok65
  · cases h; exact tok66
  · cases h; exact tok67
  · cases h; exact tok68
  · cases h; exact tok69
  · cases h; exact tok70
  · cases h; exact tok71
  · cases h; exact tok72
  · cases h; exact tok73
  · cases h; exact tok74
  · cases h; exact tok75
  · cases h; exact tok76
  · cases h; exact tok77
  · cases h; exact tok78
  · cases h; exact tok79
  · cases h

theorem mixed : Try.prog.follows .mixedOrders = true := Try.checked.mixed
end Go.Proofs.Ytcpaofpnabiggaa

namespace Go.Proofs.Ytcpaofpnabiggaa
open Go.Am
set_option linter.unusedVariables false
set_option linter.unusedSimpArgs false
set_option maxRecDepth 100000

/-- The numbers of a tape are of 64 bits. -/
def Tape (xs : List Int) : Prop := xs.length ≤ 400 ∧ ∀ x ∈ xs, i64 x
/-- A tape from which p numbers were drawn, also such as are behind its end. -/
def tapeO (xs : List Int) (p : Nat) : Ob := .var [.d (.sl 1 (rowsOf rI xs)), .d (.lit (.int .i64 (min p xs.length : Nat)))]
/-- The number that is drawn. -/
def drawn (xs : List Int) (p : Nat) (n : Int) : Int := xs.getD p 0 % n

theorem tmod_fix (a n : Int) (hn : 0 < n) : (if a.tmod n < 0 then a.tmod n + n else a.tmod n) = a % n := by
  have h1 := Int.emod_nonneg a (show n ≠ 0 by omega)
  have h2 := Int.emod_lt_of_pos a hn
  have h3 := Int.tmod_eq_emod (a := a) (b := n)
  by_cases h : 0 ≤ a ∨ n ∣ a
  · rw [if_pos h] at h3
    rw [if_neg (by omega)]; omega
  · rw [if_neg h] at h3
    have h4 : a % n ≠ 0 := fun h5 => h (.inr (Int.dvd_of_emod_eq_zero h5))
    rw [if_pos (by omega)]; omega

theorem c13 {xs : List Int} {n : Int} {p : Nat} (hx : Tape xs) (hn : 0 < n) (hn2 : n ≤ 1000000) : ACall Try.prog 13 [.ptr 1000 0, .d (.lit (.int .i64 n))] [(1000, tapeO xs p)] (num (drawn xs p n)) [(1000, tapeO xs (p + 1))] := by
  refine ACall.enter mixed ttok Try.func13 rfl rfl _ Try.ntmps13 (Nat.le_of_ble_eq_true rfl) (by kernel_rfl) [.tmp 4] rfl ?_
  simp -implicitDefEqProofs only [tapeO, argT, rI, ↓steps, push_cast, reduceIte, Nat.reduceEqDiff, Nat.reduceAdd, Nat.reduceMul, Nat.reduceLT, Nat.reduceLeDiff, Int.reduceToNat, Int.reduceLE, Int.reduceLT, reduceCtorEq, tte]
  obtain ⟨hx1, hx2⟩ := hx
  have hd : (default : Int) = 0 := rfl
  by_cases hp : p < xs.length
  · have hm : min p xs.length = p := by omega
    have hm2 : min (p + 1) xs.length = p + 1 := by omega
    have hfix := tmod_fix (xs.getD p 0) n hn
    have hb1 := Int.emod_nonneg (xs.getD p 0) (show n ≠ 0 by omega)
    have hb2 := Int.emod_lt_of_pos (xs.getD p 0) hn
    rw [hm, hm2, hd, wrap_eq (n := (p : Int) + 1) (by omega) (by omega)]
    refine ⟨drawx_intro (by kernel_rfl), bcase_intro (fun h => ?_) (fun h => ⟨⟨by omega, by omega⟩, by omega, drawx_intro (by kernel_rfl), bcase_intro (fun h' => ?_) fun h' => ?_⟩)⟩
    · simp at h; omega
    · simp only [decide_eq_true_eq] at h'
      rw [if_pos h'] at hfix
      refine retx_of [0] rfl trivial trivial ?_ rfl ?_ ?_
      · rw [hfix, wrap_eq (by omega) (by omega)]; rfl
      · simp only [ends, ite_true, ite_false, reduceIte, Nat.reduceEqDiff, Nat.reduceLeDiff, Nat.reduceLT, Nat.reduceAdd, reduceCtorEq] <;> rfl
      · simp only [ends, ite_true, ite_false, reduceIte, Nat.reduceEqDiff, Nat.reduceLeDiff, Nat.reduceLT, Nat.reduceAdd, reduceCtorEq]
    · simp only [decide_eq_false_iff_not] at h'
      rw [if_neg h'] at hfix
      refine retx_of [0] rfl trivial trivial ?_ rfl ?_ ?_
      · rw [hfix]; rfl
      · simp only [ends, ite_true, ite_false, reduceIte, Nat.reduceEqDiff, Nat.reduceLeDiff, Nat.reduceLT, Nat.reduceAdd, reduceCtorEq] <;> rfl
      · simp only [ends, ite_true, ite_false, reduceIte, Nat.reduceEqDiff, Nat.reduceLeDiff, Nat.reduceLT, Nat.reduceAdd, reduceCtorEq]
  · have hm : min p xs.length = xs.length := by omega
    have hm2 : min (p + 1) xs.length = xs.length := by omega
    rw [hm, hm2]
    refine ⟨drawx_intro (by kernel_rfl), bcase_intro (fun h => ?_) (fun h => ?_)⟩
    · refine retx_of [0] rfl trivial trivial ?_ rfl ?_ ?_
      · simp [num, drawn, List.getD_eq_getElem?_getD, List.getElem?_eq_none (show xs.length ≤ p by omega)]
      · simp only [ends, ite_true, ite_false, reduceIte, Nat.reduceEqDiff, Nat.reduceLeDiff, Nat.reduceLT, Nat.reduceAdd, reduceCtorEq]
      · simp only [ends, ite_true, ite_false, reduceIte, Nat.reduceEqDiff, Nat.reduceLeDiff, Nat.reduceLT, Nat.reduceAdd, reduceCtorEq]
    · simp at h
end Go.Proofs.Ytcpaofpnabiggaa

namespace Go.Proofs.Ytcpaofpnabiggaa
open Go.Am
set_option linter.unusedVariables false
set_option linter.unusedSimpArgs false
set_option maxRecDepth 100000

theorem c10 {xs : List Int} : ACall Try.prog 10 [ints xs] [] (.ptr 9 0) [(9, tapeO (xs.take 400) 0)] := by
  refine ACall.enter mixed ttok Try.func10 rfl rfl _ Try.ntmps10 (Nat.le_of_ble_eq_true rfl) (by kernel_rfl) _ (congrArg Array.toList Try.results10) ?_
  simp -implicitDefEqProofs only [ints, tapeO, argT, rI, ↓steps, push_cast, reduceIte, Nat.reduceEqDiff, Nat.reduceAdd, Nat.reduceMul, Nat.reduceLT, Nat.reduceLeDiff, Int.reduceToNat, Int.reduceLE, Int.reduceLT, reduceCtorEq, tte, num, boo, ints, tapeO, aV]
  have h : (if 400 < (xs.length : Int) then (400 : Int) else xs.length) = (min 400 xs.length : Nat) := by split <;> omega
  have h2 : xs.take (min 400 xs.length) = xs.take 400 := by
    rw [List.take_eq_take_iff]; omega
  rw [h]
  refine ⟨by omega, retx_of [0] rfl trivial trivial rfl rfl ?_ ?_⟩
  · simp only [Int.toNat_natCast, h2, ends, ite_true, ite_false, reduceIte, Nat.reduceEqDiff, Nat.reduceLeDiff, Nat.reduceLT, Nat.reduceAdd, reduceCtorEq, num, boo, ints, tapeO, aV, Nat.zero_min] <;> simp
  · simp only [ends, ite_true, ite_false, reduceIte, Nat.reduceEqDiff, Nat.reduceLeDiff, Nat.reduceLT, Nat.reduceAdd, reduceCtorEq, num, boo, ints, tapeO, aV]

theorem c9 (t : Int) : ACall Try.prog 9 [num t] [] (boo (t == 1 || t == 2 || t == 3)) [] := by
  refine ACall.enter mixed ttok Try.func9 rfl rfl _ Try.ntmps9 (Nat.le_of_ble_eq_true rfl) (by kernel_rfl) _ (congrArg Array.toList Try.results9) ?_
  simp -implicitDefEqProofs only [num, boo, argT, rV, ↓steps, push_cast, reduceIte, Nat.reduceEqDiff, Nat.reduceAdd, Nat.reduceMul, Nat.reduceLT, Nat.reduceLeDiff, Int.reduceToNat, Int.reduceLE, Int.reduceLT, reduceCtorEq, tte, num, boo, ints, tapeO, aV]
  refine bcase_intro (fun h => ?_) (fun h => bcase_intro (fun h2 => ?_) (fun h2 => ?_)) <;>
  · refine retx_of [0] rfl trivial trivial ?_ rfl trivial trivial
    simp [*]

/-- Constant, by the value. -/
def constM (v : Val) (t : Int) : Ex :=
  if v.kind = 1 then .mk 2 0 v.num ByteArray.empty 0 [] else if v.kind = 2 then .mk 3 0 v.num ByteArray.empty 0 [] else if v.kind = 3 then .mk 4 0 0 v.text 0 [] else .mk 1 t 0 ByteArray.empty 0 []

theorem c17 (v : Val) (t : Int) : ACall Try.prog 17 [aV v, num t] [] (aE (constM v t)) [] := by
  refine ACall.enter mixed ttok Try.func17 rfl rfl _ Try.ntmps17 (Nat.le_of_ble_eq_true rfl) (by kernel_rfl) _ (congrArg Array.toList Try.results17) ?_
  simp -implicitDefEqProofs only [argT, rV, ↓steps, push_cast, reduceIte, Nat.reduceEqDiff, Nat.reduceAdd, Nat.reduceMul, Nat.reduceLT, Nat.reduceLeDiff, Int.reduceToNat, Int.reduceLE, Int.reduceLT, reduceCtorEq, tte, num, boo, ints, tapeO, aV]
  refine bcase_intro (fun h => ?_) (fun h => bcase_intro (fun h2 => ?_) (fun h2 => bcase_intro (fun h3 => ?_) (fun h3 => ?_)))
  all_goals refine retx_of [0, 0, 0, 0, 0, 6] rfl trivial (by simp) ?_ (by simp only [ends, ite_true, ite_false, reduceIte, Nat.reduceEqDiff, Nat.reduceLeDiff, Nat.reduceLT, Nat.reduceAdd, reduceCtorEq, num, boo, ints, tapeO, aV]) trivial (by simp only [ends, ite_true, ite_false, reduceIte, Nat.reduceEqDiff, Nat.reduceLeDiff, Nat.reduceLT, Nat.reduceAdd, reduceCtorEq, num, boo, ints, tapeO, aV])
  all_goals
    simp only [beq_iff_eq, beq_eq_false_iff_ne] at *
    simp [constM, *, aE_eq, Ex.op, Ex.type, Ex.num, Ex.text, Ex.col, Ex.kids, rowsOf]

/-- The texts that are drawn. -/
def texts : List ByteArray := [⟨#[]⟩, ⟨#[97]⟩, ⟨#[98]⟩, ⟨#[97, 98]⟩]
def valM (xs : List Int) (typ : Int) (p : Nat) : Val × Nat :=
  if typ = 1 then (⟨1, drawn xs p 7 - 2, ByteArray.empty⟩, p + 1) else if typ = 2 then (⟨2, drawn xs p 2, ByteArray.empty⟩, p + 1)
  else (⟨3, 0, texts.getD (drawn xs p 4).toNat ByteArray.empty⟩, p + 1)
def valueM (xs : List Int) (typ : Int) (nl : Bool) (p : Nat) : Val × Nat :=
  if nl = true then if drawn xs p 4 = 3 then (⟨0, 0, ByteArray.empty⟩, p + 1) else valM xs typ (p + 1) else valM xs typ p

theorem drawn_range (xs : List Int) (p : Nat) {n : Int} (hn : 0 < n) : 0 ≤ drawn xs p n ∧ drawn xs p n < n :=
  ⟨Int.emod_nonneg _ (by omega), Int.emod_lt_of_pos _ hn⟩

theorem c18 {xs : List Int} {typ : Int} {nl : Bool} {p : Nat} (hx : Tape xs) : ACall Try.prog 18 [.ptr 1000 0, num typ, boo nl] [(1000, tapeO xs p)] (aV (valueM xs typ nl p).1) [(1000, tapeO xs (valueM xs typ nl p).2)] := by
  refine ACall.enter mixed ttok Try.func18 rfl rfl _ Try.ntmps18 (Nat.le_of_ble_eq_true rfl) (by kernel_rfl) _ (congrArg Array.toList Try.results18) ?_
  have h7 := fun p => drawn_range xs p (n := 7) (by omega)
  have h4 := fun p => drawn_range xs p (n := 4) (by omega)
  have h2 := fun p => drawn_range xs p (n := 2) (by omega)
  cases nl
  · simp -implicitDefEqProofs only [argT, rI, ↓steps, push_cast, reduceIte, Nat.reduceEqDiff, Nat.reduceAdd, Nat.reduceMul, Nat.reduceLT, Nat.reduceLeDiff, Int.reduceToNat, Int.reduceLE, Int.reduceLT, reduceCtorEq, tte, num, boo, ints, tapeO, aV]
    refine bcase_intro (fun h => ?_) (fun h => bcase_intro (fun h' => ?_) (fun h' => ?_))
    · refine callx_of [[], []] [(1000, 1000)] rfl (c13 (n := 7) (p := p) hx (by omega) (by omega)) (by first | (simp; done) | (simp [rowsOf_length]; done) | (simp [rowsOf_length]; omega)) (by first | (simp only [ends, ite_true, ite_false, reduceIte, Nat.reduceEqDiff, Nat.reduceLeDiff, Nat.reduceLT, Nat.reduceAdd, reduceCtorEq, num, boo, ints, tapeO, aV, num, boo, str, aE_eq, aV]; done) | simp [ends, ite_true, ite_false, reduceIte, Nat.reduceEqDiff, Nat.reduceLeDiff, Nat.reduceLT, Nat.reduceAdd, reduceCtorEq, num, boo, ints, tapeO, aV, num, boo, str, aE_eq, aV]) (by first | rfl | (simp only [ends, ite_true, ite_false, reduceIte, Nat.reduceEqDiff, Nat.reduceLeDiff, Nat.reduceLT, Nat.reduceAdd, reduceCtorEq, num, boo, ints, tapeO, aV, num, boo, str, aE_eq, aV]; done) | simp [ends, ite_true, ite_false, reduceIte, Nat.reduceEqDiff, Nat.reduceLeDiff, Nat.reduceLT, Nat.reduceAdd, reduceCtorEq, num, boo, ints, tapeO, aV, num, boo, str, aE_eq, aV]) (by simp only [ends, ite_true, ite_false, reduceIte, Nat.reduceEqDiff, Nat.reduceLeDiff, Nat.reduceLT, Nat.reduceAdd, reduceCtorEq, num, boo, ints, tapeO, aV]) (by simp [idsOk, lookO, updO, ren1]) ?_
      simp -implicitDefEqProofs only [↓steps, push_cast, reduceIte, Nat.reduceEqDiff, Nat.reduceAdd, Nat.reduceMul, Nat.reduceLT, Nat.reduceLeDiff, Int.reduceToNat, Int.reduceLE, Int.reduceLT, reduceCtorEq, tte, num, boo, ints, tapeO, aV]
      have hw : IntKind.i64.wrap (drawn xs (p) 7 - 2) = drawn xs (p) 7 - 2 := wrap_eq (by have := h7 (p); omega) (by have := h7 (p); omega)
      refine retx_of [0, 0, 0] rfl (by simp) (by simp) ?_ (by first | simp only [ends, ite_true, ite_false, reduceIte, Nat.reduceEqDiff, Nat.reduceLeDiff, Nat.reduceLT, Nat.reduceAdd, reduceCtorEq, num, boo, ints, tapeO, aV] | (subst_vars; simp only [ends, ite_true, ite_false, reduceIte, Nat.reduceEqDiff, Nat.reduceLeDiff, Nat.reduceLT, Nat.reduceAdd, reduceCtorEq, num, boo, ints, tapeO, aV])) ?_ (by simp only [ends, ite_true, ite_false, reduceIte, Nat.reduceEqDiff, Nat.reduceLeDiff, Nat.reduceLT, Nat.reduceAdd, reduceCtorEq, num, boo, ints, tapeO, aV]) <;> simp_all [valueM, valM, aV, keepO, lookO, updO, A.closed, Ob.closed, closedL]
    · refine callx_of [[], []] [(1000, 1000)] rfl (c13 (n := 2) (p := p) hx (by omega) (by omega)) (by first | (simp; done) | (simp [rowsOf_length]; done) | (simp [rowsOf_length]; omega)) (by first | (simp only [ends, ite_true, ite_false, reduceIte, Nat.reduceEqDiff, Nat.reduceLeDiff, Nat.reduceLT, Nat.reduceAdd, reduceCtorEq, num, boo, ints, tapeO, aV, num, boo, str, aE_eq, aV]; done) | simp [ends, ite_true, ite_false, reduceIte, Nat.reduceEqDiff, Nat.reduceLeDiff, Nat.reduceLT, Nat.reduceAdd, reduceCtorEq, num, boo, ints, tapeO, aV, num, boo, str, aE_eq, aV]) (by first | rfl | (simp only [ends, ite_true, ite_false, reduceIte, Nat.reduceEqDiff, Nat.reduceLeDiff, Nat.reduceLT, Nat.reduceAdd, reduceCtorEq, num, boo, ints, tapeO, aV, num, boo, str, aE_eq, aV]; done) | simp [ends, ite_true, ite_false, reduceIte, Nat.reduceEqDiff, Nat.reduceLeDiff, Nat.reduceLT, Nat.reduceAdd, reduceCtorEq, num, boo, ints, tapeO, aV, num, boo, str, aE_eq, aV]) (by simp only [ends, ite_true, ite_false, reduceIte, Nat.reduceEqDiff, Nat.reduceLeDiff, Nat.reduceLT, Nat.reduceAdd, reduceCtorEq, num, boo, ints, tapeO, aV]) (by simp [idsOk, lookO, updO, ren1]) ?_
      simp -implicitDefEqProofs only [↓steps, push_cast, reduceIte, Nat.reduceEqDiff, Nat.reduceAdd, Nat.reduceMul, Nat.reduceLT, Nat.reduceLeDiff, Int.reduceToNat, Int.reduceLE, Int.reduceLT, reduceCtorEq, tte, num, boo, ints, tapeO, aV]
      refine retx_of [0, 0, 0] rfl (by simp) (by simp) ?_ (by first | simp only [ends, ite_true, ite_false, reduceIte, Nat.reduceEqDiff, Nat.reduceLeDiff, Nat.reduceLT, Nat.reduceAdd, reduceCtorEq, num, boo, ints, tapeO, aV] | (subst_vars; simp only [ends, ite_true, ite_false, reduceIte, Nat.reduceEqDiff, Nat.reduceLeDiff, Nat.reduceLT, Nat.reduceAdd, reduceCtorEq, num, boo, ints, tapeO, aV])) ?_ (by simp only [ends, ite_true, ite_false, reduceIte, Nat.reduceEqDiff, Nat.reduceLeDiff, Nat.reduceLT, Nat.reduceAdd, reduceCtorEq, num, boo, ints, tapeO, aV]) <;> simp_all [valueM, valM, aV, keepO, lookO, updO, A.closed, Ob.closed, closedL]
    · refine callx_of [[], []] [(1000, 1000)] rfl (c13 (n := 4) (p := p) hx (by omega) (by omega)) (by first | (simp; done) | (simp [rowsOf_length]; done) | (simp [rowsOf_length]; omega)) (by first | (simp only [ends, ite_true, ite_false, reduceIte, Nat.reduceEqDiff, Nat.reduceLeDiff, Nat.reduceLT, Nat.reduceAdd, reduceCtorEq, num, boo, ints, tapeO, aV, num, boo, str, aE_eq, aV]; done) | simp [ends, ite_true, ite_false, reduceIte, Nat.reduceEqDiff, Nat.reduceLeDiff, Nat.reduceLT, Nat.reduceAdd, reduceCtorEq, num, boo, ints, tapeO, aV, num, boo, str, aE_eq, aV]) (by first | rfl | (simp only [ends, ite_true, ite_false, reduceIte, Nat.reduceEqDiff, Nat.reduceLeDiff, Nat.reduceLT, Nat.reduceAdd, reduceCtorEq, num, boo, ints, tapeO, aV, num, boo, str, aE_eq, aV]; done) | simp [ends, ite_true, ite_false, reduceIte, Nat.reduceEqDiff, Nat.reduceLeDiff, Nat.reduceLT, Nat.reduceAdd, reduceCtorEq, num, boo, ints, tapeO, aV, num, boo, str, aE_eq, aV]) (by simp only [ends, ite_true, ite_false, reduceIte, Nat.reduceEqDiff, Nat.reduceLeDiff, Nat.reduceLT, Nat.reduceAdd, reduceCtorEq, num, boo, ints, tapeO, aV]) (by simp [idsOk, lookO, updO, ren1]) ?_
      simp -implicitDefEqProofs only [↓steps, push_cast, reduceIte, Nat.reduceEqDiff, Nat.reduceAdd, Nat.reduceMul, Nat.reduceLT, Nat.reduceLeDiff, Int.reduceToNat, Int.reduceLE, Int.reduceLT, reduceCtorEq, tte, num, boo, ints, tapeO, aV]
      refine ⟨by have := h4 (p); omega, ?_⟩
      refine retx_of [0, 0, 0] rfl (by simp) (by simp) ?_ (by first | simp only [ends, ite_true, ite_false, reduceIte, Nat.reduceEqDiff, Nat.reduceLeDiff, Nat.reduceLT, Nat.reduceAdd, reduceCtorEq, num, boo, ints, tapeO, aV] | (subst_vars; simp only [ends, ite_true, ite_false, reduceIte, Nat.reduceEqDiff, Nat.reduceLeDiff, Nat.reduceLT, Nat.reduceAdd, reduceCtorEq, num, boo, ints, tapeO, aV])) ?_ (by simp only [ends, ite_true, ite_false, reduceIte, Nat.reduceEqDiff, Nat.reduceLeDiff, Nat.reduceLT, Nat.reduceAdd, reduceCtorEq, num, boo, ints, tapeO, aV]) <;> simp_all [valueM, valM, aV, texts, keepO, lookO, updO, A.closed, Ob.closed, closedL]
  · simp -implicitDefEqProofs only [argT, rI, ↓steps, push_cast, reduceIte, Nat.reduceEqDiff, Nat.reduceAdd, Nat.reduceMul, Nat.reduceLT, Nat.reduceLeDiff, Int.reduceToNat, Int.reduceLE, Int.reduceLT, reduceCtorEq, tte, num, boo, ints, tapeO, aV]
    refine callx_of [[], []] [(1000, 1000)] rfl (c13 (n := 4) (p := p) hx (by omega) (by omega)) (by first | (simp; done) | (simp [rowsOf_length]; done) | (simp [rowsOf_length]; omega)) (by first | (simp only [ends, ite_true, ite_false, reduceIte, Nat.reduceEqDiff, Nat.reduceLeDiff, Nat.reduceLT, Nat.reduceAdd, reduceCtorEq, num, boo, ints, tapeO, aV, num, boo, str, aE_eq, aV]; done) | simp [ends, ite_true, ite_false, reduceIte, Nat.reduceEqDiff, Nat.reduceLeDiff, Nat.reduceLT, Nat.reduceAdd, reduceCtorEq, num, boo, ints, tapeO, aV, num, boo, str, aE_eq, aV]) (by first | rfl | (simp only [ends, ite_true, ite_false, reduceIte, Nat.reduceEqDiff, Nat.reduceLeDiff, Nat.reduceLT, Nat.reduceAdd, reduceCtorEq, num, boo, ints, tapeO, aV, num, boo, str, aE_eq, aV]; done) | simp [ends, ite_true, ite_false, reduceIte, Nat.reduceEqDiff, Nat.reduceLeDiff, Nat.reduceLT, Nat.reduceAdd, reduceCtorEq, num, boo, ints, tapeO, aV, num, boo, str, aE_eq, aV]) (by simp only [ends, ite_true, ite_false, reduceIte, Nat.reduceEqDiff, Nat.reduceLeDiff, Nat.reduceLT, Nat.reduceAdd, reduceCtorEq, num, boo, ints, tapeO, aV]) (by simp [idsOk, lookO, updO, ren1]) ?_
    simp -implicitDefEqProofs only [↓steps, push_cast, reduceIte, Nat.reduceEqDiff, Nat.reduceAdd, Nat.reduceMul, Nat.reduceLT, Nat.reduceLeDiff, Int.reduceToNat, Int.reduceLE, Int.reduceLT, reduceCtorEq, tte, num, boo, ints, tapeO, aV]
    refine bcase_intro (fun h0 => ?_) (fun h0 => bcase_intro (fun h => ?_) (fun h => bcase_intro (fun h' => ?_) (fun h' => ?_)))
    · refine retx_of [0, 0, 0] rfl (by simp) (by simp) ?_ (by first | simp only [ends, ite_true, ite_false, reduceIte, Nat.reduceEqDiff, Nat.reduceLeDiff, Nat.reduceLT, Nat.reduceAdd, reduceCtorEq, num, boo, ints, tapeO, aV] | (subst_vars; simp only [ends, ite_true, ite_false, reduceIte, Nat.reduceEqDiff, Nat.reduceLeDiff, Nat.reduceLT, Nat.reduceAdd, reduceCtorEq, num, boo, ints, tapeO, aV])) ?_ (by simp only [ends, ite_true, ite_false, reduceIte, Nat.reduceEqDiff, Nat.reduceLeDiff, Nat.reduceLT, Nat.reduceAdd, reduceCtorEq, num, boo, ints, tapeO, aV]) <;> simp_all [valueM, valM, aV, keepO, lookO, updO, A.closed, Ob.closed, closedL]
    · refine callx_of [[], []] [(1000, 1000)] rfl (c13 (n := 7) (p := p + 1) hx (by omega) (by omega)) (by first | (simp; done) | (simp [rowsOf_length]; done) | (simp [rowsOf_length]; omega)) (by first | (simp only [ends, ite_true, ite_false, reduceIte, Nat.reduceEqDiff, Nat.reduceLeDiff, Nat.reduceLT, Nat.reduceAdd, reduceCtorEq, num, boo, ints, tapeO, aV, num, boo, str, aE_eq, aV]; done) | simp [ends, ite_true, ite_false, reduceIte, Nat.reduceEqDiff, Nat.reduceLeDiff, Nat.reduceLT, Nat.reduceAdd, reduceCtorEq, num, boo, ints, tapeO, aV, num, boo, str, aE_eq, aV]) (by first | rfl | (simp only [ends, ite_true, ite_false, reduceIte, Nat.reduceEqDiff, Nat.reduceLeDiff, Nat.reduceLT, Nat.reduceAdd, reduceCtorEq, num, boo, ints, tapeO, aV, num, boo, str, aE_eq, aV]; done) | simp [ends, ite_true, ite_false, reduceIte, Nat.reduceEqDiff, Nat.reduceLeDiff, Nat.reduceLT, Nat.reduceAdd, reduceCtorEq, num, boo, ints, tapeO, aV, num, boo, str, aE_eq, aV]) (by simp only [ends, ite_true, ite_false, reduceIte, Nat.reduceEqDiff, Nat.reduceLeDiff, Nat.reduceLT, Nat.reduceAdd, reduceCtorEq, num, boo, ints, tapeO, aV]) (by simp [idsOk, lookO, updO, ren1]) ?_
      simp -implicitDefEqProofs only [↓steps, push_cast, reduceIte, Nat.reduceEqDiff, Nat.reduceAdd, Nat.reduceMul, Nat.reduceLT, Nat.reduceLeDiff, Int.reduceToNat, Int.reduceLE, Int.reduceLT, reduceCtorEq, tte, num, boo, ints, tapeO, aV]
      have hw : IntKind.i64.wrap (drawn xs (p + 1) 7 - 2) = drawn xs (p + 1) 7 - 2 := wrap_eq (by have := h7 (p + 1); omega) (by have := h7 (p + 1); omega)
      refine retx_of [0, 0, 0] rfl (by simp) (by simp) ?_ (by first | simp only [ends, ite_true, ite_false, reduceIte, Nat.reduceEqDiff, Nat.reduceLeDiff, Nat.reduceLT, Nat.reduceAdd, reduceCtorEq, num, boo, ints, tapeO, aV] | (subst_vars; simp only [ends, ite_true, ite_false, reduceIte, Nat.reduceEqDiff, Nat.reduceLeDiff, Nat.reduceLT, Nat.reduceAdd, reduceCtorEq, num, boo, ints, tapeO, aV])) ?_ (by simp only [ends, ite_true, ite_false, reduceIte, Nat.reduceEqDiff, Nat.reduceLeDiff, Nat.reduceLT, Nat.reduceAdd, reduceCtorEq, num, boo, ints, tapeO, aV]) <;> simp_all [valueM, valM, aV, keepO, lookO, updO, A.closed, Ob.closed, closedL]
    · refine callx_of [[], []] [(1000, 1000)] rfl (c13 (n := 2) (p := p + 1) hx (by omega) (by omega)) (by first | (simp; done) | (simp [rowsOf_length]; done) | (simp [rowsOf_length]; omega)) (by first | (simp only [ends, ite_true, ite_false, reduceIte, Nat.reduceEqDiff, Nat.reduceLeDiff, Nat.reduceLT, Nat.reduceAdd, reduceCtorEq, num, boo, ints, tapeO, aV, num, boo, str, aE_eq, aV]; done) | simp [ends, ite_true, ite_false, reduceIte, Nat.reduceEqDiff, Nat.reduceLeDiff, Nat.reduceLT, Nat.reduceAdd, reduceCtorEq, num, boo, ints, tapeO, aV, num, boo, str, aE_eq, aV]) (by first | rfl | (simp only [ends, ite_true, ite_false, reduceIte, Nat.reduceEqDiff, Nat.reduceLeDiff, Nat.reduceLT, Nat.reduceAdd, reduceCtorEq, num, boo, ints, tapeO, aV, num, boo, str, aE_eq, aV]; done) | simp [ends, ite_true, ite_false, reduceIte, Nat.reduceEqDiff, Nat.reduceLeDiff, Nat.reduceLT, Nat.reduceAdd, reduceCtorEq, num, boo, ints, tapeO, aV, num, boo, str, aE_eq, aV]) (by simp only [ends, ite_true, ite_false, reduceIte, Nat.reduceEqDiff, Nat.reduceLeDiff, Nat.reduceLT, Nat.reduceAdd, reduceCtorEq, num, boo, ints, tapeO, aV]) (by simp [idsOk, lookO, updO, ren1]) ?_
      simp -implicitDefEqProofs only [↓steps, push_cast, reduceIte, Nat.reduceEqDiff, Nat.reduceAdd, Nat.reduceMul, Nat.reduceLT, Nat.reduceLeDiff, Int.reduceToNat, Int.reduceLE, Int.reduceLT, reduceCtorEq, tte, num, boo, ints, tapeO, aV]
      refine retx_of [0, 0, 0] rfl (by simp) (by simp) ?_ (by first | simp only [ends, ite_true, ite_false, reduceIte, Nat.reduceEqDiff, Nat.reduceLeDiff, Nat.reduceLT, Nat.reduceAdd, reduceCtorEq, num, boo, ints, tapeO, aV] | (subst_vars; simp only [ends, ite_true, ite_false, reduceIte, Nat.reduceEqDiff, Nat.reduceLeDiff, Nat.reduceLT, Nat.reduceAdd, reduceCtorEq, num, boo, ints, tapeO, aV])) ?_ (by simp only [ends, ite_true, ite_false, reduceIte, Nat.reduceEqDiff, Nat.reduceLeDiff, Nat.reduceLT, Nat.reduceAdd, reduceCtorEq, num, boo, ints, tapeO, aV]) <;> simp_all [valueM, valM, aV, keepO, lookO, updO, A.closed, Ob.closed, closedL]
    · refine callx_of [[], []] [(1000, 1000)] rfl (c13 (n := 4) (p := p + 1) hx (by omega) (by omega)) (by first | (simp; done) | (simp [rowsOf_length]; done) | (simp [rowsOf_length]; omega)) (by first | (simp only [ends, ite_true, ite_false, reduceIte, Nat.reduceEqDiff, Nat.reduceLeDiff, Nat.reduceLT, Nat.reduceAdd, reduceCtorEq, num, boo, ints, tapeO, aV, num, boo, str, aE_eq, aV]; done) | simp [ends, ite_true, ite_false, reduceIte, Nat.reduceEqDiff, Nat.reduceLeDiff, Nat.reduceLT, Nat.reduceAdd, reduceCtorEq, num, boo, ints, tapeO, aV, num, boo, str, aE_eq, aV]) (by first | rfl | (simp only [ends, ite_true, ite_false, reduceIte, Nat.reduceEqDiff, Nat.reduceLeDiff, Nat.reduceLT, Nat.reduceAdd, reduceCtorEq, num, boo, ints, tapeO, aV, num, boo, str, aE_eq, aV]; done) | simp [ends, ite_true, ite_false, reduceIte, Nat.reduceEqDiff, Nat.reduceLeDiff, Nat.reduceLT, Nat.reduceAdd, reduceCtorEq, num, boo, ints, tapeO, aV, num, boo, str, aE_eq, aV]) (by simp only [ends, ite_true, ite_false, reduceIte, Nat.reduceEqDiff, Nat.reduceLeDiff, Nat.reduceLT, Nat.reduceAdd, reduceCtorEq, num, boo, ints, tapeO, aV]) (by simp [idsOk, lookO, updO, ren1]) ?_
      simp -implicitDefEqProofs only [↓steps, push_cast, reduceIte, Nat.reduceEqDiff, Nat.reduceAdd, Nat.reduceMul, Nat.reduceLT, Nat.reduceLeDiff, Int.reduceToNat, Int.reduceLE, Int.reduceLT, reduceCtorEq, tte, num, boo, ints, tapeO, aV]
      refine ⟨by have := h4 (p + 1); omega, ?_⟩
      refine retx_of [0, 0, 0] rfl (by simp) (by simp) ?_ (by first | simp only [ends, ite_true, ite_false, reduceIte, Nat.reduceEqDiff, Nat.reduceLeDiff, Nat.reduceLT, Nat.reduceAdd, reduceCtorEq, num, boo, ints, tapeO, aV] | (subst_vars; simp only [ends, ite_true, ite_false, reduceIte, Nat.reduceEqDiff, Nat.reduceLeDiff, Nat.reduceLT, Nat.reduceAdd, reduceCtorEq, num, boo, ints, tapeO, aV])) ?_ (by simp only [ends, ite_true, ite_false, reduceIte, Nat.reduceEqDiff, Nat.reduceLeDiff, Nat.reduceLT, Nat.reduceAdd, reduceCtorEq, num, boo, ints, tapeO, aV]) <;> simp_all [valueM, valM, aV, texts, keepO, lookO, updO, A.closed, Ob.closed, closedL]
end Go.Proofs.Ytcpaofpnabiggaa

namespace Go.Proofs.Ytcpaofpnabiggaa
open Go.Am
set_option linter.unusedVariables false
set_option linter.unusedSimpArgs false
set_option maxRecDepth 100000

/-- What makes expressions. -/
def aX (types : List Int) : A := .agg [.ptr 1000 0, .d (.sl 1 (rowsOf rI types))]
/-- The columns of a type, among the first n. -/
def colsU (types : List Int) (typ : Int) (n : Nat) : List Int := ((List.range n).filter fun c => types.getD c 0 = typ).map fun (c : Nat) => (c : Int)
def cols (types : List Int) (typ : Int) : List Int := colsU types typ types.length
def leafM (xs types : List Int) (typ : Int) (p : Nat) : Ex × Nat :=
  if cols types typ ≠ [] then
    if drawn xs p 3 ≠ 0 then (.mk 5 0 0 ByteArray.empty ((cols types typ).getD (drawn xs (p + 1) (cols types typ).length).toNat 0) [], p + 2)
    else (constM (valueM xs typ true (p + 1)).1 typ, (valueM xs typ true (p + 1)).2)
  else (constM (valueM xs typ true p).1 typ, (valueM xs typ true p).2)
theorem colsU_succ (types : List Int) (typ : Int) (n : Nat) : colsU types typ (n + 1) = if types.getD n 0 = typ then colsU types typ n ++ [(n : Int)] else colsU types typ n := by
  simp only [colsU, List.range_succ, List.filter_append, List.map_append]
  split <;> rename_i h
  · rw [List.filter_cons_of_pos (by simpa using h)]; simp
  · rw [List.filter_cons_of_neg (by simpa using h)]; simp
theorem colsU_length (types : List Int) (typ : Int) (n : Nat) : (colsU types typ n).length ≤ n := by
  induction n with
  | zero => simp [colsU]
  | succ n ih => rw [colsU_succ]; split <;> (try simp only [List.length_append, List.length_cons, List.length_nil]) <;> omega

def I14 (xs types : List Int) (typ : Int) (p n : Nat) : SL :=
  ⟨[(11, .d (.lit (.int .i64 n))), (10, .d (.lit (.int .i64 types.length))), (9, .d (.sl 1 (rowsOf rI types))), (5, .vec 500 (colsU types typ n).length), (4, .ptr 4 0), (2, .ptr 2 0), (1, .d (.lit (.int .i64 typ)))],
   [(500, .vec 3 1 (rowsOf rI (colsU types typ n)) 0), (4, .var [.d (.lit (.int .i64 0)), .d (.lit (.int .i64 0)), .d (.lit (.int .i64 0)), .d (.lit (.string ByteArray.empty)), .d (.lit (.int .i64 0)), .snil]),
    (2, .var [.ptr 1000 0, .d (.sl 1 (rowsOf rI types))]), (1000, tapeO xs p)]⟩

theorem c14 {xs types : List Int} {typ : Int} {p : Nat} (hx : Tape xs) (ht : types.length ≤ 1000) : ACall Try.prog 14 [aX types, num typ] [(1000, tapeO xs p)] (aE (leafM xs types typ p).1) [(1000, tapeO xs (leafM xs types typ p).2)] := by
  refine ACall.enter mixed ttok Try.func14 rfl rfl _ Try.ntmps14 (Nat.le_of_ble_eq_true rfl) (by kernel_rfl) _ (congrArg Array.toList Try.results14) ?_
  generalize hr : aE (leafM xs types typ p).1 = R
  generalize hr2 : tapeO xs (leafM xs types typ p).2 = R2
  simp -implicitDefEqProofs only [argT, rI, ↓steps, push_cast, reduceIte, Nat.reduceEqDiff, Nat.reduceAdd, Nat.reduceMul, Nat.reduceLT, Nat.reduceLeDiff, Int.reduceToNat, Int.reduceLE, Int.reduceLT, reduceCtorEq, tte, num, boo, ints, tapeO, aV, aX]
  have h3 := fun p => drawn_range xs p (n := 3) (by omega)
  refine loop_intro mixed ttok (fun n : { n : Nat // n ≤ types.length } => I14 xs types typ p n.1) (fun n => types.length - n.1) ⟨0, Nat.zero_le _⟩ ?_ fun ⟨n, hn⟩ => ?_
  · exact (Weak.nilL 5 500 3 1 rfl rfl).trans (Weak.keepL (by simp [I14, colsU, keepT, lookT, A.closed, inO, lookO, tapeO]) (by simp [I14, colsU, keepO, A.closed, inO, lookO, tapeO, Ob.closed, closedL, rowsOf]) (by simp [I14, ends, ite_true, ite_false, reduceIte, Nat.reduceEqDiff, Nat.reduceLeDiff, Nat.reduceLT, Nat.reduceAdd, reduceCtorEq, num, boo, ints, tapeO, aV, aX]))
  · have hl := colsU_length types typ n
    have hs := colsU_succ types typ n
    have hw : n < types.length → IntKind.i64.wrap ((n : Int) + 1) = (n : Int) + 1 := fun h => wrap_eq (by omega) (by omega)
    simp -implicitDefEqProofs only [I14, rI, ↓steps, push_cast, reduceIte, Nat.reduceEqDiff, Nat.reduceAdd, Nat.reduceMul, Nat.reduceLT, Nat.reduceLeDiff, Int.reduceToNat, Int.reduceLE, Int.reduceLT, reduceCtorEq, tte, num, boo, ints, tapeO, aV, aX]
    refine bcase_intro (fun h => ?_) fun h => ?_
    · have h' : n < types.length := by simpa using h
      have hw := hw h'
      refine ⟨⟨by omega, by omega⟩, bcase_intro (fun h2 => ⟨by omega, loopK_again ⟨n + 1, h'⟩ (by show types.length - (n + 1) < types.length - n; omega) ?_ ?_ ?_⟩) fun h2 => loopK_again ⟨n + 1, h'⟩ (by show types.length - (n + 1) < types.length - n; omega) ?_ ?_ ?_⟩
      all_goals have hd : (default : Int) = 0 := rfl
      all_goals rw [hd] at h2
      all_goals simp only [beq_iff_eq, beq_eq_false_iff_ne, ne_eq] at h2
      all_goals simp only [h2, if_true, if_false] at hs
      all_goals simp [ends, ite_true, ite_false, reduceIte, Nat.reduceEqDiff, Nat.reduceLeDiff, Nat.reduceLT, Nat.reduceAdd, reduceCtorEq, num, boo, ints, tapeO, aV, aX, hs, hw, ← rowsOf_append]
      all_goals rfl
    · have hn' : n = types.length := by simp at h; omega
      subst hn'
      rw [show colsU types typ types.length = cols types typ from rfl] at hl ⊢
      generalize hl0 : cols types typ = l at hl ⊢
      refine bcase_intro (fun h5 => ?_) (fun h5 => ?_)
      · have h6 : l ≠ [] := by intro h7; simp [h7] at h5
        have h6' : 0 < l.length := List.length_pos_iff.2 h6
        refine callx_of [[], []] [(1000, 1000)] rfl (c13 (n := 3) (p := p) hx (by omega) (by omega)) (by first | (simp; done) | (simp [rowsOf_length]; done) | (simp [rowsOf_length]; omega)) (by first | (simp only [ends, ite_true, ite_false, reduceIte, Nat.reduceEqDiff, Nat.reduceLeDiff, Nat.reduceLT, Nat.reduceAdd, reduceCtorEq, num, boo, ints, tapeO, aV, aX, num, boo, str, aE_eq, aV]; done) | simp [ends, ite_true, ite_false, reduceIte, Nat.reduceEqDiff, Nat.reduceLeDiff, Nat.reduceLT, Nat.reduceAdd, reduceCtorEq, num, boo, ints, tapeO, aV, aX, num, boo, str, aE_eq, aV]) (by first | rfl | (simp only [ends, ite_true, ite_false, reduceIte, Nat.reduceEqDiff, Nat.reduceLeDiff, Nat.reduceLT, Nat.reduceAdd, reduceCtorEq, num, boo, ints, tapeO, aV, aX, num, boo, str, aE_eq, aV]; done) | simp [ends, ite_true, ite_false, reduceIte, Nat.reduceEqDiff, Nat.reduceLeDiff, Nat.reduceLT, Nat.reduceAdd, reduceCtorEq, num, boo, ints, tapeO, aV, aX, num, boo, str, aE_eq, aV]) (by simp only [ends, ite_true, ite_false, reduceIte, Nat.reduceEqDiff, Nat.reduceLeDiff, Nat.reduceLT, Nat.reduceAdd, reduceCtorEq, num, boo, ints, tapeO, aV, aX]) (by simp [idsOk, lookO, updO, ren1]) ?_
        simp -implicitDefEqProofs only [↓steps, push_cast, reduceIte, Nat.reduceEqDiff, Nat.reduceAdd, Nat.reduceMul, Nat.reduceLT, Nat.reduceLeDiff, Int.reduceToNat, Int.reduceLE, Int.reduceLT, reduceCtorEq, tte, num, boo, ints, tapeO, aV, aX]
        refine bcase_intro (fun h8 => ?_) (fun h8 => ?_)
        · refine callx_of [[], []] [(1000, 1000)] rfl (c13 (n := l.length) (p := p + 1) hx (by omega) (by omega)) (by first | (simp; done) | (simp [rowsOf_length]; done) | (simp [rowsOf_length]; omega)) (by first | (simp only [ends, ite_true, ite_false, reduceIte, Nat.reduceEqDiff, Nat.reduceLeDiff, Nat.reduceLT, Nat.reduceAdd, reduceCtorEq, num, boo, ints, tapeO, aV, aX, num, boo, str, aE_eq, aV]; done) | simp [ends, ite_true, ite_false, reduceIte, Nat.reduceEqDiff, Nat.reduceLeDiff, Nat.reduceLT, Nat.reduceAdd, reduceCtorEq, num, boo, ints, tapeO, aV, aX, num, boo, str, aE_eq, aV]) (by first | rfl | (simp only [ends, ite_true, ite_false, reduceIte, Nat.reduceEqDiff, Nat.reduceLeDiff, Nat.reduceLT, Nat.reduceAdd, reduceCtorEq, num, boo, ints, tapeO, aV, aX, num, boo, str, aE_eq, aV]; done) | simp [ends, ite_true, ite_false, reduceIte, Nat.reduceEqDiff, Nat.reduceLeDiff, Nat.reduceLT, Nat.reduceAdd, reduceCtorEq, num, boo, ints, tapeO, aV, aX, num, boo, str, aE_eq, aV]) (by simp only [ends, ite_true, ite_false, reduceIte, Nat.reduceEqDiff, Nat.reduceLeDiff, Nat.reduceLT, Nat.reduceAdd, reduceCtorEq, num, boo, ints, tapeO, aV, aX]) (by simp [idsOk, lookO, updO, ren1]) ?_
          simp -implicitDefEqProofs only [↓steps, push_cast, reduceIte, Nat.reduceEqDiff, Nat.reduceAdd, Nat.reduceMul, Nat.reduceLT, Nat.reduceLeDiff, Int.reduceToNat, Int.reduceLE, Int.reduceLT, reduceCtorEq, tte, num, boo, ints, tapeO, aV, aX]
          have h9 := drawn_range xs (p + 1) (n := (l.length : Int)) (by omega)
          refine ⟨h9, by omega, ?_⟩
          refine retx_of [0, 0, 0, 0, 0, 6] rfl (by simp) (by simp) ?_ (by first | simp only [ends, ite_true, ite_false, reduceIte, Nat.reduceEqDiff, Nat.reduceLeDiff, Nat.reduceLT, Nat.reduceAdd, reduceCtorEq, num, boo, ints, tapeO, aV, aX] | (subst_vars; simp only [ends, ite_true, ite_false, reduceIte, Nat.reduceEqDiff, Nat.reduceLeDiff, Nat.reduceLT, Nat.reduceAdd, reduceCtorEq, num, boo, ints, tapeO, aV, aX])) ?_ (by simp only [ends, ite_true, ite_false, reduceIte, Nat.reduceEqDiff, Nat.reduceLeDiff, Nat.reduceLT, Nat.reduceAdd, reduceCtorEq, num, boo, ints, tapeO, aV, aX])
          · rw [← hr]; simp_all [leafM, aE_eq, Ex.op, Ex.type, Ex.num, Ex.text, Ex.col, Ex.kids, rowsOf]
          · rw [← hr2]; simp_all [leafM, ends, ite_true, ite_false, reduceIte, Nat.reduceEqDiff, Nat.reduceLeDiff, Nat.reduceLT, Nat.reduceAdd, reduceCtorEq, num, boo, ints, tapeO, aV, aX]
        · refine callx_of [[], [], []] [(1000, 1000)] rfl (c18 (typ := typ) (nl := true) (p := p + 1) hx) (by first | (simp; done) | (simp [rowsOf_length]; done) | (simp [rowsOf_length]; omega)) (by first | (simp only [ends, ite_true, ite_false, reduceIte, Nat.reduceEqDiff, Nat.reduceLeDiff, Nat.reduceLT, Nat.reduceAdd, reduceCtorEq, num, boo, ints, tapeO, aV, aX, num, boo, str, aE_eq, aV]; done) | simp [ends, ite_true, ite_false, reduceIte, Nat.reduceEqDiff, Nat.reduceLeDiff, Nat.reduceLT, Nat.reduceAdd, reduceCtorEq, num, boo, ints, tapeO, aV, aX, num, boo, str, aE_eq, aV]) (by first | rfl | (simp only [ends, ite_true, ite_false, reduceIte, Nat.reduceEqDiff, Nat.reduceLeDiff, Nat.reduceLT, Nat.reduceAdd, reduceCtorEq, num, boo, ints, tapeO, aV, aX, num, boo, str, aE_eq, aV]; done) | simp [ends, ite_true, ite_false, reduceIte, Nat.reduceEqDiff, Nat.reduceLeDiff, Nat.reduceLT, Nat.reduceAdd, reduceCtorEq, num, boo, ints, tapeO, aV, aX, num, boo, str, aE_eq, aV]) (by simp only [ends, ite_true, ite_false, reduceIte, Nat.reduceEqDiff, Nat.reduceLeDiff, Nat.reduceLT, Nat.reduceAdd, reduceCtorEq, num, boo, ints, tapeO, aV, aX]) (by simp [idsOk, lookO, updO, ren1]) ?_
          simp -implicitDefEqProofs only [↓steps, push_cast, reduceIte, Nat.reduceEqDiff, Nat.reduceAdd, Nat.reduceMul, Nat.reduceLT, Nat.reduceLeDiff, Int.reduceToNat, Int.reduceLE, Int.reduceLT, reduceCtorEq, tte, num, boo, ints, tapeO, aV, aX]
          refine callx_of [[], []] [] rfl (c17 (valueM xs typ true (p + 1)).1 typ) (by first | (simp; done) | (simp [rowsOf_length]; done) | (simp [rowsOf_length]; omega)) (by first | (simp only [ends, ite_true, ite_false, reduceIte, Nat.reduceEqDiff, Nat.reduceLeDiff, Nat.reduceLT, Nat.reduceAdd, reduceCtorEq, num, boo, ints, tapeO, aV, aX, num, boo, str, aE_eq, aV]; done) | simp [ends, ite_true, ite_false, reduceIte, Nat.reduceEqDiff, Nat.reduceLeDiff, Nat.reduceLT, Nat.reduceAdd, reduceCtorEq, num, boo, ints, tapeO, aV, aX, num, boo, str, aE_eq, aV]) (by first | rfl | (simp only [ends, ite_true, ite_false, reduceIte, Nat.reduceEqDiff, Nat.reduceLeDiff, Nat.reduceLT, Nat.reduceAdd, reduceCtorEq, num, boo, ints, tapeO, aV, aX, num, boo, str, aE_eq, aV]; done) | simp [ends, ite_true, ite_false, reduceIte, Nat.reduceEqDiff, Nat.reduceLeDiff, Nat.reduceLT, Nat.reduceAdd, reduceCtorEq, num, boo, ints, tapeO, aV, aX, num, boo, str, aE_eq, aV]) (by simp only [ends, ite_true, ite_false, reduceIte, Nat.reduceEqDiff, Nat.reduceLeDiff, Nat.reduceLT, Nat.reduceAdd, reduceCtorEq, num, boo, ints, tapeO, aV, aX]) (by simp [idsOk, lookO, updO, ren1]) ?_
          simp -implicitDefEqProofs only [↓steps, push_cast, reduceIte, Nat.reduceEqDiff, Nat.reduceAdd, Nat.reduceMul, Nat.reduceLT, Nat.reduceLeDiff, Int.reduceToNat, Int.reduceLE, Int.reduceLT, reduceCtorEq, tte, num, boo, ints, tapeO, aV, aX]
          refine retx_of [0, 0, 0, 0, 0, 6] rfl (by simp) (by simp) ?_ (by first | simp only [ends, ite_true, ite_false, reduceIte, Nat.reduceEqDiff, Nat.reduceLeDiff, Nat.reduceLT, Nat.reduceAdd, reduceCtorEq, num, boo, ints, tapeO, aV, aX] | (subst_vars; simp only [ends, ite_true, ite_false, reduceIte, Nat.reduceEqDiff, Nat.reduceLeDiff, Nat.reduceLT, Nat.reduceAdd, reduceCtorEq, num, boo, ints, tapeO, aV, aX])) ?_ (by simp only [ends, ite_true, ite_false, reduceIte, Nat.reduceEqDiff, Nat.reduceLeDiff, Nat.reduceLT, Nat.reduceAdd, reduceCtorEq, num, boo, ints, tapeO, aV, aX])
          · rw [← hr]; simp_all [leafM, aE_eq]
          · rw [← hr2]; simp_all [leafM, ends, ite_true, ite_false, reduceIte, Nat.reduceEqDiff, Nat.reduceLeDiff, Nat.reduceLT, Nat.reduceAdd, reduceCtorEq, num, boo, ints, tapeO, aV, aX]
      · refine callx_of [[], [], []] [(1000, 1000)] rfl (c18 (typ := typ) (nl := true) (p := p) hx) (by first | (simp; done) | (simp [rowsOf_length]; done) | (simp [rowsOf_length]; omega)) (by first | (simp only [ends, ite_true, ite_false, reduceIte, Nat.reduceEqDiff, Nat.reduceLeDiff, Nat.reduceLT, Nat.reduceAdd, reduceCtorEq, num, boo, ints, tapeO, aV, aX, num, boo, str, aE_eq, aV]; done) | simp [ends, ite_true, ite_false, reduceIte, Nat.reduceEqDiff, Nat.reduceLeDiff, Nat.reduceLT, Nat.reduceAdd, reduceCtorEq, num, boo, ints, tapeO, aV, aX, num, boo, str, aE_eq, aV]) (by first | rfl | (simp only [ends, ite_true, ite_false, reduceIte, Nat.reduceEqDiff, Nat.reduceLeDiff, Nat.reduceLT, Nat.reduceAdd, reduceCtorEq, num, boo, ints, tapeO, aV, aX, num, boo, str, aE_eq, aV]; done) | simp [ends, ite_true, ite_false, reduceIte, Nat.reduceEqDiff, Nat.reduceLeDiff, Nat.reduceLT, Nat.reduceAdd, reduceCtorEq, num, boo, ints, tapeO, aV, aX, num, boo, str, aE_eq, aV]) (by simp only [ends, ite_true, ite_false, reduceIte, Nat.reduceEqDiff, Nat.reduceLeDiff, Nat.reduceLT, Nat.reduceAdd, reduceCtorEq, num, boo, ints, tapeO, aV, aX]) (by simp [idsOk, lookO, updO, ren1]) ?_
        simp -implicitDefEqProofs only [↓steps, push_cast, reduceIte, Nat.reduceEqDiff, Nat.reduceAdd, Nat.reduceMul, Nat.reduceLT, Nat.reduceLeDiff, Int.reduceToNat, Int.reduceLE, Int.reduceLT, reduceCtorEq, tte, num, boo, ints, tapeO, aV, aX]
        refine callx_of [[], []] [] rfl (c17 (valueM xs typ true p).1 typ) (by first | (simp; done) | (simp [rowsOf_length]; done) | (simp [rowsOf_length]; omega)) (by first | (simp only [ends, ite_true, ite_false, reduceIte, Nat.reduceEqDiff, Nat.reduceLeDiff, Nat.reduceLT, Nat.reduceAdd, reduceCtorEq, num, boo, ints, tapeO, aV, aX, num, boo, str, aE_eq, aV]; done) | simp [ends, ite_true, ite_false, reduceIte, Nat.reduceEqDiff, Nat.reduceLeDiff, Nat.reduceLT, Nat.reduceAdd, reduceCtorEq, num, boo, ints, tapeO, aV, aX, num, boo, str, aE_eq, aV]) (by first | rfl | (simp only [ends, ite_true, ite_false, reduceIte, Nat.reduceEqDiff, Nat.reduceLeDiff, Nat.reduceLT, Nat.reduceAdd, reduceCtorEq, num, boo, ints, tapeO, aV, aX, num, boo, str, aE_eq, aV]; done) | simp [ends, ite_true, ite_false, reduceIte, Nat.reduceEqDiff, Nat.reduceLeDiff, Nat.reduceLT, Nat.reduceAdd, reduceCtorEq, num, boo, ints, tapeO, aV, aX, num, boo, str, aE_eq, aV]) (by simp only [ends, ite_true, ite_false, reduceIte, Nat.reduceEqDiff, Nat.reduceLeDiff, Nat.reduceLT, Nat.reduceAdd, reduceCtorEq, num, boo, ints, tapeO, aV, aX]) (by simp [idsOk, lookO, updO, ren1]) ?_
        simp -implicitDefEqProofs only [↓steps, push_cast, reduceIte, Nat.reduceEqDiff, Nat.reduceAdd, Nat.reduceMul, Nat.reduceLT, Nat.reduceLeDiff, Int.reduceToNat, Int.reduceLE, Int.reduceLT, reduceCtorEq, tte, num, boo, ints, tapeO, aV, aX]
        refine retx_of [0, 0, 0, 0, 0, 6] rfl (by simp) (by simp) ?_ (by first | simp only [ends, ite_true, ite_false, reduceIte, Nat.reduceEqDiff, Nat.reduceLeDiff, Nat.reduceLT, Nat.reduceAdd, reduceCtorEq, num, boo, ints, tapeO, aV, aX] | (subst_vars; simp only [ends, ite_true, ite_false, reduceIte, Nat.reduceEqDiff, Nat.reduceLeDiff, Nat.reduceLT, Nat.reduceAdd, reduceCtorEq, num, boo, ints, tapeO, aV, aX])) ?_ (by simp only [ends, ite_true, ite_false, reduceIte, Nat.reduceEqDiff, Nat.reduceLeDiff, Nat.reduceLT, Nat.reduceAdd, reduceCtorEq, num, boo, ints, tapeO, aV, aX])
        · rw [← hr]; simp_all [leafM, aE_eq]
        · rw [← hr2]; simp_all [leafM, ends, ite_true, ite_false, reduceIte, Nat.reduceEqDiff, Nat.reduceLeDiff, Nat.reduceLT, Nat.reduceAdd, reduceCtorEq, num, boo, ints, tapeO, aV, aX]
end Go.Proofs.Ytcpaofpnabiggaa

namespace Go.Proofs.Ytcpaofpnabiggaa
open Go.Am
set_option linter.unusedVariables false
set_option linter.unusedSimpArgs false
set_option maxRecDepth 100000

/-- Several expressions, one after the other. -/
def sevM (f : Int → Nat → Ex × Nat) : List Int → Nat → List Ex × Nat
  | [], p => ([], p)
  | t :: l, p => ((f t p).1 :: (sevM f l (f t p).2).1, (sevM f l (f t p).2).2)
theorem sevM_snoc (f : Int → Nat → Ex × Nat) (t : Int) : ∀ (l : List Int) (p : Nat), sevM f (l ++ [t]) p = ((sevM f l p).1 ++ [(f t (sevM f l p).2).1], (f t (sevM f l p).2).2)
  | [], p => by simp [sevM]
  | a :: l, p => by simp [sevM, sevM_snoc f t l]
theorem sevM_length (f : Int → Nat → Ex × Nat) : ∀ (l : List Int) (p : Nat), (sevM f l p).1.length = l.length
  | [], p => rfl
  | a :: l, p => by simp [sevM, sevM_length f l]

/-- The contract of expr at a depth. -/
def C11 (xs types : List Int) (deep : Int) (f : Int → Nat → Ex × Nat) : Prop :=
  ∀ (typ : Int) (p : Nat), ACall Try.prog 11 [aX types, num typ, num deep] [(1000, tapeO xs p)] (aE (f typ p).1) [(1000, tapeO xs (f typ p).2)]

def I15 (xs types : List Int) (deep : Int) (f : Int → Nat → Ex × Nat) (op : Int) (ts : List Int) (p n : Nat) : SL :=
  ⟨[(16, .d (.lit (.int .i64 n))), (15, .d (.lit (.int .i64 ts.length))), (14, .d (.sl 1 (rowsOf rI ts))), (9, .ptr 9 0), (8, .ptr 8 0), (4, .ptr 4 0), (2, .d (.lit (.int .i64 deep)))],
   [(500, .vec 27 6 (rowsOf rE (sevM f (ts.take n) p).1) 0),
    (9, .var [.d (.lit (.int .i64 op)), .d (.lit (.int .i64 0)), .d (.lit (.int .i64 0)), .d (.lit (.string ByteArray.empty)), .d (.lit (.int .i64 0)), .vec 500 n]),
    (8, .var [.d (.lit (.int .i64 0)), .d (.lit (.int .i64 0)), .d (.lit (.int .i64 0)), .d (.lit (.string ByteArray.empty)), .d (.lit (.int .i64 0)), .snil]),
    (4, .var [.ptr 1000 0, .d (.sl 1 (rowsOf rI types))]), (1000, tapeO xs (sevM f (ts.take n) p).2)]⟩

theorem c15 {xs types : List Int} {deep : Int} {f : Int → Nat → Ex × Nat} (H : C11 xs types (deep - 1) f) (hx : Tape xs) (hd : 0 < deep) (hd2 : deep ≤ 10) (op : Int) (ts : List Int) (hts : ts.length ≤ 10) (p : Nat) :
    ACall Try.prog 15 [aX types, num op, num deep, ints ts] [(1000, tapeO xs p)] (aE (.mk op 0 0 ByteArray.empty 0 (sevM f ts p).1)) [(1000, tapeO xs (sevM f ts p).2)] := by
  refine ACall.enter mixed ttok Try.func15 rfl rfl _ Try.ntmps15 (Nat.le_of_ble_eq_true rfl) (by kernel_rfl) _ (congrArg Array.toList Try.results15) ?_
  generalize hr : aE (.mk op 0 0 ByteArray.empty 0 (sevM f ts p).1) = R
  generalize hr2 : tapeO xs (sevM f ts p).2 = R2
  simp -implicitDefEqProofs only [argT, ↓steps, push_cast, reduceIte, Nat.reduceEqDiff, Nat.reduceAdd, Nat.reduceMul, Nat.reduceLT, Nat.reduceLeDiff, Int.reduceToNat, Int.reduceLE, Int.reduceLT, reduceCtorEq, tte, num, boo, ints, tapeO, aV, aX]
  refine loop_intro mixed ttok (fun n : { n : Nat // n ≤ ts.length } => I15 xs types deep f op ts p n.1) (fun n => ts.length - n.1) ⟨0, Nat.zero_le _⟩ ?_ fun ⟨n, hn⟩ => ?_
  · exact (Weak.nilCellL 9 5 500 27 6 rfl rfl rfl).trans (Weak.keepL (by simp [I15, sevM, ends, ite_true, ite_false, reduceIte, Nat.reduceEqDiff, Nat.reduceLeDiff, Nat.reduceLT, Nat.reduceAdd, reduceCtorEq, num, boo, ints, tapeO, aV, aX]) (by simp [I15, sevM, rowsOf, ends, ite_true, ite_false, reduceIte, Nat.reduceEqDiff, Nat.reduceLeDiff, Nat.reduceLT, Nat.reduceAdd, reduceCtorEq, num, boo, ints, tapeO, aV, aX]) (by simp [I15, ends, ite_true, ite_false, reduceIte, Nat.reduceEqDiff, Nat.reduceLeDiff, Nat.reduceLT, Nat.reduceAdd, reduceCtorEq, num, boo, ints, tapeO, aV, aX]))
  · have hw : n < ts.length → IntKind.i64.wrap ((n : Int) + 1) = (n : Int) + 1 := fun h => wrap_eq (by omega) (by omega)
    have hl : (sevM f (ts.take n) p).1.length = n := by rw [sevM_length]; simp; omega
    have hwd : IntKind.i64.wrap (deep - 1) = deep - 1 := wrap_eq (by omega) (by omega)
    have hdf : (default : Int) = 0 := rfl
    generalize hI : (fun n : { n : Nat // n ≤ ts.length } => I15 xs types deep f op ts p n.1) = I
    simp -implicitDefEqProofs only [I15, ↓steps, push_cast, reduceIte, Nat.reduceEqDiff, Nat.reduceAdd, Nat.reduceMul, Nat.reduceLT, Nat.reduceLeDiff, Int.reduceToNat, Int.reduceLE, Int.reduceLT, reduceCtorEq, tte, num, boo, ints, tapeO, aV, aX, hwd]
    refine bcase_intro (fun h => ?_) fun h => ?_
    · have h' : n < ts.length := by simpa using h
      have hw := hw h'
      have hsn : sevM f (ts.take (n + 1)) p = ((sevM f (ts.take n) p).1 ++ [(f (ts.getD n default) (sevM f (ts.take n) p).2).1], (f (ts.getD n default) (sevM f (ts.take n) p).2).2) := by
        rw [← sevM_snoc, List.take_succ_eq_append_getElem h']
        simp [List.getD_eq_getElem?_getD, h']
      refine ⟨⟨by omega, by omega⟩, ?_⟩
      refine callx_of [[], [], []] [(1000, 1000)] rfl (H (ts.getD n default) (sevM f (ts.take n) p).2) (by first | (simp; done) | (simp [rowsOf_length]; done) | (simp [rowsOf_length]; omega)) (by first | (simp only [ends, ite_true, ite_false, reduceIte, Nat.reduceEqDiff, Nat.reduceLeDiff, Nat.reduceLT, Nat.reduceAdd, reduceCtorEq, num, boo, ints, tapeO, aV, aX, num, boo, str, aE_eq, aV]; done) | simp [ends, ite_true, ite_false, reduceIte, Nat.reduceEqDiff, Nat.reduceLeDiff, Nat.reduceLT, Nat.reduceAdd, reduceCtorEq, num, boo, ints, tapeO, aV, aX, num, boo, str, aE_eq, aV]) (by first | rfl | (simp only [ends, ite_true, ite_false, reduceIte, Nat.reduceEqDiff, Nat.reduceLeDiff, Nat.reduceLT, Nat.reduceAdd, reduceCtorEq, num, boo, ints, tapeO, aV, aX, num, boo, str, aE_eq, aV]; done) | simp [ends, ite_true, ite_false, reduceIte, Nat.reduceEqDiff, Nat.reduceLeDiff, Nat.reduceLT, Nat.reduceAdd, reduceCtorEq, num, boo, ints, tapeO, aV, aX, num, boo, str, aE_eq, aV]) (by simp only [ends, ite_true, ite_false, reduceIte, Nat.reduceEqDiff, Nat.reduceLeDiff, Nat.reduceLT, Nat.reduceAdd, reduceCtorEq, num, boo, ints, tapeO, aV, aX]) (by simp [idsOk, lookO, updO, ren1]) ?_
      simp -implicitDefEqProofs only [↓steps, push_cast, reduceIte, Nat.reduceEqDiff, Nat.reduceAdd, Nat.reduceMul, Nat.reduceLT, Nat.reduceLeDiff, Int.reduceToNat, Int.reduceLE, Int.reduceLT, reduceCtorEq, tte, num, boo, ints, tapeO, aV, aX]
      refine ⟨⟨by omega, by omega⟩, drawx_intro (by kernel_rfl), ?_⟩
      refine loopK_again (⟨n + 1, h'⟩ : { n : Nat // n ≤ ts.length }) (by show ts.length - (n + 1) < ts.length - n; omega) ?_ ?_ ?_ <;> subst hI
      · simp [I15, ends, ite_true, ite_false, reduceIte, Nat.reduceEqDiff, Nat.reduceLeDiff, Nat.reduceLT, Nat.reduceAdd, reduceCtorEq, num, boo, ints, tapeO, aV, aX, hw, hl]
      · simp [I15, ends, ite_true, ite_false, reduceIte, Nat.reduceEqDiff, Nat.reduceLeDiff, Nat.reduceLT, Nat.reduceAdd, reduceCtorEq, num, boo, ints, tapeO, aV, aX, hsn, hl]
      · simp [I15, ends, ite_true, ite_false, reduceIte, Nat.reduceEqDiff, Nat.reduceLeDiff, Nat.reduceLT, Nat.reduceAdd, reduceCtorEq, num, boo, ints, tapeO, aV, aX]
    · have hn' : n = ts.length := by simp at h; omega
      subst hn'
      have ht : ts.take ts.length = ts := by simp
      rw [ht] at hl ⊢
      refine retx_of [0, 0, 0, 0, 0, 6] rfl trivial (by simp [rowsOf_length, hl]) ?_ (by subst hr; simp only [ends, ite_true, ite_false, reduceIte, Nat.reduceEqDiff, Nat.reduceLeDiff, Nat.reduceLT, Nat.reduceAdd, reduceCtorEq, num, boo, ints, tapeO, aV, aX]) ?_ (by simp only [ends, ite_true, ite_false, reduceIte, Nat.reduceEqDiff, Nat.reduceLeDiff, Nat.reduceLT, Nat.reduceAdd, reduceCtorEq, num, boo, ints, tapeO, aV, aX])
      · rw [← hr]; simp [aE_eq, Ex.op, Ex.type, Ex.num, Ex.text, Ex.col, Ex.kids]
      · rw [← hr2]; simp [ends, ite_true, ite_false, reduceIte, Nat.reduceEqDiff, Nat.reduceLeDiff, Nat.reduceLT, Nat.reduceAdd, reduceCtorEq, num, boo, ints, tapeO, aV, aX]
end Go.Proofs.Ytcpaofpnabiggaa

namespace Go.Proofs.Ytcpaofpnabiggaa
open Go.Am
set_option linter.unusedVariables false
set_option linter.unusedSimpArgs false
set_option maxRecDepth 100000
set_option maxHeartbeats 4000000

/-- An operation with these operands. -/
def mkM (f : Int → Nat → Ex × Nat) (op : Int) (ts : List Int) (p : Nat) : Ex × Nat := (.mk op 0 0 ByteArray.empty 0 (sevM f ts p).1, (sevM f ts p).2)
def boolM (xs : List Int) (f : Int → Nat → Ex × Nat) (p : Nat) : Ex × Nat :=
  let n := drawn xs p 13
  let u := 1 + drawn xs (p + 1) 3
  if n ≤ 6 then mkM f (14 + n) [u, u] (p + 2)
  else if n = 7 then mkM f 21 [u] (p + 2)
  else if n ≤ 9 then mkM f (22 + n - 8) [2, 2] (p + 1)
  else if n ≤ 11 then mkM f (24 + n - 10) [2] (p + 1)
  else if drawn xs (p + 1) 3 = 0 then mkM f 26 [2, 2, 2] (p + 2)
  else if drawn xs (p + 1) 3 = 1 then mkM f 27 [2, 2] (p + 2)
  else
    let v := 1 + drawn xs (p + 2) 3
    mkM f 28 [v, v, v] (p + 3)

theorem c16 {xs types : List Int} {deep : Int} {f : Int → Nat → Ex × Nat} (H : C11 xs types (deep - 1) f) (hx : Tape xs) (hd : 0 < deep) (hd2 : deep ≤ 10) (p : Nat) :
    ACall Try.prog 16 [aX types, num deep] [(1000, tapeO xs p)] (aE (boolM xs f p).1) [(1000, tapeO xs (boolM xs f p).2)] := by
  refine ACall.enter mixed ttok Try.func16 rfl rfl _ Try.ntmps16 (Nat.le_of_ble_eq_true rfl) (by kernel_rfl) _ (congrArg Array.toList Try.results16) ?_
  generalize hr : aE (boolM xs f p).1 = R
  generalize hr2 : tapeO xs (boolM xs f p).2 = R2
  have h3 := fun p => drawn_range xs p (n := 3) (by omega)
  have h13 := fun p => drawn_range xs p (n := 13) (by omega)
  simp -implicitDefEqProofs only [argT, ↓steps, push_cast, reduceIte, Nat.reduceEqDiff, Nat.reduceAdd, Nat.reduceMul, Nat.reduceLT, Nat.reduceLeDiff, Int.reduceToNat, Int.reduceLE, Int.reduceLT, reduceCtorEq, tte, num, boo, ints, tapeO, aV, aX]
  refine callx_of [[], []] [(1000, 1000)] rfl (c13 (n := 13) (p := p) hx (by omega) (by omega)) (by first | (simp; done) | (simp [rowsOf_length]; done) | (simp [rowsOf_length]; omega)) (by first | (simp only [ends, ite_true, ite_false, reduceIte, Nat.reduceEqDiff, Nat.reduceLeDiff, Nat.reduceLT, Nat.reduceAdd, reduceCtorEq, num, boo, ints, tapeO, aV, aX, num, boo, str, aE_eq, aV]; done) | simp [ends, ite_true, ite_false, reduceIte, Nat.reduceEqDiff, Nat.reduceLeDiff, Nat.reduceLT, Nat.reduceAdd, reduceCtorEq, num, boo, ints, tapeO, aV, aX, num, boo, str, aE_eq, aV]) (by first | rfl | (simp only [ends, ite_true, ite_false, reduceIte, Nat.reduceEqDiff, Nat.reduceLeDiff, Nat.reduceLT, Nat.reduceAdd, reduceCtorEq, num, boo, ints, tapeO, aV, aX, num, boo, str, aE_eq, aV]; done) | simp [ends, ite_true, ite_false, reduceIte, Nat.reduceEqDiff, Nat.reduceLeDiff, Nat.reduceLT, Nat.reduceAdd, reduceCtorEq, num, boo, ints, tapeO, aV, aX, num, boo, str, aE_eq, aV]) (by simp only [ends, ite_true, ite_false, reduceIte, Nat.reduceEqDiff, Nat.reduceLeDiff, Nat.reduceLT, Nat.reduceAdd, reduceCtorEq, num, boo, ints, tapeO, aV, aX]) (by simp [idsOk, lookO, updO, ren1]) ?_
  simp -implicitDefEqProofs only [↓steps, push_cast, reduceIte, Nat.reduceEqDiff, Nat.reduceAdd, Nat.reduceMul, Nat.reduceLT, Nat.reduceLeDiff, Int.reduceToNat, Int.reduceLE, Int.reduceLT, reduceCtorEq, tte, num, boo, ints, tapeO, aV, aX]
  have w3 : ∀ q, IntKind.i64.wrap (1 + drawn xs q 3) = 1 + drawn xs q 3 := fun q => wrap_eq (by have := h3 q; omega) (by have := h3 q; omega)
  have w14 : IntKind.i64.wrap (14 + drawn xs p 13) = 14 + drawn xs p 13 := wrap_eq (by have := h13 p; omega) (by have := h13 p; omega)
  have w22 : IntKind.i64.wrap (22 + drawn xs p 13) = 22 + drawn xs p 13 := wrap_eq (by have := h13 p; omega) (by have := h13 p; omega)
  have w24 : IntKind.i64.wrap (24 + drawn xs p 13) = 24 + drawn xs p 13 := wrap_eq (by have := h13 p; omega) (by have := h13 p; omega)
  have w22' : IntKind.i64.wrap (22 + drawn xs p 13 - 8) = 22 + drawn xs p 13 - 8 := wrap_eq (by have := h13 p; omega) (by have := h13 p; omega)
  have w24' : IntKind.i64.wrap (24 + drawn xs p 13 - 10) = 24 + drawn xs p 13 - 10 := wrap_eq (by have := h13 p; omega) (by have := h13 p; omega)
  refine bcase_intro (fun h => ?_) fun h => bcase_intro (fun ha => ?_) fun ha => bcase_intro (fun hb => ?_) fun hb => bcase_intro (fun hc => ?_) fun hc => ?_
  · simp only [decide_eq_true_eq] at h
    have hM : boolM xs f p = mkM f (14 + drawn xs p 13) [1 + drawn xs (p + 1) 3, 1 + drawn xs (p + 1) 3] (p + 2) := by simp only [boolM]; rw [if_pos h]
    refine callx_of [[], []] [(1000, 1000)] rfl (c13 (n := 3) (p := p + 1) hx (by omega) (by omega)) (by first | (simp; done) | (simp [rowsOf_length]; done) | (simp [rowsOf_length]; omega)) (by first | (simp only [ends, ite_true, ite_false, reduceIte, Nat.reduceEqDiff, Nat.reduceLeDiff, Nat.reduceLT, Nat.reduceAdd, reduceCtorEq, num, boo, ints, tapeO, aV, aX, num, boo, str, aE_eq, aV]; done) | simp [ends, ite_true, ite_false, reduceIte, Nat.reduceEqDiff, Nat.reduceLeDiff, Nat.reduceLT, Nat.reduceAdd, reduceCtorEq, num, boo, ints, tapeO, aV, aX, num, boo, str, aE_eq, aV]) (by first | rfl | (simp only [ends, ite_true, ite_false, reduceIte, Nat.reduceEqDiff, Nat.reduceLeDiff, Nat.reduceLT, Nat.reduceAdd, reduceCtorEq, num, boo, ints, tapeO, aV, aX, num, boo, str, aE_eq, aV]; done) | simp [ends, ite_true, ite_false, reduceIte, Nat.reduceEqDiff, Nat.reduceLeDiff, Nat.reduceLT, Nat.reduceAdd, reduceCtorEq, num, boo, ints, tapeO, aV, aX, num, boo, str, aE_eq, aV]) (by simp only [ends, ite_true, ite_false, reduceIte, Nat.reduceEqDiff, Nat.reduceLeDiff, Nat.reduceLT, Nat.reduceAdd, reduceCtorEq, num, boo, ints, tapeO, aV, aX]) (by simp [idsOk, lookO, updO, ren1]) ?_
    simp -implicitDefEqProofs only [↓steps, push_cast, reduceIte, Nat.reduceEqDiff, Nat.reduceAdd, Nat.reduceMul, Nat.reduceLT, Nat.reduceLeDiff, Int.reduceToNat, Int.reduceLE, Int.reduceLT, reduceCtorEq, tte, num, boo, ints, tapeO, aV, aX]
    simp only [w3, w14]
    refine callx_of [[], [], [], []] [(1000, 1000)] rfl (c15 H hx hd hd2 (14 + drawn xs p 13) [(1 + drawn xs (p + 1) 3), (1 + drawn xs (p + 1) 3)] (by simp) (p + 2)) (by first | (simp; done) | (simp [rowsOf_length]; done) | (simp [rowsOf_length]; omega)) (by first | (simp only [ends, ite_true, ite_false, reduceIte, Nat.reduceEqDiff, Nat.reduceLeDiff, Nat.reduceLT, Nat.reduceAdd, reduceCtorEq, num, boo, ints, tapeO, aV, aX, num, boo, str, aE_eq, aV]; done) | simp [ends, ite_true, ite_false, reduceIte, Nat.reduceEqDiff, Nat.reduceLeDiff, Nat.reduceLT, Nat.reduceAdd, reduceCtorEq, num, boo, ints, tapeO, aV, aX, num, boo, str, aE_eq, aV]) (by first | rfl | (simp only [ends, ite_true, ite_false, reduceIte, Nat.reduceEqDiff, Nat.reduceLeDiff, Nat.reduceLT, Nat.reduceAdd, reduceCtorEq, num, boo, ints, tapeO, aV, aX, num, boo, str, aE_eq, aV]; done) | simp [ends, ite_true, ite_false, reduceIte, Nat.reduceEqDiff, Nat.reduceLeDiff, Nat.reduceLT, Nat.reduceAdd, reduceCtorEq, num, boo, ints, tapeO, aV, aX, num, boo, str, aE_eq, aV]) (by simp only [ends, ite_true, ite_false, reduceIte, Nat.reduceEqDiff, Nat.reduceLeDiff, Nat.reduceLT, Nat.reduceAdd, reduceCtorEq, num, boo, ints, tapeO, aV, aX]) (by simp [idsOk, lookO, updO, ren1]) ?_
    simp -implicitDefEqProofs only [↓steps, push_cast, reduceIte, Nat.reduceEqDiff, Nat.reduceAdd, Nat.reduceMul, Nat.reduceLT, Nat.reduceLeDiff, Int.reduceToNat, Int.reduceLE, Int.reduceLT, reduceCtorEq, tte, num, boo, ints, tapeO, aV, aX]
    refine retx_of [0, 0, 0, 0, 0, 6] rfl (by simp) (by simp) ?_ (by first | simp only [ends, ite_true, ite_false, reduceIte, Nat.reduceEqDiff, Nat.reduceLeDiff, Nat.reduceLT, Nat.reduceAdd, reduceCtorEq, num, boo, ints, tapeO, aV, aX] | (subst_vars; simp only [ends, ite_true, ite_false, reduceIte, Nat.reduceEqDiff, Nat.reduceLeDiff, Nat.reduceLT, Nat.reduceAdd, reduceCtorEq, num, boo, ints, tapeO, aV, aX])) ?_ (by simp only [ends, ite_true, ite_false, reduceIte, Nat.reduceEqDiff, Nat.reduceLeDiff, Nat.reduceLT, Nat.reduceAdd, reduceCtorEq, num, boo, ints, tapeO, aV, aX])
    · rw [← hr]; rw [hM]; simp [mkM, aE_eq, Ex.op, Ex.type, Ex.num, Ex.text, Ex.col, Ex.kids]
    · rw [← hr2, hM]; simp [mkM, ends, ite_true, ite_false, reduceIte, Nat.reduceEqDiff, Nat.reduceLeDiff, Nat.reduceLT, Nat.reduceAdd, reduceCtorEq, num, boo, ints, tapeO, aV, aX]
  · simp only [decide_eq_false_iff_not, beq_iff_eq] at h ha
    have hM : boolM xs f p = mkM f 21 [1 + drawn xs (p + 1) 3] (p + 2) := by simp only [boolM]; rw [if_neg h, if_pos ha]
    refine callx_of [[], []] [(1000, 1000)] rfl (c13 (n := 3) (p := p + 1) hx (by omega) (by omega)) (by first | (simp; done) | (simp [rowsOf_length]; done) | (simp [rowsOf_length]; omega)) (by first | (simp only [ends, ite_true, ite_false, reduceIte, Nat.reduceEqDiff, Nat.reduceLeDiff, Nat.reduceLT, Nat.reduceAdd, reduceCtorEq, num, boo, ints, tapeO, aV, aX, num, boo, str, aE_eq, aV]; done) | simp [ends, ite_true, ite_false, reduceIte, Nat.reduceEqDiff, Nat.reduceLeDiff, Nat.reduceLT, Nat.reduceAdd, reduceCtorEq, num, boo, ints, tapeO, aV, aX, num, boo, str, aE_eq, aV]) (by first | rfl | (simp only [ends, ite_true, ite_false, reduceIte, Nat.reduceEqDiff, Nat.reduceLeDiff, Nat.reduceLT, Nat.reduceAdd, reduceCtorEq, num, boo, ints, tapeO, aV, aX, num, boo, str, aE_eq, aV]; done) | simp [ends, ite_true, ite_false, reduceIte, Nat.reduceEqDiff, Nat.reduceLeDiff, Nat.reduceLT, Nat.reduceAdd, reduceCtorEq, num, boo, ints, tapeO, aV, aX, num, boo, str, aE_eq, aV]) (by simp only [ends, ite_true, ite_false, reduceIte, Nat.reduceEqDiff, Nat.reduceLeDiff, Nat.reduceLT, Nat.reduceAdd, reduceCtorEq, num, boo, ints, tapeO, aV, aX]) (by simp [idsOk, lookO, updO, ren1]) ?_
    simp -implicitDefEqProofs only [↓steps, push_cast, reduceIte, Nat.reduceEqDiff, Nat.reduceAdd, Nat.reduceMul, Nat.reduceLT, Nat.reduceLeDiff, Int.reduceToNat, Int.reduceLE, Int.reduceLT, reduceCtorEq, tte, num, boo, ints, tapeO, aV, aX]
    simp only [w3]
    refine callx_of [[], [], [], []] [(1000, 1000)] rfl (c15 H hx hd hd2 (21) [(1 + drawn xs (p + 1) 3)] (by simp) (p + 2)) (by first | (simp; done) | (simp [rowsOf_length]; done) | (simp [rowsOf_length]; omega)) (by first | (simp only [ends, ite_true, ite_false, reduceIte, Nat.reduceEqDiff, Nat.reduceLeDiff, Nat.reduceLT, Nat.reduceAdd, reduceCtorEq, num, boo, ints, tapeO, aV, aX, num, boo, str, aE_eq, aV]; done) | simp [ends, ite_true, ite_false, reduceIte, Nat.reduceEqDiff, Nat.reduceLeDiff, Nat.reduceLT, Nat.reduceAdd, reduceCtorEq, num, boo, ints, tapeO, aV, aX, num, boo, str, aE_eq, aV]) (by first | rfl | (simp only [ends, ite_true, ite_false, reduceIte, Nat.reduceEqDiff, Nat.reduceLeDiff, Nat.reduceLT, Nat.reduceAdd, reduceCtorEq, num, boo, ints, tapeO, aV, aX, num, boo, str, aE_eq, aV]; done) | simp [ends, ite_true, ite_false, reduceIte, Nat.reduceEqDiff, Nat.reduceLeDiff, Nat.reduceLT, Nat.reduceAdd, reduceCtorEq, num, boo, ints, tapeO, aV, aX, num, boo, str, aE_eq, aV]) (by simp only [ends, ite_true, ite_false, reduceIte, Nat.reduceEqDiff, Nat.reduceLeDiff, Nat.reduceLT, Nat.reduceAdd, reduceCtorEq, num, boo, ints, tapeO, aV, aX]) (by simp [idsOk, lookO, updO, ren1]) ?_
    simp -implicitDefEqProofs only [↓steps, push_cast, reduceIte, Nat.reduceEqDiff, Nat.reduceAdd, Nat.reduceMul, Nat.reduceLT, Nat.reduceLeDiff, Int.reduceToNat, Int.reduceLE, Int.reduceLT, reduceCtorEq, tte, num, boo, ints, tapeO, aV, aX]
    refine ⟨drawx_intro (by kernel_rfl), ?_⟩
    refine retx_of [0, 0, 0, 0, 0, 6] rfl (by simp) (by simp) ?_ (by first | simp only [ends, ite_true, ite_false, reduceIte, Nat.reduceEqDiff, Nat.reduceLeDiff, Nat.reduceLT, Nat.reduceAdd, reduceCtorEq, num, boo, ints, tapeO, aV, aX] | (subst_vars; simp only [ends, ite_true, ite_false, reduceIte, Nat.reduceEqDiff, Nat.reduceLeDiff, Nat.reduceLT, Nat.reduceAdd, reduceCtorEq, num, boo, ints, tapeO, aV, aX])) ?_ (by simp only [ends, ite_true, ite_false, reduceIte, Nat.reduceEqDiff, Nat.reduceLeDiff, Nat.reduceLT, Nat.reduceAdd, reduceCtorEq, num, boo, ints, tapeO, aV, aX])
    · rw [← hr]; rw [hM]; simp [mkM, aE_eq, Ex.op, Ex.type, Ex.num, Ex.text, Ex.col, Ex.kids]
    · rw [← hr2, hM]; simp [mkM, ends, ite_true, ite_false, reduceIte, Nat.reduceEqDiff, Nat.reduceLeDiff, Nat.reduceLT, Nat.reduceAdd, reduceCtorEq, num, boo, ints, tapeO, aV, aX]
  · simp only [decide_eq_false_iff_not, beq_eq_false_iff_ne, decide_eq_true_eq] at h ha hb
    have hM : boolM xs f p = mkM f (22 + drawn xs p 13 - 8) [2, 2] (p + 1) := by simp only [boolM]; rw [if_neg h, if_neg ha, if_pos hb]
    simp only [w22, w22']
    refine callx_of [[], [], [], []] [(1000, 1000)] rfl (c15 H hx hd hd2 (22 + drawn xs p 13 - 8) [2, 2] (by simp) (p + 1)) (by first | (simp; done) | (simp [rowsOf_length]; done) | (simp [rowsOf_length]; omega)) (by first | (simp only [ends, ite_true, ite_false, reduceIte, Nat.reduceEqDiff, Nat.reduceLeDiff, Nat.reduceLT, Nat.reduceAdd, reduceCtorEq, num, boo, ints, tapeO, aV, aX, num, boo, str, aE_eq, aV]; done) | simp [ends, ite_true, ite_false, reduceIte, Nat.reduceEqDiff, Nat.reduceLeDiff, Nat.reduceLT, Nat.reduceAdd, reduceCtorEq, num, boo, ints, tapeO, aV, aX, num, boo, str, aE_eq, aV]) (by first | rfl | (simp only [ends, ite_true, ite_false, reduceIte, Nat.reduceEqDiff, Nat.reduceLeDiff, Nat.reduceLT, Nat.reduceAdd, reduceCtorEq, num, boo, ints, tapeO, aV, aX, num, boo, str, aE_eq, aV]; done) | simp [ends, ite_true, ite_false, reduceIte, Nat.reduceEqDiff, Nat.reduceLeDiff, Nat.reduceLT, Nat.reduceAdd, reduceCtorEq, num, boo, ints, tapeO, aV, aX, num, boo, str, aE_eq, aV]) (by simp only [ends, ite_true, ite_false, reduceIte, Nat.reduceEqDiff, Nat.reduceLeDiff, Nat.reduceLT, Nat.reduceAdd, reduceCtorEq, num, boo, ints, tapeO, aV, aX]) (by simp [idsOk, lookO, updO, ren1]) ?_
    simp -implicitDefEqProofs only [↓steps, push_cast, reduceIte, Nat.reduceEqDiff, Nat.reduceAdd, Nat.reduceMul, Nat.reduceLT, Nat.reduceLeDiff, Int.reduceToNat, Int.reduceLE, Int.reduceLT, reduceCtorEq, tte, num, boo, ints, tapeO, aV, aX]
    refine retx_of [0, 0, 0, 0, 0, 6] rfl (by simp) (by simp) ?_ (by first | simp only [ends, ite_true, ite_false, reduceIte, Nat.reduceEqDiff, Nat.reduceLeDiff, Nat.reduceLT, Nat.reduceAdd, reduceCtorEq, num, boo, ints, tapeO, aV, aX] | (subst_vars; simp only [ends, ite_true, ite_false, reduceIte, Nat.reduceEqDiff, Nat.reduceLeDiff, Nat.reduceLT, Nat.reduceAdd, reduceCtorEq, num, boo, ints, tapeO, aV, aX])) ?_ (by simp only [ends, ite_true, ite_false, reduceIte, Nat.reduceEqDiff, Nat.reduceLeDiff, Nat.reduceLT, Nat.reduceAdd, reduceCtorEq, num, boo, ints, tapeO, aV, aX])
    · rw [← hr]; rw [hM]; simp [mkM, aE_eq, Ex.op, Ex.type, Ex.num, Ex.text, Ex.col, Ex.kids]
    · rw [← hr2, hM]; simp [mkM, ends, ite_true, ite_false, reduceIte, Nat.reduceEqDiff, Nat.reduceLeDiff, Nat.reduceLT, Nat.reduceAdd, reduceCtorEq, num, boo, ints, tapeO, aV, aX]
  · simp only [decide_eq_false_iff_not, beq_eq_false_iff_ne, decide_eq_true_eq] at h ha hb hc
    have hM : boolM xs f p = mkM f (24 + drawn xs p 13 - 10) [2] (p + 1) := by simp only [boolM]; rw [if_neg h, if_neg ha, if_neg hb, if_pos hc]
    simp only [w24, w24']
    refine callx_of [[], [], [], []] [(1000, 1000)] rfl (c15 H hx hd hd2 (24 + drawn xs p 13 - 10) [2] (by simp) (p + 1)) (by first | (simp; done) | (simp [rowsOf_length]; done) | (simp [rowsOf_length]; omega)) (by first | (simp only [ends, ite_true, ite_false, reduceIte, Nat.reduceEqDiff, Nat.reduceLeDiff, Nat.reduceLT, Nat.reduceAdd, reduceCtorEq, num, boo, ints, tapeO, aV, aX, num, boo, str, aE_eq, aV]; done) | simp [ends, ite_true, ite_false, reduceIte, Nat.reduceEqDiff, Nat.reduceLeDiff, Nat.reduceLT, Nat.reduceAdd, reduceCtorEq, num, boo, ints, tapeO, aV, aX, num, boo, str, aE_eq, aV]) (by first | rfl | (simp only [ends, ite_true, ite_false, reduceIte, Nat.reduceEqDiff, Nat.reduceLeDiff, Nat.reduceLT, Nat.reduceAdd, reduceCtorEq, num, boo, ints, tapeO, aV, aX, num, boo, str, aE_eq, aV]; done) | simp [ends, ite_true, ite_false, reduceIte, Nat.reduceEqDiff, Nat.reduceLeDiff, Nat.reduceLT, Nat.reduceAdd, reduceCtorEq, num, boo, ints, tapeO, aV, aX, num, boo, str, aE_eq, aV]) (by simp only [ends, ite_true, ite_false, reduceIte, Nat.reduceEqDiff, Nat.reduceLeDiff, Nat.reduceLT, Nat.reduceAdd, reduceCtorEq, num, boo, ints, tapeO, aV, aX]) (by simp [idsOk, lookO, updO, ren1]) ?_
    simp -implicitDefEqProofs only [↓steps, push_cast, reduceIte, Nat.reduceEqDiff, Nat.reduceAdd, Nat.reduceMul, Nat.reduceLT, Nat.reduceLeDiff, Int.reduceToNat, Int.reduceLE, Int.reduceLT, reduceCtorEq, tte, num, boo, ints, tapeO, aV, aX]
    refine retx_of [0, 0, 0, 0, 0, 6] rfl (by simp) (by simp) ?_ (by first | simp only [ends, ite_true, ite_false, reduceIte, Nat.reduceEqDiff, Nat.reduceLeDiff, Nat.reduceLT, Nat.reduceAdd, reduceCtorEq, num, boo, ints, tapeO, aV, aX] | (subst_vars; simp only [ends, ite_true, ite_false, reduceIte, Nat.reduceEqDiff, Nat.reduceLeDiff, Nat.reduceLT, Nat.reduceAdd, reduceCtorEq, num, boo, ints, tapeO, aV, aX])) ?_ (by simp only [ends, ite_true, ite_false, reduceIte, Nat.reduceEqDiff, Nat.reduceLeDiff, Nat.reduceLT, Nat.reduceAdd, reduceCtorEq, num, boo, ints, tapeO, aV, aX])
    · rw [← hr]; rw [hM]; simp [mkM, aE_eq, Ex.op, Ex.type, Ex.num, Ex.text, Ex.col, Ex.kids]
    · rw [← hr2, hM]; simp [mkM, ends, ite_true, ite_false, reduceIte, Nat.reduceEqDiff, Nat.reduceLeDiff, Nat.reduceLT, Nat.reduceAdd, reduceCtorEq, num, boo, ints, tapeO, aV, aX]
  · simp only [decide_eq_false_iff_not, beq_eq_false_iff_ne, decide_eq_true_eq] at h ha hb hc
    refine callx_of [[], []] [(1000, 1000)] rfl (c13 (n := 3) (p := p + 1) hx (by omega) (by omega)) (by first | (simp; done) | (simp [rowsOf_length]; done) | (simp [rowsOf_length]; omega)) (by first | (simp only [ends, ite_true, ite_false, reduceIte, Nat.reduceEqDiff, Nat.reduceLeDiff, Nat.reduceLT, Nat.reduceAdd, reduceCtorEq, num, boo, ints, tapeO, aV, aX, num, boo, str, aE_eq, aV]; done) | simp [ends, ite_true, ite_false, reduceIte, Nat.reduceEqDiff, Nat.reduceLeDiff, Nat.reduceLT, Nat.reduceAdd, reduceCtorEq, num, boo, ints, tapeO, aV, aX, num, boo, str, aE_eq, aV]) (by first | rfl | (simp only [ends, ite_true, ite_false, reduceIte, Nat.reduceEqDiff, Nat.reduceLeDiff, Nat.reduceLT, Nat.reduceAdd, reduceCtorEq, num, boo, ints, tapeO, aV, aX, num, boo, str, aE_eq, aV]; done) | simp [ends, ite_true, ite_false, reduceIte, Nat.reduceEqDiff, Nat.reduceLeDiff, Nat.reduceLT, Nat.reduceAdd, reduceCtorEq, num, boo, ints, tapeO, aV, aX, num, boo, str, aE_eq, aV]) (by simp only [ends, ite_true, ite_false, reduceIte, Nat.reduceEqDiff, Nat.reduceLeDiff, Nat.reduceLT, Nat.reduceAdd, reduceCtorEq, num, boo, ints, tapeO, aV, aX]) (by simp [idsOk, lookO, updO, ren1]) ?_
    simp -implicitDefEqProofs only [↓steps, push_cast, reduceIte, Nat.reduceEqDiff, Nat.reduceAdd, Nat.reduceMul, Nat.reduceLT, Nat.reduceLeDiff, Int.reduceToNat, Int.reduceLE, Int.reduceLT, reduceCtorEq, tte, num, boo, ints, tapeO, aV, aX]
    refine bcase_intro (fun hd' => ?_) fun hd' => bcase_intro (fun he => ?_) fun he => ?_
    · simp only [beq_iff_eq] at hd'
      have hM : boolM xs f p = mkM f 26 [2, 2, 2] (p + 2) := by simp only [boolM]; rw [if_neg h, if_neg ha, if_neg hb, if_neg hc, if_pos hd']
      refine callx_of [[], [], [], []] [(1000, 1000)] rfl (c15 H hx hd hd2 (26) [2, 2, 2] (by simp) (p + 2)) (by first | (simp; done) | (simp [rowsOf_length]; done) | (simp [rowsOf_length]; omega)) (by first | (simp only [ends, ite_true, ite_false, reduceIte, Nat.reduceEqDiff, Nat.reduceLeDiff, Nat.reduceLT, Nat.reduceAdd, reduceCtorEq, num, boo, ints, tapeO, aV, aX, num, boo, str, aE_eq, aV]; done) | simp [ends, ite_true, ite_false, reduceIte, Nat.reduceEqDiff, Nat.reduceLeDiff, Nat.reduceLT, Nat.reduceAdd, reduceCtorEq, num, boo, ints, tapeO, aV, aX, num, boo, str, aE_eq, aV]) (by first | rfl | (simp only [ends, ite_true, ite_false, reduceIte, Nat.reduceEqDiff, Nat.reduceLeDiff, Nat.reduceLT, Nat.reduceAdd, reduceCtorEq, num, boo, ints, tapeO, aV, aX, num, boo, str, aE_eq, aV]; done) | simp [ends, ite_true, ite_false, reduceIte, Nat.reduceEqDiff, Nat.reduceLeDiff, Nat.reduceLT, Nat.reduceAdd, reduceCtorEq, num, boo, ints, tapeO, aV, aX, num, boo, str, aE_eq, aV]) (by simp only [ends, ite_true, ite_false, reduceIte, Nat.reduceEqDiff, Nat.reduceLeDiff, Nat.reduceLT, Nat.reduceAdd, reduceCtorEq, num, boo, ints, tapeO, aV, aX]) (by simp [idsOk, lookO, updO, ren1]) ?_
      simp -implicitDefEqProofs only [↓steps, push_cast, reduceIte, Nat.reduceEqDiff, Nat.reduceAdd, Nat.reduceMul, Nat.reduceLT, Nat.reduceLeDiff, Int.reduceToNat, Int.reduceLE, Int.reduceLT, reduceCtorEq, tte, num, boo, ints, tapeO, aV, aX]
      refine retx_of [0, 0, 0, 0, 0, 6] rfl (by simp) (by simp) ?_ (by first | simp only [ends, ite_true, ite_false, reduceIte, Nat.reduceEqDiff, Nat.reduceLeDiff, Nat.reduceLT, Nat.reduceAdd, reduceCtorEq, num, boo, ints, tapeO, aV, aX] | (subst_vars; simp only [ends, ite_true, ite_false, reduceIte, Nat.reduceEqDiff, Nat.reduceLeDiff, Nat.reduceLT, Nat.reduceAdd, reduceCtorEq, num, boo, ints, tapeO, aV, aX])) ?_ (by simp only [ends, ite_true, ite_false, reduceIte, Nat.reduceEqDiff, Nat.reduceLeDiff, Nat.reduceLT, Nat.reduceAdd, reduceCtorEq, num, boo, ints, tapeO, aV, aX])
      · rw [← hr]; rw [hM]; simp [mkM, aE_eq, Ex.op, Ex.type, Ex.num, Ex.text, Ex.col, Ex.kids]
      · rw [← hr2, hM]; simp [mkM, ends, ite_true, ite_false, reduceIte, Nat.reduceEqDiff, Nat.reduceLeDiff, Nat.reduceLT, Nat.reduceAdd, reduceCtorEq, num, boo, ints, tapeO, aV, aX]
    · simp only [beq_iff_eq, beq_eq_false_iff_ne] at hd' he
      have hM : boolM xs f p = mkM f 27 [2, 2] (p + 2) := by simp only [boolM]; rw [if_neg h, if_neg ha, if_neg hb, if_neg hc, if_neg hd', if_pos he]
      refine callx_of [[], [], [], []] [(1000, 1000)] rfl (c15 H hx hd hd2 (27) [2, 2] (by simp) (p + 2)) (by first | (simp; done) | (simp [rowsOf_length]; done) | (simp [rowsOf_length]; omega)) (by first | (simp only [ends, ite_true, ite_false, reduceIte, Nat.reduceEqDiff, Nat.reduceLeDiff, Nat.reduceLT, Nat.reduceAdd, reduceCtorEq, num, boo, ints, tapeO, aV, aX, num, boo, str, aE_eq, aV]; done) | simp [ends, ite_true, ite_false, reduceIte, Nat.reduceEqDiff, Nat.reduceLeDiff, Nat.reduceLT, Nat.reduceAdd, reduceCtorEq, num, boo, ints, tapeO, aV, aX, num, boo, str, aE_eq, aV]) (by first | rfl | (simp only [ends, ite_true, ite_false, reduceIte, Nat.reduceEqDiff, Nat.reduceLeDiff, Nat.reduceLT, Nat.reduceAdd, reduceCtorEq, num, boo, ints, tapeO, aV, aX, num, boo, str, aE_eq, aV]; done) | simp [ends, ite_true, ite_false, reduceIte, Nat.reduceEqDiff, Nat.reduceLeDiff, Nat.reduceLT, Nat.reduceAdd, reduceCtorEq, num, boo, ints, tapeO, aV, aX, num, boo, str, aE_eq, aV]) (by simp only [ends, ite_true, ite_false, reduceIte, Nat.reduceEqDiff, Nat.reduceLeDiff, Nat.reduceLT, Nat.reduceAdd, reduceCtorEq, num, boo, ints, tapeO, aV, aX]) (by simp [idsOk, lookO, updO, ren1]) ?_
      simp -implicitDefEqProofs only [↓steps, push_cast, reduceIte, Nat.reduceEqDiff, Nat.reduceAdd, Nat.reduceMul, Nat.reduceLT, Nat.reduceLeDiff, Int.reduceToNat, Int.reduceLE, Int.reduceLT, reduceCtorEq, tte, num, boo, ints, tapeO, aV, aX]
      refine retx_of [0, 0, 0, 0, 0, 6] rfl (by simp) (by simp) ?_ (by first | simp only [ends, ite_true, ite_false, reduceIte, Nat.reduceEqDiff, Nat.reduceLeDiff, Nat.reduceLT, Nat.reduceAdd, reduceCtorEq, num, boo, ints, tapeO, aV, aX] | (subst_vars; simp only [ends, ite_true, ite_false, reduceIte, Nat.reduceEqDiff, Nat.reduceLeDiff, Nat.reduceLT, Nat.reduceAdd, reduceCtorEq, num, boo, ints, tapeO, aV, aX])) ?_ (by simp only [ends, ite_true, ite_false, reduceIte, Nat.reduceEqDiff, Nat.reduceLeDiff, Nat.reduceLT, Nat.reduceAdd, reduceCtorEq, num, boo, ints, tapeO, aV, aX])
      · rw [← hr]; rw [hM]; simp [mkM, aE_eq, Ex.op, Ex.type, Ex.num, Ex.text, Ex.col, Ex.kids]
      · rw [← hr2, hM]; simp [mkM, ends, ite_true, ite_false, reduceIte, Nat.reduceEqDiff, Nat.reduceLeDiff, Nat.reduceLT, Nat.reduceAdd, reduceCtorEq, num, boo, ints, tapeO, aV, aX]
    · simp only [beq_eq_false_iff_ne] at hd' he
      have hM : boolM xs f p = mkM f 28 [1 + drawn xs (p + 2) 3, 1 + drawn xs (p + 2) 3, 1 + drawn xs (p + 2) 3] (p + 3) := by simp only [boolM]; rw [if_neg h, if_neg ha, if_neg hb, if_neg hc, if_neg hd', if_neg he]
      refine callx_of [[], []] [(1000, 1000)] rfl (c13 (n := 3) (p := p + 2) hx (by omega) (by omega)) (by first | (simp; done) | (simp [rowsOf_length]; done) | (simp [rowsOf_length]; omega)) (by first | (simp only [ends, ite_true, ite_false, reduceIte, Nat.reduceEqDiff, Nat.reduceLeDiff, Nat.reduceLT, Nat.reduceAdd, reduceCtorEq, num, boo, ints, tapeO, aV, aX, num, boo, str, aE_eq, aV]; done) | simp [ends, ite_true, ite_false, reduceIte, Nat.reduceEqDiff, Nat.reduceLeDiff, Nat.reduceLT, Nat.reduceAdd, reduceCtorEq, num, boo, ints, tapeO, aV, aX, num, boo, str, aE_eq, aV]) (by first | rfl | (simp only [ends, ite_true, ite_false, reduceIte, Nat.reduceEqDiff, Nat.reduceLeDiff, Nat.reduceLT, Nat.reduceAdd, reduceCtorEq, num, boo, ints, tapeO, aV, aX, num, boo, str, aE_eq, aV]; done) | simp [ends, ite_true, ite_false, reduceIte, Nat.reduceEqDiff, Nat.reduceLeDiff, Nat.reduceLT, Nat.reduceAdd, reduceCtorEq, num, boo, ints, tapeO, aV, aX, num, boo, str, aE_eq, aV]) (by simp only [ends, ite_true, ite_false, reduceIte, Nat.reduceEqDiff, Nat.reduceLeDiff, Nat.reduceLT, Nat.reduceAdd, reduceCtorEq, num, boo, ints, tapeO, aV, aX]) (by simp [idsOk, lookO, updO, ren1]) ?_
      simp -implicitDefEqProofs only [↓steps, push_cast, reduceIte, Nat.reduceEqDiff, Nat.reduceAdd, Nat.reduceMul, Nat.reduceLT, Nat.reduceLeDiff, Int.reduceToNat, Int.reduceLE, Int.reduceLT, reduceCtorEq, tte, num, boo, ints, tapeO, aV, aX]
      simp only [w3]
      refine callx_of [[], [], [], []] [(1000, 1000)] rfl (c15 H hx hd hd2 (28) [(1 + drawn xs (p + 2) 3), (1 + drawn xs (p + 2) 3), (1 + drawn xs (p + 2) 3)] (by simp) (p + 3)) (by first | (simp; done) | (simp [rowsOf_length]; done) | (simp [rowsOf_length]; omega)) (by first | (simp only [ends, ite_true, ite_false, reduceIte, Nat.reduceEqDiff, Nat.reduceLeDiff, Nat.reduceLT, Nat.reduceAdd, reduceCtorEq, num, boo, ints, tapeO, aV, aX, num, boo, str, aE_eq, aV]; done) | simp [ends, ite_true, ite_false, reduceIte, Nat.reduceEqDiff, Nat.reduceLeDiff, Nat.reduceLT, Nat.reduceAdd, reduceCtorEq, num, boo, ints, tapeO, aV, aX, num, boo, str, aE_eq, aV]) (by first | rfl | (simp only [ends, ite_true, ite_false, reduceIte, Nat.reduceEqDiff, Nat.reduceLeDiff, Nat.reduceLT, Nat.reduceAdd, reduceCtorEq, num, boo, ints, tapeO, aV, aX, num, boo, str, aE_eq, aV]; done) | simp [ends, ite_true, ite_false, reduceIte, Nat.reduceEqDiff, Nat.reduceLeDiff, Nat.reduceLT, Nat.reduceAdd, reduceCtorEq, num, boo, ints, tapeO, aV, aX, num, boo, str, aE_eq, aV]) (by simp only [ends, ite_true, ite_false, reduceIte, Nat.reduceEqDiff, Nat.reduceLeDiff, Nat.reduceLT, Nat.reduceAdd, reduceCtorEq, num, boo, ints, tapeO, aV, aX]) (by simp [idsOk, lookO, updO, ren1]) ?_
      simp -implicitDefEqProofs only [↓steps, push_cast, reduceIte, Nat.reduceEqDiff, Nat.reduceAdd, Nat.reduceMul, Nat.reduceLT, Nat.reduceLeDiff, Int.reduceToNat, Int.reduceLE, Int.reduceLT, reduceCtorEq, tte, num, boo, ints, tapeO, aV, aX]
      refine retx_of [0, 0, 0, 0, 0, 6] rfl (by simp) (by simp) ?_ (by first | simp only [ends, ite_true, ite_false, reduceIte, Nat.reduceEqDiff, Nat.reduceLeDiff, Nat.reduceLT, Nat.reduceAdd, reduceCtorEq, num, boo, ints, tapeO, aV, aX] | (subst_vars; simp only [ends, ite_true, ite_false, reduceIte, Nat.reduceEqDiff, Nat.reduceLeDiff, Nat.reduceLT, Nat.reduceAdd, reduceCtorEq, num, boo, ints, tapeO, aV, aX])) ?_ (by simp only [ends, ite_true, ite_false, reduceIte, Nat.reduceEqDiff, Nat.reduceLeDiff, Nat.reduceLT, Nat.reduceAdd, reduceCtorEq, num, boo, ints, tapeO, aV, aX])
      · rw [← hr]; rw [hM]; simp [mkM, aE_eq, Ex.op, Ex.type, Ex.num, Ex.text, Ex.col, Ex.kids]
      · rw [← hr2, hM]; simp [mkM, ends, ite_true, ite_false, reduceIte, Nat.reduceEqDiff, Nat.reduceLeDiff, Nat.reduceLT, Nat.reduceAdd, reduceCtorEq, num, boo, ints, tapeO, aV, aX]
end Go.Proofs.Ytcpaofpnabiggaa

namespace Go.Proofs.Ytcpaofpnabiggaa
open Go.Am
set_option linter.unusedVariables false
set_option linter.unusedSimpArgs false
set_option maxRecDepth 100000
set_option maxHeartbeats 4000000

def opM (xs : List Int) (f : Int → Nat → Ex × Nat) (typ : Int) (p : Nat) : Ex × Nat :=
  if typ = 1 then
    let n := drawn xs p 9
    if n = 5 then mkM f 11 [1] (p + 1)
    else if n = 6 then mkM f 13 [3] (p + 1)
    else if n = 7 then mkM f 26 [2, 1, 1] (p + 1)
    else if n = 8 then mkM f 27 [1, 1] (p + 1)
    else mkM f (6 + n) [1, 1] (p + 1)
  else if typ = 3 then
    let n := drawn xs p 3
    if n = 0 then mkM f 12 [3, 3] (p + 1)
    else if n = 1 then mkM f 26 [2, 3, 3] (p + 1)
    else mkM f 27 [3, 3] (p + 1)
  else boolM xs f p
def exprM (xs types : List Int) : Nat → Int → Nat → Ex × Nat
  | 0, typ, p => leafM xs types typ p
  | d + 1, typ, p => if d = 0 then leafM xs types typ p else if drawn xs p 3 = 0 then leafM xs types typ (p + 1) else opM xs (exprM xs types d) typ (p + 1)

theorem c11 {xs types : List Int} (hx : Tape xs) (ht : types.length ≤ 1000) : ∀ (d : Nat), d + 1 ≤ 10 → C11 xs types (d + 1 : Nat) (exprM xs types (d + 1))
  | 0, _ => by
    intro typ p
    refine ACall.enter mixed ttok Try.func11 rfl rfl _ Try.ntmps11 (Nat.le_of_ble_eq_true rfl) (by kernel_rfl) _ (congrArg Array.toList Try.results11) ?_
    generalize hr : aE (exprM xs types (0 + 1) typ p).1 = R
    generalize hr2 : tapeO xs (exprM xs types (0 + 1) typ p).2 = R2
    simp -implicitDefEqProofs only [argT, ↓steps, push_cast, reduceIte, Nat.reduceEqDiff, Nat.reduceAdd, Nat.reduceMul, Nat.reduceLT, Nat.reduceLeDiff, Int.reduceToNat, Int.reduceLE, Int.reduceLT, reduceCtorEq, tte, num, boo, ints, tapeO, aV, aX]
    refine bcase_intro (fun h => ?_) fun h => absurd h (by decide)
    refine callx_of [[], []] [(1000, 1000)] rfl (c14 (types := types) (typ := typ) (p := p) hx ht) (by first | (simp; done) | (simp [rowsOf_length]; done) | (simp [rowsOf_length]; omega)) (by first | (simp only [ends, ite_true, ite_false, reduceIte, Nat.reduceEqDiff, Nat.reduceLeDiff, Nat.reduceLT, Nat.reduceAdd, reduceCtorEq, num, boo, ints, tapeO, aV, aX, num, boo, str, aE_eq, aV]; done) | simp [ends, ite_true, ite_false, reduceIte, Nat.reduceEqDiff, Nat.reduceLeDiff, Nat.reduceLT, Nat.reduceAdd, reduceCtorEq, num, boo, ints, tapeO, aV, aX, num, boo, str, aE_eq, aV]) (by first | rfl | (simp only [ends, ite_true, ite_false, reduceIte, Nat.reduceEqDiff, Nat.reduceLeDiff, Nat.reduceLT, Nat.reduceAdd, reduceCtorEq, num, boo, ints, tapeO, aV, aX, num, boo, str, aE_eq, aV]; done) | simp [ends, ite_true, ite_false, reduceIte, Nat.reduceEqDiff, Nat.reduceLeDiff, Nat.reduceLT, Nat.reduceAdd, reduceCtorEq, num, boo, ints, tapeO, aV, aX, num, boo, str, aE_eq, aV]) (by simp only [ends, ite_true, ite_false, reduceIte, Nat.reduceEqDiff, Nat.reduceLeDiff, Nat.reduceLT, Nat.reduceAdd, reduceCtorEq, num, boo, ints, tapeO, aV, aX]) (by simp [idsOk, lookO, updO, ren1]) ?_
    simp -implicitDefEqProofs only [↓steps, push_cast, reduceIte, Nat.reduceEqDiff, Nat.reduceAdd, Nat.reduceMul, Nat.reduceLT, Nat.reduceLeDiff, Int.reduceToNat, Int.reduceLE, Int.reduceLT, reduceCtorEq, tte, num, boo, ints, tapeO, aV, aX]
    have hM : exprM xs types (0 + 1) typ p = leafM xs types typ p := by simp [exprM]
    refine retx_of [0, 0, 0, 0, 0, 6] rfl (by simp) (by simp) ?_ (by first | simp only [ends, ite_true, ite_false, reduceIte, Nat.reduceEqDiff, Nat.reduceLeDiff, Nat.reduceLT, Nat.reduceAdd, reduceCtorEq, num, boo, ints, tapeO, aV, aX] | (subst_vars; simp only [ends, ite_true, ite_false, reduceIte, Nat.reduceEqDiff, Nat.reduceLeDiff, Nat.reduceLT, Nat.reduceAdd, reduceCtorEq, num, boo, ints, tapeO, aV, aX])) ?_ (by simp only [ends, ite_true, ite_false, reduceIte, Nat.reduceEqDiff, Nat.reduceLeDiff, Nat.reduceLT, Nat.reduceAdd, reduceCtorEq, num, boo, ints, tapeO, aV, aX])
    · rw [← hr, hM]; simp [aE_eq]
    · rw [← hr2, hM]; simp [ends, ite_true, ite_false, reduceIte, Nat.reduceEqDiff, Nat.reduceLeDiff, Nat.reduceLT, Nat.reduceAdd, reduceCtorEq, num, boo, ints, tapeO, aV, aX]
  | e + 1, hd10 => by
    intro typ p
    have ih := c11 hx ht e (by omega)
    have ih' : C11 xs types (((e + 1 + 1 : Nat) : Int) - 1) (exprM xs types (e + 1)) := by
      rw [show ((e + 1 + 1 : Nat) : Int) - 1 = ((e + 1 : Nat) : Int) from by omega]; exact ih
    have hd : (0 : Int) < ((e + 1 + 1 : Nat) : Int) := by omega
    have hd2 : ((e + 1 + 1 : Nat) : Int) ≤ 10 := by omega
    have h9r := drawn_range xs (p + 1) (n := 9) (by omega)
    have w6 : IntKind.i64.wrap (6 + drawn xs (p + 1) 9) = 6 + drawn xs (p + 1) 9 := wrap_eq (by omega) (by omega)
    refine ACall.enter mixed ttok Try.func11 rfl rfl _ Try.ntmps11 (Nat.le_of_ble_eq_true rfl) (by kernel_rfl) _ (congrArg Array.toList Try.results11) ?_
    generalize hr : aE (exprM xs types (e + 1 + 1) typ p).1 = R
    generalize hr2 : tapeO xs (exprM xs types (e + 1 + 1) typ p).2 = R2
    simp -implicitDefEqProofs only [argT, ↓steps, push_cast, reduceIte, Nat.reduceEqDiff, Nat.reduceAdd, Nat.reduceMul, Nat.reduceLT, Nat.reduceLeDiff, Int.reduceToNat, Int.reduceLE, Int.reduceLT, reduceCtorEq, tte, num, boo, ints, tapeO, aV, aX]
    refine bcase_intro (fun h => ?_) fun h => ?_
    · simp only [decide_eq_true_eq] at h; omega
    · simp only [decide_eq_false_iff_not] at h
      refine callx_of [[], []] [(1000, 1000)] rfl (c13 (n := 3) (p := p) hx (by omega) (by omega)) (by first | (simp; done) | (simp [rowsOf_length]; done) | (simp [rowsOf_length]; omega)) (by first | (simp only [ends, ite_true, ite_false, reduceIte, Nat.reduceEqDiff, Nat.reduceLeDiff, Nat.reduceLT, Nat.reduceAdd, reduceCtorEq, num, boo, ints, tapeO, aV, aX, num, boo, str, aE_eq, aV]; done) | simp [ends, ite_true, ite_false, reduceIte, Nat.reduceEqDiff, Nat.reduceLeDiff, Nat.reduceLT, Nat.reduceAdd, reduceCtorEq, num, boo, ints, tapeO, aV, aX, num, boo, str, aE_eq, aV]) (by first | rfl | (simp only [ends, ite_true, ite_false, reduceIte, Nat.reduceEqDiff, Nat.reduceLeDiff, Nat.reduceLT, Nat.reduceAdd, reduceCtorEq, num, boo, ints, tapeO, aV, aX, num, boo, str, aE_eq, aV]; done) | simp [ends, ite_true, ite_false, reduceIte, Nat.reduceEqDiff, Nat.reduceLeDiff, Nat.reduceLT, Nat.reduceAdd, reduceCtorEq, num, boo, ints, tapeO, aV, aX, num, boo, str, aE_eq, aV]) (by simp only [ends, ite_true, ite_false, reduceIte, Nat.reduceEqDiff, Nat.reduceLeDiff, Nat.reduceLT, Nat.reduceAdd, reduceCtorEq, num, boo, ints, tapeO, aV, aX]) (by simp [idsOk, lookO, updO, ren1]) ?_
      simp -implicitDefEqProofs only [↓steps, push_cast, reduceIte, Nat.reduceEqDiff, Nat.reduceAdd, Nat.reduceMul, Nat.reduceLT, Nat.reduceLeDiff, Int.reduceToNat, Int.reduceLE, Int.reduceLT, reduceCtorEq, tte, num, boo, ints, tapeO, aV, aX]
      refine bcase_intro (fun h1 => ?_) fun h1 => bcase_intro (fun h2 => ?_) fun h2 => bcase_intro (fun h3 => ?_) fun h3 => ?_
      · simp only [beq_iff_eq] at h1
        refine callx_of [[], []] [(1000, 1000)] rfl (c14 (types := types) (typ := typ) (p := p + 1) hx ht) (by first | (simp; done) | (simp [rowsOf_length]; done) | (simp [rowsOf_length]; omega)) (by first | (simp only [ends, ite_true, ite_false, reduceIte, Nat.reduceEqDiff, Nat.reduceLeDiff, Nat.reduceLT, Nat.reduceAdd, reduceCtorEq, num, boo, ints, tapeO, aV, aX, num, boo, str, aE_eq, aV]; done) | simp [ends, ite_true, ite_false, reduceIte, Nat.reduceEqDiff, Nat.reduceLeDiff, Nat.reduceLT, Nat.reduceAdd, reduceCtorEq, num, boo, ints, tapeO, aV, aX, num, boo, str, aE_eq, aV]) (by first | rfl | (simp only [ends, ite_true, ite_false, reduceIte, Nat.reduceEqDiff, Nat.reduceLeDiff, Nat.reduceLT, Nat.reduceAdd, reduceCtorEq, num, boo, ints, tapeO, aV, aX, num, boo, str, aE_eq, aV]; done) | simp [ends, ite_true, ite_false, reduceIte, Nat.reduceEqDiff, Nat.reduceLeDiff, Nat.reduceLT, Nat.reduceAdd, reduceCtorEq, num, boo, ints, tapeO, aV, aX, num, boo, str, aE_eq, aV]) (by simp only [ends, ite_true, ite_false, reduceIte, Nat.reduceEqDiff, Nat.reduceLeDiff, Nat.reduceLT, Nat.reduceAdd, reduceCtorEq, num, boo, ints, tapeO, aV, aX]) (by simp [idsOk, lookO, updO, ren1]) ?_
        simp -implicitDefEqProofs only [↓steps, push_cast, reduceIte, Nat.reduceEqDiff, Nat.reduceAdd, Nat.reduceMul, Nat.reduceLT, Nat.reduceLeDiff, Int.reduceToNat, Int.reduceLE, Int.reduceLT, reduceCtorEq, tte, num, boo, ints, tapeO, aV, aX]
        have hM : exprM xs types (e + 1 + 1) typ p = leafM xs types typ (p + 1) := by simp only [exprM]; rw [if_neg (by omega), if_pos h1]
        refine retx_of [0, 0, 0, 0, 0, 6] rfl (by simp) (by simp) ?_ (by first | simp only [ends, ite_true, ite_false, reduceIte, Nat.reduceEqDiff, Nat.reduceLeDiff, Nat.reduceLT, Nat.reduceAdd, reduceCtorEq, num, boo, ints, tapeO, aV, aX] | (subst_vars; simp only [ends, ite_true, ite_false, reduceIte, Nat.reduceEqDiff, Nat.reduceLeDiff, Nat.reduceLT, Nat.reduceAdd, reduceCtorEq, num, boo, ints, tapeO, aV, aX])) ?_ (by simp only [ends, ite_true, ite_false, reduceIte, Nat.reduceEqDiff, Nat.reduceLeDiff, Nat.reduceLT, Nat.reduceAdd, reduceCtorEq, num, boo, ints, tapeO, aV, aX])
        · rw [← hr, hM]; simp [aE_eq]
        · rw [← hr2, hM]; simp [ends, ite_true, ite_false, reduceIte, Nat.reduceEqDiff, Nat.reduceLeDiff, Nat.reduceLT, Nat.reduceAdd, reduceCtorEq, num, boo, ints, tapeO, aV, aX]
      · simp only [beq_iff_eq, beq_eq_false_iff_ne] at h1 h2
        refine callx_of [[], []] [(1000, 1000)] rfl (c13 (n := 9) (p := p + 1) hx (by omega) (by omega)) (by first | (simp; done) | (simp [rowsOf_length]; done) | (simp [rowsOf_length]; omega)) (by first | (simp only [ends, ite_true, ite_false, reduceIte, Nat.reduceEqDiff, Nat.reduceLeDiff, Nat.reduceLT, Nat.reduceAdd, reduceCtorEq, num, boo, ints, tapeO, aV, aX, num, boo, str, aE_eq, aV]; done) | simp [ends, ite_true, ite_false, reduceIte, Nat.reduceEqDiff, Nat.reduceLeDiff, Nat.reduceLT, Nat.reduceAdd, reduceCtorEq, num, boo, ints, tapeO, aV, aX, num, boo, str, aE_eq, aV]) (by first | rfl | (simp only [ends, ite_true, ite_false, reduceIte, Nat.reduceEqDiff, Nat.reduceLeDiff, Nat.reduceLT, Nat.reduceAdd, reduceCtorEq, num, boo, ints, tapeO, aV, aX, num, boo, str, aE_eq, aV]; done) | simp [ends, ite_true, ite_false, reduceIte, Nat.reduceEqDiff, Nat.reduceLeDiff, Nat.reduceLT, Nat.reduceAdd, reduceCtorEq, num, boo, ints, tapeO, aV, aX, num, boo, str, aE_eq, aV]) (by simp only [ends, ite_true, ite_false, reduceIte, Nat.reduceEqDiff, Nat.reduceLeDiff, Nat.reduceLT, Nat.reduceAdd, reduceCtorEq, num, boo, ints, tapeO, aV, aX]) (by simp [idsOk, lookO, updO, ren1]) ?_
        simp -implicitDefEqProofs only [↓steps, push_cast, reduceIte, Nat.reduceEqDiff, Nat.reduceAdd, Nat.reduceMul, Nat.reduceLT, Nat.reduceLeDiff, Int.reduceToNat, Int.reduceLE, Int.reduceLT, reduceCtorEq, tte, num, boo, ints, tapeO, aV, aX]
        simp only [w6]
        refine bcase_intro (fun a1 => ?_) fun a1 => bcase_intro (fun a2 => ?_) fun a2 => bcase_intro (fun a3 => ?_) fun a3 => bcase_intro (fun a4 => ?_) fun a4 => ?_ <;> simp only [beq_iff_eq, beq_eq_false_iff_ne] at a1 <;> (try simp only [beq_iff_eq, beq_eq_false_iff_ne] at a2) <;> (try simp only [beq_iff_eq, beq_eq_false_iff_ne] at a3) <;> (try simp only [beq_iff_eq, beq_eq_false_iff_ne] at a4)
        · refine callx_of [[], [], [], []] [(1000, 1000)] rfl (c15 ih' hx hd hd2 (11) [1] (by simp) (p + 1 + 1)) (by first | (simp; done) | (simp [rowsOf_length]; done) | (simp [rowsOf_length]; omega)) (by first | (simp only [ends, ite_true, ite_false, reduceIte, Nat.reduceEqDiff, Nat.reduceLeDiff, Nat.reduceLT, Nat.reduceAdd, reduceCtorEq, num, boo, ints, tapeO, aV, aX, num, boo, str, aE_eq, aV]; done) | simp [ends, ite_true, ite_false, reduceIte, Nat.reduceEqDiff, Nat.reduceLeDiff, Nat.reduceLT, Nat.reduceAdd, reduceCtorEq, num, boo, ints, tapeO, aV, aX, num, boo, str, aE_eq, aV]) (by first | rfl | (simp only [ends, ite_true, ite_false, reduceIte, Nat.reduceEqDiff, Nat.reduceLeDiff, Nat.reduceLT, Nat.reduceAdd, reduceCtorEq, num, boo, ints, tapeO, aV, aX, num, boo, str, aE_eq, aV]; done) | simp [ends, ite_true, ite_false, reduceIte, Nat.reduceEqDiff, Nat.reduceLeDiff, Nat.reduceLT, Nat.reduceAdd, reduceCtorEq, num, boo, ints, tapeO, aV, aX, num, boo, str, aE_eq, aV]) (by simp only [ends, ite_true, ite_false, reduceIte, Nat.reduceEqDiff, Nat.reduceLeDiff, Nat.reduceLT, Nat.reduceAdd, reduceCtorEq, num, boo, ints, tapeO, aV, aX]) (by simp [idsOk, lookO, updO, ren1]) ?_
          simp -implicitDefEqProofs only [↓steps, push_cast, reduceIte, Nat.reduceEqDiff, Nat.reduceAdd, Nat.reduceMul, Nat.reduceLT, Nat.reduceLeDiff, Int.reduceToNat, Int.reduceLE, Int.reduceLT, reduceCtorEq, tte, num, boo, ints, tapeO, aV, aX]
          have hM : exprM xs types (e + 1 + 1) typ p = mkM (exprM xs types (e + 1)) (11) [1] (p + 1 + 1) := by simp only [exprM, opM]; rw [if_neg (by omega), if_neg h1, if_pos h2, if_pos a1]
          refine retx_of [0, 0, 0, 0, 0, 6] rfl (by simp) (by simp) ?_ (by first | simp only [ends, ite_true, ite_false, reduceIte, Nat.reduceEqDiff, Nat.reduceLeDiff, Nat.reduceLT, Nat.reduceAdd, reduceCtorEq, num, boo, ints, tapeO, aV, aX] | (subst_vars; simp only [ends, ite_true, ite_false, reduceIte, Nat.reduceEqDiff, Nat.reduceLeDiff, Nat.reduceLT, Nat.reduceAdd, reduceCtorEq, num, boo, ints, tapeO, aV, aX])) ?_ (by simp only [ends, ite_true, ite_false, reduceIte, Nat.reduceEqDiff, Nat.reduceLeDiff, Nat.reduceLT, Nat.reduceAdd, reduceCtorEq, num, boo, ints, tapeO, aV, aX])
          · rw [← hr, hM]; simp [mkM, aE_eq, Ex.op, Ex.type, Ex.num, Ex.text, Ex.col, Ex.kids]
          · rw [← hr2, hM]; simp [mkM, ends, ite_true, ite_false, reduceIte, Nat.reduceEqDiff, Nat.reduceLeDiff, Nat.reduceLT, Nat.reduceAdd, reduceCtorEq, num, boo, ints, tapeO, aV, aX]
        · refine callx_of [[], [], [], []] [(1000, 1000)] rfl (c15 ih' hx hd hd2 (13) [3] (by simp) (p + 1 + 1)) (by first | (simp; done) | (simp [rowsOf_length]; done) | (simp [rowsOf_length]; omega)) (by first | (simp only [ends, ite_true, ite_false, reduceIte, Nat.reduceEqDiff, Nat.reduceLeDiff, Nat.reduceLT, Nat.reduceAdd, reduceCtorEq, num, boo, ints, tapeO, aV, aX, num, boo, str, aE_eq, aV]; done) | simp [ends, ite_true, ite_false, reduceIte, Nat.reduceEqDiff, Nat.reduceLeDiff, Nat.reduceLT, Nat.reduceAdd, reduceCtorEq, num, boo, ints, tapeO, aV, aX, num, boo, str, aE_eq, aV]) (by first | rfl | (simp only [ends, ite_true, ite_false, reduceIte, Nat.reduceEqDiff, Nat.reduceLeDiff, Nat.reduceLT, Nat.reduceAdd, reduceCtorEq, num, boo, ints, tapeO, aV, aX, num, boo, str, aE_eq, aV]; done) | simp [ends, ite_true, ite_false, reduceIte, Nat.reduceEqDiff, Nat.reduceLeDiff, Nat.reduceLT, Nat.reduceAdd, reduceCtorEq, num, boo, ints, tapeO, aV, aX, num, boo, str, aE_eq, aV]) (by simp only [ends, ite_true, ite_false, reduceIte, Nat.reduceEqDiff, Nat.reduceLeDiff, Nat.reduceLT, Nat.reduceAdd, reduceCtorEq, num, boo, ints, tapeO, aV, aX]) (by simp [idsOk, lookO, updO, ren1]) ?_
          simp -implicitDefEqProofs only [↓steps, push_cast, reduceIte, Nat.reduceEqDiff, Nat.reduceAdd, Nat.reduceMul, Nat.reduceLT, Nat.reduceLeDiff, Int.reduceToNat, Int.reduceLE, Int.reduceLT, reduceCtorEq, tte, num, boo, ints, tapeO, aV, aX]
          have hM : exprM xs types (e + 1 + 1) typ p = mkM (exprM xs types (e + 1)) (13) [3] (p + 1 + 1) := by simp only [exprM, opM]; rw [if_neg (by omega), if_neg h1, if_pos h2, if_neg a1, if_pos a2]
          refine retx_of [0, 0, 0, 0, 0, 6] rfl (by simp) (by simp) ?_ (by first | simp only [ends, ite_true, ite_false, reduceIte, Nat.reduceEqDiff, Nat.reduceLeDiff, Nat.reduceLT, Nat.reduceAdd, reduceCtorEq, num, boo, ints, tapeO, aV, aX] | (subst_vars; simp only [ends, ite_true, ite_false, reduceIte, Nat.reduceEqDiff, Nat.reduceLeDiff, Nat.reduceLT, Nat.reduceAdd, reduceCtorEq, num, boo, ints, tapeO, aV, aX])) ?_ (by simp only [ends, ite_true, ite_false, reduceIte, Nat.reduceEqDiff, Nat.reduceLeDiff, Nat.reduceLT, Nat.reduceAdd, reduceCtorEq, num, boo, ints, tapeO, aV, aX])
          · rw [← hr, hM]; simp [mkM, aE_eq, Ex.op, Ex.type, Ex.num, Ex.text, Ex.col, Ex.kids]
          · rw [← hr2, hM]; simp [mkM, ends, ite_true, ite_false, reduceIte, Nat.reduceEqDiff, Nat.reduceLeDiff, Nat.reduceLT, Nat.reduceAdd, reduceCtorEq, num, boo, ints, tapeO, aV, aX]
        · refine callx_of [[], [], [], []] [(1000, 1000)] rfl (c15 ih' hx hd hd2 (26) [2, 1, 1] (by simp) (p + 1 + 1)) (by first | (simp; done) | (simp [rowsOf_length]; done) | (simp [rowsOf_length]; omega)) (by first | (simp only [ends, ite_true, ite_false, reduceIte, Nat.reduceEqDiff, Nat.reduceLeDiff, Nat.reduceLT, Nat.reduceAdd, reduceCtorEq, num, boo, ints, tapeO, aV, aX, num, boo, str, aE_eq, aV]; done) | simp [ends, ite_true, ite_false, reduceIte, Nat.reduceEqDiff, Nat.reduceLeDiff, Nat.reduceLT, Nat.reduceAdd, reduceCtorEq, num, boo, ints, tapeO, aV, aX, num, boo, str, aE_eq, aV]) (by first | rfl | (simp only [ends, ite_true, ite_false, reduceIte, Nat.reduceEqDiff, Nat.reduceLeDiff, Nat.reduceLT, Nat.reduceAdd, reduceCtorEq, num, boo, ints, tapeO, aV, aX, num, boo, str, aE_eq, aV]; done) | simp [ends, ite_true, ite_false, reduceIte, Nat.reduceEqDiff, Nat.reduceLeDiff, Nat.reduceLT, Nat.reduceAdd, reduceCtorEq, num, boo, ints, tapeO, aV, aX, num, boo, str, aE_eq, aV]) (by simp only [ends, ite_true, ite_false, reduceIte, Nat.reduceEqDiff, Nat.reduceLeDiff, Nat.reduceLT, Nat.reduceAdd, reduceCtorEq, num, boo, ints, tapeO, aV, aX]) (by simp [idsOk, lookO, updO, ren1]) ?_
          simp -implicitDefEqProofs only [↓steps, push_cast, reduceIte, Nat.reduceEqDiff, Nat.reduceAdd, Nat.reduceMul, Nat.reduceLT, Nat.reduceLeDiff, Int.reduceToNat, Int.reduceLE, Int.reduceLT, reduceCtorEq, tte, num, boo, ints, tapeO, aV, aX]
          have hM : exprM xs types (e + 1 + 1) typ p = mkM (exprM xs types (e + 1)) (26) [2, 1, 1] (p + 1 + 1) := by simp only [exprM, opM]; rw [if_neg (by omega), if_neg h1, if_pos h2, if_neg a1, if_neg a2, if_pos a3]
          refine retx_of [0, 0, 0, 0, 0, 6] rfl (by simp) (by simp) ?_ (by first | simp only [ends, ite_true, ite_false, reduceIte, Nat.reduceEqDiff, Nat.reduceLeDiff, Nat.reduceLT, Nat.reduceAdd, reduceCtorEq, num, boo, ints, tapeO, aV, aX] | (subst_vars; simp only [ends, ite_true, ite_false, reduceIte, Nat.reduceEqDiff, Nat.reduceLeDiff, Nat.reduceLT, Nat.reduceAdd, reduceCtorEq, num, boo, ints, tapeO, aV, aX])) ?_ (by simp only [ends, ite_true, ite_false, reduceIte, Nat.reduceEqDiff, Nat.reduceLeDiff, Nat.reduceLT, Nat.reduceAdd, reduceCtorEq, num, boo, ints, tapeO, aV, aX])
          · rw [← hr, hM]; simp [mkM, aE_eq, Ex.op, Ex.type, Ex.num, Ex.text, Ex.col, Ex.kids]
          · rw [← hr2, hM]; simp [mkM, ends, ite_true, ite_false, reduceIte, Nat.reduceEqDiff, Nat.reduceLeDiff, Nat.reduceLT, Nat.reduceAdd, reduceCtorEq, num, boo, ints, tapeO, aV, aX]
        · refine callx_of [[], [], [], []] [(1000, 1000)] rfl (c15 ih' hx hd hd2 (27) [1, 1] (by simp) (p + 1 + 1)) (by first | (simp; done) | (simp [rowsOf_length]; done) | (simp [rowsOf_length]; omega)) (by first | (simp only [ends, ite_true, ite_false, reduceIte, Nat.reduceEqDiff, Nat.reduceLeDiff, Nat.reduceLT, Nat.reduceAdd, reduceCtorEq, num, boo, ints, tapeO, aV, aX, num, boo, str, aE_eq, aV]; done) | simp [ends, ite_true, ite_false, reduceIte, Nat.reduceEqDiff, Nat.reduceLeDiff, Nat.reduceLT, Nat.reduceAdd, reduceCtorEq, num, boo, ints, tapeO, aV, aX, num, boo, str, aE_eq, aV]) (by first | rfl | (simp only [ends, ite_true, ite_false, reduceIte, Nat.reduceEqDiff, Nat.reduceLeDiff, Nat.reduceLT, Nat.reduceAdd, reduceCtorEq, num, boo, ints, tapeO, aV, aX, num, boo, str, aE_eq, aV]; done) | simp [ends, ite_true, ite_false, reduceIte, Nat.reduceEqDiff, Nat.reduceLeDiff, Nat.reduceLT, Nat.reduceAdd, reduceCtorEq, num, boo, ints, tapeO, aV, aX, num, boo, str, aE_eq, aV]) (by simp only [ends, ite_true, ite_false, reduceIte, Nat.reduceEqDiff, Nat.reduceLeDiff, Nat.reduceLT, Nat.reduceAdd, reduceCtorEq, num, boo, ints, tapeO, aV, aX]) (by simp [idsOk, lookO, updO, ren1]) ?_
          simp -implicitDefEqProofs only [↓steps, push_cast, reduceIte, Nat.reduceEqDiff, Nat.reduceAdd, Nat.reduceMul, Nat.reduceLT, Nat.reduceLeDiff, Int.reduceToNat, Int.reduceLE, Int.reduceLT, reduceCtorEq, tte, num, boo, ints, tapeO, aV, aX]
          have hM : exprM xs types (e + 1 + 1) typ p = mkM (exprM xs types (e + 1)) (27) [1, 1] (p + 1 + 1) := by simp only [exprM, opM]; rw [if_neg (by omega), if_neg h1, if_pos h2, if_neg a1, if_neg a2, if_neg a3, if_pos a4]
          refine retx_of [0, 0, 0, 0, 0, 6] rfl (by simp) (by simp) ?_ (by first | simp only [ends, ite_true, ite_false, reduceIte, Nat.reduceEqDiff, Nat.reduceLeDiff, Nat.reduceLT, Nat.reduceAdd, reduceCtorEq, num, boo, ints, tapeO, aV, aX] | (subst_vars; simp only [ends, ite_true, ite_false, reduceIte, Nat.reduceEqDiff, Nat.reduceLeDiff, Nat.reduceLT, Nat.reduceAdd, reduceCtorEq, num, boo, ints, tapeO, aV, aX])) ?_ (by simp only [ends, ite_true, ite_false, reduceIte, Nat.reduceEqDiff, Nat.reduceLeDiff, Nat.reduceLT, Nat.reduceAdd, reduceCtorEq, num, boo, ints, tapeO, aV, aX])
          · rw [← hr, hM]; simp [mkM, aE_eq, Ex.op, Ex.type, Ex.num, Ex.text, Ex.col, Ex.kids]
          · rw [← hr2, hM]; simp [mkM, ends, ite_true, ite_false, reduceIte, Nat.reduceEqDiff, Nat.reduceLeDiff, Nat.reduceLT, Nat.reduceAdd, reduceCtorEq, num, boo, ints, tapeO, aV, aX]
        · refine callx_of [[], [], [], []] [(1000, 1000)] rfl (c15 ih' hx hd hd2 (6 + drawn xs (p + 1) 9) [1, 1] (by simp) (p + 1 + 1)) (by first | (simp; done) | (simp [rowsOf_length]; done) | (simp [rowsOf_length]; omega)) (by first | (simp only [ends, ite_true, ite_false, reduceIte, Nat.reduceEqDiff, Nat.reduceLeDiff, Nat.reduceLT, Nat.reduceAdd, reduceCtorEq, num, boo, ints, tapeO, aV, aX, num, boo, str, aE_eq, aV]; done) | simp [ends, ite_true, ite_false, reduceIte, Nat.reduceEqDiff, Nat.reduceLeDiff, Nat.reduceLT, Nat.reduceAdd, reduceCtorEq, num, boo, ints, tapeO, aV, aX, num, boo, str, aE_eq, aV]) (by first | rfl | (simp only [ends, ite_true, ite_false, reduceIte, Nat.reduceEqDiff, Nat.reduceLeDiff, Nat.reduceLT, Nat.reduceAdd, reduceCtorEq, num, boo, ints, tapeO, aV, aX, num, boo, str, aE_eq, aV]; done) | simp [ends, ite_true, ite_false, reduceIte, Nat.reduceEqDiff, Nat.reduceLeDiff, Nat.reduceLT, Nat.reduceAdd, reduceCtorEq, num, boo, ints, tapeO, aV, aX, num, boo, str, aE_eq, aV]) (by simp only [ends, ite_true, ite_false, reduceIte, Nat.reduceEqDiff, Nat.reduceLeDiff, Nat.reduceLT, Nat.reduceAdd, reduceCtorEq, num, boo, ints, tapeO, aV, aX]) (by simp [idsOk, lookO, updO, ren1]) ?_
          simp -implicitDefEqProofs only [↓steps, push_cast, reduceIte, Nat.reduceEqDiff, Nat.reduceAdd, Nat.reduceMul, Nat.reduceLT, Nat.reduceLeDiff, Int.reduceToNat, Int.reduceLE, Int.reduceLT, reduceCtorEq, tte, num, boo, ints, tapeO, aV, aX]
          have hM : exprM xs types (e + 1 + 1) typ p = mkM (exprM xs types (e + 1)) (6 + drawn xs (p + 1) 9) [1, 1] (p + 1 + 1) := by simp only [exprM, opM]; rw [if_neg (by omega), if_neg h1, if_pos h2, if_neg a1, if_neg a2, if_neg a3, if_neg a4]
          refine retx_of [0, 0, 0, 0, 0, 6] rfl (by simp) (by simp) ?_ (by first | simp only [ends, ite_true, ite_false, reduceIte, Nat.reduceEqDiff, Nat.reduceLeDiff, Nat.reduceLT, Nat.reduceAdd, reduceCtorEq, num, boo, ints, tapeO, aV, aX] | (subst_vars; simp only [ends, ite_true, ite_false, reduceIte, Nat.reduceEqDiff, Nat.reduceLeDiff, Nat.reduceLT, Nat.reduceAdd, reduceCtorEq, num, boo, ints, tapeO, aV, aX])) ?_ (by simp only [ends, ite_true, ite_false, reduceIte, Nat.reduceEqDiff, Nat.reduceLeDiff, Nat.reduceLT, Nat.reduceAdd, reduceCtorEq, num, boo, ints, tapeO, aV, aX])
          · rw [← hr, hM]; simp [mkM, aE_eq, Ex.op, Ex.type, Ex.num, Ex.text, Ex.col, Ex.kids]
          · rw [← hr2, hM]; simp [mkM, ends, ite_true, ite_false, reduceIte, Nat.reduceEqDiff, Nat.reduceLeDiff, Nat.reduceLT, Nat.reduceAdd, reduceCtorEq, num, boo, ints, tapeO, aV, aX]
      · simp only [beq_iff_eq, beq_eq_false_iff_ne] at h1 h2 h3
        refine callx_of [[], []] [(1000, 1000)] rfl (c13 (n := 3) (p := p + 1) hx (by omega) (by omega)) (by first | (simp; done) | (simp [rowsOf_length]; done) | (simp [rowsOf_length]; omega)) (by first | (simp only [ends, ite_true, ite_false, reduceIte, Nat.reduceEqDiff, Nat.reduceLeDiff, Nat.reduceLT, Nat.reduceAdd, reduceCtorEq, num, boo, ints, tapeO, aV, aX, num, boo, str, aE_eq, aV]; done) | simp [ends, ite_true, ite_false, reduceIte, Nat.reduceEqDiff, Nat.reduceLeDiff, Nat.reduceLT, Nat.reduceAdd, reduceCtorEq, num, boo, ints, tapeO, aV, aX, num, boo, str, aE_eq, aV]) (by first | rfl | (simp only [ends, ite_true, ite_false, reduceIte, Nat.reduceEqDiff, Nat.reduceLeDiff, Nat.reduceLT, Nat.reduceAdd, reduceCtorEq, num, boo, ints, tapeO, aV, aX, num, boo, str, aE_eq, aV]; done) | simp [ends, ite_true, ite_false, reduceIte, Nat.reduceEqDiff, Nat.reduceLeDiff, Nat.reduceLT, Nat.reduceAdd, reduceCtorEq, num, boo, ints, tapeO, aV, aX, num, boo, str, aE_eq, aV]) (by simp only [ends, ite_true, ite_false, reduceIte, Nat.reduceEqDiff, Nat.reduceLeDiff, Nat.reduceLT, Nat.reduceAdd, reduceCtorEq, num, boo, ints, tapeO, aV, aX]) (by simp [idsOk, lookO, updO, ren1]) ?_
        simp -implicitDefEqProofs only [↓steps, push_cast, reduceIte, Nat.reduceEqDiff, Nat.reduceAdd, Nat.reduceMul, Nat.reduceLT, Nat.reduceLeDiff, Int.reduceToNat, Int.reduceLE, Int.reduceLT, reduceCtorEq, tte, num, boo, ints, tapeO, aV, aX]
        refine bcase_intro (fun a1 => ?_) fun a1 => bcase_intro (fun a2 => ?_) fun a2 => ?_ <;> simp only [beq_iff_eq, beq_eq_false_iff_ne] at a1 <;> (try simp only [beq_iff_eq, beq_eq_false_iff_ne] at a2)
        · refine callx_of [[], [], [], []] [(1000, 1000)] rfl (c15 ih' hx hd hd2 (12) [3, 3] (by simp) (p + 1 + 1)) (by first | (simp; done) | (simp [rowsOf_length]; done) | (simp [rowsOf_length]; omega)) (by first | (simp only [ends, ite_true, ite_false, reduceIte, Nat.reduceEqDiff, Nat.reduceLeDiff, Nat.reduceLT, Nat.reduceAdd, reduceCtorEq, num, boo, ints, tapeO, aV, aX, num, boo, str, aE_eq, aV]; done) | simp [ends, ite_true, ite_false, reduceIte, Nat.reduceEqDiff, Nat.reduceLeDiff, Nat.reduceLT, Nat.reduceAdd, reduceCtorEq, num, boo, ints, tapeO, aV, aX, num, boo, str, aE_eq, aV]) (by first | rfl | (simp only [ends, ite_true, ite_false, reduceIte, Nat.reduceEqDiff, Nat.reduceLeDiff, Nat.reduceLT, Nat.reduceAdd, reduceCtorEq, num, boo, ints, tapeO, aV, aX, num, boo, str, aE_eq, aV]; done) | simp [ends, ite_true, ite_false, reduceIte, Nat.reduceEqDiff, Nat.reduceLeDiff, Nat.reduceLT, Nat.reduceAdd, reduceCtorEq, num, boo, ints, tapeO, aV, aX, num, boo, str, aE_eq, aV]) (by simp only [ends, ite_true, ite_false, reduceIte, Nat.reduceEqDiff, Nat.reduceLeDiff, Nat.reduceLT, Nat.reduceAdd, reduceCtorEq, num, boo, ints, tapeO, aV, aX]) (by simp [idsOk, lookO, updO, ren1]) ?_
          simp -implicitDefEqProofs only [↓steps, push_cast, reduceIte, Nat.reduceEqDiff, Nat.reduceAdd, Nat.reduceMul, Nat.reduceLT, Nat.reduceLeDiff, Int.reduceToNat, Int.reduceLE, Int.reduceLT, reduceCtorEq, tte, num, boo, ints, tapeO, aV, aX]
          have hM : exprM xs types (e + 1 + 1) typ p = mkM (exprM xs types (e + 1)) (12) [3, 3] (p + 1 + 1) := by simp only [exprM, opM]; rw [if_neg (by omega), if_neg h1, if_neg h2, if_pos h3, if_pos a1]
          refine retx_of [0, 0, 0, 0, 0, 6] rfl (by simp) (by simp) ?_ (by first | simp only [ends, ite_true, ite_false, reduceIte, Nat.reduceEqDiff, Nat.reduceLeDiff, Nat.reduceLT, Nat.reduceAdd, reduceCtorEq, num, boo, ints, tapeO, aV, aX] | (subst_vars; simp only [ends, ite_true, ite_false, reduceIte, Nat.reduceEqDiff, Nat.reduceLeDiff, Nat.reduceLT, Nat.reduceAdd, reduceCtorEq, num, boo, ints, tapeO, aV, aX])) ?_ (by simp only [ends, ite_true, ite_false, reduceIte, Nat.reduceEqDiff, Nat.reduceLeDiff, Nat.reduceLT, Nat.reduceAdd, reduceCtorEq, num, boo, ints, tapeO, aV, aX])
          · rw [← hr, hM]; simp [mkM, aE_eq, Ex.op, Ex.type, Ex.num, Ex.text, Ex.col, Ex.kids]
          · rw [← hr2, hM]; simp [mkM, ends, ite_true, ite_false, reduceIte, Nat.reduceEqDiff, Nat.reduceLeDiff, Nat.reduceLT, Nat.reduceAdd, reduceCtorEq, num, boo, ints, tapeO, aV, aX]
        · refine callx_of [[], [], [], []] [(1000, 1000)] rfl (c15 ih' hx hd hd2 (26) [2, 3, 3] (by simp) (p + 1 + 1)) (by first | (simp; done) | (simp [rowsOf_length]; done) | (simp [rowsOf_length]; omega)) (by first | (simp only [ends, ite_true, ite_false, reduceIte, Nat.reduceEqDiff, Nat.reduceLeDiff, Nat.reduceLT, Nat.reduceAdd, reduceCtorEq, num, boo, ints, tapeO, aV, aX, num, boo, str, aE_eq, aV]; done) | simp [ends, ite_true, ite_false, reduceIte, Nat.reduceEqDiff, Nat.reduceLeDiff, Nat.reduceLT, Nat.reduceAdd, reduceCtorEq, num, boo, ints, tapeO, aV, aX, num, boo, str, aE_eq, aV]) (by first | rfl | (simp only [ends, ite_true, ite_false, reduceIte, Nat.reduceEqDiff, Nat.reduceLeDiff, Nat.reduceLT, Nat.reduceAdd, reduceCtorEq, num, boo, ints, tapeO, aV, aX, num, boo, str, aE_eq, aV]; done) | simp [ends, ite_true, ite_false, reduceIte, Nat.reduceEqDiff, Nat.reduceLeDiff, Nat.reduceLT, Nat.reduceAdd, reduceCtorEq, num, boo, ints, tapeO, aV, aX, num, boo, str, aE_eq, aV]) (by simp only [ends, ite_true, ite_false, reduceIte, Nat.reduceEqDiff, Nat.reduceLeDiff, Nat.reduceLT, Nat.reduceAdd, reduceCtorEq, num, boo, ints, tapeO, aV, aX]) (by simp [idsOk, lookO, updO, ren1]) ?_
          simp -implicitDefEqProofs only [↓steps, push_cast, reduceIte, Nat.reduceEqDiff, Nat.reduceAdd, Nat.reduceMul, Nat.reduceLT, Nat.reduceLeDiff, Int.reduceToNat, Int.reduceLE, Int.reduceLT, reduceCtorEq, tte, num, boo, ints, tapeO, aV, aX]
          have hM : exprM xs types (e + 1 + 1) typ p = mkM (exprM xs types (e + 1)) (26) [2, 3, 3] (p + 1 + 1) := by simp only [exprM, opM]; rw [if_neg (by omega), if_neg h1, if_neg h2, if_pos h3, if_neg a1, if_pos a2]
          refine retx_of [0, 0, 0, 0, 0, 6] rfl (by simp) (by simp) ?_ (by first | simp only [ends, ite_true, ite_false, reduceIte, Nat.reduceEqDiff, Nat.reduceLeDiff, Nat.reduceLT, Nat.reduceAdd, reduceCtorEq, num, boo, ints, tapeO, aV, aX] | (subst_vars; simp only [ends, ite_true, ite_false, reduceIte, Nat.reduceEqDiff, Nat.reduceLeDiff, Nat.reduceLT, Nat.reduceAdd, reduceCtorEq, num, boo, ints, tapeO, aV, aX])) ?_ (by simp only [ends, ite_true, ite_false, reduceIte, Nat.reduceEqDiff, Nat.reduceLeDiff, Nat.reduceLT, Nat.reduceAdd, reduceCtorEq, num, boo, ints, tapeO, aV, aX])
          · rw [← hr, hM]; simp [mkM, aE_eq, Ex.op, Ex.type, Ex.num, Ex.text, Ex.col, Ex.kids]
          · rw [← hr2, hM]; simp [mkM, ends, ite_true, ite_false, reduceIte, Nat.reduceEqDiff, Nat.reduceLeDiff, Nat.reduceLT, Nat.reduceAdd, reduceCtorEq, num, boo, ints, tapeO, aV, aX]
        · refine callx_of [[], [], [], []] [(1000, 1000)] rfl (c15 ih' hx hd hd2 (27) [3, 3] (by simp) (p + 1 + 1)) (by first | (simp; done) | (simp [rowsOf_length]; done) | (simp [rowsOf_length]; omega)) (by first | (simp only [ends, ite_true, ite_false, reduceIte, Nat.reduceEqDiff, Nat.reduceLeDiff, Nat.reduceLT, Nat.reduceAdd, reduceCtorEq, num, boo, ints, tapeO, aV, aX, num, boo, str, aE_eq, aV]; done) | simp [ends, ite_true, ite_false, reduceIte, Nat.reduceEqDiff, Nat.reduceLeDiff, Nat.reduceLT, Nat.reduceAdd, reduceCtorEq, num, boo, ints, tapeO, aV, aX, num, boo, str, aE_eq, aV]) (by first | rfl | (simp only [ends, ite_true, ite_false, reduceIte, Nat.reduceEqDiff, Nat.reduceLeDiff, Nat.reduceLT, Nat.reduceAdd, reduceCtorEq, num, boo, ints, tapeO, aV, aX, num, boo, str, aE_eq, aV]; done) | simp [ends, ite_true, ite_false, reduceIte, Nat.reduceEqDiff, Nat.reduceLeDiff, Nat.reduceLT, Nat.reduceAdd, reduceCtorEq, num, boo, ints, tapeO, aV, aX, num, boo, str, aE_eq, aV]) (by simp only [ends, ite_true, ite_false, reduceIte, Nat.reduceEqDiff, Nat.reduceLeDiff, Nat.reduceLT, Nat.reduceAdd, reduceCtorEq, num, boo, ints, tapeO, aV, aX]) (by simp [idsOk, lookO, updO, ren1]) ?_
          simp -implicitDefEqProofs only [↓steps, push_cast, reduceIte, Nat.reduceEqDiff, Nat.reduceAdd, Nat.reduceMul, Nat.reduceLT, Nat.reduceLeDiff, Int.reduceToNat, Int.reduceLE, Int.reduceLT, reduceCtorEq, tte, num, boo, ints, tapeO, aV, aX]
          have hM : exprM xs types (e + 1 + 1) typ p = mkM (exprM xs types (e + 1)) (27) [3, 3] (p + 1 + 1) := by simp only [exprM, opM]; rw [if_neg (by omega), if_neg h1, if_neg h2, if_pos h3, if_neg a1, if_neg a2]
          refine retx_of [0, 0, 0, 0, 0, 6] rfl (by simp) (by simp) ?_ (by first | simp only [ends, ite_true, ite_false, reduceIte, Nat.reduceEqDiff, Nat.reduceLeDiff, Nat.reduceLT, Nat.reduceAdd, reduceCtorEq, num, boo, ints, tapeO, aV, aX] | (subst_vars; simp only [ends, ite_true, ite_false, reduceIte, Nat.reduceEqDiff, Nat.reduceLeDiff, Nat.reduceLT, Nat.reduceAdd, reduceCtorEq, num, boo, ints, tapeO, aV, aX])) ?_ (by simp only [ends, ite_true, ite_false, reduceIte, Nat.reduceEqDiff, Nat.reduceLeDiff, Nat.reduceLT, Nat.reduceAdd, reduceCtorEq, num, boo, ints, tapeO, aV, aX])
          · rw [← hr, hM]; simp [mkM, aE_eq, Ex.op, Ex.type, Ex.num, Ex.text, Ex.col, Ex.kids]
          · rw [← hr2, hM]; simp [mkM, ends, ite_true, ite_false, reduceIte, Nat.reduceEqDiff, Nat.reduceLeDiff, Nat.reduceLT, Nat.reduceAdd, reduceCtorEq, num, boo, ints, tapeO, aV, aX]
      · simp only [beq_iff_eq, beq_eq_false_iff_ne] at h1 h2 h3
        refine callx_of [[], []] [(1000, 1000)] rfl (c16 (xs := xs) (types := types) (f := exprM xs types (e + 1)) ih' hx hd hd2 (p + 1)) (by first | (simp; done) | (simp [rowsOf_length]; done) | (simp [rowsOf_length]; omega)) (by first | (simp only [ends, ite_true, ite_false, reduceIte, Nat.reduceEqDiff, Nat.reduceLeDiff, Nat.reduceLT, Nat.reduceAdd, reduceCtorEq, num, boo, ints, tapeO, aV, aX, num, boo, str, aE_eq, aV]; done) | simp [ends, ite_true, ite_false, reduceIte, Nat.reduceEqDiff, Nat.reduceLeDiff, Nat.reduceLT, Nat.reduceAdd, reduceCtorEq, num, boo, ints, tapeO, aV, aX, num, boo, str, aE_eq, aV]) (by first | rfl | (simp only [ends, ite_true, ite_false, reduceIte, Nat.reduceEqDiff, Nat.reduceLeDiff, Nat.reduceLT, Nat.reduceAdd, reduceCtorEq, num, boo, ints, tapeO, aV, aX, num, boo, str, aE_eq, aV]; done) | simp [ends, ite_true, ite_false, reduceIte, Nat.reduceEqDiff, Nat.reduceLeDiff, Nat.reduceLT, Nat.reduceAdd, reduceCtorEq, num, boo, ints, tapeO, aV, aX, num, boo, str, aE_eq, aV]) (by simp only [ends, ite_true, ite_false, reduceIte, Nat.reduceEqDiff, Nat.reduceLeDiff, Nat.reduceLT, Nat.reduceAdd, reduceCtorEq, num, boo, ints, tapeO, aV, aX]) (by simp [idsOk, lookO, updO, ren1]) ?_
        simp -implicitDefEqProofs only [↓steps, push_cast, reduceIte, Nat.reduceEqDiff, Nat.reduceAdd, Nat.reduceMul, Nat.reduceLT, Nat.reduceLeDiff, Int.reduceToNat, Int.reduceLE, Int.reduceLT, reduceCtorEq, tte, num, boo, ints, tapeO, aV, aX]
        have hM : exprM xs types (e + 1 + 1) typ p = boolM xs (exprM xs types (e + 1)) (p + 1) := by simp only [exprM, opM]; rw [if_neg (by omega), if_neg h1, if_neg h2, if_neg h3]
        refine retx_of [0, 0, 0, 0, 0, 6] rfl (by simp) (by simp) ?_ (by first | simp only [ends, ite_true, ite_false, reduceIte, Nat.reduceEqDiff, Nat.reduceLeDiff, Nat.reduceLT, Nat.reduceAdd, reduceCtorEq, num, boo, ints, tapeO, aV, aX] | (subst_vars; simp only [ends, ite_true, ite_false, reduceIte, Nat.reduceEqDiff, Nat.reduceLeDiff, Nat.reduceLT, Nat.reduceAdd, reduceCtorEq, num, boo, ints, tapeO, aV, aX])) ?_ (by simp only [ends, ite_true, ite_false, reduceIte, Nat.reduceEqDiff, Nat.reduceLeDiff, Nat.reduceLT, Nat.reduceAdd, reduceCtorEq, num, boo, ints, tapeO, aV, aX])
        · rw [← hr, hM]; simp [aE_eq]
        · rw [← hr2, hM]; simp [ends, ite_true, ite_false, reduceIte, Nat.reduceEqDiff, Nat.reduceLeDiff, Nat.reduceLT, Nat.reduceAdd, reduceCtorEq, num, boo, ints, tapeO, aV, aX]
end Go.Proofs.Ytcpaofpnabiggaa

namespace Go.Proofs.Ytcpaofpnabiggaa
open Go.Am
set_option linter.unusedVariables false
set_option linter.unusedSimpArgs false
set_option maxRecDepth 100000
set_option maxHeartbeats 4000000

def Known (t : Int) : Prop := (t == 1 || t == 2 || t == 3) = true

def I5 (types : List Int) (typ deep : Int) (xs : List Int) (n : Nat) : SL :=
  ⟨[(31, .d (.lit (.int .i64 n))), (30, .d (.lit (.int .i64 types.length))), (29, .d (.sl 1 (rowsOf rI types))), (8, .ptr 8 0), (0, .d (.sl 1 (rowsOf rI types))), (1, .d (.lit (.int .i64 typ))), (2, .d (.lit (.int .i64 deep))), (3, .d (.sl 1 (rowsOf rI xs)))],
   [(8, .var [.d (.lit (.int .i64 0)), .d (.lit (.int .i64 0)), .d (.lit (.int .i64 0)), .d (.lit (.string ByteArray.empty)), .d (.lit (.int .i64 0)), .snil])]⟩

theorem tape_take {xs : List Int} (hx : ∀ x ∈ xs, i64 x) : Tape (xs.take 400) := ⟨by simp; omega, fun x h => hx x (List.mem_of_mem_take h)⟩

theorem c5 {xs types : List Int} {typ : Int} {d : Nat} (hx : ∀ x ∈ xs, i64 x) (ht : types.length ≤ 24) (hk : ∀ t ∈ types, Known t) (hty : Known typ) (hd : d + 1 ≤ 6) :
    ACall Try.prog 5 [ints types, num typ, num (d + 1 : Nat), ints xs] [] (.tup [aE (exprM (xs.take 400) types (d + 1) typ 0).1, num 0]) [] := by
  refine ACall.enter mixed ttok Try.func5 rfl rfl _ Try.ntmps5 (Nat.le_of_ble_eq_true rfl) (by kernel_rfl) _ (congrArg Array.toList Try.results5) ?_
  generalize hr : aE (exprM (xs.take 400) types (d + 1) typ 0).1 = R
  unfold Known at hty
  simp -implicitDefEqProofs only [argT, ↓steps, push_cast, reduceIte, Nat.reduceEqDiff, Nat.reduceAdd, Nat.reduceMul, Nat.reduceLT, Nat.reduceLeDiff, Int.reduceToNat, Int.reduceLE, Int.reduceLT, reduceCtorEq, tte, num, boo, ints, tapeO, aV, aX]
  refine bcase_intro (fun h => ?_) fun h => ?_
  · simp only [decide_eq_true_eq] at h; omega
  refine callx_of [[]] [] rfl (c9 typ) (by first | (simp; done) | (simp [rowsOf_length]; done) | (simp [rowsOf_length]; omega)) (by first | (simp only [ends, ite_true, ite_false, reduceIte, Nat.reduceEqDiff, Nat.reduceLeDiff, Nat.reduceLT, Nat.reduceAdd, reduceCtorEq, num, boo, ints, tapeO, aV, aX, num, boo, str, aE_eq, aV]; done) | simp [ends, ite_true, ite_false, reduceIte, Nat.reduceEqDiff, Nat.reduceLeDiff, Nat.reduceLT, Nat.reduceAdd, reduceCtorEq, num, boo, ints, tapeO, aV, aX, num, boo, str, aE_eq, aV]) (by first | rfl | (simp only [ends, ite_true, ite_false, reduceIte, Nat.reduceEqDiff, Nat.reduceLeDiff, Nat.reduceLT, Nat.reduceAdd, reduceCtorEq, num, boo, ints, tapeO, aV, aX, num, boo, str, aE_eq, aV]; done) | simp [ends, ite_true, ite_false, reduceIte, Nat.reduceEqDiff, Nat.reduceLeDiff, Nat.reduceLT, Nat.reduceAdd, reduceCtorEq, num, boo, ints, tapeO, aV, aX, num, boo, str, aE_eq, aV]) (by simp only [ends, ite_true, ite_false, reduceIte, Nat.reduceEqDiff, Nat.reduceLeDiff, Nat.reduceLT, Nat.reduceAdd, reduceCtorEq, num, boo, ints, tapeO, aV, aX]) (by simp [idsOk, lookO, updO, ren1]) ?_
  simp -implicitDefEqProofs only [↓steps, push_cast, reduceIte, Nat.reduceEqDiff, Nat.reduceAdd, Nat.reduceMul, Nat.reduceLT, Nat.reduceLeDiff, Int.reduceToNat, Int.reduceLE, Int.reduceLT, reduceCtorEq, tte, num, boo, ints, tapeO, aV, aX, hty]
  refine bcase_intro (fun h2 => ?_) fun h2 => ?_
  · simp only [decide_eq_true_eq] at h2; omega
  refine bcase_intro (fun h3 => ?_) fun h3 => ?_
  · simp only [decide_eq_true_eq] at h3; omega
  refine loop_intro mixed ttok (fun n : { n : Nat // n ≤ types.length } => I5 types typ (d + 1 : Nat) xs n.1) (fun n => types.length - n.1) ⟨0, Nat.zero_le _⟩ ?_ fun ⟨n, hn⟩ => ?_
  · exact Weak.keepL (by simp [I5, ends, ite_true, ite_false, reduceIte, Nat.reduceEqDiff, Nat.reduceLeDiff, Nat.reduceLT, Nat.reduceAdd, reduceCtorEq, num, boo, ints, tapeO, aV, aX]) (by simp [I5, ends, ite_true, ite_false, reduceIte, Nat.reduceEqDiff, Nat.reduceLeDiff, Nat.reduceLT, Nat.reduceAdd, reduceCtorEq, num, boo, ints, tapeO, aV, aX]) (by simp [I5, ends, ite_true, ite_false, reduceIte, Nat.reduceEqDiff, Nat.reduceLeDiff, Nat.reduceLT, Nat.reduceAdd, reduceCtorEq, num, boo, ints, tapeO, aV, aX])
  · have hw : n < types.length → IntKind.i64.wrap ((n : Int) + 1) = (n : Int) + 1 := fun h => wrap_eq (by omega) (by omega)
    generalize hI : (fun n : { n : Nat // n ≤ types.length } => I5 types typ (d + 1 : Nat) xs n.1) = I
    simp -implicitDefEqProofs only [I5, ↓steps, push_cast, reduceIte, Nat.reduceEqDiff, Nat.reduceAdd, Nat.reduceMul, Nat.reduceLT, Nat.reduceLeDiff, Int.reduceToNat, Int.reduceLE, Int.reduceLT, reduceCtorEq, tte, num, boo, ints, tapeO, aV, aX]
    refine bcase_intro (fun h => ?_) fun h => ?_
    · have h' : n < types.length := by simpa using h
      have hw := hw h'
      have hkn := hk (types.getD n default) (by rw [List.getD_eq_getElem?_getD]; simp [h'])
      unfold Known at hkn
      refine ⟨⟨by omega, by omega⟩, ?_⟩
      refine callx_of [[]] [] rfl (c9 (types.getD n default)) (by first | (simp; done) | (simp [rowsOf_length]; done) | (simp [rowsOf_length]; omega)) (by first | (simp only [ends, ite_true, ite_false, reduceIte, Nat.reduceEqDiff, Nat.reduceLeDiff, Nat.reduceLT, Nat.reduceAdd, reduceCtorEq, num, boo, ints, tapeO, aV, aX, num, boo, str, aE_eq, aV]; done) | simp [ends, ite_true, ite_false, reduceIte, Nat.reduceEqDiff, Nat.reduceLeDiff, Nat.reduceLT, Nat.reduceAdd, reduceCtorEq, num, boo, ints, tapeO, aV, aX, num, boo, str, aE_eq, aV]) (by first | rfl | (simp only [ends, ite_true, ite_false, reduceIte, Nat.reduceEqDiff, Nat.reduceLeDiff, Nat.reduceLT, Nat.reduceAdd, reduceCtorEq, num, boo, ints, tapeO, aV, aX, num, boo, str, aE_eq, aV]; done) | simp [ends, ite_true, ite_false, reduceIte, Nat.reduceEqDiff, Nat.reduceLeDiff, Nat.reduceLT, Nat.reduceAdd, reduceCtorEq, num, boo, ints, tapeO, aV, aX, num, boo, str, aE_eq, aV]) (by simp only [ends, ite_true, ite_false, reduceIte, Nat.reduceEqDiff, Nat.reduceLeDiff, Nat.reduceLT, Nat.reduceAdd, reduceCtorEq, num, boo, ints, tapeO, aV, aX]) (by simp [idsOk, lookO, updO, ren1]) ?_
      simp -implicitDefEqProofs only [↓steps, push_cast, reduceIte, Nat.reduceEqDiff, Nat.reduceAdd, Nat.reduceMul, Nat.reduceLT, Nat.reduceLeDiff, Int.reduceToNat, Int.reduceLE, Int.reduceLT, reduceCtorEq, tte, num, boo, ints, tapeO, aV, aX, hkn]
      refine loopK_again (⟨n + 1, h'⟩ : { n : Nat // n ≤ types.length }) (by show types.length - (n + 1) < types.length - n; omega) ?_ ?_ ?_ <;> subst hI
      · simp [I5, ends, ite_true, ite_false, reduceIte, Nat.reduceEqDiff, Nat.reduceLeDiff, Nat.reduceLT, Nat.reduceAdd, reduceCtorEq, num, boo, ints, tapeO, aV, aX, hw]
      · simp [I5, ends, ite_true, ite_false, reduceIte, Nat.reduceEqDiff, Nat.reduceLeDiff, Nat.reduceLT, Nat.reduceAdd, reduceCtorEq, num, boo, ints, tapeO, aV, aX]
      · simp [I5, ends, ite_true, ite_false, reduceIte, Nat.reduceEqDiff, Nat.reduceLeDiff, Nat.reduceLT, Nat.reduceAdd, reduceCtorEq, num, boo, ints, tapeO, aV, aX]
    · refine callx_of [[]] [(9, 500)] rfl (c10 (xs := xs)) (by first | (simp; done) | (simp [rowsOf_length]; done) | (simp [rowsOf_length]; omega)) (by first | (simp only [ends, ite_true, ite_false, reduceIte, Nat.reduceEqDiff, Nat.reduceLeDiff, Nat.reduceLT, Nat.reduceAdd, reduceCtorEq, num, boo, ints, tapeO, aV, aX, num, boo, str, aE_eq, aV]; done) | simp [ends, ite_true, ite_false, reduceIte, Nat.reduceEqDiff, Nat.reduceLeDiff, Nat.reduceLT, Nat.reduceAdd, reduceCtorEq, num, boo, ints, tapeO, aV, aX, num, boo, str, aE_eq, aV]) (by first | rfl | (simp only [ends, ite_true, ite_false, reduceIte, Nat.reduceEqDiff, Nat.reduceLeDiff, Nat.reduceLT, Nat.reduceAdd, reduceCtorEq, num, boo, ints, tapeO, aV, aX, num, boo, str, aE_eq, aV]; done) | simp [ends, ite_true, ite_false, reduceIte, Nat.reduceEqDiff, Nat.reduceLeDiff, Nat.reduceLT, Nat.reduceAdd, reduceCtorEq, num, boo, ints, tapeO, aV, aX, num, boo, str, aE_eq, aV]) (by simp only [ends, ite_true, ite_false, reduceIte, Nat.reduceEqDiff, Nat.reduceLeDiff, Nat.reduceLT, Nat.reduceAdd, reduceCtorEq, num, boo, ints, tapeO, aV, aX]) (by simp [idsOk, lookO, updO, ren1]) ?_
      simp -implicitDefEqProofs only [↓steps, push_cast, reduceIte, Nat.reduceEqDiff, Nat.reduceAdd, Nat.reduceMul, Nat.reduceLT, Nat.reduceLeDiff, Int.reduceToNat, Int.reduceLE, Int.reduceLT, reduceCtorEq, tte, num, boo, ints, tapeO, aV, aX]
      refine callx_of [[], [], []] [(1000, 500)] rfl (c11 (tape_take hx) (show types.length ≤ 1000 by omega) d (by omega) typ 0) (by first | (simp; done) | (simp [rowsOf_length]; done) | (simp [rowsOf_length]; omega)) (by first | (simp only [ends, ite_true, ite_false, reduceIte, Nat.reduceEqDiff, Nat.reduceLeDiff, Nat.reduceLT, Nat.reduceAdd, reduceCtorEq, num, boo, ints, tapeO, aV, aX, num, boo, str, aE_eq, aV]; done) | simp [ends, ite_true, ite_false, reduceIte, Nat.reduceEqDiff, Nat.reduceLeDiff, Nat.reduceLT, Nat.reduceAdd, reduceCtorEq, num, boo, ints, tapeO, aV, aX, num, boo, str, aE_eq, aV]) (by first | rfl | (simp only [ends, ite_true, ite_false, reduceIte, Nat.reduceEqDiff, Nat.reduceLeDiff, Nat.reduceLT, Nat.reduceAdd, reduceCtorEq, num, boo, ints, tapeO, aV, aX, num, boo, str, aE_eq, aV]; done) | simp [ends, ite_true, ite_false, reduceIte, Nat.reduceEqDiff, Nat.reduceLeDiff, Nat.reduceLT, Nat.reduceAdd, reduceCtorEq, num, boo, ints, tapeO, aV, aX, num, boo, str, aE_eq, aV]) (by simp only [ends, ite_true, ite_false, reduceIte, Nat.reduceEqDiff, Nat.reduceLeDiff, Nat.reduceLT, Nat.reduceAdd, reduceCtorEq, num, boo, ints, tapeO, aV, aX]) (by simp [idsOk, lookO, updO, ren1]) ?_
      simp -implicitDefEqProofs only [↓steps, push_cast, reduceIte, Nat.reduceEqDiff, Nat.reduceAdd, Nat.reduceMul, Nat.reduceLT, Nat.reduceLeDiff, Int.reduceToNat, Int.reduceLE, Int.reduceLT, reduceCtorEq, tte, num, boo, ints, tapeO, aV, aX]
      refine retx_tup [[0, 0, 0, 0, 0, 6], []] rfl (by simp) (by simp) ?_ (by subst hr; simp only [ends, ite_true, ite_false, reduceIte, Nat.reduceEqDiff, Nat.reduceLeDiff, Nat.reduceLT, Nat.reduceAdd, reduceCtorEq, num, boo, ints, tapeO, aV, aX]) trivial (by simp only [ends, ite_true, ite_false, reduceIte, Nat.reduceEqDiff, Nat.reduceLeDiff, Nat.reduceLT, Nat.reduceAdd, reduceCtorEq, num, boo, ints, tapeO, aV, aX])
      rw [← hr]; simp [aE_eq]
end Go.Proofs.Ytcpaofpnabiggaa
