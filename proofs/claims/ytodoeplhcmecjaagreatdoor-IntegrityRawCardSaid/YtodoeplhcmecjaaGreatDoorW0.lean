/- All violations of any instance of made and of any schemas: a proof over an abstract machine of our own (part W0) -/
import Derived.Test.YtodoeplhcmecjaaGreatDoorChecked
import Derived.Test.YtodoeplhcmecjaaGreatDoorLd
import Derived.Lib.ItoaNum
set_option linter.all false
namespace Go.Proofs.YtodoeplhcmecjaaGreatDoor
open Go.Am
set_option linter.unusedVariables false
instance tabs : Tab := ⟨(fun | 0 => some opRow | 1 => some [.lit (.int .i64 0), .lit (.int .i64 0), .lit (.string ⟨#[]⟩)] | 3 => some (Lib.pow10Tab.map fun z => D.lit (.int .u64 z)) | _ => none), [2]⟩
theorem tab0 : Tab.tab 0 = some opRow := rfl
def tt : Types
  | 2 => some ⟨.int .i64, 1, 8, [.int .i64 0], [0], false⟩
  | 3 => some ⟨.int .i64, 1, 8, [.int .i64 0], [0], false⟩
  | 4 => some ⟨.bool, 1, 1, [.bool false], [0], false⟩
  | 5 => some ⟨.int .u8, 1, 1, [.int .u8 0], [0], false⟩
  | 9 => some ⟨.string, 1, 16, [.string ByteArray.empty], [0], false⟩
  | 12 => some ⟨.int .u64, 1, 8, [.int .u64 0], [0], false⟩
  | 13 => some ⟨.struct [(9, 0), (12, 1)], 2, 24, [.string ByteArray.empty, .int .u64 0], [0, 0], false⟩
  | 21 => some ⟨.int .i32, 1, 4, [.int .i32 0], [0], false⟩
  | 22 => some ⟨.slice 3, 1, 24, [.slice none 0 0], [1], false⟩
  | 23 => some ⟨.pointer 25, 1, 8, [.pointer none], [0], false⟩
  | 24 => some ⟨.struct [(22, 0), (3, 1)], 2, 32, [.slice none 0 0, .int .i64 0], [1, 0], false⟩
  | 25 => some ⟨.struct [(22, 0), (3, 1)], 2, 32, [.slice none 0 0, .int .i64 0], [1, 0], false⟩
  | 26 => some ⟨.slice 55, 1, 24, [.slice none 0 0], [6], false⟩
  | 27 => some ⟨.struct [(26, 0)], 1, 24, [.slice none 0 0], [6], false⟩
  | 28 => some ⟨.struct [(26, 0)], 1, 24, [.slice none 0 0], [6], false⟩
  | 30 => some ⟨.slice 46, 1, 24, [.slice none 0 0], [1], false⟩
  | 31 => some ⟨.struct [(30, 0)], 1, 24, [.slice none 0 0], [1], false⟩
  | 32 => some ⟨.struct [(30, 0)], 1, 24, [.slice none 0 0], [1], false⟩
  | 34 => some ⟨.slice 78, 1, 24, [.slice none 0 0], [5], false⟩
  | 35 => some ⟨.int .i64, 1, 8, [.int .i64 0], [0], false⟩
  | 46 => some ⟨.slice 47, 1, 24, [.slice none 0 0], [1], false⟩
  | 47 => some ⟨.slice 57, 1, 24, [.slice none 0 0], [3], false⟩
  | 50 => some ⟨.slice 62, 1, 24, [.slice none 0 0], [3], false⟩
  | 51 => some ⟨.slice 22, 1, 24, [.slice none 0 0], [1], false⟩
  | 52 => some ⟨.slice 59, 1, 24, [.slice none 0 0], [2], false⟩
  | 53 => some ⟨.slice 64, 1, 24, [.slice none 0 0], [6], false⟩
  | 54 => some ⟨.struct [(9, 0), (50, 1), (22, 2), (51, 3), (52, 4), (53, 5)], 6, 136, [.string ByteArray.empty, .slice none 0 0, .slice none 0 0, .slice none 0 0, .slice none 0 0, .slice none 0 0], [0, 3, 1, 1, 2, 6], false⟩
  | 55 => some ⟨.struct [(9, 0), (50, 1), (22, 2), (51, 3), (52, 4), (53, 5)], 6, 136, [.string ByteArray.empty, .slice none 0 0, .slice none 0 0, .slice none 0 0, .slice none 0 0, .slice none 0 0], [0, 3, 1, 1, 2, 6], false⟩
  | 56 => some ⟨.struct [(3, 0), (2, 1), (9, 2)], 3, 32, [.int .i64 0, .int .i64 0, .string ByteArray.empty], [0, 0, 0], true⟩
  | 57 => some ⟨.struct [(3, 0), (2, 1), (9, 2)], 3, 32, [.int .i64 0, .int .i64 0, .string ByteArray.empty], [0, 0, 0], true⟩
  | 58 => some ⟨.struct [(22, 0), (9, 1)], 2, 40, [.slice none 0 0, .string ByteArray.empty], [1, 0], false⟩
  | 59 => some ⟨.struct [(22, 0), (9, 1)], 2, 40, [.slice none 0 0, .string ByteArray.empty], [1, 0], false⟩
  | 61 => some ⟨.struct [(9, 0), (3, 1), (4, 2)], 3, 32, [.string ByteArray.empty, .int .i64 0, .bool false], [0, 0, 0], true⟩
  | 62 => some ⟨.struct [(9, 0), (3, 1), (4, 2)], 3, 32, [.string ByteArray.empty, .int .i64 0, .bool false], [0, 0, 0], true⟩
  | 63 => some ⟨.struct [(3, 0), (3, 1), (2, 2), (9, 3), (3, 4), (53, 5)], 6, 72, [.int .i64 0, .int .i64 0, .int .i64 0, .string ByteArray.empty, .int .i64 0, .slice none 0 0], [0, 0, 0, 0, 0, 6], false⟩
  | 64 => some ⟨.struct [(3, 0), (3, 1), (2, 2), (9, 3), (3, 4), (53, 5)], 6, 72, [.int .i64 0, .int .i64 0, .int .i64 0, .string ByteArray.empty, .int .i64 0, .slice none 0 0], [0, 0, 0, 0, 0, 6], false⟩
  | 68 => some ⟨.pointer 71, 1, 8, [.pointer none], [0], false⟩
  | 69 => some ⟨.slice 4, 1, 24, [.slice none 0 0], [1], false⟩
  | 70 => some ⟨.struct [(28, 0), (32, 1), (69, 2), (34, 3)], 4, 96, [.slice none 0 0, .slice none 0 0, .slice none 0 0, .slice none 0 0], [6, 1, 1, 5], false⟩
  | 71 => some ⟨.struct [(28, 0), (32, 1), (69, 2), (34, 3)], 4, 96, [.slice none 0 0, .slice none 0 0, .slice none 0 0, .slice none 0 0], [6, 1, 1, 5], false⟩
  | 77 => some ⟨.struct [(3, 0), (3, 1), (3, 2), (3, 3), (3, 4)], 5, 40, [.int .i64 0, .int .i64 0, .int .i64 0, .int .i64 0, .int .i64 0], [0, 0, 0, 0, 0], true⟩
  | 78 => some ⟨.struct [(3, 0), (3, 1), (3, 2), (3, 3), (3, 4)], 5, 40, [.int .i64 0, .int .i64 0, .int .i64 0, .int .i64 0, .int .i64 0], [0, 0, 0, 0, 0], true⟩
  | 89 => some ⟨.struct [(3, 0), (3, 1), (57, 2)], 5, 48, [.int .i64 0, .int .i64 0, .int .i64 0, .int .i64 0, .string ByteArray.empty], [0, 0, 0, 0, 0], true⟩
  | 90 => some ⟨.struct [(3, 0), (3, 1), (57, 2)], 5, 48, [.int .i64 0, .int .i64 0, .int .i64 0, .int .i64 0, .string ByteArray.empty], [0, 0, 0, 0, 0], true⟩
  | 92 => some ⟨.slice 5, 1, 24, [.slice none 0 0], [1], false⟩
  | 111 => some ⟨.slice 9, 1, 24, [.slice none 0 0], [1], false⟩
  | 119 => some ⟨.slice 2, 1, 24, [.slice none 0 0], [1], false⟩
  | 127 => some ⟨.slice 128, 1, 24, [.slice none 0 0], [1], false⟩
  | 128 => some ⟨.map 3 4, 1, 8, [.map none], [0], false⟩
  | 133 => some ⟨.map 9 3, 1, 8, [.map none], [0], false⟩
  | 135 => some ⟨.map 9 4, 1, 8, [.map none], [0], false⟩
  | 136 => some ⟨.struct [(9, 0), (3, 1), (3, 2), (3, 3)], 4, 40, [.string ByteArray.empty, .int .i64 0, .int .i64 0, .int .i64 0], [0, 0, 0, 0], true⟩
  | 137 => some ⟨.struct [(9, 0), (3, 1), (3, 2), (3, 3)], 4, 40, [.string ByteArray.empty, .int .i64 0, .int .i64 0, .int .i64 0], [0, 0, 0, 0], true⟩
  | 169 => some ⟨.array 29 137, 116, 1160, [.string ByteArray.empty, .int .i64 0, .int .i64 0, .int .i64 0, .string ByteArray.empty, .int .i64 0, .int .i64 0, .int .i64 0, .string ByteArray.empty, .int .i64 0, .int .i64 0, .int .i64 0, .string ByteArray.empty, .int .i64 0, .int .i64 0, .int .i64 0, .string ByteArray.empty, .int .i64 0, .int .i64 0, .int .i64 0, .string ByteArray.empty, .int .i64 0, .int .i64 0, .int .i64 0, .string ByteArray.empty, .int .i64 0, .int .i64 0, .int .i64 0, .string ByteArray.empty, .int .i64 0, .int .i64 0, .int .i64 0, .string ByteArray.empty, .int .i64 0, .int .i64 0, .int .i64 0, .string ByteArray.empty, .int .i64 0, .int .i64 0, .int .i64 0, .string ByteArray.empty, .int .i64 0, .int .i64 0, .int .i64 0, .string ByteArray.empty, .int .i64 0, .int .i64 0, .int .i64 0, .string ByteArray.empty, .int .i64 0, .int .i64 0, .int .i64 0, .string ByteArray.empty, .int .i64 0, .int .i64 0, .int .i64 0, .string ByteArray.empty, .int .i64 0, .int .i64 0, .int .i64 0, .string ByteArray.empty, .int .i64 0, .int .i64 0, .int .i64 0, .string ByteArray.empty, .int .i64 0, .int .i64 0, .int .i64 0, .string ByteArray.empty, .int .i64 0, .int .i64 0, .int .i64 0, .string ByteArray.empty, .int .i64 0, .int .i64 0, .int .i64 0, .string ByteArray.empty, .int .i64 0, .int .i64 0, .int .i64 0, .string ByteArray.empty, .int .i64 0, .int .i64 0, .int .i64 0, .string ByteArray.empty, .int .i64 0, .int .i64 0, .int .i64 0, .string ByteArray.empty, .int .i64 0, .int .i64 0, .int .i64 0, .string ByteArray.empty, .int .i64 0, .int .i64 0, .int .i64 0, .string ByteArray.empty, .int .i64 0, .int .i64 0, .int .i64 0, .string ByteArray.empty, .int .i64 0, .int .i64 0, .int .i64 0, .string ByteArray.empty, .int .i64 0, .int .i64 0, .int .i64 0, .string ByteArray.empty, .int .i64 0, .int .i64 0, .int .i64 0, .string ByteArray.empty, .int .i64 0, .int .i64 0, .int .i64 0], [0, 0, 0, 0, 0, 0, 0, 0, 0, 0, 0, 0, 0, 0, 0, 0, 0, 0, 0, 0, 0, 0, 0, 0, 0, 0, 0, 0, 0, 0, 0, 0, 0, 0, 0, 0, 0, 0, 0, 0, 0, 0, 0, 0, 0, 0, 0, 0, 0, 0, 0, 0, 0, 0, 0, 0, 0, 0, 0, 0, 0, 0, 0, 0, 0, 0, 0, 0, 0, 0, 0, 0, 0, 0, 0, 0, 0, 0, 0, 0, 0, 0, 0, 0, 0, 0, 0, 0, 0, 0, 0, 0, 0, 0, 0, 0, 0, 0, 0, 0, 0, 0, 0, 0, 0, 0, 0, 0, 0, 0, 0, 0, 0, 0, 0, 0], false⟩
  | 172 => some ⟨.int .u64, 1, 8, [.int .u64 0], [0], false⟩
  | 177 => some ⟨.int .u32, 1, 4, [.int .u32 0], [0], false⟩
  | 181 => some ⟨.array 24 5, 24, 24, [.int .u8 0, .int .u8 0, .int .u8 0, .int .u8 0, .int .u8 0, .int .u8 0, .int .u8 0, .int .u8 0, .int .u8 0, .int .u8 0, .int .u8 0, .int .u8 0, .int .u8 0, .int .u8 0, .int .u8 0, .int .u8 0, .int .u8 0, .int .u8 0, .int .u8 0, .int .u8 0, .int .u8 0, .int .u8 0, .int .u8 0, .int .u8 0], [0, 0, 0, 0, 0, 0, 0, 0, 0, 0, 0, 0, 0, 0, 0, 0, 0, 0, 0, 0, 0, 0, 0, 0], false⟩
  | 182 => some ⟨.int .u64, 1, 8, [.int .u64 0], [0], false⟩
  | 189 => some ⟨.array 20 182, 20, 160, [.int .u64 0, .int .u64 0, .int .u64 0, .int .u64 0, .int .u64 0, .int .u64 0, .int .u64 0, .int .u64 0, .int .u64 0, .int .u64 0, .int .u64 0, .int .u64 0, .int .u64 0, .int .u64 0, .int .u64 0, .int .u64 0, .int .u64 0, .int .u64 0, .int .u64 0, .int .u64 0], [0, 0, 0, 0, 0, 0, 0, 0, 0, 0, 0, 0, 0, 0, 0, 0, 0, 0, 0, 0], false⟩
  | 190 => some ⟨.array 65 5, 65, 65, [.int .u8 0, .int .u8 0, .int .u8 0, .int .u8 0, .int .u8 0, .int .u8 0, .int .u8 0, .int .u8 0, .int .u8 0, .int .u8 0, .int .u8 0, .int .u8 0, .int .u8 0, .int .u8 0, .int .u8 0, .int .u8 0, .int .u8 0, .int .u8 0, .int .u8 0, .int .u8 0, .int .u8 0, .int .u8 0, .int .u8 0, .int .u8 0, .int .u8 0, .int .u8 0, .int .u8 0, .int .u8 0, .int .u8 0, .int .u8 0, .int .u8 0, .int .u8 0, .int .u8 0, .int .u8 0, .int .u8 0, .int .u8 0, .int .u8 0, .int .u8 0, .int .u8 0, .int .u8 0, .int .u8 0, .int .u8 0, .int .u8 0, .int .u8 0, .int .u8 0, .int .u8 0, .int .u8 0, .int .u8 0, .int .u8 0, .int .u8 0, .int .u8 0, .int .u8 0, .int .u8 0, .int .u8 0, .int .u8 0, .int .u8 0, .int .u8 0, .int .u8 0, .int .u8 0, .int .u8 0, .int .u8 0, .int .u8 0, .int .u8 0, .int .u8 0, .int .u8 0], [0, 0, 0, 0, 0, 0, 0, 0, 0, 0, 0, 0, 0, 0, 0, 0, 0, 0, 0, 0, 0, 0, 0, 0, 0, 0, 0, 0, 0, 0, 0, 0, 0, 0, 0, 0, 0, 0, 0, 0, 0, 0, 0, 0, 0, 0, 0, 0, 0, 0, 0, 0, 0, 0, 0, 0, 0, 0, 0, 0, 0, 0, 0, 0, 0], false⟩
  | 193 => some ⟨.array 32 5, 32, 32, [.int .u8 0, .int .u8 0, .int .u8 0, .int .u8 0, .int .u8 0, .int .u8 0, .int .u8 0, .int .u8 0, .int .u8 0, .int .u8 0, .int .u8 0, .int .u8 0, .int .u8 0, .int .u8 0, .int .u8 0, .int .u8 0, .int .u8 0, .int .u8 0, .int .u8 0, .int .u8 0, .int .u8 0, .int .u8 0, .int .u8 0, .int .u8 0, .int .u8 0, .int .u8 0, .int .u8 0, .int .u8 0, .int .u8 0, .int .u8 0, .int .u8 0, .int .u8 0], [0, 0, 0, 0, 0, 0, 0, 0, 0, 0, 0, 0, 0, 0, 0, 0, 0, 0, 0, 0, 0, 0, 0, 0, 0, 0, 0, 0, 0, 0, 0, 0], false⟩
  | 194 => some ⟨.array 64 5, 64, 64, [.int .u8 0, .int .u8 0, .int .u8 0, .int .u8 0, .int .u8 0, .int .u8 0, .int .u8 0, .int .u8 0, .int .u8 0, .int .u8 0, .int .u8 0, .int .u8 0, .int .u8 0, .int .u8 0, .int .u8 0, .int .u8 0, .int .u8 0, .int .u8 0, .int .u8 0, .int .u8 0, .int .u8 0, .int .u8 0, .int .u8 0, .int .u8 0, .int .u8 0, .int .u8 0, .int .u8 0, .int .u8 0, .int .u8 0, .int .u8 0, .int .u8 0, .int .u8 0, .int .u8 0, .int .u8 0, .int .u8 0, .int .u8 0, .int .u8 0, .int .u8 0, .int .u8 0, .int .u8 0, .int .u8 0, .int .u8 0, .int .u8 0, .int .u8 0, .int .u8 0, .int .u8 0, .int .u8 0, .int .u8 0, .int .u8 0, .int .u8 0, .int .u8 0, .int .u8 0, .int .u8 0, .int .u8 0, .int .u8 0, .int .u8 0, .int .u8 0, .int .u8 0, .int .u8 0, .int .u8 0, .int .u8 0, .int .u8 0, .int .u8 0, .int .u8 0], [0, 0, 0, 0, 0, 0, 0, 0, 0, 0, 0, 0, 0, 0, 0, 0, 0, 0, 0, 0, 0, 0, 0, 0, 0, 0, 0, 0, 0, 0, 0, 0, 0, 0, 0, 0, 0, 0, 0, 0, 0, 0, 0, 0, 0, 0, 0, 0, 0, 0, 0, 0, 0, 0, 0, 0, 0, 0, 0, 0, 0, 0, 0, 0], false⟩
  | 205 => some ⟨.pointer 5, 1, 8, [.pointer none], [0], false⟩
  | _ => none
theorem tinfo2 : (Tryz.prog.info? 2).map (fun i => (i.size, i.bytes, i.zero)) = some (1, 8, some (.int .i64 0)) := by kernel_rfl
theorem tok2 : TOk Tryz.prog 2 ⟨.int .i64, 1, 8, [.int .i64 0], [0], false⟩ := ⟨by obtain ⟨i, h1, h2⟩ := Option.map_eq_some_iff.1 tinfo2; simp only [Prod.mk.injEq] at h2; exact ⟨i, h1, h2.1, h2.2.1, _, h2.2.2, rfl⟩, rfl, by simp [one], Tryz.underlying2, (fun h => by cases h), (fun _ z hz => by cases hz; obtain ⟨i, h1, h2⟩ := Option.map_eq_some_iff.1 tinfo2; simp only [Prod.mk.injEq] at h2; exact ⟨i, h1, h2.2.2⟩)⟩
theorem tinfo3 : (Tryz.prog.info? 3).map (fun i => (i.size, i.bytes, i.zero)) = some (1, 8, some (.int .i64 0)) := by kernel_rfl
theorem tok3 : TOk Tryz.prog 3 ⟨.int .i64, 1, 8, [.int .i64 0], [0], false⟩ := ⟨by obtain ⟨i, h1, h2⟩ := Option.map_eq_some_iff.1 tinfo3; simp only [Prod.mk.injEq] at h2; exact ⟨i, h1, h2.1, h2.2.1, _, h2.2.2, rfl⟩, rfl, by simp [one], Tryz.underlying3, (fun h => by cases h), (fun _ z hz => by cases hz; obtain ⟨i, h1, h2⟩ := Option.map_eq_some_iff.1 tinfo3; simp only [Prod.mk.injEq] at h2; exact ⟨i, h1, h2.2.2⟩)⟩
theorem tinfo4 : (Tryz.prog.info? 4).map (fun i => (i.size, i.bytes, i.zero)) = some (1, 1, some (.bool false)) := by kernel_rfl
theorem tok4 : TOk Tryz.prog 4 ⟨.bool, 1, 1, [.bool false], [0], false⟩ := ⟨by obtain ⟨i, h1, h2⟩ := Option.map_eq_some_iff.1 tinfo4; simp only [Prod.mk.injEq] at h2; exact ⟨i, h1, h2.1, h2.2.1, _, h2.2.2, rfl⟩, rfl, by simp [one], Tryz.underlying4, (fun h => by cases h), (fun _ z hz => by cases hz; obtain ⟨i, h1, h2⟩ := Option.map_eq_some_iff.1 tinfo4; simp only [Prod.mk.injEq] at h2; exact ⟨i, h1, h2.2.2⟩)⟩
theorem tinfo5 : (Tryz.prog.info? 5).map (fun i => (i.size, i.bytes, i.zero)) = some (1, 1, some (.int .u8 0)) := by kernel_rfl
theorem tok5 : TOk Tryz.prog 5 ⟨.int .u8, 1, 1, [.int .u8 0], [0], false⟩ := ⟨by obtain ⟨i, h1, h2⟩ := Option.map_eq_some_iff.1 tinfo5; simp only [Prod.mk.injEq] at h2; exact ⟨i, h1, h2.1, h2.2.1, _, h2.2.2, rfl⟩, rfl, by simp [one], Tryz.underlying5, (fun h => by cases h), (fun _ z hz => by cases hz; obtain ⟨i, h1, h2⟩ := Option.map_eq_some_iff.1 tinfo5; simp only [Prod.mk.injEq] at h2; exact ⟨i, h1, h2.2.2⟩)⟩
theorem tinfo9 : (Tryz.prog.info? 9).map (fun i => (i.size, i.bytes, i.zero)) = some (1, 16, some (.string ByteArray.empty)) := by kernel_rfl
theorem tok9 : TOk Tryz.prog 9 ⟨.string, 1, 16, [.string ByteArray.empty], [0], false⟩ := ⟨by obtain ⟨i, h1, h2⟩ := Option.map_eq_some_iff.1 tinfo9; simp only [Prod.mk.injEq] at h2; exact ⟨i, h1, h2.1, h2.2.1, _, h2.2.2, rfl⟩, rfl, by simp [one], Tryz.underlying9, (fun h => by cases h), (fun _ z hz => by cases hz; obtain ⟨i, h1, h2⟩ := Option.map_eq_some_iff.1 tinfo9; simp only [Prod.mk.injEq] at h2; exact ⟨i, h1, h2.2.2⟩)⟩
theorem tinfo12 : (Tryz.prog.info? 12).map (fun i => (i.size, i.bytes, i.zero)) = some (1, 8, some (.int .u64 0)) := by kernel_rfl
theorem tok12 : TOk Tryz.prog 12 ⟨.int .u64, 1, 8, [.int .u64 0], [0], false⟩ := ⟨by obtain ⟨i, h1, h2⟩ := Option.map_eq_some_iff.1 tinfo12; simp only [Prod.mk.injEq] at h2; exact ⟨i, h1, h2.1, h2.2.1, _, h2.2.2, rfl⟩, rfl, by simp [one], Tryz.underlying12, (fun h => by cases h), (fun _ z hz => by cases hz; obtain ⟨i, h1, h2⟩ := Option.map_eq_some_iff.1 tinfo12; simp only [Prod.mk.injEq] at h2; exact ⟨i, h1, h2.2.2⟩)⟩
theorem tinfo13 : (Tryz.prog.info? 13).map (fun i => (i.size, i.bytes, i.zero)) = some (2, 24, some (.agg #[.string ByteArray.empty, .int .u64 0])) := by kernel_rfl
theorem tok13 : TOk Tryz.prog 13 ⟨.struct [(9, 0), (12, 1)], 2, 24, [.string ByteArray.empty, .int .u64 0], [0, 0], false⟩ := ⟨by obtain ⟨i, h1, h2⟩ := Option.map_eq_some_iff.1 tinfo13; simp only [Prod.mk.injEq] at h2; exact ⟨i, h1, h2.1, h2.2.1, _, h2.2.2, rfl⟩, rfl, by simp [one], ⟨_, Tryz.underlying13, rfl⟩, (fun h => by cases h), (fun h => by cases h)⟩
theorem tinfo21 : (Tryz.prog.info? 21).map (fun i => (i.size, i.bytes, i.zero)) = some (1, 4, some (.int .i32 0)) := by kernel_rfl
theorem tok21 : TOk Tryz.prog 21 ⟨.int .i32, 1, 4, [.int .i32 0], [0], false⟩ := ⟨by obtain ⟨i, h1, h2⟩ := Option.map_eq_some_iff.1 tinfo21; simp only [Prod.mk.injEq] at h2; exact ⟨i, h1, h2.1, h2.2.1, _, h2.2.2, rfl⟩, rfl, by simp [one], Tryz.underlying21, (fun h => by cases h), (fun _ z hz => by cases hz; obtain ⟨i, h1, h2⟩ := Option.map_eq_some_iff.1 tinfo21; simp only [Prod.mk.injEq] at h2; exact ⟨i, h1, h2.2.2⟩)⟩
theorem tinfo22 : (Tryz.prog.info? 22).map (fun i => (i.size, i.bytes, i.zero)) = some (1, 24, some (.slice none 0 0)) := by kernel_rfl
theorem tok22 : TOk Tryz.prog 22 ⟨.slice 3, 1, 24, [.slice none 0 0], [1], false⟩ := ⟨by obtain ⟨i, h1, h2⟩ := Option.map_eq_some_iff.1 tinfo22; simp only [Prod.mk.injEq] at h2; exact ⟨i, h1, h2.1, h2.2.1, _, h2.2.2, rfl⟩, rfl, by simp [one], Tryz.underlying22, (fun h => by cases h), (fun _ z hz => by cases hz; obtain ⟨i, h1, h2⟩ := Option.map_eq_some_iff.1 tinfo22; simp only [Prod.mk.injEq] at h2; exact ⟨i, h1, h2.2.2⟩)⟩
theorem tinfo23 : (Tryz.prog.info? 23).map (fun i => (i.size, i.bytes, i.zero)) = some (1, 8, some (.pointer none)) := by kernel_rfl
theorem tok23 : TOk Tryz.prog 23 ⟨.pointer 25, 1, 8, [.pointer none], [0], false⟩ := ⟨by obtain ⟨i, h1, h2⟩ := Option.map_eq_some_iff.1 tinfo23; simp only [Prod.mk.injEq] at h2; exact ⟨i, h1, h2.1, h2.2.1, _, h2.2.2, rfl⟩, rfl, by simp [one], Tryz.underlying23, (fun h => by cases h), (fun _ z hz => by cases hz; obtain ⟨i, h1, h2⟩ := Option.map_eq_some_iff.1 tinfo23; simp only [Prod.mk.injEq] at h2; exact ⟨i, h1, h2.2.2⟩)⟩
theorem tinfo24 : (Tryz.prog.info? 24).map (fun i => (i.size, i.bytes, i.zero)) = some (2, 32, some (.agg #[.slice none 0 0, .int .i64 0])) := by kernel_rfl
theorem tok24 : TOk Tryz.prog 24 ⟨.struct [(22, 0), (3, 1)], 2, 32, [.slice none 0 0, .int .i64 0], [1, 0], false⟩ := ⟨by obtain ⟨i, h1, h2⟩ := Option.map_eq_some_iff.1 tinfo24; simp only [Prod.mk.injEq] at h2; exact ⟨i, h1, h2.1, h2.2.1, _, h2.2.2, rfl⟩, rfl, by simp [one], ⟨_, Tryz.underlying24, rfl⟩, (fun h => by cases h), (fun h => by cases h)⟩
theorem tinfo25 : (Tryz.prog.info? 25).map (fun i => (i.size, i.bytes, i.zero)) = some (2, 32, some (.agg #[.slice none 0 0, .int .i64 0])) := by kernel_rfl
theorem tok25 : TOk Tryz.prog 25 ⟨.struct [(22, 0), (3, 1)], 2, 32, [.slice none 0 0, .int .i64 0], [1, 0], false⟩ := ⟨by obtain ⟨i, h1, h2⟩ := Option.map_eq_some_iff.1 tinfo25; simp only [Prod.mk.injEq] at h2; exact ⟨i, h1, h2.1, h2.2.1, _, h2.2.2, rfl⟩, rfl, by simp [one], ⟨_, Tryz.underlying25, rfl⟩, (fun h => by cases h), (fun h => by cases h)⟩
theorem tinfo26 : (Tryz.prog.info? 26).map (fun i => (i.size, i.bytes, i.zero)) = some (1, 24, some (.slice none 0 0)) := by kernel_rfl
theorem tok26 : TOk Tryz.prog 26 ⟨.slice 55, 1, 24, [.slice none 0 0], [6], false⟩ := ⟨by obtain ⟨i, h1, h2⟩ := Option.map_eq_some_iff.1 tinfo26; simp only [Prod.mk.injEq] at h2; exact ⟨i, h1, h2.1, h2.2.1, _, h2.2.2, rfl⟩, rfl, by simp [one], Tryz.underlying26, (fun h => by cases h), (fun _ z hz => by cases hz; obtain ⟨i, h1, h2⟩ := Option.map_eq_some_iff.1 tinfo26; simp only [Prod.mk.injEq] at h2; exact ⟨i, h1, h2.2.2⟩)⟩
theorem tinfo27 : (Tryz.prog.info? 27).map (fun i => (i.size, i.bytes, i.zero)) = some (1, 24, some (.agg #[.slice none 0 0])) := by kernel_rfl
theorem tok27 : TOk Tryz.prog 27 ⟨.struct [(26, 0)], 1, 24, [.slice none 0 0], [6], false⟩ := ⟨by obtain ⟨i, h1, h2⟩ := Option.map_eq_some_iff.1 tinfo27; simp only [Prod.mk.injEq] at h2; exact ⟨i, h1, h2.1, h2.2.1, _, h2.2.2, rfl⟩, rfl, by simp [one], ⟨_, Tryz.underlying27, rfl⟩, (fun h => by cases h), (fun h => by cases h)⟩
theorem tinfo28 : (Tryz.prog.info? 28).map (fun i => (i.size, i.bytes, i.zero)) = some (1, 24, some (.agg #[.slice none 0 0])) := by kernel_rfl
theorem tok28 : TOk Tryz.prog 28 ⟨.struct [(26, 0)], 1, 24, [.slice none 0 0], [6], false⟩ := ⟨by obtain ⟨i, h1, h2⟩ := Option.map_eq_some_iff.1 tinfo28; simp only [Prod.mk.injEq] at h2; exact ⟨i, h1, h2.1, h2.2.1, _, h2.2.2, rfl⟩, rfl, by simp [one], ⟨_, Tryz.underlying28, rfl⟩, (fun h => by cases h), (fun h => by cases h)⟩
theorem tinfo30 : (Tryz.prog.info? 30).map (fun i => (i.size, i.bytes, i.zero)) = some (1, 24, some (.slice none 0 0)) := by kernel_rfl
theorem tok30 : TOk Tryz.prog 30 ⟨.slice 46, 1, 24, [.slice none 0 0], [1], false⟩ := ⟨by obtain ⟨i, h1, h2⟩ := Option.map_eq_some_iff.1 tinfo30; simp only [Prod.mk.injEq] at h2; exact ⟨i, h1, h2.1, h2.2.1, _, h2.2.2, rfl⟩, rfl, by simp [one], Tryz.underlying30, (fun h => by cases h), (fun _ z hz => by cases hz; obtain ⟨i, h1, h2⟩ := Option.map_eq_some_iff.1 tinfo30; simp only [Prod.mk.injEq] at h2; exact ⟨i, h1, h2.2.2⟩)⟩
theorem tinfo31 : (Tryz.prog.info? 31).map (fun i => (i.size, i.bytes, i.zero)) = some (1, 24, some (.agg #[.slice none 0 0])) := by kernel_rfl
theorem tok31 : TOk Tryz.prog 31 ⟨.struct [(30, 0)], 1, 24, [.slice none 0 0], [1], false⟩ := ⟨by obtain ⟨i, h1, h2⟩ := Option.map_eq_some_iff.1 tinfo31; simp only [Prod.mk.injEq] at h2; exact ⟨i, h1, h2.1, h2.2.1, _, h2.2.2, rfl⟩, rfl, by simp [one], ⟨_, Tryz.underlying31, rfl⟩, (fun h => by cases h), (fun h => by cases h)⟩
theorem tinfo32 : (Tryz.prog.info? 32).map (fun i => (i.size, i.bytes, i.zero)) = some (1, 24, some (.agg #[.slice none 0 0])) := by kernel_rfl
theorem tok32 : TOk Tryz.prog 32 ⟨.struct [(30, 0)], 1, 24, [.slice none 0 0], [1], false⟩ := ⟨by obtain ⟨i, h1, h2⟩ := Option.map_eq_some_iff.1 tinfo32; simp only [Prod.mk.injEq] at h2; exact ⟨i, h1, h2.1, h2.2.1, _, h2.2.2, rfl⟩, rfl, by simp [one], ⟨_, Tryz.underlying32, rfl⟩, (fun h => by cases h), (fun h => by cases h)⟩
theorem tinfo34 : (Tryz.prog.info? 34).map (fun i => (i.size, i.bytes, i.zero)) = some (1, 24, some (.slice none 0 0)) := by kernel_rfl
theorem tok34 : TOk Tryz.prog 34 ⟨.slice 78, 1, 24, [.slice none 0 0], [5], false⟩ := ⟨by obtain ⟨i, h1, h2⟩ := Option.map_eq_some_iff.1 tinfo34; simp only [Prod.mk.injEq] at h2; exact ⟨i, h1, h2.1, h2.2.1, _, h2.2.2, rfl⟩, rfl, by simp [one], Tryz.underlying34, (fun h => by cases h), (fun _ z hz => by cases hz; obtain ⟨i, h1, h2⟩ := Option.map_eq_some_iff.1 tinfo34; simp only [Prod.mk.injEq] at h2; exact ⟨i, h1, h2.2.2⟩)⟩
theorem tinfo35 : (Tryz.prog.info? 35).map (fun i => (i.size, i.bytes, i.zero)) = some (1, 8, some (.int .i64 0)) := by kernel_rfl
theorem tok35 : TOk Tryz.prog 35 ⟨.int .i64, 1, 8, [.int .i64 0], [0], false⟩ := ⟨by obtain ⟨i, h1, h2⟩ := Option.map_eq_some_iff.1 tinfo35; simp only [Prod.mk.injEq] at h2; exact ⟨i, h1, h2.1, h2.2.1, _, h2.2.2, rfl⟩, rfl, by simp [one], Tryz.underlying35, (fun h => by cases h), (fun _ z hz => by cases hz; obtain ⟨i, h1, h2⟩ := Option.map_eq_some_iff.1 tinfo35; simp only [Prod.mk.injEq] at h2; exact ⟨i, h1, h2.2.2⟩)⟩
theorem tinfo46 : (Tryz.prog.info? 46).map (fun i => (i.size, i.bytes, i.zero)) = some (1, 24, some (.slice none 0 0)) := by kernel_rfl
theorem tok46 : TOk Tryz.prog 46 ⟨.slice 47, 1, 24, [.slice none 0 0], [1], false⟩ := ⟨by obtain ⟨i, h1, h2⟩ := Option.map_eq_some_iff.1 tinfo46; simp only [Prod.mk.injEq] at h2; exact ⟨i, h1, h2.1, h2.2.1, _, h2.2.2, rfl⟩, rfl, by simp [one], Tryz.underlying46, (fun h => by cases h), (fun _ z hz => by cases hz; obtain ⟨i, h1, h2⟩ := Option.map_eq_some_iff.1 tinfo46; simp only [Prod.mk.injEq] at h2; exact ⟨i, h1, h2.2.2⟩)⟩
theorem tinfo47 : (Tryz.prog.info? 47).map (fun i => (i.size, i.bytes, i.zero)) = some (1, 24, some (.slice none 0 0)) := by kernel_rfl
theorem tok47 : TOk Tryz.prog 47 ⟨.slice 57, 1, 24, [.slice none 0 0], [3], false⟩ := ⟨by obtain ⟨i, h1, h2⟩ := Option.map_eq_some_iff.1 tinfo47; simp only [Prod.mk.injEq] at h2; exact ⟨i, h1, h2.1, h2.2.1, _, h2.2.2, rfl⟩, rfl, by simp [one], Tryz.underlying47, (fun h => by cases h), (fun _ z hz => by cases hz; obtain ⟨i, h1, h2⟩ := Option.map_eq_some_iff.1 tinfo47; simp only [Prod.mk.injEq] at h2; exact ⟨i, h1, h2.2.2⟩)⟩
theorem tinfo50 : (Tryz.prog.info? 50).map (fun i => (i.size, i.bytes, i.zero)) = some (1, 24, some (.slice none 0 0)) := by kernel_rfl
theorem tok50 : TOk Tryz.prog 50 ⟨.slice 62, 1, 24, [.slice none 0 0], [3], false⟩ := ⟨by obtain ⟨i, h1, h2⟩ := Option.map_eq_some_iff.1 tinfo50; simp only [Prod.mk.injEq] at h2; exact ⟨i, h1, h2.1, h2.2.1, _, h2.2.2, rfl⟩, rfl, by simp [one], Tryz.underlying50, (fun h => by cases h), (fun _ z hz => by cases hz; obtain ⟨i, h1, h2⟩ := Option.map_eq_some_iff.1 tinfo50; simp only [Prod.mk.injEq] at h2; exact ⟨i, h1, h2.2.2⟩)⟩
theorem tinfo51 : (Tryz.prog.info? 51).map (fun i => (i.size, i.bytes, i.zero)) = some (1, 24, some (.slice none 0 0)) := by kernel_rfl
theorem tok51 : TOk Tryz.prog 51 ⟨.slice 22, 1, 24, [.slice none 0 0], [1], false⟩ := ⟨by obtain ⟨i, h1, h2⟩ := Option.map_eq_some_iff.1 tinfo51; simp only [Prod.mk.injEq] at h2; exact ⟨i, h1, h2.1, h2.2.1, _, h2.2.2, rfl⟩, rfl, by simp [one], Tryz.underlying51, (fun h => by cases h), (fun _ z hz => by cases hz; obtain ⟨i, h1, h2⟩ := Option.map_eq_some_iff.1 tinfo51; simp only [Prod.mk.injEq] at h2; exact ⟨i, h1, h2.2.2⟩)⟩
theorem tinfo52 : (Tryz.prog.info? 52).map (fun i => (i.size, i.bytes, i.zero)) = some (1, 24, some (.slice none 0 0)) := by kernel_rfl
theorem tok52 : TOk Tryz.prog 52 ⟨.slice 59, 1, 24, [.slice none 0 0], [2], false⟩ := ⟨by obtain ⟨i, h1, h2⟩ := Option.map_eq_some_iff.1 tinfo52; simp only [Prod.mk.injEq] at h2; exact ⟨i, h1, h2.1, h2.2.1, _, h2.2.2, rfl⟩, rfl, by simp [one], Tryz.underlying52, (fun h => by cases h), (fun _ z hz => by cases hz; obtain ⟨i, h1, h2⟩ := Option.map_eq_some_iff.1 tinfo52; simp only [Prod.mk.injEq] at h2; exact ⟨i, h1, h2.2.2⟩)⟩
theorem tinfo53 : (Tryz.prog.info? 53).map (fun i => (i.size, i.bytes, i.zero)) = some (1, 24, some (.slice none 0 0)) := by kernel_rfl
theorem tok53 : TOk Tryz.prog 53 ⟨.slice 64, 1, 24, [.slice none 0 0], [6], false⟩ := ⟨by obtain ⟨i, h1, h2⟩ := Option.map_eq_some_iff.1 tinfo53; simp only [Prod.mk.injEq] at h2; exact ⟨i, h1, h2.1, h2.2.1, _, h2.2.2, rfl⟩, rfl, by simp [one], Tryz.underlying53, (fun h => by cases h), (fun _ z hz => by cases hz; obtain ⟨i, h1, h2⟩ := Option.map_eq_some_iff.1 tinfo53; simp only [Prod.mk.injEq] at h2; exact ⟨i, h1, h2.2.2⟩)⟩
theorem tinfo54 : (Tryz.prog.info? 54).map (fun i => (i.size, i.bytes, i.zero)) = some (6, 136, some (.agg #[.string ByteArray.empty, .slice none 0 0, .slice none 0 0, .slice none 0 0, .slice none 0 0, .slice none 0 0])) := by kernel_rfl
theorem tok54 : TOk Tryz.prog 54 ⟨.struct [(9, 0), (50, 1), (22, 2), (51, 3), (52, 4), (53, 5)], 6, 136, [.string ByteArray.empty, .slice none 0 0, .slice none 0 0, .slice none 0 0, .slice none 0 0, .slice none 0 0], [0, 3, 1, 1, 2, 6], false⟩ := ⟨by obtain ⟨i, h1, h2⟩ := Option.map_eq_some_iff.1 tinfo54; simp only [Prod.mk.injEq] at h2; exact ⟨i, h1, h2.1, h2.2.1, _, h2.2.2, rfl⟩, rfl, by simp [one], ⟨_, Tryz.underlying54, rfl⟩, (fun h => by cases h), (fun h => by cases h)⟩
theorem tinfo55 : (Tryz.prog.info? 55).map (fun i => (i.size, i.bytes, i.zero)) = some (6, 136, some (.agg #[.string ByteArray.empty, .slice none 0 0, .slice none 0 0, .slice none 0 0, .slice none 0 0, .slice none 0 0])) := by kernel_rfl
theorem tok55 : TOk Tryz.prog 55 ⟨.struct [(9, 0), (50, 1), (22, 2), (51, 3), (52, 4), (53, 5)], 6, 136, [.string ByteArray.empty, .slice none 0 0, .slice none 0 0, .slice none 0 0, .slice none 0 0, .slice none 0 0], [0, 3, 1, 1, 2, 6], false⟩ := ⟨by obtain ⟨i, h1, h2⟩ := Option.map_eq_some_iff.1 tinfo55; simp only [Prod.mk.injEq] at h2; exact ⟨i, h1, h2.1, h2.2.1, _, h2.2.2, rfl⟩, rfl, by simp [one], ⟨_, Tryz.underlying55, rfl⟩, (fun h => by cases h), (fun h => by cases h)⟩
theorem tinfo56 : (Tryz.prog.info? 56).map (fun i => (i.size, i.bytes, i.zero)) = some (3, 32, some (.agg #[.int .i64 0, .int .i64 0, .string ByteArray.empty])) := by kernel_rfl
theorem tflat56 : Tryz.prog.stoodInHeld 56 = false ∧ Tryz.prog.eqGuardType Tryz.prog.depth 56 = false := ⟨by kernel_rfl, by kernel_rfl⟩
theorem tok56 : TOk Tryz.prog 56 ⟨.struct [(3, 0), (2, 1), (9, 2)], 3, 32, [.int .i64 0, .int .i64 0, .string ByteArray.empty], [0, 0, 0], true⟩ := ⟨by obtain ⟨i, h1, h2⟩ := Option.map_eq_some_iff.1 tinfo56; simp only [Prod.mk.injEq] at h2; exact ⟨i, h1, h2.1, h2.2.1, _, h2.2.2, rfl⟩, rfl, by simp [one], ⟨_, Tryz.underlying56, rfl⟩, (fun _ => ⟨tflat56.1, tflat56.2, fun fs hfs => by rw [Tryz.underlying56] at hfs; cases hfs; simp⟩), (fun h => by cases h)⟩
theorem tinfo57 : (Tryz.prog.info? 57).map (fun i => (i.size, i.bytes, i.zero)) = some (3, 32, some (.agg #[.int .i64 0, .int .i64 0, .string ByteArray.empty])) := by kernel_rfl
theorem tflat57 : Tryz.prog.stoodInHeld 57 = false ∧ Tryz.prog.eqGuardType Tryz.prog.depth 57 = false := ⟨by kernel_rfl, by kernel_rfl⟩
theorem tok57 : TOk Tryz.prog 57 ⟨.struct [(3, 0), (2, 1), (9, 2)], 3, 32, [.int .i64 0, .int .i64 0, .string ByteArray.empty], [0, 0, 0], true⟩ := ⟨by obtain ⟨i, h1, h2⟩ := Option.map_eq_some_iff.1 tinfo57; simp only [Prod.mk.injEq] at h2; exact ⟨i, h1, h2.1, h2.2.1, _, h2.2.2, rfl⟩, rfl, by simp [one], ⟨_, Tryz.underlying57, rfl⟩, (fun _ => ⟨tflat57.1, tflat57.2, fun fs hfs => by rw [Tryz.underlying57] at hfs; cases hfs; simp⟩), (fun h => by cases h)⟩
theorem tinfo58 : (Tryz.prog.info? 58).map (fun i => (i.size, i.bytes, i.zero)) = some (2, 40, some (.agg #[.slice none 0 0, .string ByteArray.empty])) := by kernel_rfl
theorem tok58 : TOk Tryz.prog 58 ⟨.struct [(22, 0), (9, 1)], 2, 40, [.slice none 0 0, .string ByteArray.empty], [1, 0], false⟩ := ⟨by obtain ⟨i, h1, h2⟩ := Option.map_eq_some_iff.1 tinfo58; simp only [Prod.mk.injEq] at h2; exact ⟨i, h1, h2.1, h2.2.1, _, h2.2.2, rfl⟩, rfl, by simp [one], ⟨_, Tryz.underlying58, rfl⟩, (fun h => by cases h), (fun h => by cases h)⟩
theorem tinfo59 : (Tryz.prog.info? 59).map (fun i => (i.size, i.bytes, i.zero)) = some (2, 40, some (.agg #[.slice none 0 0, .string ByteArray.empty])) := by kernel_rfl
theorem tok59 : TOk Tryz.prog 59 ⟨.struct [(22, 0), (9, 1)], 2, 40, [.slice none 0 0, .string ByteArray.empty], [1, 0], false⟩ := ⟨by obtain ⟨i, h1, h2⟩ := Option.map_eq_some_iff.1 tinfo59; simp only [Prod.mk.injEq] at h2; exact ⟨i, h1, h2.1, h2.2.1, _, h2.2.2, rfl⟩, rfl, by simp [one], ⟨_, Tryz.underlying59, rfl⟩, (fun h => by cases h), (fun h => by cases h)⟩
theorem tinfo61 : (Tryz.prog.info? 61).map (fun i => (i.size, i.bytes, i.zero)) = some (3, 32, some (.agg #[.string ByteArray.empty, .int .i64 0, .bool false])) := by kernel_rfl
theorem tflat61 : Tryz.prog.stoodInHeld 61 = false ∧ Tryz.prog.eqGuardType Tryz.prog.depth 61 = false := ⟨by kernel_rfl, by kernel_rfl⟩
theorem tok61 : TOk Tryz.prog 61 ⟨.struct [(9, 0), (3, 1), (4, 2)], 3, 32, [.string ByteArray.empty, .int .i64 0, .bool false], [0, 0, 0], true⟩ := ⟨by obtain ⟨i, h1, h2⟩ := Option.map_eq_some_iff.1 tinfo61; simp only [Prod.mk.injEq] at h2; exact ⟨i, h1, h2.1, h2.2.1, _, h2.2.2, rfl⟩, rfl, by simp [one], ⟨_, Tryz.underlying61, rfl⟩, (fun _ => ⟨tflat61.1, tflat61.2, fun fs hfs => by rw [Tryz.underlying61] at hfs; cases hfs; simp⟩), (fun h => by cases h)⟩
theorem tinfo62 : (Tryz.prog.info? 62).map (fun i => (i.size, i.bytes, i.zero)) = some (3, 32, some (.agg #[.string ByteArray.empty, .int .i64 0, .bool false])) := by kernel_rfl
theorem tflat62 : Tryz.prog.stoodInHeld 62 = false ∧ Tryz.prog.eqGuardType Tryz.prog.depth 62 = false := ⟨by kernel_rfl, by kernel_rfl⟩
theorem tok62 : TOk Tryz.prog 62 ⟨.struct [(9, 0), (3, 1), (4, 2)], 3, 32, [.string ByteArray.empty, .int .i64 0, .bool false], [0, 0, 0], true⟩ := ⟨by obtain ⟨i, h1, h2⟩ := Option.map_eq_some_iff.1 tinfo62; simp only [Prod.mk.injEq] at h2; exact ⟨i, h1, h2.1, h2.2.1, _, h2.2.2, rfl⟩, rfl, by simp [one], ⟨_, Tryz.underlying62, rfl⟩, (fun _ => ⟨tflat62.1, tflat62.2, fun fs hfs => by rw [Tryz.underlying62] at hfs; cases hfs; simp⟩), (fun h => by cases h)⟩
theorem tinfo63 : (Tryz.prog.info? 63).map (fun i => (i.size, i.bytes, i.zero)) = some (6, 72, some (.agg #[.int .i64 0, .int .i64 0, .int .i64 0, .string ByteArray.empty, .int .i64 0, .slice none 0 0])) := by kernel_rfl
theorem tok63 : TOk Tryz.prog 63 ⟨.struct [(3, 0), (3, 1), (2, 2), (9, 3), (3, 4), (53, 5)], 6, 72, [.int .i64 0, .int .i64 0, .int .i64 0, .string ByteArray.empty, .int .i64 0, .slice none 0 0], [0, 0, 0, 0, 0, 6], false⟩ := ⟨by obtain ⟨i, h1, h2⟩ := Option.map_eq_some_iff.1 tinfo63; simp only [Prod.mk.injEq] at h2; exact ⟨i, h1, h2.1, h2.2.1, _, h2.2.2, rfl⟩, rfl, by simp [one], ⟨_, Tryz.underlying63, rfl⟩, (fun h => by cases h), (fun h => by cases h)⟩
theorem tinfo64 : (Tryz.prog.info? 64).map (fun i => (i.size, i.bytes, i.zero)) = some (6, 72, some (.agg #[.int .i64 0, .int .i64 0, .int .i64 0, .string ByteArray.empty, .int .i64 0, .slice none 0 0])) := by kernel_rfl
theorem tok64 : TOk Tryz.prog 64 ⟨.struct [(3, 0), (3, 1), (2, 2), (9, 3), (3, 4), (53, 5)], 6, 72, [.int .i64 0, .int .i64 0, .int .i64 0, .string ByteArray.empty, .int .i64 0, .slice none 0 0], [0, 0, 0, 0, 0, 6], false⟩ := ⟨by obtain ⟨i, h1, h2⟩ := Option.map_eq_some_iff.1 tinfo64; simp only [Prod.mk.injEq] at h2; exact ⟨i, h1, h2.1, h2.2.1, _, h2.2.2, rfl⟩, rfl, by simp [one], ⟨_, Tryz.underlying64, rfl⟩, (fun h => by cases h), (fun h => by cases h)⟩
theorem tinfo68 : (Tryz.prog.info? 68).map (fun i => (i.size, i.bytes, i.zero)) = some (1, 8, some (.pointer none)) := by kernel_rfl
theorem tok68 : TOk Tryz.prog 68 ⟨.pointer 71, 1, 8, [.pointer none], [0], false⟩ := ⟨by obtain ⟨i, h1, h2⟩ := Option.map_eq_some_iff.1 tinfo68; simp only [Prod.mk.injEq] at h2; exact ⟨i, h1, h2.1, h2.2.1, _, h2.2.2, rfl⟩, rfl, by simp [one], Tryz.underlying68, (fun h => by cases h), (fun _ z hz => by cases hz; obtain ⟨i, h1, h2⟩ := Option.map_eq_some_iff.1 tinfo68; simp only [Prod.mk.injEq] at h2; exact ⟨i, h1, h2.2.2⟩)⟩
theorem tinfo69 : (Tryz.prog.info? 69).map (fun i => (i.size, i.bytes, i.zero)) = some (1, 24, some (.slice none 0 0)) := by kernel_rfl
theorem tok69 : TOk Tryz.prog 69 ⟨.slice 4, 1, 24, [.slice none 0 0], [1], false⟩ := ⟨by obtain ⟨i, h1, h2⟩ := Option.map_eq_some_iff.1 tinfo69; simp only [Prod.mk.injEq] at h2; exact ⟨i, h1, h2.1, h2.2.1, _, h2.2.2, rfl⟩, rfl, by simp [one], Tryz.underlying69, (fun h => by cases h), (fun _ z hz => by cases hz; obtain ⟨i, h1, h2⟩ := Option.map_eq_some_iff.1 tinfo69; simp only [Prod.mk.injEq] at h2; exact ⟨i, h1, h2.2.2⟩)⟩
theorem tinfo70 : (Tryz.prog.info? 70).map (fun i => (i.size, i.bytes, i.zero)) = some (4, 96, some (.agg #[.slice none 0 0, .slice none 0 0, .slice none 0 0, .slice none 0 0])) := by kernel_rfl
theorem tok70 : TOk Tryz.prog 70 ⟨.struct [(28, 0), (32, 1), (69, 2), (34, 3)], 4, 96, [.slice none 0 0, .slice none 0 0, .slice none 0 0, .slice none 0 0], [6, 1, 1, 5], false⟩ := ⟨by obtain ⟨i, h1, h2⟩ := Option.map_eq_some_iff.1 tinfo70; simp only [Prod.mk.injEq] at h2; exact ⟨i, h1, h2.1, h2.2.1, _, h2.2.2, rfl⟩, rfl, by simp [one], ⟨_, Tryz.underlying70, rfl⟩, (fun h => by cases h), (fun h => by cases h)⟩
theorem tinfo71 : (Tryz.prog.info? 71).map (fun i => (i.size, i.bytes, i.zero)) = some (4, 96, some (.agg #[.slice none 0 0, .slice none 0 0, .slice none 0 0, .slice none 0 0])) := by kernel_rfl
theorem tok71 : TOk Tryz.prog 71 ⟨.struct [(28, 0), (32, 1), (69, 2), (34, 3)], 4, 96, [.slice none 0 0, .slice none 0 0, .slice none 0 0, .slice none 0 0], [6, 1, 1, 5], false⟩ := ⟨by obtain ⟨i, h1, h2⟩ := Option.map_eq_some_iff.1 tinfo71; simp only [Prod.mk.injEq] at h2; exact ⟨i, h1, h2.1, h2.2.1, _, h2.2.2, rfl⟩, rfl, by simp [one], ⟨_, Tryz.underlying71, rfl⟩, (fun h => by cases h), (fun h => by cases h)⟩
theorem tinfo77 : (Tryz.prog.info? 77).map (fun i => (i.size, i.bytes, i.zero)) = some (5, 40, some (.agg #[.int .i64 0, .int .i64 0, .int .i64 0, .int .i64 0, .int .i64 0])) := by kernel_rfl
theorem tflat77 : Tryz.prog.stoodInHeld 77 = false ∧ Tryz.prog.eqGuardType Tryz.prog.depth 77 = false := ⟨by kernel_rfl, by kernel_rfl⟩
theorem tok77 : TOk Tryz.prog 77 ⟨.struct [(3, 0), (3, 1), (3, 2), (3, 3), (3, 4)], 5, 40, [.int .i64 0, .int .i64 0, .int .i64 0, .int .i64 0, .int .i64 0], [0, 0, 0, 0, 0], true⟩ := ⟨by obtain ⟨i, h1, h2⟩ := Option.map_eq_some_iff.1 tinfo77; simp only [Prod.mk.injEq] at h2; exact ⟨i, h1, h2.1, h2.2.1, _, h2.2.2, rfl⟩, rfl, by simp [one], ⟨_, Tryz.underlying77, rfl⟩, (fun _ => ⟨tflat77.1, tflat77.2, fun fs hfs => by rw [Tryz.underlying77] at hfs; cases hfs; simp⟩), (fun h => by cases h)⟩
theorem tinfo78 : (Tryz.prog.info? 78).map (fun i => (i.size, i.bytes, i.zero)) = some (5, 40, some (.agg #[.int .i64 0, .int .i64 0, .int .i64 0, .int .i64 0, .int .i64 0])) := by kernel_rfl
theorem tflat78 : Tryz.prog.stoodInHeld 78 = false ∧ Tryz.prog.eqGuardType Tryz.prog.depth 78 = false := ⟨by kernel_rfl, by kernel_rfl⟩
theorem tok78 : TOk Tryz.prog 78 ⟨.struct [(3, 0), (3, 1), (3, 2), (3, 3), (3, 4)], 5, 40, [.int .i64 0, .int .i64 0, .int .i64 0, .int .i64 0, .int .i64 0], [0, 0, 0, 0, 0], true⟩ := ⟨by obtain ⟨i, h1, h2⟩ := Option.map_eq_some_iff.1 tinfo78; simp only [Prod.mk.injEq] at h2; exact ⟨i, h1, h2.1, h2.2.1, _, h2.2.2, rfl⟩, rfl, by simp [one], ⟨_, Tryz.underlying78, rfl⟩, (fun _ => ⟨tflat78.1, tflat78.2, fun fs hfs => by rw [Tryz.underlying78] at hfs; cases hfs; simp⟩), (fun h => by cases h)⟩
theorem tinfo89 : (Tryz.prog.info? 89).map (fun i => (i.size, i.bytes, i.zero)) = some (5, 48, some (.agg #[.int .i64 0, .int .i64 0, .int .i64 0, .int .i64 0, .string ByteArray.empty])) := by kernel_rfl
theorem tflat89 : Tryz.prog.stoodInHeld 89 = false ∧ Tryz.prog.eqGuardType Tryz.prog.depth 89 = false := ⟨by kernel_rfl, by kernel_rfl⟩
theorem tok89 : TOk Tryz.prog 89 ⟨.struct [(3, 0), (3, 1), (57, 2)], 5, 48, [.int .i64 0, .int .i64 0, .int .i64 0, .int .i64 0, .string ByteArray.empty], [0, 0, 0, 0, 0], true⟩ := ⟨by obtain ⟨i, h1, h2⟩ := Option.map_eq_some_iff.1 tinfo89; simp only [Prod.mk.injEq] at h2; exact ⟨i, h1, h2.1, h2.2.1, _, h2.2.2, rfl⟩, rfl, by simp [one], ⟨_, Tryz.underlying89, rfl⟩, (fun _ => ⟨tflat89.1, tflat89.2, fun fs hfs => by rw [Tryz.underlying89] at hfs; cases hfs; simp⟩), (fun h => by cases h)⟩
theorem tinfo90 : (Tryz.prog.info? 90).map (fun i => (i.size, i.bytes, i.zero)) = some (5, 48, some (.agg #[.int .i64 0, .int .i64 0, .int .i64 0, .int .i64 0, .string ByteArray.empty])) := by kernel_rfl
theorem tflat90 : Tryz.prog.stoodInHeld 90 = false ∧ Tryz.prog.eqGuardType Tryz.prog.depth 90 = false := ⟨by kernel_rfl, by kernel_rfl⟩
theorem tok90 : TOk Tryz.prog 90 ⟨.struct [(3, 0), (3, 1), (57, 2)], 5, 48, [.int .i64 0, .int .i64 0, .int .i64 0, .int .i64 0, .string ByteArray.empty], [0, 0, 0, 0, 0], true⟩ := ⟨by obtain ⟨i, h1, h2⟩ := Option.map_eq_some_iff.1 tinfo90; simp only [Prod.mk.injEq] at h2; exact ⟨i, h1, h2.1, h2.2.1, _, h2.2.2, rfl⟩, rfl, by simp [one], ⟨_, Tryz.underlying90, rfl⟩, (fun _ => ⟨tflat90.1, tflat90.2, fun fs hfs => by rw [Tryz.underlying90] at hfs; cases hfs; simp⟩), (fun h => by cases h)⟩
theorem tinfo92 : (Tryz.prog.info? 92).map (fun i => (i.size, i.bytes, i.zero)) = some (1, 24, some (.slice none 0 0)) := by kernel_rfl
theorem tok92 : TOk Tryz.prog 92 ⟨.slice 5, 1, 24, [.slice none 0 0], [1], false⟩ := ⟨by obtain ⟨i, h1, h2⟩ := Option.map_eq_some_iff.1 tinfo92; simp only [Prod.mk.injEq] at h2; exact ⟨i, h1, h2.1, h2.2.1, _, h2.2.2, rfl⟩, rfl, by simp [one], Tryz.underlying92, (fun h => by cases h), (fun _ z hz => by cases hz; obtain ⟨i, h1, h2⟩ := Option.map_eq_some_iff.1 tinfo92; simp only [Prod.mk.injEq] at h2; exact ⟨i, h1, h2.2.2⟩)⟩
theorem tinfo111 : (Tryz.prog.info? 111).map (fun i => (i.size, i.bytes, i.zero)) = some (1, 24, some (.slice none 0 0)) := by kernel_rfl
theorem tok111 : TOk Tryz.prog 111 ⟨.slice 9, 1, 24, [.slice none 0 0], [1], false⟩ := ⟨by obtain ⟨i, h1, h2⟩ := Option.map_eq_some_iff.1 tinfo111; simp only [Prod.mk.injEq] at h2; exact ⟨i, h1, h2.1, h2.2.1, _, h2.2.2, rfl⟩, rfl, by simp [one], Tryz.underlying111, (fun h => by cases h), (fun _ z hz => by cases hz; obtain ⟨i, h1, h2⟩ := Option.map_eq_some_iff.1 tinfo111; simp only [Prod.mk.injEq] at h2; exact ⟨i, h1, h2.2.2⟩)⟩
theorem tinfo119 : (Tryz.prog.info? 119).map (fun i => (i.size, i.bytes, i.zero)) = some (1, 24, some (.slice none 0 0)) := by kernel_rfl
theorem tok119 : TOk Tryz.prog 119 ⟨.slice 2, 1, 24, [.slice none 0 0], [1], false⟩ := ⟨by obtain ⟨i, h1, h2⟩ := Option.map_eq_some_iff.1 tinfo119; simp only [Prod.mk.injEq] at h2; exact ⟨i, h1, h2.1, h2.2.1, _, h2.2.2, rfl⟩, rfl, by simp [one], Tryz.underlying119, (fun h => by cases h), (fun _ z hz => by cases hz; obtain ⟨i, h1, h2⟩ := Option.map_eq_some_iff.1 tinfo119; simp only [Prod.mk.injEq] at h2; exact ⟨i, h1, h2.2.2⟩)⟩
theorem tinfo127 : (Tryz.prog.info? 127).map (fun i => (i.size, i.bytes, i.zero)) = some (1, 24, some (.slice none 0 0)) := by kernel_rfl
theorem tok127 : TOk Tryz.prog 127 ⟨.slice 128, 1, 24, [.slice none 0 0], [1], false⟩ := ⟨by obtain ⟨i, h1, h2⟩ := Option.map_eq_some_iff.1 tinfo127; simp only [Prod.mk.injEq] at h2; exact ⟨i, h1, h2.1, h2.2.1, _, h2.2.2, rfl⟩, rfl, by simp [one], Tryz.underlying127, (fun h => by cases h), (fun _ z hz => by cases hz; obtain ⟨i, h1, h2⟩ := Option.map_eq_some_iff.1 tinfo127; simp only [Prod.mk.injEq] at h2; exact ⟨i, h1, h2.2.2⟩)⟩
theorem tinfo128 : (Tryz.prog.info? 128).map (fun i => (i.size, i.bytes, i.zero)) = some (1, 8, some (.map none)) := by kernel_rfl
theorem tok128 : TOk Tryz.prog 128 ⟨.map 3 4, 1, 8, [.map none], [0], false⟩ := ⟨by obtain ⟨i, h1, h2⟩ := Option.map_eq_some_iff.1 tinfo128; simp only [Prod.mk.injEq] at h2; exact ⟨i, h1, h2.1, h2.2.1, _, h2.2.2, rfl⟩, rfl, by simp [one], Tryz.underlying128, (fun h => by cases h), (fun _ z hz => by cases hz; obtain ⟨i, h1, h2⟩ := Option.map_eq_some_iff.1 tinfo128; simp only [Prod.mk.injEq] at h2; exact ⟨i, h1, h2.2.2⟩)⟩
theorem tinfo133 : (Tryz.prog.info? 133).map (fun i => (i.size, i.bytes, i.zero)) = some (1, 8, some (.map none)) := by kernel_rfl
theorem tok133 : TOk Tryz.prog 133 ⟨.map 9 3, 1, 8, [.map none], [0], false⟩ := ⟨by obtain ⟨i, h1, h2⟩ := Option.map_eq_some_iff.1 tinfo133; simp only [Prod.mk.injEq] at h2; exact ⟨i, h1, h2.1, h2.2.1, _, h2.2.2, rfl⟩, rfl, by simp [one], Tryz.underlying133, (fun h => by cases h), (fun _ z hz => by cases hz; obtain ⟨i, h1, h2⟩ := Option.map_eq_some_iff.1 tinfo133; simp only [Prod.mk.injEq] at h2; exact ⟨i, h1, h2.2.2⟩)⟩
theorem tinfo135 : (Tryz.prog.info? 135).map (fun i => (i.size, i.bytes, i.zero)) = some (1, 8, some (.map none)) := by kernel_rfl
theorem tok135 : TOk Tryz.prog 135 ⟨.map 9 4, 1, 8, [.map none], [0], false⟩ := ⟨by obtain ⟨i, h1, h2⟩ := Option.map_eq_some_iff.1 tinfo135; simp only [Prod.mk.injEq] at h2; exact ⟨i, h1, h2.1, h2.2.1, _, h2.2.2, rfl⟩, rfl, by simp [one], Tryz.underlying135, (fun h => by cases h), (fun _ z hz => by cases hz; obtain ⟨i, h1, h2⟩ := Option.map_eq_some_iff.1 tinfo135; simp only [Prod.mk.injEq] at h2; exact ⟨i, h1, h2.2.2⟩)⟩
theorem tinfo136 : (Tryz.prog.info? 136).map (fun i => (i.size, i.bytes, i.zero)) = some (4, 40, some (.agg #[.string ByteArray.empty, .int .i64 0, .int .i64 0, .int .i64 0])) := by kernel_rfl
theorem tflat136 : Tryz.prog.stoodInHeld 136 = false ∧ Tryz.prog.eqGuardType Tryz.prog.depth 136 = false := ⟨by kernel_rfl, by kernel_rfl⟩
theorem tok136 : TOk Tryz.prog 136 ⟨.struct [(9, 0), (3, 1), (3, 2), (3, 3)], 4, 40, [.string ByteArray.empty, .int .i64 0, .int .i64 0, .int .i64 0], [0, 0, 0, 0], true⟩ := ⟨by obtain ⟨i, h1, h2⟩ := Option.map_eq_some_iff.1 tinfo136; simp only [Prod.mk.injEq] at h2; exact ⟨i, h1, h2.1, h2.2.1, _, h2.2.2, rfl⟩, rfl, by simp [one], ⟨_, Tryz.underlying136, rfl⟩, (fun _ => ⟨tflat136.1, tflat136.2, fun fs hfs => by rw [Tryz.underlying136] at hfs; cases hfs; simp⟩), (fun h => by cases h)⟩
theorem tinfo137 : (Tryz.prog.info? 137).map (fun i => (i.size, i.bytes, i.zero)) = some (4, 40, some (.agg #[.string ByteArray.empty, .int .i64 0, .int .i64 0, .int .i64 0])) := by kernel_rfl
theorem tflat137 : Tryz.prog.stoodInHeld 137 = false ∧ Tryz.prog.eqGuardType Tryz.prog.depth 137 = false := ⟨by kernel_rfl, by kernel_rfl⟩
theorem tok137 : TOk Tryz.prog 137 ⟨.struct [(9, 0), (3, 1), (3, 2), (3, 3)], 4, 40, [.string ByteArray.empty, .int .i64 0, .int .i64 0, .int .i64 0], [0, 0, 0, 0], true⟩ := ⟨by obtain ⟨i, h1, h2⟩ := Option.map_eq_some_iff.1 tinfo137; simp only [Prod.mk.injEq] at h2; exact ⟨i, h1, h2.1, h2.2.1, _, h2.2.2, rfl⟩, rfl, by simp [one], ⟨_, Tryz.underlying137, rfl⟩, (fun _ => ⟨tflat137.1, tflat137.2, fun fs hfs => by rw [Tryz.underlying137] at hfs; cases hfs; simp⟩), (fun h => by cases h)⟩
theorem tinfo169 : (Tryz.prog.info? 169).map (fun i => (i.size, i.bytes, i.zero)) = some (116, 1160, some (.agg #[.string ByteArray.empty, .int .i64 0, .int .i64 0, .int .i64 0, .string ByteArray.empty, .int .i64 0, .int .i64 0, .int .i64 0, .string ByteArray.empty, .int .i64 0, .int .i64 0, .int .i64 0, .string ByteArray.empty, .int .i64 0, .int .i64 0, .int .i64 0, .string ByteArray.empty, .int .i64 0, .int .i64 0, .int .i64 0, .string ByteArray.empty, .int .i64 0, .int .i64 0, .int .i64 0, .string ByteArray.empty, .int .i64 0, .int .i64 0, .int .i64 0, .string ByteArray.empty, .int .i64 0, .int .i64 0, .int .i64 0, .string ByteArray.empty, .int .i64 0, .int .i64 0, .int .i64 0, .string ByteArray.empty, .int .i64 0, .int .i64 0, .int .i64 0, .string ByteArray.empty, .int .i64 0, .int .i64 0, .int .i64 0, .string ByteArray.empty, .int .i64 0, .int .i64 0, .int .i64 0, .string ByteArray.empty, .int .i64 0, .int .i64 0, .int .i64 0, .string ByteArray.empty, .int .i64 0, .int .i64 0, .int .i64 0, .string ByteArray.empty, .int .i64 0, .int .i64 0, .int .i64 0, .string ByteArray.empty, .int .i64 0, .int .i64 0, .int .i64 0, .string ByteArray.empty, .int .i64 0, .int .i64 0, .int .i64 0, .string ByteArray.empty, .int .i64 0, .int .i64 0, .int .i64 0, .string ByteArray.empty, .int .i64 0, .int .i64 0, .int .i64 0, .string ByteArray.empty, .int .i64 0, .int .i64 0, .int .i64 0, .string ByteArray.empty, .int .i64 0, .int .i64 0, .int .i64 0, .string ByteArray.empty, .int .i64 0, .int .i64 0, .int .i64 0, .string ByteArray.empty, .int .i64 0, .int .i64 0, .int .i64 0, .string ByteArray.empty, .int .i64 0, .int .i64 0, .int .i64 0, .string ByteArray.empty, .int .i64 0, .int .i64 0, .int .i64 0, .string ByteArray.empty, .int .i64 0, .int .i64 0, .int .i64 0, .string ByteArray.empty, .int .i64 0, .int .i64 0, .int .i64 0, .string ByteArray.empty, .int .i64 0, .int .i64 0, .int .i64 0, .string ByteArray.empty, .int .i64 0, .int .i64 0, .int .i64 0])) := by kernel_rfl
theorem tok169 : TOk Tryz.prog 169 ⟨.array 29 137, 116, 1160, [.string ByteArray.empty, .int .i64 0, .int .i64 0, .int .i64 0, .string ByteArray.empty, .int .i64 0, .int .i64 0, .int .i64 0, .string ByteArray.empty, .int .i64 0, .int .i64 0, .int .i64 0, .string ByteArray.empty, .int .i64 0, .int .i64 0, .int .i64 0, .string ByteArray.empty, .int .i64 0, .int .i64 0, .int .i64 0, .string ByteArray.empty, .int .i64 0, .int .i64 0, .int .i64 0, .string ByteArray.empty, .int .i64 0, .int .i64 0, .int .i64 0, .string ByteArray.empty, .int .i64 0, .int .i64 0, .int .i64 0, .string ByteArray.empty, .int .i64 0, .int .i64 0, .int .i64 0, .string ByteArray.empty, .int .i64 0, .int .i64 0, .int .i64 0, .string ByteArray.empty, .int .i64 0, .int .i64 0, .int .i64 0, .string ByteArray.empty, .int .i64 0, .int .i64 0, .int .i64 0, .string ByteArray.empty, .int .i64 0, .int .i64 0, .int .i64 0, .string ByteArray.empty, .int .i64 0, .int .i64 0, .int .i64 0, .string ByteArray.empty, .int .i64 0, .int .i64 0, .int .i64 0, .string ByteArray.empty, .int .i64 0, .int .i64 0, .int .i64 0, .string ByteArray.empty, .int .i64 0, .int .i64 0, .int .i64 0, .string ByteArray.empty, .int .i64 0, .int .i64 0, .int .i64 0, .string ByteArray.empty, .int .i64 0, .int .i64 0, .int .i64 0, .string ByteArray.empty, .int .i64 0, .int .i64 0, .int .i64 0, .string ByteArray.empty, .int .i64 0, .int .i64 0, .int .i64 0, .string ByteArray.empty, .int .i64 0, .int .i64 0, .int .i64 0, .string ByteArray.empty, .int .i64 0, .int .i64 0, .int .i64 0, .string ByteArray.empty, .int .i64 0, .int .i64 0, .int .i64 0, .string ByteArray.empty, .int .i64 0, .int .i64 0, .int .i64 0, .string ByteArray.empty, .int .i64 0, .int .i64 0, .int .i64 0, .string ByteArray.empty, .int .i64 0, .int .i64 0, .int .i64 0, .string ByteArray.empty, .int .i64 0, .int .i64 0, .int .i64 0, .string ByteArray.empty, .int .i64 0, .int .i64 0, .int .i64 0], [0, 0, 0, 0, 0, 0, 0, 0, 0, 0, 0, 0, 0, 0, 0, 0, 0, 0, 0, 0, 0, 0, 0, 0, 0, 0, 0, 0, 0, 0, 0, 0, 0, 0, 0, 0, 0, 0, 0, 0, 0, 0, 0, 0, 0, 0, 0, 0, 0, 0, 0, 0, 0, 0, 0, 0, 0, 0, 0, 0, 0, 0, 0, 0, 0, 0, 0, 0, 0, 0, 0, 0, 0, 0, 0, 0, 0, 0, 0, 0, 0, 0, 0, 0, 0, 0, 0, 0, 0, 0, 0, 0, 0, 0, 0, 0, 0, 0, 0, 0, 0, 0, 0, 0, 0, 0, 0, 0, 0, 0, 0, 0, 0, 0, 0, 0], false⟩ := ⟨by obtain ⟨i, h1, h2⟩ := Option.map_eq_some_iff.1 tinfo169; simp only [Prod.mk.injEq] at h2; exact ⟨i, h1, h2.1, h2.2.1, _, h2.2.2, rfl⟩, rfl, by simp [one], Tryz.underlying169, (fun h => by cases h), (fun h => by cases h)⟩
theorem tinfo172 : (Tryz.prog.info? 172).map (fun i => (i.size, i.bytes, i.zero)) = some (1, 8, some (.int .u64 0)) := by kernel_rfl
theorem tok172 : TOk Tryz.prog 172 ⟨.int .u64, 1, 8, [.int .u64 0], [0], false⟩ := ⟨by obtain ⟨i, h1, h2⟩ := Option.map_eq_some_iff.1 tinfo172; simp only [Prod.mk.injEq] at h2; exact ⟨i, h1, h2.1, h2.2.1, _, h2.2.2, rfl⟩, rfl, by simp [one], Tryz.underlying172, (fun h => by cases h), (fun _ z hz => by cases hz; obtain ⟨i, h1, h2⟩ := Option.map_eq_some_iff.1 tinfo172; simp only [Prod.mk.injEq] at h2; exact ⟨i, h1, h2.2.2⟩)⟩
theorem tinfo177 : (Tryz.prog.info? 177).map (fun i => (i.size, i.bytes, i.zero)) = some (1, 4, some (.int .u32 0)) := by kernel_rfl
theorem tok177 : TOk Tryz.prog 177 ⟨.int .u32, 1, 4, [.int .u32 0], [0], false⟩ := ⟨by obtain ⟨i, h1, h2⟩ := Option.map_eq_some_iff.1 tinfo177; simp only [Prod.mk.injEq] at h2; exact ⟨i, h1, h2.1, h2.2.1, _, h2.2.2, rfl⟩, rfl, by simp [one], Tryz.underlying177, (fun h => by cases h), (fun _ z hz => by cases hz; obtain ⟨i, h1, h2⟩ := Option.map_eq_some_iff.1 tinfo177; simp only [Prod.mk.injEq] at h2; exact ⟨i, h1, h2.2.2⟩)⟩
theorem tinfo181 : (Tryz.prog.info? 181).map (fun i => (i.size, i.bytes, i.zero)) = some (24, 24, some (.agg #[.int .u8 0, .int .u8 0, .int .u8 0, .int .u8 0, .int .u8 0, .int .u8 0, .int .u8 0, .int .u8 0, .int .u8 0, .int .u8 0, .int .u8 0, .int .u8 0, .int .u8 0, .int .u8 0, .int .u8 0, .int .u8 0, .int .u8 0, .int .u8 0, .int .u8 0, .int .u8 0, .int .u8 0, .int .u8 0, .int .u8 0, .int .u8 0])) := by kernel_rfl
theorem tok181 : TOk Tryz.prog 181 ⟨.array 24 5, 24, 24, [.int .u8 0, .int .u8 0, .int .u8 0, .int .u8 0, .int .u8 0, .int .u8 0, .int .u8 0, .int .u8 0, .int .u8 0, .int .u8 0, .int .u8 0, .int .u8 0, .int .u8 0, .int .u8 0, .int .u8 0, .int .u8 0, .int .u8 0, .int .u8 0, .int .u8 0, .int .u8 0, .int .u8 0, .int .u8 0, .int .u8 0, .int .u8 0], [0, 0, 0, 0, 0, 0, 0, 0, 0, 0, 0, 0, 0, 0, 0, 0, 0, 0, 0, 0, 0, 0, 0, 0], false⟩ := ⟨by obtain ⟨i, h1, h2⟩ := Option.map_eq_some_iff.1 tinfo181; simp only [Prod.mk.injEq] at h2; exact ⟨i, h1, h2.1, h2.2.1, _, h2.2.2, rfl⟩, rfl, by simp [one], Tryz.underlying181, (fun h => by cases h), (fun h => by cases h)⟩
theorem tinfo182 : (Tryz.prog.info? 182).map (fun i => (i.size, i.bytes, i.zero)) = some (1, 8, some (.int .u64 0)) := by kernel_rfl
theorem tok182 : TOk Tryz.prog 182 ⟨.int .u64, 1, 8, [.int .u64 0], [0], false⟩ := ⟨by obtain ⟨i, h1, h2⟩ := Option.map_eq_some_iff.1 tinfo182; simp only [Prod.mk.injEq] at h2; exact ⟨i, h1, h2.1, h2.2.1, _, h2.2.2, rfl⟩, rfl, by simp [one], Tryz.underlying182, (fun h => by cases h), (fun _ z hz => by cases hz; obtain ⟨i, h1, h2⟩ := Option.map_eq_some_iff.1 tinfo182; simp only [Prod.mk.injEq] at h2; exact ⟨i, h1, h2.2.2⟩)⟩
theorem tinfo189 : (Tryz.prog.info? 189).map (fun i => (i.size, i.bytes, i.zero)) = some (20, 160, some (.agg #[.int .u64 0, .int .u64 0, .int .u64 0, .int .u64 0, .int .u64 0, .int .u64 0, .int .u64 0, .int .u64 0, .int .u64 0, .int .u64 0, .int .u64 0, .int .u64 0, .int .u64 0, .int .u64 0, .int .u64 0, .int .u64 0, .int .u64 0, .int .u64 0, .int .u64 0, .int .u64 0])) := by kernel_rfl
theorem tok189 : TOk Tryz.prog 189 ⟨.array 20 182, 20, 160, [.int .u64 0, .int .u64 0, .int .u64 0, .int .u64 0, .int .u64 0, .int .u64 0, .int .u64 0, .int .u64 0, .int .u64 0, .int .u64 0, .int .u64 0, .int .u64 0, .int .u64 0, .int .u64 0, .int .u64 0, .int .u64 0, .int .u64 0, .int .u64 0, .int .u64 0, .int .u64 0], [0, 0, 0, 0, 0, 0, 0, 0, 0, 0, 0, 0, 0, 0, 0, 0, 0, 0, 0, 0], false⟩ := ⟨by obtain ⟨i, h1, h2⟩ := Option.map_eq_some_iff.1 tinfo189; simp only [Prod.mk.injEq] at h2; exact ⟨i, h1, h2.1, h2.2.1, _, h2.2.2, rfl⟩, rfl, by simp [one], Tryz.underlying189, (fun h => by cases h), (fun h => by cases h)⟩
theorem tinfo190 : (Tryz.prog.info? 190).map (fun i => (i.size, i.bytes, i.zero)) = some (65, 65, some (.agg #[.int .u8 0, .int .u8 0, .int .u8 0, .int .u8 0, .int .u8 0, .int .u8 0, .int .u8 0, .int .u8 0, .int .u8 0, .int .u8 0, .int .u8 0, .int .u8 0, .int .u8 0, .int .u8 0, .int .u8 0, .int .u8 0, .int .u8 0, .int .u8 0, .int .u8 0, .int .u8 0, .int .u8 0, .int .u8 0, .int .u8 0, .int .u8 0, .int .u8 0, .int .u8 0, .int .u8 0, .int .u8 0, .int .u8 0, .int .u8 0, .int .u8 0, .int .u8 0, .int .u8 0, .int .u8 0, .int .u8 0, .int .u8 0, .int .u8 0, .int .u8 0, .int .u8 0, .int .u8 0, .int .u8 0, .int .u8 0, .int .u8 0, .int .u8 0, .int .u8 0, .int .u8 0, .int .u8 0, .int .u8 0, .int .u8 0, .int .u8 0, .int .u8 0, .int .u8 0, .int .u8 0, .int .u8 0, .int .u8 0, .int .u8 0, .int .u8 0, .int .u8 0, .int .u8 0, .int .u8 0, .int .u8 0, .int .u8 0, .int .u8 0, .int .u8 0, .int .u8 0])) := by kernel_rfl
theorem tok190 : TOk Tryz.prog 190 ⟨.array 65 5, 65, 65, [.int .u8 0, .int .u8 0, .int .u8 0, .int .u8 0, .int .u8 0, .int .u8 0, .int .u8 0, .int .u8 0, .int .u8 0, .int .u8 0, .int .u8 0, .int .u8 0, .int .u8 0, .int .u8 0, .int .u8 0, .int .u8 0, .int .u8 0, .int .u8 0, .int .u8 0, .int .u8 0, .int .u8 0, .int .u8 0, .int .u8 0, .int .u8 0, .int .u8 0, .int .u8 0, .int .u8 0, .int .u8 0, .int .u8 0, .int .u8 0, .int .u8 0, .int .u8 0, .int .u8 0, .int .u8 0, .int .u8 0, .int .u8 0, .int .u8 0, .int .u8 0, .int .u8 0, .int .u8 0, .int .u8 0, .int .u8 0, .int .u8 0, .int .u8 0, .int .u8 0, .int .u8 0, .int .u8 0, .int .u8 0, .int .u8 0, .int .u8 0, .int .u8 0, .int .u8 0, .int .u8 0, .int .u8 0, .int .u8 0, .int .u8 0, .int .u8 0, .int .u8 0, .int .u8 0, .int .u8 0, .int .u8 0, .int .u8 0, .int .u8 0, .int .u8 0, .int .u8 0], [0, 0, 0, 0, 0, 0, 0, 0, 0, 0, 0, 0, 0, 0, 0, 0, 0, 0, 0, 0, 0, 0, 0, 0, 0, 0, 0, 0, 0, 0, 0, 0, 0, 0, 0, 0, 0, 0, 0, 0, 0, 0, 0, 0, 0, 0, 0, 0, 0, 0, 0, 0, 0, 0, 0, 0, 0, 0, 0, 0, 0, 0, 0, 0, 0], false⟩ := ⟨by obtain ⟨i, h1, h2⟩ := Option.map_eq_some_iff.1 tinfo190; simp only [Prod.mk.injEq] at h2; exact ⟨i, h1, h2.1, h2.2.1, _, h2.2.2, rfl⟩, rfl, by simp [one], Tryz.underlying190, (fun h => by cases h), (fun h => by cases h)⟩
theorem tinfo193 : (Tryz.prog.info? 193).map (fun i => (i.size, i.bytes, i.zero)) = some (32, 32, some (.agg #[.int .u8 0, .int .u8 0, .int .u8 0, .int .u8 0, .int .u8 0, .int .u8 0, .int .u8 0, .int .u8 0, .int .u8 0, .int .u8 0, .int .u8 0, .int .u8 0, .int .u8 0, .int .u8 0, .int .u8 0, .int .u8 0, .int .u8 0, .int .u8 0, .int .u8 0, .int .u8 0, .int .u8 0, .int .u8 0, .int .u8 0, .int .u8 0, .int .u8 0, .int .u8 0, .int .u8 0, .int .u8 0, .int .u8 0, .int .u8 0, .int .u8 0, .int .u8 0])) := by kernel_rfl
theorem tok193 : TOk Tryz.prog 193 ⟨.array 32 5, 32, 32, [.int .u8 0, .int .u8 0, .int .u8 0, .int .u8 0, .int .u8 0, .int .u8 0, .int .u8 0, .int .u8 0, .int .u8 0, .int .u8 0, .int .u8 0, .int .u8 0, .int .u8 0, .int .u8 0, .int .u8 0, .int .u8 0, .int .u8 0, .int .u8 0, .int .u8 0, .int .u8 0, .int .u8 0, .int .u8 0, .int .u8 0, .int .u8 0, .int .u8 0, .int .u8 0, .int .u8 0, .int .u8 0, .int .u8 0, .int .u8 0, .int .u8 0, .int .u8 0], [0, 0, 0, 0, 0, 0, 0, 0, 0, 0, 0, 0, 0, 0, 0, 0, 0, 0, 0, 0, 0, 0, 0, 0, 0, 0, 0, 0, 0, 0, 0, 0], false⟩ := ⟨by obtain ⟨i, h1, h2⟩ := Option.map_eq_some_iff.1 tinfo193; simp only [Prod.mk.injEq] at h2; exact ⟨i, h1, h2.1, h2.2.1, _, h2.2.2, rfl⟩, rfl, by simp [one], Tryz.underlying193, (fun h => by cases h), (fun h => by cases h)⟩
theorem tinfo194 : (Tryz.prog.info? 194).map (fun i => (i.size, i.bytes, i.zero)) = some (64, 64, some (.agg #[.int .u8 0, .int .u8 0, .int .u8 0, .int .u8 0, .int .u8 0, .int .u8 0, .int .u8 0, .int .u8 0, .int .u8 0, .int .u8 0, .int .u8 0, .int .u8 0, .int .u8 0, .int .u8 0, .int .u8 0, .int .u8 0, .int .u8 0, .int .u8 0, .int .u8 0, .int .u8 0, .int .u8 0, .int .u8 0, .int .u8 0, .int .u8 0, .int .u8 0, .int .u8 0, .int .u8 0, .int .u8 0, .int .u8 0, .int .u8 0, .int .u8 0, .int .u8 0, .int .u8 0, .int .u8 0, .int .u8 0, .int .u8 0, .int .u8 0, .int .u8 0, .int .u8 0, .int .u8 0, .int .u8 0, .int .u8 0, .int .u8 0, .int .u8 0, .int .u8 0, .int .u8 0, .int .u8 0, .int .u8 0, .int .u8 0, .int .u8 0, .int .u8 0, .int .u8 0, .int .u8 0, .int .u8 0, .int .u8 0, .int .u8 0, .int .u8 0, .int .u8 0, .int .u8 0, .int .u8 0, .int .u8 0, .int .u8 0, .int .u8 0, .int .u8 0])) := by kernel_rfl
theorem tok194 : TOk Tryz.prog 194 ⟨.array 64 5, 64, 64, [.int .u8 0, .int .u8 0, .int .u8 0, .int .u8 0, .int .u8 0, .int .u8 0, .int .u8 0, .int .u8 0, .int .u8 0, .int .u8 0, .int .u8 0, .int .u8 0, .int .u8 0, .int .u8 0, .int .u8 0, .int .u8 0, .int .u8 0, .int .u8 0, .int .u8 0, .int .u8 0, .int .u8 0, .int .u8 0, .int .u8 0, .int .u8 0, .int .u8 0, .int .u8 0, .int .u8 0, .int .u8 0, .int .u8 0, .int .u8 0, .int .u8 0, .int .u8 0, .int .u8 0, .int .u8 0, .int .u8 0, .int .u8 0, .int .u8 0, .int .u8 0, .int .u8 0, .int .u8 0, .int .u8 0, .int .u8 0, .int .u8 0, .int .u8 0, .int .u8 0, .int .u8 0, .int .u8 0, .int .u8 0, .int .u8 0, .int .u8 0, .int .u8 0, .int .u8 0, .int .u8 0, .int .u8 0, .int .u8 0, .int .u8 0, .int .u8 0, .int .u8 0, .int .u8 0, .int .u8 0, .int .u8 0, .int .u8 0, .int .u8 0, .int .u8 0], [0, 0, 0, 0, 0, 0, 0, 0, 0, 0, 0, 0, 0, 0, 0, 0, 0, 0, 0, 0, 0, 0, 0, 0, 0, 0, 0, 0, 0, 0, 0, 0, 0, 0, 0, 0, 0, 0, 0, 0, 0, 0, 0, 0, 0, 0, 0, 0, 0, 0, 0, 0, 0, 0, 0, 0, 0, 0, 0, 0, 0, 0, 0, 0], false⟩ := ⟨by obtain ⟨i, h1, h2⟩ := Option.map_eq_some_iff.1 tinfo194; simp only [Prod.mk.injEq] at h2; exact ⟨i, h1, h2.1, h2.2.1, _, h2.2.2, rfl⟩, rfl, by simp [one], Tryz.underlying194, (fun h => by cases h), (fun h => by cases h)⟩
theorem tinfo205 : (Tryz.prog.info? 205).map (fun i => (i.size, i.bytes, i.zero)) = some (1, 8, some (.pointer none)) := by kernel_rfl
theorem tok205 : TOk Tryz.prog 205 ⟨.pointer 5, 1, 8, [.pointer none], [0], false⟩ := ⟨by obtain ⟨i, h1, h2⟩ := Option.map_eq_some_iff.1 tinfo205; simp only [Prod.mk.injEq] at h2; exact ⟨i, h1, h2.1, h2.2.1, _, h2.2.2, rfl⟩, rfl, by simp [one], Tryz.underlying205, (fun h => by cases h), (fun _ z hz => by cases hz; obtain ⟨i, h1, h2⟩ := Option.map_eq_some_iff.1 tinfo205; simp only [Prod.mk.injEq] at h2; exact ⟨i, h1, h2.2.2⟩)⟩
/-- The table, as simp reads it. -/
theorem tte : tt 2 = some ⟨.int .i64, 1, 8, [.int .i64 0], [0], false⟩ ∧ tt 3 = some ⟨.int .i64, 1, 8, [.int .i64 0], [0], false⟩ ∧ tt 4 = some ⟨.bool, 1, 1, [.bool false], [0], false⟩ ∧ tt 5 = some ⟨.int .u8, 1, 1, [.int .u8 0], [0], false⟩ ∧ tt 9 = some ⟨.string, 1, 16, [.string ByteArray.empty], [0], false⟩ ∧ tt 12 = some ⟨.int .u64, 1, 8, [.int .u64 0], [0], false⟩ ∧ tt 13 = some ⟨.struct [(9, 0), (12, 1)], 2, 24, [.string ByteArray.empty, .int .u64 0], [0, 0], false⟩ ∧ tt 21 = some ⟨.int .i32, 1, 4, [.int .i32 0], [0], false⟩ ∧ tt 22 = some ⟨.slice 3, 1, 24, [.slice none 0 0], [1], false⟩ ∧ tt 23 = some ⟨.pointer 25, 1, 8, [.pointer none], [0], false⟩ ∧ tt 24 = some ⟨.struct [(22, 0), (3, 1)], 2, 32, [.slice none 0 0, .int .i64 0], [1, 0], false⟩ ∧ tt 25 = some ⟨.struct [(22, 0), (3, 1)], 2, 32, [.slice none 0 0, .int .i64 0], [1, 0], false⟩ ∧ tt 26 = some ⟨.slice 55, 1, 24, [.slice none 0 0], [6], false⟩ ∧ tt 27 = some ⟨.struct [(26, 0)], 1, 24, [.slice none 0 0], [6], false⟩ ∧ tt 28 = some ⟨.struct [(26, 0)], 1, 24, [.slice none 0 0], [6], false⟩ ∧ tt 30 = some ⟨.slice 46, 1, 24, [.slice none 0 0], [1], false⟩ ∧ tt 31 = some ⟨.struct [(30, 0)], 1, 24, [.slice none 0 0], [1], false⟩ ∧ tt 32 = some ⟨.struct [(30, 0)], 1, 24, [.slice none 0 0], [1], false⟩ ∧ tt 34 = some ⟨.slice 78, 1, 24, [.slice none 0 0], [5], false⟩ ∧ tt 35 = some ⟨.int .i64, 1, 8, [.int .i64 0], [0], false⟩ ∧ tt 46 = some ⟨.slice 47, 1, 24, [.slice none 0 0], [1], false⟩ ∧ tt 47 = some ⟨.slice 57, 1, 24, [.slice none 0 0], [3], false⟩ ∧ tt 50 = some ⟨.slice 62, 1, 24, [.slice none 0 0], [3], false⟩ ∧ tt 51 = some ⟨.slice 22, 1, 24, [.slice none 0 0], [1], false⟩ ∧ tt 52 = some ⟨.slice 59, 1, 24, [.slice none 0 0], [2], false⟩ ∧ tt 53 = some ⟨.slice 64, 1, 24, [.slice none 0 0], [6], false⟩ ∧ tt 54 = some ⟨.struct [(9, 0), (50, 1), (22, 2), (51, 3), (52, 4), (53, 5)], 6, 136, [.string ByteArray.empty, .slice none 0 0, .slice none 0 0, .slice none 0 0, .slice none 0 0, .slice none 0 0], [0, 3, 1, 1, 2, 6], false⟩ ∧ tt 55 = some ⟨.struct [(9, 0), (50, 1), (22, 2), (51, 3), (52, 4), (53, 5)], 6, 136, [.string ByteArray.empty, .slice none 0 0, .slice none 0 0, .slice none 0 0, .slice none 0 0, .slice none 0 0], [0, 3, 1, 1, 2, 6], false⟩ ∧ tt 56 = some ⟨.struct [(3, 0), (2, 1), (9, 2)], 3, 32, [.int .i64 0, .int .i64 0, .string ByteArray.empty], [0, 0, 0], true⟩ ∧ tt 57 = some ⟨.struct [(3, 0), (2, 1), (9, 2)], 3, 32, [.int .i64 0, .int .i64 0, .string ByteArray.empty], [0, 0, 0], true⟩ ∧ tt 58 = some ⟨.struct [(22, 0), (9, 1)], 2, 40, [.slice none 0 0, .string ByteArray.empty], [1, 0], false⟩ ∧ tt 59 = some ⟨.struct [(22, 0), (9, 1)], 2, 40, [.slice none 0 0, .string ByteArray.empty], [1, 0], false⟩ ∧ tt 61 = some ⟨.struct [(9, 0), (3, 1), (4, 2)], 3, 32, [.string ByteArray.empty, .int .i64 0, .bool false], [0, 0, 0], true⟩ ∧ tt 62 = some ⟨.struct [(9, 0), (3, 1), (4, 2)], 3, 32, [.string ByteArray.empty, .int .i64 0, .bool false], [0, 0, 0], true⟩ ∧ tt 63 = some ⟨.struct [(3, 0), (3, 1), (2, 2), (9, 3), (3, 4), (53, 5)], 6, 72, [.int .i64 0, .int .i64 0, .int .i64 0, .string ByteArray.empty, .int .i64 0, .slice none 0 0], [0, 0, 0, 0, 0, 6], false⟩ ∧ tt 64 = some ⟨.struct [(3, 0), (3, 1), (2, 2), (9, 3), (3, 4), (53, 5)], 6, 72, [.int .i64 0, .int .i64 0, .int .i64 0, .string ByteArray.empty, .int .i64 0, .slice none 0 0], [0, 0, 0, 0, 0, 6], false⟩ ∧ tt 68 = some ⟨.pointer 71, 1, 8, [.pointer none], [0], false⟩ ∧ tt 69 = some ⟨.slice 4, 1, 24, [.slice none 0 0], [1], false⟩ ∧ tt 70 = some ⟨.struct [(28, 0), (32, 1), (69, 2), (34, 3)], 4, 96, [.slice none 0 0, .slice none 0 0, .slice none 0 0, .slice none 0 0], [6, 1, 1, 5], false⟩ ∧ tt 71 = some ⟨.struct [(28, 0), (32, 1), (69, 2), (34, 3)], 4, 96, [.slice none 0 0, .slice none 0 0, .slice none 0 0, .slice none 0 0], [6, 1, 1, 5], false⟩ ∧ tt 77 = some ⟨.struct [(3, 0), (3, 1), (3, 2), (3, 3), (3, 4)], 5, 40, [.int .i64 0, .int .i64 0, .int .i64 0, .int .i64 0, .int .i64 0], [0, 0, 0, 0, 0], true⟩ ∧ tt 78 = some ⟨.struct [(3, 0), (3, 1), (3, 2), (3, 3), (3, 4)], 5, 40, [.int .i64 0, .int .i64 0, .int .i64 0, .int .i64 0, .int .i64 0], [0, 0, 0, 0, 0], true⟩ ∧ tt 89 = some ⟨.struct [(3, 0), (3, 1), (57, 2)], 5, 48, [.int .i64 0, .int .i64 0, .int .i64 0, .int .i64 0, .string ByteArray.empty], [0, 0, 0, 0, 0], true⟩ ∧ tt 90 = some ⟨.struct [(3, 0), (3, 1), (57, 2)], 5, 48, [.int .i64 0, .int .i64 0, .int .i64 0, .int .i64 0, .string ByteArray.empty], [0, 0, 0, 0, 0], true⟩ ∧ tt 92 = some ⟨.slice 5, 1, 24, [.slice none 0 0], [1], false⟩ ∧ tt 111 = some ⟨.slice 9, 1, 24, [.slice none 0 0], [1], false⟩ ∧ tt 119 = some ⟨.slice 2, 1, 24, [.slice none 0 0], [1], false⟩ ∧ tt 127 = some ⟨.slice 128, 1, 24, [.slice none 0 0], [1], false⟩ ∧ tt 128 = some ⟨.map 3 4, 1, 8, [.map none], [0], false⟩ ∧ tt 133 = some ⟨.map 9 3, 1, 8, [.map none], [0], false⟩ ∧ tt 135 = some ⟨.map 9 4, 1, 8, [.map none], [0], false⟩ ∧ tt 136 = some ⟨.struct [(9, 0), (3, 1), (3, 2), (3, 3)], 4, 40, [.string ByteArray.empty, .int .i64 0, .int .i64 0, .int .i64 0], [0, 0, 0, 0], true⟩ ∧ tt 137 = some ⟨.struct [(9, 0), (3, 1), (3, 2), (3, 3)], 4, 40, [.string ByteArray.empty, .int .i64 0, .int .i64 0, .int .i64 0], [0, 0, 0, 0], true⟩ ∧ tt 169 = some ⟨.array 29 137, 116, 1160, [.string ByteArray.empty, .int .i64 0, .int .i64 0, .int .i64 0, .string ByteArray.empty, .int .i64 0, .int .i64 0, .int .i64 0, .string ByteArray.empty, .int .i64 0, .int .i64 0, .int .i64 0, .string ByteArray.empty, .int .i64 0, .int .i64 0, .int .i64 0, .string ByteArray.empty, .int .i64 0, .int .i64 0, .int .i64 0, .string ByteArray.empty, .int .i64 0, .int .i64 0, .int .i64 0, .string ByteArray.empty, .int .i64 0, .int .i64 0, .int .i64 0, .string ByteArray.empty, .int .i64 0, .int .i64 0, .int .i64 0, .string ByteArray.empty, .int .i64 0, .int .i64 0, .int .i64 0, .string ByteArray.empty, .int .i64 0, .int .i64 0, .int .i64 0, .string ByteArray.empty, .int .i64 0, .int .i64 0, .int .i64 0, .string ByteArray.empty, .int .i64 0, .int .i64 0, .int .i64 0, .string ByteArray.empty, .int .i64 0, .int .i64 0, .int .i64 0, .string ByteArray.empty, .int .i64 0, .int .i64 0, .int .i64 0, .string ByteArray.empty, .int .i64 0, .int .i64 0, .int .i64 0, .string ByteArray.empty, .int .i64 0, .int .i64 0, .int .i64 0, .string ByteArray.empty, .int .i64 0, .int .i64 0, .int .i64 0, .string ByteArray.empty, .int .i64 0, .int .i64 0, .int .i64 0, .string ByteArray.empty, .int .i64 0, .int .i64 0, .int .i64 0, .string ByteArray.empty, .int .i64 0, .int .i64 0, .int .i64 0, .string ByteArray.empty, .int .i64 0, .int .i64 0, .int .i64 0, .string ByteArray.empty, .int .i64 0, .int .i64 0, .int .i64 0, .string ByteArray.empty, .int .i64 0, .int .i64 0, .int .i64 0, .string ByteArray.empty, .int .i64 0, .int .i64 0, .int .i64 0, .string ByteArray.empty, .int .i64 0, .int .i64 0, .int .i64 0, .string ByteArray.empty, .int .i64 0, .int .i64 0, .int .i64 0, .string ByteArray.empty, .int .i64 0, .int .i64 0, .int .i64 0, .string ByteArray.empty, .int .i64 0, .int .i64 0, .int .i64 0, .string ByteArray.empty, .int .i64 0, .int .i64 0, .int .i64 0], [0, 0, 0, 0, 0, 0, 0, 0, 0, 0, 0, 0, 0, 0, 0, 0, 0, 0, 0, 0, 0, 0, 0, 0, 0, 0, 0, 0, 0, 0, 0, 0, 0, 0, 0, 0, 0, 0, 0, 0, 0, 0, 0, 0, 0, 0, 0, 0, 0, 0, 0, 0, 0, 0, 0, 0, 0, 0, 0, 0, 0, 0, 0, 0, 0, 0, 0, 0, 0, 0, 0, 0, 0, 0, 0, 0, 0, 0, 0, 0, 0, 0, 0, 0, 0, 0, 0, 0, 0, 0, 0, 0, 0, 0, 0, 0, 0, 0, 0, 0, 0, 0, 0, 0, 0, 0, 0, 0, 0, 0, 0, 0, 0, 0, 0, 0], false⟩ ∧ tt 172 = some ⟨.int .u64, 1, 8, [.int .u64 0], [0], false⟩ ∧ tt 177 = some ⟨.int .u32, 1, 4, [.int .u32 0], [0], false⟩ ∧ tt 181 = some ⟨.array 24 5, 24, 24, [.int .u8 0, .int .u8 0, .int .u8 0, .int .u8 0, .int .u8 0, .int .u8 0, .int .u8 0, .int .u8 0, .int .u8 0, .int .u8 0, .int .u8 0, .int .u8 0, .int .u8 0, .int .u8 0, .int .u8 0, .int .u8 0, .int .u8 0, .int .u8 0, .int .u8 0, .int .u8 0, .int .u8 0, .int .u8 0, .int .u8 0, .int .u8 0], [0, 0, 0, 0, 0, 0, 0, 0, 0, 0, 0, 0, 0, 0, 0, 0, 0, 0, 0, 0, 0, 0, 0, 0], false⟩ ∧ tt 182 = some ⟨.int .u64, 1, 8, [.int .u64 0], [0], false⟩ ∧ tt 189 = some ⟨.array 20 182, 20, 160, [.int .u64 0, .int .u64 0, .int .u64 0, .int .u64 0, .int .u64 0, .int .u64 0, .int .u64 0, .int .u64 0, .int .u64 0, .int .u64 0, .int .u64 0, .int .u64 0, .int .u64 0, .int .u64 0, .int .u64 0, .int .u64 0, .int .u64 0, .int .u64 0, .int .u64 0, .int .u64 0], [0, 0, 0, 0, 0, 0, 0, 0, 0, 0, 0, 0, 0, 0, 0, 0, 0, 0, 0, 0], false⟩ ∧ tt 190 = some ⟨.array 65 5, 65, 65, [.int .u8 0, .int .u8 0, .int .u8 0, .int .u8 0, .int .u8 0, .int .u8 0, .int .u8 0, .int .u8 0, .int .u8 0, .int .u8 0, .int .u8 0, .int .u8 0, .int .u8 0, .int .u8 0, .int .u8 0, .int .u8 0, .int .u8 0, .int .u8 0, .int .u8 0, .int .u8 0, .int .u8 0, .int .u8 0, .int .u8 0, .int .u8 0, .int .u8 0, .int .u8 0, .int .u8 0, .int .u8 0, .int .u8 0, .int .u8 0, .int .u8 0, .int .u8 0, .int .u8 0, .int .u8 0, .int .u8 0, .int .u8 0, .int .u8 0, .int .u8 0, .int .u8 0, .int .u8 0, .int .u8 0, .int .u8 0, .int .u8 0, .int .u8 0, .int .u8 0, .int .u8 0, .int .u8 0, .int .u8 0, .int .u8 0, .int .u8 0, .int .u8 0, .int .u8 0, .int .u8 0, .int .u8 0, .int .u8 0, .int .u8 0, .int .u8 0, .int .u8 0, .int .u8 0, .int .u8 0, .int .u8 0, .int .u8 0, .int .u8 0, .int .u8 0, .int .u8 0], [0, 0, 0, 0, 0, 0, 0, 0, 0, 0, 0, 0, 0, 0, 0, 0, 0, 0, 0, 0, 0, 0, 0, 0, 0, 0, 0, 0, 0, 0, 0, 0, 0, 0, 0, 0, 0, 0, 0, 0, 0, 0, 0, 0, 0, 0, 0, 0, 0, 0, 0, 0, 0, 0, 0, 0, 0, 0, 0, 0, 0, 0, 0, 0, 0], false⟩ ∧ tt 193 = some ⟨.array 32 5, 32, 32, [.int .u8 0, .int .u8 0, .int .u8 0, .int .u8 0, .int .u8 0, .int .u8 0, .int .u8 0, .int .u8 0, .int .u8 0, .int .u8 0, .int .u8 0, .int .u8 0, .int .u8 0, .int .u8 0, .int .u8 0, .int .u8 0, .int .u8 0, .int .u8 0, .int .u8 0, .int .u8 0, .int .u8 0, .int .u8 0, .int .u8 0, .int .u8 0, .int .u8 0, .int .u8 0, .int .u8 0, .int .u8 0, .int .u8 0, .int .u8 0, .int .u8 0, .int .u8 0], [0, 0, 0, 0, 0, 0, 0, 0, 0, 0, 0, 0, 0, 0, 0, 0, 0, 0, 0, 0, 0, 0, 0, 0, 0, 0, 0, 0, 0, 0, 0, 0], false⟩ ∧ tt 194 = some ⟨.array 64 5, 64, 64, [.int .u8 0, .int .u8 0, .int .u8 0, .int .u8 0, .int .u8 0, .int .u8 0, .int .u8 0, .int .u8 0, .int .u8 0, .int .u8 0, .int .u8 0, .int .u8 0, .int .u8 0, .int .u8 0, .int .u8 0, .int .u8 0, .int .u8 0, .int .u8 0, .int .u8 0, .int .u8 0, .int .u8 0, .int .u8 0, .int .u8 0, .int .u8 0, .int .u8 0, .int .u8 0, .int .u8 0, .int .u8 0, .int .u8 0, .int .u8 0, .int .u8 0, .int .u8 0, .int .u8 0, .int .u8 0, .int .u8 0, .int .u8 0, .int .u8 0, .int .u8 0, .int .u8 0, .int .u8 0, .int .u8 0, .int .u8 0, .int .u8 0, .int .u8 0, .int .u8 0, .int .u8 0, .int .u8 0, .int .u8 0, .int .u8 0, .int .u8 0, .int .u8 0, .int .u8 0, .int .u8 0, .int .u8 0, .int .u8 0, .int .u8 0, .int .u8 0, .int .u8 0, .int .u8 0, .int .u8 0, .int .u8 0, .int .u8 0, .int .u8 0, .int .u8 0], [0, 0, 0, 0, 0, 0, 0, 0, 0, 0, 0, 0, 0, 0, 0, 0, 0, 0, 0, 0, 0, 0, 0, 0, 0, 0, 0, 0, 0, 0, 0, 0, 0, 0, 0, 0, 0, 0, 0, 0, 0, 0, 0, 0, 0, 0, 0, 0, 0, 0, 0, 0, 0, 0, 0, 0, 0, 0, 0, 0, 0, 0, 0, 0], false⟩ ∧ tt 205 = some ⟨.pointer 5, 1, 8, [.pointer none], [0], false⟩ := by refine ⟨?_, ?_, ?_, ?_, ?_, ?_, ?_, ?_, ?_, ?_, ?_, ?_, ?_, ?_, ?_, ?_, ?_, ?_, ?_, ?_, ?_, ?_, ?_, ?_, ?_, ?_, ?_, ?_, ?_, ?_, ?_, ?_, ?_, ?_, ?_, ?_, ?_, ?_, ?_, ?_, ?_, ?_, ?_, ?_, ?_, ?_, ?_, ?_, ?_, ?_, ?_, ?_, ?_, ?_, ?_, ?_, ?_, ?_, ?_, ?_, ?_, ?_, ?_⟩ <;> rfl
theorem ttok : tt.ok Tryz.prog := by
  intro t ti h
  unfold tt at h
  split at h
  · cases h; exact tok2
  · cases h; exact tok3
  · cases h; exact tok4
  · cases h; exact tok5
  · cases h; exact tok9
  · cases h; exact tok12
  · cases h; exact tok13
  · cases h; exact tok21
  · cases h; exact tok22
  · cases h; exact tok23
  · cases h; exact tok24
  · cases h; exact tok25
  · cases h; exact tok26
  · cases h; exact tok27
  · cases h; exact tok28
  · cases h; exact tok30
  · cases h; exact tok31
  · cases h; exact tok32
  · cases h; exact tok34
  · cases h; exact tok35
  · cases h; exact tok46
  · cases h; exact tok47
  · cases h; exact tok50
  · cases h; exact tok51
  · cases h; exact tok52
  · cases h; exact tok53
  · cases h; exact tok54
  · cases h; exact tok55
  · cases h; exact tok56
  · cases h; exact tok57
  · cases h; exact tok58
  · cases h; exact tok59
  · cases h; exact tok61
  · cases h; exact tok62
  · cases h; exact tok63
  · cases h; exact tok64
  · cases h; exact tok68
  · cases h; exact tok69
  · cases h; exact tok70
  · cases h; exact tok71
  · cases h; exact tok77
  · cases h; exact tok78
  · cases h; exact tok89
  · cases h; exact tok90
  · cases h; exact tok92
  · cases h; exact tok111
  · cases h; exact tok119
  · cases h; exact tok127
  · cases h; exact tok128
  · cases h; exact tok133
  · cases h; exact tok135
  · cases h; exact tok136
  · cases h; exact tok137
  · cases h; exact tok169
  · cases h; exact tok172
  · cases h; exact tok177
  · cases h; exact tok181
  · cases h; exact tok182
  · cases h; exact tok189
  · cases h; exact tok190
  · cases h; exact tok193
  · cases h; exact tok194
  · cases h; exact tok205
  · cases h
theorem mixed : Tryz.prog.follows .mixedOrders = true := Tryz.checked.mixed
end Go.Proofs.YtodoeplhcmecjaaGreatDoor
namespace Go.Proofs.YtodoeplhcmecjaaGreatDoor
open Go.Am
attribute [local simp, local push_cast] num boo str ints aV
set_option linter.unusedVariables false
set_option maxRecDepth 100000
set_option maxHeartbeats 4000000
abbrev Row := List Val
abbrev Tab2 := List Row
def rRow (r : Row) : List D := [.sl 3 (rowsOf rV r)]
def rTab (l : Tab2) : List D := [.sl 1 (rowsOf rRow l)]
def aTab (l : Tab2) : A := .d (.sl 1 (rowsOf rRow l))
def few07 (l : Tab2) : Bool := decide (l.length ≤ 80) && l.all fun r => decide (r.length ≤ 20)
theorem c_few07 (l : Tab2) : ACall Tryz.prog 34 [aTab l] [] (boo (few07 l)) [] := by
  refine enterq mixed ttok Tryz.func34 Tryz.ntmps34 Tryz.results34 ?_
  generalize hr : boo (few07 l) = R
  simp -implicitDefEqProofs only [argT, aTab, ↓steps, push_cast, simprocAttr, tte]
  refine bcase_intro (fun h => ?_) fun h => ?_
  · have : few07 l = false := by simp at h; simp [few07]; omega
    refine retx_of [0] rfl (by simp) (by simp [rowsOf_length] <;> omega) ?_ (by first | rfl | simp [ends] | (subst_vars; simp [ends])) (by simp [ends]) (by simp [ends])
    rw [← hr, this]; rfl
  simp only [decide_eq_false_iff_not] at h
  have hl : l.length ≤ 80 := by omega
  refine loop_count mixed ttok 3 [0] [] (by simp only [pickT, ends, push_cast, simprocAttr]; rfl) (by simp only [pickO, consO_some, ends, push_cast, simprocAttr]; rfl) l.length (fun n => (l.drop n).all (fun r => decide (r.length ≤ 20)) = l.all fun r => decide (r.length ≤ 20)) (fun _ => []) (fun _ => []) rfl ?_ ?_
  · exact Weak.keepL (by simp [cst, ends]) (by simp [cst, ends]) (by simp [cst, ends])
  intro I hI n hn hi
  have hw : n < l.length → IntKind.i64.wrap ((n : Int) + 1) = ((n + 1 : Nat) : Int) := fun h => by rw [wrap_eq (by omega) (by omega)]; rfl
  simp -implicitDefEqProofs only [cst, rRow, ↓steps, push_cast, simprocAttr, tte]
  refine bcase_intro (fun h => ?_) fun h => ?_
  · simp only [decide_eq_true_eq] at h
    have h' : n < l.length := by omega
    rw [drop_cons l n h', List.all_cons] at hi
    refine ⟨(by first | omega | trivial | (refine ⟨?_, ?_⟩ <;> first | omega | trivial | (refine ⟨?_, ?_⟩ <;> first | omega | trivial | (refine ⟨?_, ?_⟩ <;> first | omega | trivial | rfl)))), ?_⟩
    refine bcase_intro (fun h2 => ?_) fun h2 => ?_
    · simp only [decide_eq_true_eq] at h2
      have : few07 l = false := by rw [few07, ← hi, decide_eq_false (by omega : ¬ (l.getD n default).length ≤ 20)]; simp
      refine retx_of [0] rfl (by simp) (by simp [rowsOf_length] <;> omega) ?_ (by first | rfl | simp [ends] | (subst_vars; simp [ends])) (by simp [ends]) (by simp [ends])
      rw [← hr, this]; rfl
    · simp only [decide_eq_false_iff_not] at h2
      exact cnt_again hI n rfl h' (by rw [← hi, decide_eq_true (by omega : (l.getD n default).length ≤ 20), Bool.true_and]) (by simp [hw h', ends]) (by simp [hw h', ends]) (by simp [hw h', ends]) (by simp [hw h', ends])
  · simp only [decide_eq_false_iff_not] at h
    have hn' : n = l.length := by omega
    subst hn'
    have : few07 l = true := by rw [few07, ← hi]; simp; omega
    refine retx_of [0] rfl (by simp) (by simp [rowsOf_length] <;> omega) ?_ (by first | rfl | simp [ends] | (subst_vars; simp [ends])) (by simp [ends]) (by simp [ends])
    rw [← hr, this]; rfl
end Go.Proofs.YtodoeplhcmecjaaGreatDoor
namespace Go.Proofs.YtodoeplhcmecjaaGreatDoor
open Go.Am
attribute [local simp, local push_cast] num boo str ints aV aTab
set_option linter.unusedVariables false
set_option maxRecDepth 100000
set_option maxHeartbeats 4000000
abbrev Inst := List Tab2
def aInst (i : Inst) : A := .agg [.d (.sl 1 (rowsOf rTab i))]
attribute [local simp, local push_cast] aInst
def few08 (i : Inst) : Bool := decide (i.length ≤ 10) && i.all few07
theorem c_few08 (l : Inst) : ACall Tryz.prog 16 [aInst l] [] (boo (few08 l)) [] := by
  refine enterq mixed ttok Tryz.func16 Tryz.ntmps16 Tryz.results16 ?_
  generalize hr : boo (few08 l) = R
  simp -implicitDefEqProofs only [argT, aInst, ↓steps, push_cast, simprocAttr, tte]
  refine bcase_intro (fun h => ?_) fun h => ?_
  · have : few08 l = false := by simp at h; simp [few08]; omega
    refine retx_of [0] rfl (by simp) (by simp [rowsOf_length] <;> omega) ?_ (by first | rfl | simp [ends] | (subst_vars; simp [ends])) (by simp [ends]) (by simp [ends])
    rw [← hr, this]; rfl
  simp only [decide_eq_false_iff_not] at h
  have hl : l.length ≤ 10 := by omega
  refine loop_count mixed ttok 3 [1] [1] (by simp only [pickT, ends, push_cast, simprocAttr]; rfl) (by simp only [pickO, consO_some, ends, push_cast, simprocAttr]; rfl) l.length (fun n => (l.drop n).all few07 = l.all few07) (fun _ => []) (fun _ => []) rfl ?_ ?_
  · exact Weak.keepL (by simp [cst, ends]) (by simp [cst, ends]) (by simp [cst, ends])
  intro I hI n hn hi
  have hw : n < l.length → IntKind.i64.wrap ((n : Int) + 1) = ((n + 1 : Nat) : Int) := fun h => by rw [wrap_eq (by omega) (by omega)]; rfl
  simp -implicitDefEqProofs only [cst, rTab, ↓steps, push_cast, simprocAttr, tte]
  refine bcase_intro (fun h => ?_) fun h => ?_
  · simp only [decide_eq_true_eq] at h
    have h' : n < l.length := by omega
    rw [drop_cons l n h', List.all_cons] at hi
    refine ⟨(by first | omega | trivial | (refine ⟨?_, ?_⟩ <;> first | omega | trivial | (refine ⟨?_, ?_⟩ <;> first | omega | trivial | (refine ⟨?_, ?_⟩ <;> first | omega | trivial | rfl)))), ?_⟩
    refine callq [[1]] [] (c_few07 (l.getD n default)) ?_
    simp -implicitDefEqProofs only [↓steps, push_cast, simprocAttr, tte]
    refine bcase_intro (fun h2 => ?_) fun h2 => ?_
    · simp only [Bool.not_eq_true'] at h2
      have : few08 l = false := by rw [few08, ← hi, h2]; simp
      refine retx_of [0] rfl (by simp) (by simp [rowsOf_length] <;> omega) ?_ (by first | rfl | simp [ends] | (subst_vars; simp [ends])) (by simp [ends]) (by simp [ends])
      rw [← hr, this]; rfl
    · simp only [Bool.not_eq_false'] at h2
      exact cnt_again hI n rfl h' (by rw [← hi, h2, Bool.true_and]) (by simp [hw h', ends]) (by simp [hw h', ends]) (by simp [hw h', ends]) (by simp [hw h', ends])
  · simp only [decide_eq_false_iff_not] at h
    have hn' : n = l.length := by omega
    subst hn'
    have : few08 l = true := by rw [few08, ← hi]; simp; omega
    refine retx_of [0] rfl (by simp) (by simp [rowsOf_length] <;> omega) ?_ (by first | rfl | simp [ends] | (subst_vars; simp [ends])) (by simp [ends]) (by simp [ends])
    rw [← hr, this]; rfl
mutual
/-- Few operands, at few levels. -/
def few02 : Ex → Int → Bool
  | .mk _ _ _ t _ ks, d => (decide (d ≤ 60) && decide (ks.length ≤ 12) && decide (t.size ≤ 200)) && fewL ks (d + 1)
def fewL : List Ex → Int → Bool
  | [], _ => true
  | e :: l, d => few02 e d && fewL l d
end
theorem fewL_eq (d : Int) : ∀ l : List Ex, fewL l d = l.all fun e => few02 e d
  | [] => rfl
  | e :: l => by rw [fewL, fewL_eq d l]; rfl
theorem few02_eq (e : Ex) (d : Int) : few02 e d = ((decide (d ≤ 60) && decide (e.kids.length ≤ 12) && decide (e.text.size ≤ 200)) && e.kids.all fun k => few02 k (d + 1)) := by
  cases e; rw [few02, fewL_eq]; rfl
mutual
/-- The number of expressions, as the machine counts. -/
def sizeW : Ex → Int
  | .mk _ _ _ _ _ ks => sizeL 1 ks
def sizeL : Int → List Ex → Int
  | n, [] => n
  | n, e :: l => sizeL (IntKind.i64.wrap (n + sizeW e)) l
end
theorem sizeW_eq (e : Ex) : sizeW e = sizeL 1 e.kids := by cases e; rw [sizeW]; rfl
theorem sizeL_snoc (e : Ex) : ∀ (l : List Ex) (n : Int), sizeL n (l ++ [e]) = IntKind.i64.wrap (sizeL n l + sizeW e)
  | [], n => by simp [sizeL]
  | x :: l, n => by simp only [List.cons_append, sizeL]; exact sizeL_snoc e l _
mutual
def depthW : Ex → Int
  | .mk _ _ _ _ _ ks => IntKind.i64.wrap (depthL 0 ks + 1)
def depthL : Int → List Ex → Int
  | n, [] => n
  | n, e :: l => depthL (if depthW e > n then depthW e else n) l
end
theorem depthW_eq (e : Ex) : depthW e = IntKind.i64.wrap (depthL 0 e.kids + 1) := by cases e; rw [depthW]; rfl
/-- How deep it is in truth. -/
theorem ex_ind {p : Ex → Prop} (h : ∀ e : Ex, (∀ k ∈ e.kids, p k) → p e) : ∀ e, p e := by
  intro e
  exact Ex.rec (motive_1 := p) (motive_2 := fun l => ∀ k ∈ l, p k) (fun a b c d f ks ih => h _ ih) (by simp) (fun k l h1 h2 => by simpa using ⟨h1, h2⟩) e
/-- Nowhere many operands. -/
inductive Ok12 : Ex → Prop
  | mk (e : Ex) (h : e.kids.length ≤ 12) (hk : ∀ k ∈ e.kids, Ok12 k) : Ok12 e
theorem Ok12.kids {e : Ex} (h : Ok12 e) : e.kids.length ≤ 12 := by cases h; assumption
theorem Ok12.kid {e k : Ex} (h : Ok12 e) (hk : k ∈ e.kids) : Ok12 k := by cases h with | mk _ _ h2 => exact h2 k hk
theorem few_ok : ∀ (e : Ex) (d : Int), few02 e d = true → Ok12 e :=
  ex_ind (p := fun e => ∀ d : Int, few02 e d = true → Ok12 e) fun e ih d h => by
    rw [few02_eq] at h
    simp only [Bool.and_eq_true, decide_eq_true_eq, List.all_eq_true] at h
    exact ⟨e, h.1.1.2, fun k hk => ih k hk _ (h.2 k hk)⟩
theorem c_few02 : ∀ (e : Ex) (d : Int), 0 ≤ d → d ≤ 61 → ACall Tryz.prog 67 [aE e, num d] [] (boo (few02 e d)) [] :=
  ex_ind (p := fun e => ∀ d : Int, 0 ≤ d → d ≤ 61 → ACall Tryz.prog 67 [aE e, num d] [] (boo (few02 e d)) []) fun e ih d hd hd2 => by
  refine enterq mixed ttok Tryz.func67 Tryz.ntmps67 Tryz.results67 ?_
  generalize hr : boo (few02 e d) = R
  have hM := few02_eq e d
  simp -implicitDefEqProofs only [argT, ↓steps, push_cast, simprocAttr, tte]
  have fail : ¬ (d ≤ 60 ∧ e.kids.length ≤ 12 ∧ e.text.size ≤ 200) → few02 e d = false := fun h => by
    rw [hM, Bool.and_eq_false_iff]; left; simp only [Bool.and_eq_false_iff, decide_eq_false_iff_not]; omega
  have key : d ≤ 60 → e.kids.length ≤ 12 → e.text.size ≤ 200 → few02 e d = e.kids.all fun k => few02 k (d + 1) := fun h1 h2 h3 => by
    rw [hM, decide_eq_true h1, decide_eq_true h2, decide_eq_true h3]; rfl
  refine bcase_intro (fun h1 => ?_) fun h1 => ?_
  · exact ret_d trivial (by rw [← hr, fail (by simp at h1; omega)]; rfl) (by simp [ends])
  refine bcase_intro (fun h2 => ?_) fun h2 => ?_
  · exact ret_d trivial (by rw [← hr, fail (by simp at h2; omega)]; rfl) (by simp [ends])
  refine bcase_intro (fun h3 => ?_) fun h3 => ?_
  · exact ret_d trivial (by rw [← hr, fail (by simp at h3; omega)]; rfl) (by simp [ends])
  simp only [decide_eq_false_iff_not] at h1 h2 h3
  have key := key (by omega) (by omega) (by omega)
  refine loop_count mixed ttok 5 [1, 2] [2] (by simp only [pickT, ends, push_cast, simprocAttr]; rfl) (by simp only [pickO, consO_some, ends, push_cast, simprocAttr]; rfl) e.kids.length (fun n => ((e.kids.drop n).all fun k => few02 k (d + 1)) = e.kids.all fun k => few02 k (d + 1)) (fun _ => []) (fun _ => []) rfl ?_ ?_
  · exact Weak.keepL (by simp [cst, ends]) (by simp [cst, ends]) (by simp [cst, ends])
  intro I hI n hn hi
  have hw : n < e.kids.length → IntKind.i64.wrap ((n : Int) + 1) = ((n + 1 : Nat) : Int) := fun h => by rw [wrap_eq (by omega) (by omega)]; rfl
  have hwd : IntKind.i64.wrap (d + 1) = d + 1 := wrap_eq (by omega) (by omega)
  simp -implicitDefEqProofs only [cst, ↓steps, push_cast, simprocAttr, tte]
  refine bcase_intro (fun h => ?_) fun h => ?_
  · simp only [decide_eq_true_eq] at h
    have h' : n < e.kids.length := by omega
    rw [drop_cons _ n h', List.all_cons] at hi
    refine ⟨(by first | omega | trivial | (refine ⟨?_, ?_⟩ <;> first | omega | trivial | (refine ⟨?_, ?_⟩ <;> first | omega | trivial | (refine ⟨?_, ?_⟩ <;> first | omega | trivial | rfl)))), ?_⟩
    simp only [hwd]
    refine callq [[0, 0, 0, 0, 0, 6], [0]] [] (ih _ (getD_mem h') (d + 1) (by omega) (by omega)) ?_
    simp -implicitDefEqProofs only [↓steps, push_cast, simprocAttr, tte]
    refine bcase_intro (fun h4 => ?_) fun h4 => ?_
    · simp only [Bool.not_eq_true'] at h4
      exact ret_d trivial (by rw [← hr, key, ← hi, h4]; rfl) (by simp [ends])
    · simp only [Bool.not_eq_false'] at h4
      exact cnt_again hI n rfl h' (by rw [← hi, h4, Bool.true_and]) (by simp [hw h', ends]) (by simp [hw h', ends]) (by simp [hw h', ends]) (by simp [hw h', ends])
  · simp only [decide_eq_false_iff_not] at h
    have hn' : n = e.kids.length := by omega
    subst hn'
    exact ret_d trivial (by rw [← hr, key, ← hi, List.drop_length]; rfl) (by simp [ends])
theorem c_size02 : ∀ e : Ex, Ok12 e → ACall Tryz.prog 68 [aE e] [] (num (sizeW e)) [] :=
  ex_ind (p := fun e => Ok12 e → ACall Tryz.prog 68 [aE e] [] (num (sizeW e)) []) fun e ih ho => by
  refine enterq mixed ttok Tryz.func68 Tryz.ntmps68 Tryz.results68 ?_
  generalize hr : num (sizeW e) = R
  have hl := ho.kids
  simp -implicitDefEqProofs only [argT, ↓steps, push_cast, simprocAttr, tte]
  refine loop_count mixed ttok 4 [1] [1] (by simp only [pickT, ends, push_cast, simprocAttr]; rfl) (by simp only [pickO, consO_some, ends, push_cast, simprocAttr]; rfl) e.kids.length (fun n => sizeL (sizeL 1 (e.kids.take n)) (e.kids.drop n) = sizeW e) (fun n => [(3, num (sizeL 1 (e.kids.take n)))]) (fun _ => []) (by rw [sizeW_eq]; rfl) ?_ ?_
  · exact Weak.keepL (by simp [cst, sizeL, ends]) (by simp [cst, ends]) (by simp [cst, ends])
  intro I hI n hn hi
  have hw : n < e.kids.length → IntKind.i64.wrap ((n : Int) + 1) = ((n + 1 : Nat) : Int) := fun h => by rw [wrap_eq (by omega) (by omega)]; rfl
  simp -implicitDefEqProofs only [cst, ↓steps, push_cast, simprocAttr, tte]
  refine bcase_intro (fun h => ?_) fun h => ?_
  · simp only [decide_eq_true_eq] at h
    have h' : n < e.kids.length := by omega
    have ht : sizeL 1 (e.kids.take (n + 1)) = IntKind.i64.wrap (sizeL 1 (e.kids.take n) + sizeW (e.kids.getD n default)) := by
      rw [take_snoc _ _ h', sizeL_snoc]
    refine ⟨(by first | omega | trivial | (refine ⟨?_, ?_⟩ <;> first | omega | trivial | (refine ⟨?_, ?_⟩ <;> first | omega | trivial | (refine ⟨?_, ?_⟩ <;> first | omega | trivial | rfl)))), ?_⟩
    refine callq [[0, 0, 0, 0, 0, 6]] [] (ih _ (getD_mem h') (ho.kid (getD_mem h'))) ?_
    simp -implicitDefEqProofs only [↓steps, push_cast, simprocAttr, tte]
    exact cnt_again hI n rfl h' (by rw [drop_cons _ n h', sizeL] at hi; rw [ht]; exact hi) (by simp [hw h', ht, ends]) (by simp [hw h', ht, ends]) (by simp [hw h', ht, ends]) (by simp [hw h', ht, ends])
  · simp only [decide_eq_false_iff_not] at h
    have hn' : n = e.kids.length := by omega
    subst hn'
    refine retx_of [0] rfl (by simp) (by simp [rowsOf_length] <;> omega) ?_ (by first | rfl | simp [ends] | (subst_vars; simp [ends])) (by simp [ends]) (by simp [ends])
    rw [← hr, ← hi]; simp [sizeL, num]
end Go.Proofs.YtodoeplhcmecjaaGreatDoor
namespace Go.Proofs.YtodoeplhcmecjaaGreatDoor
open Go.Am
attribute [local simp, local push_cast] num boo str ints aV aTab aInst aS
set_option linter.unusedVariables false
set_option maxRecDepth 100000
set_option maxHeartbeats 4000000
def fewE (e : Ex) : Bool := few02 e 0 && decide (sizeW e ≤ 600)
theorem c_few02t (e : Ex) : ACall Tryz.prog 33 [aE e] [] (boo (fewE e)) [] := by
  refine enterq mixed ttok Tryz.func33 Tryz.ntmps33 Tryz.results33 ?_
  generalize hr : boo (fewE e) = R
  simp -implicitDefEqProofs only [argT, ↓steps, push_cast, simprocAttr, tte]
  refine callq [[0, 0, 0, 0, 0, 6], [0]] [] (c_few02 e 0 (by omega) (by omega)) ?_
  simp -implicitDefEqProofs only [↓steps, push_cast, simprocAttr, tte]
  refine bcase_intro (fun h => ?_) fun h => ?_
  · refine callq [[0, 0, 0, 0, 0, 6]] [] (c_size02 e (few_ok e 0 h)) ?_
    simp -implicitDefEqProofs only [↓steps, push_cast, simprocAttr, tte]
    exact ret_d trivial (by rw [← hr, fewE, h, Bool.true_and]; rfl) (by simp [ends])
  · exact ret_d trivial (by rw [← hr, fewE, h, Bool.false_and]; rfl) (by simp [ends])
def fewT0 (t : Tbl) : Bool := decide (t.columns.length ≤ 20) && decide (t.primary.length ≤ 20) && decide (t.uniques.length ≤ 8) && decide (t.foreigns.length ≤ 8) && decide (t.checks.length ≤ 8)
def fewT (t : Tbl) : Bool := fewT0 t && (t.checks.all fewE && (t.foreigns.all (fun f => decide (f.columns.length ≤ 20)) && t.uniques.all fun u => decide (u.length ≤ 20)))
def few03 (s : Sch) : Bool := decide (s.length ≤ 10) && s.all fewT
theorem c_few03 (s : Sch) : ACall Tryz.prog 15 [aS s] [] (boo (few03 s)) [] := by
  refine enterq mixed ttok Tryz.func15 Tryz.ntmps15 Tryz.results15 ?_
  generalize hr : boo (few03 s) = R
  simp -implicitDefEqProofs only [argT, ↓steps, push_cast, simprocAttr, tte]
  refine bcase_intro (fun h => ?_) fun h => ?_
  · have : few03 s = false := by simp at h; simp [few03]; omega
    exact ret_d trivial (by rw [← hr, this]; rfl) (by simp [ends])
  simp only [decide_eq_false_iff_not] at h
  have hl : s.length ≤ 10 := by omega
  refine loop_count mixed ttok 3 [1] [1] (by simp only [pickT, ends, push_cast, simprocAttr]; rfl) (by simp only [pickO, consO_some, ends, push_cast, simprocAttr]; rfl) s.length (fun n => (s.drop n).all fewT = s.all fewT) (fun _ => []) (fun _ => []) rfl ?_ ?_
  · exact Weak.keepL (by simp [cst, ends]) (by simp [cst, ends]) (by simp [cst, ends])
  intro I hI n hn hi
  simp -implicitDefEqProofs only [cst, ↓steps, push_cast, simprocAttr, tte]
  refine bcase_intro (fun h => ?_) fun h => ?_
  · simp only [decide_eq_true_eq] at h
    have h' : n < s.length := by omega
    have hw := wrap_succ h' (by omega)
    rw [drop_cons s n h', List.all_cons] at hi
    generalize hT : s.getD n default = t at hi ⊢
    have bad : fewT t = false → few03 s = false := fun h => by rw [few03, ← hi, h]; simp
    have bad0 : fewT0 t = false → few03 s = false := fun h => bad (by rw [fewT, h]; rfl)
    refine ⟨(by first | omega | trivial | (refine ⟨?_, ?_⟩ <;> first | omega | trivial | (refine ⟨?_, ?_⟩ <;> first | omega | trivial | (refine ⟨?_, ?_⟩ <;> first | omega | trivial | rfl)))), ?_⟩
    refine bcase_intro (fun k1 => ?_) fun k1 => ?_
    · have : few03 s = false := bad0 (by simp at k1; simp only [fewT0, Bool.and_eq_false_iff, decide_eq_false_iff_not]; omega)
      exact ret_d trivial (by rw [← hr, this]; rfl) (by simp [ends])
    refine bcase_intro (fun k2 => ?_) fun k2 => ?_
    · have : few03 s = false := bad0 (by simp at k2; simp only [fewT0, Bool.and_eq_false_iff, decide_eq_false_iff_not]; omega)
      exact ret_d trivial (by rw [← hr, this]; rfl) (by simp [ends])
    refine bcase_intro (fun k3 => ?_) fun k3 => ?_
    · have : few03 s = false := bad0 (by simp at k3; simp only [fewT0, Bool.and_eq_false_iff, decide_eq_false_iff_not]; omega)
      exact ret_d trivial (by rw [← hr, this]; rfl) (by simp [ends])
    refine bcase_intro (fun k4 => ?_) fun k4 => ?_
    · have : few03 s = false := bad0 (by simp at k4; simp only [fewT0, Bool.and_eq_false_iff, decide_eq_false_iff_not]; omega)
      exact ret_d trivial (by rw [← hr, this]; rfl) (by simp [ends])
    refine bcase_intro (fun k5 => ?_) fun k5 => ?_
    · have : few03 s = false := bad0 (by simp at k5; simp only [fewT0, Bool.and_eq_false_iff, decide_eq_false_iff_not]; omega)
      exact ret_d trivial (by rw [← hr, this]; rfl) (by simp [ends])
    simp only [decide_eq_false_iff_not] at k1 k2 k3 k4 k5
    have f0 : fewT0 t = true := by simp only [fewT0, Bool.and_eq_true, decide_eq_true_eq]; omega
    refine loop_count mixed ttok 5 [1, 3, 4] [1, 4] (by simp only [pickT, ends, push_cast, simprocAttr]; rfl) (by simp only [pickO, consO_some, ends, push_cast, simprocAttr]; rfl) t.checks.length (fun n => (t.checks.drop n).all fewE = t.checks.all fewE) (fun _ => []) (fun _ => []) rfl ?_ ?_
    · exact Weak.keepL (by simp [cst, ends]) (by simp [cst, ends]) (by simp [cst, ends])
    intro I5 hI5 n5 hn5 hi5
    simp -implicitDefEqProofs only [cst, ↓steps, push_cast, simprocAttr, tte]
    refine bcase_intro (fun h5 => ?_) fun h5 => ?_
    · simp only [decide_eq_true_eq] at h5
      have h5' : n5 < t.checks.length := by omega
      have hw5 := wrap_succ h5' (by omega)
      rw [drop_cons _ n5 h5', List.all_cons] at hi5
      refine ⟨(by first | omega | trivial | (refine ⟨?_, ?_⟩ <;> first | omega | trivial | (refine ⟨?_, ?_⟩ <;> first | omega | trivial | (refine ⟨?_, ?_⟩ <;> first | omega | trivial | rfl)))), ?_⟩
      refine callq [[0, 0, 0, 0, 0, 6]] [] (c_few02t (t.checks.getD n5 default)) ?_
      simp -implicitDefEqProofs only [↓steps, push_cast, simprocAttr, tte]
      refine bcase_intro (fun g => ?_) fun g => ?_
      · simp only [Bool.not_eq_true'] at g
        have : few03 s = false := bad (by rw [fewT, ← hi5, g]; simp)
        exact ret_d trivial (by rw [← hr, this]; rfl) (by simp [ends])
      · simp only [Bool.not_eq_false'] at g
        exact cnt_again hI5 n5 rfl h5' (by rw [← hi5, g, Bool.true_and]) (by simp [hw5, ends]) (by simp [hw5, ends]) (by simp [hw5, ends]) (by simp [hw5, ends])
    simp only [decide_eq_false_iff_not] at h5
    obtain rfl : n5 = t.checks.length := by omega
    clear hI5
    have f1 : t.checks.all fewE = true := by rw [← hi5]; simp
    refine loop_count mixed ttok 6 [1, 3, 4] [1, 4] (by simp only [pickT, ends, push_cast, simprocAttr]; rfl) (by simp only [pickO, consO_some, ends, push_cast, simprocAttr]; rfl) t.foreigns.length (fun n => (t.foreigns.drop n).all (fun f => decide (f.columns.length ≤ 20)) = t.foreigns.all fun f => decide (f.columns.length ≤ 20)) (fun _ => []) (fun _ => []) rfl ?_ ?_
    · exact Weak.keepL (by simp [cst, ends]) (by simp [cst, ends]) (by simp [cst, ends])
    intro I6 hI6 n6 hn6 hi6
    simp -implicitDefEqProofs only [cst, ↓steps, push_cast, simprocAttr, tte]
    refine bcase_intro (fun h6 => ?_) fun h6 => ?_
    · simp only [decide_eq_true_eq] at h6
      have h6' : n6 < t.foreigns.length := by omega
      have hw6 := wrap_succ h6' (by omega)
      rw [drop_cons _ n6 h6', List.all_cons] at hi6
      refine ⟨(by first | omega | trivial | (refine ⟨?_, ?_⟩ <;> first | omega | trivial | (refine ⟨?_, ?_⟩ <;> first | omega | trivial | (refine ⟨?_, ?_⟩ <;> first | omega | trivial | rfl)))), ?_⟩
      refine bcase_intro (fun g => ?_) fun g => ?_
      · simp only [decide_eq_true_eq] at g
        have : few03 s = false := bad (by rw [fewT, ← hi6, decide_eq_false (by omega : ¬ (t.foreigns.getD n6 default).columns.length ≤ 20)]; simp)
        exact ret_d trivial (by rw [← hr, this]; rfl) (by simp [ends])
      · simp only [decide_eq_false_iff_not] at g
        exact cnt_again hI6 n6 rfl h6' (by rw [← hi6, decide_eq_true (by omega : (t.foreigns.getD n6 default).columns.length ≤ 20), Bool.true_and]) (by simp [hw6, ends]) (by simp [hw6, ends]) (by simp [hw6, ends]) (by simp [hw6, ends])
    simp only [decide_eq_false_iff_not] at h6
    obtain rfl : n6 = t.foreigns.length := by omega
    clear hI6
    have f2 : (t.foreigns.all fun f => decide (f.columns.length ≤ 20)) = true := by rw [← hi6]; simp
    refine loop_count mixed ttok 7 [1, 3, 4] [1, 4] (by simp only [pickT, ends, push_cast, simprocAttr]; rfl) (by simp only [pickO, consO_some, ends, push_cast, simprocAttr]; rfl) t.uniques.length (fun n => (t.uniques.drop n).all (fun u => decide (u.length ≤ 20)) = t.uniques.all fun u => decide (u.length ≤ 20)) (fun _ => []) (fun _ => []) rfl ?_ ?_
    · exact Weak.keepL (by simp [cst, ends]) (by simp [cst, ends]) (by simp [cst, ends])
    intro I7 hI7 n7 hn7 hi7
    simp -implicitDefEqProofs only [cst, ↓steps, push_cast, simprocAttr, tte]
    refine bcase_intro (fun h7 => ?_) fun h7 => ?_
    · simp only [decide_eq_true_eq] at h7
      have h7' : n7 < t.uniques.length := by omega
      have hw7 := wrap_succ h7' (by omega)
      rw [drop_cons _ n7 h7', List.all_cons] at hi7
      refine ⟨(by first | omega | trivial | (refine ⟨?_, ?_⟩ <;> first | omega | trivial | (refine ⟨?_, ?_⟩ <;> first | omega | trivial | (refine ⟨?_, ?_⟩ <;> first | omega | trivial | rfl)))), ?_⟩
      refine bcase_intro (fun g => ?_) fun g => ?_
      · simp only [decide_eq_true_eq] at g
        have : few03 s = false := bad (by rw [fewT, ← hi7, decide_eq_false (by omega : ¬ (t.uniques.getD n7 default).length ≤ 20)]; simp)
        exact ret_d trivial (by rw [← hr, this]; rfl) (by simp [ends])
      · simp only [decide_eq_false_iff_not] at g
        exact cnt_again hI7 n7 rfl h7' (by rw [← hi7, decide_eq_true (by omega : (t.uniques.getD n7 default).length ≤ 20), Bool.true_and]) (by simp [hw7, ends]) (by simp [hw7, ends]) (by simp [hw7, ends]) (by simp [hw7, ends])
    simp only [decide_eq_false_iff_not] at h7
    obtain rfl : n7 = t.uniques.length := by omega
    clear hI7
    have f3 : (t.uniques.all fun u => decide (u.length ≤ 20)) = true := by rw [← hi7]; simp
    have ft : fewT t = true := by rw [fewT, f0, f1, f2, f3]; rfl
    exact cnt_again hI n rfl h' (by rw [← hi, ft, Bool.true_and]) (by simp [hw, ends]) (by simp [hw, ends]) (by simp [hw, ends]) (by simp [hw, ends])
  · simp only [decide_eq_false_iff_not] at h
    obtain rfl : n = s.length := by omega
    have : few03 s = true := by rw [few03, ← hi]; simp; omega
    exact ret_d trivial (by rw [← hr, this]; rfl) (by simp [ends])
end Go.Proofs.YtodoeplhcmecjaaGreatDoor
