/-
  What the calculus asks of the types of this translation. Printed by genti.py.
-/
import Derived.Test.YtkolpijhgcijbaaAwI
import Derived.Test.YtkolpijhgcijbaaProg
import Derived.KernelRfl
namespace Go.Proofs.Ytkolpijhgcijbaa
open Aw
theorem ti2 : tiOf Try.prog 2 = some ⟨false, 1, 8, [.int .i64 (0)], none, none, [], [], false, false⟩ := by kernel_rfl
theorem ti3 : tiOf Try.prog 3 = some ⟨false, 1, 8, [.int .i64 (0)], none, none, [], [], false, false⟩ := by kernel_rfl
theorem ti4 : tiOf Try.prog 4 = some ⟨false, 1, 1, [.bool false], none, none, [], [], true, false⟩ := by kernel_rfl
theorem ti5 : tiOf Try.prog 5 = some ⟨false, 1, 1, [.int .u8 (0)], none, none, [], [], false, false⟩ := by kernel_rfl
theorem ti7 : tiOf Try.prog 7 = some ⟨true, 4, 24, [.int .i64 (0), .int .i64 (0), .bool false, .int .u8 (0)], none, none, [(0, 1), (1, 1), (2, 1), (3, 1)], [2, 3, 4, 6], false, false⟩ := by kernel_rfl
theorem ti9 : tiOf Try.prog 9 = some ⟨false, 1, 16, [.string ⟨#[]⟩], none, none, [], [], false, false⟩ := by kernel_rfl
theorem ti12 : tiOf Try.prog 12 = some ⟨false, 1, 8, [.int .u64 (0)], none, none, [], [], false, false⟩ := by kernel_rfl
theorem ti13 : tiOf Try.prog 13 = some ⟨true, 2, 24, [.string ⟨#[]⟩, .int .u64 (0)], none, none, [(0, 1), (1, 1)], [9, 12], false, false⟩ := by kernel_rfl
theorem ti15 : tiOf Try.prog 15 = some ⟨false, 1, 8, [.pointer none], none, none, [], [], false, false⟩ := by kernel_rfl
theorem ti16 : tiOf Try.prog 16 = some ⟨false, 1, 8, [.pointer none], none, none, [], [], false, false⟩ := by kernel_rfl
theorem ti17 : tiOf Try.prog 17 = some ⟨false, 1, 8, [.pointer none], none, none, [], [], false, false⟩ := by kernel_rfl
theorem ti18 : tiOf Try.prog 18 = some ⟨true, 1, 8, [.pointer none], none, none, [(0, 1)], [17], false, false⟩ := by kernel_rfl
theorem ti21 : tiOf Try.prog 21 = some ⟨false, 1, 4, [.int .i32 (0)], none, none, [], [], false, false⟩ := by kernel_rfl
theorem ti22 : tiOf Try.prog 22 = some ⟨false, 1, 24, [.slice none 0 0], some 57, none, [], [], false, false⟩ := by kernel_rfl
theorem ti23 : tiOf Try.prog 23 = some ⟨true, 2, 32, [.int .i64 (0), .slice none 0 0], none, none, [(0, 1), (1, 1)], [3, 22], false, false⟩ := by kernel_rfl
theorem ti24 : tiOf Try.prog 24 = some ⟨true, 2, 32, [.int .i64 (0), .slice none 0 0], none, none, [(0, 1), (1, 1)], [3, 22], false, false⟩ := by kernel_rfl
theorem ti25 : tiOf Try.prog 25 = some ⟨false, 1, 24, [.slice none 0 0], some 3, none, [], [], false, false⟩ := by kernel_rfl
theorem ti26 : tiOf Try.prog 26 = some ⟨true, 2, 16, [.int .i64 (0), .int .i64 (0)], none, none, [(0, 1), (1, 1)], [3, 3], false, true⟩ := by kernel_rfl
theorem ti27 : tiOf Try.prog 27 = some ⟨true, 2, 16, [.int .i64 (0), .int .i64 (0)], none, none, [(0, 1), (1, 1)], [3, 3], false, true⟩ := by kernel_rfl
theorem ti31 : tiOf Try.prog 31 = some ⟨false, 1, 8, [.int .i64 (0)], none, none, [], [], false, false⟩ := by kernel_rfl
theorem ti42 : tiOf Try.prog 42 = some ⟨false, 1, 24, [.slice none 0 0], some 64, none, [], [], false, false⟩ := by kernel_rfl
theorem ti56 : tiOf Try.prog 56 = some ⟨true, 2, 16, [.int .i64 (0), .int .i64 (0)], none, none, [(0, 1), (1, 1)], [3, 3], false, true⟩ := by kernel_rfl
theorem ti57 : tiOf Try.prog 57 = some ⟨true, 2, 16, [.int .i64 (0), .int .i64 (0)], none, none, [(0, 1), (1, 1)], [3, 3], false, true⟩ := by kernel_rfl
theorem ti63 : tiOf Try.prog 63 = some ⟨true, 2, 16, [.int .i64 (0), .int .i64 (0)], none, none, [(0, 1), (1, 1)], [3, 3], false, true⟩ := by kernel_rfl
theorem ti64 : tiOf Try.prog 64 = some ⟨true, 2, 16, [.int .i64 (0), .int .i64 (0)], none, none, [(0, 1), (1, 1)], [3, 3], false, true⟩ := by kernel_rfl
theorem ti73 : tiOf Try.prog 73 = some ⟨true, 4, 32, [.int .i64 (0), .int .i64 (0), .int .i64 (0), .int .i64 (0)], none, some (4, 3), [], [], false, false⟩ := by kernel_rfl
theorem ti74 : tiOf Try.prog 74 = some ⟨true, 4, 32, [.int .i64 (0), .int .i64 (0), .int .i64 (0), .int .i64 (0)], none, some (4, 3), [], [], false, false⟩ := by kernel_rfl
theorem ti75 : tiOf Try.prog 75 = some ⟨true, 7, 56, [.int .i64 (0), .int .i64 (0), .int .i64 (0), .int .i64 (0), .int .i64 (0), .int .i64 (0), .int .i64 (0)], none, none, [(0, 4), (4, 2), (6, 1)], [74, 64, 3], false, false⟩ := by kernel_rfl
theorem ti76 : tiOf Try.prog 76 = some ⟨true, 7, 56, [.int .i64 (0), .int .i64 (0), .int .i64 (0), .int .i64 (0), .int .i64 (0), .int .i64 (0), .int .i64 (0)], none, none, [(0, 4), (4, 2), (6, 1)], [74, 64, 3], false, false⟩ := by kernel_rfl
theorem ti78 : tiOf Try.prog 78 = some ⟨false, 1, 8, [.map none], none, none, [], [], false, false⟩ := by kernel_rfl
theorem ti96 : tiOf Try.prog 96 = some ⟨false, 1, 24, [.slice none 0 0], some 25, none, [], [], false, false⟩ := by kernel_rfl
theorem ti110 : tiOf Try.prog 110 = some ⟨false, 1, 24, [.slice none 0 0], some 22, none, [], [], false, false⟩ := by kernel_rfl
theorem ti115 : tiOf Try.prog 115 = some ⟨false, 1, 8, [.int .u64 (0)], none, none, [], [], false, false⟩ := by kernel_rfl
theorem ti118 : tiOf Try.prog 118 = some ⟨false, 1, 8, [.int .i64 (0)], none, none, [], [], false, false⟩ := by kernel_rfl
theorem ti126 : tiOf Try.prog 126 = some ⟨false, 1, 4, [.int .u32 (0)], none, none, [], [], false, false⟩ := by kernel_rfl
theorem ti128 : tiOf Try.prog 128 = some ⟨false, 1, 8, [.int .u64 (0)], none, none, [], [], false, false⟩ := by kernel_rfl
theorem ti129 : tiOf Try.prog 129 = some ⟨false, 1, 8, [.int .u64 (0)], none, none, [], [], false, false⟩ := by kernel_rfl
theorem ti133 : tiOf Try.prog 133 = some ⟨false, 1, 8, [.pointer none], none, none, [], [], false, false⟩ := by kernel_rfl
theorem ti135 : tiOf Try.prog 135 = some ⟨false, 1, 8, [.pointer none], none, none, [], [], false, false⟩ := by kernel_rfl
theorem ti139 : tiOf Try.prog 139 = some ⟨true, 4, 40, [.pointer none, .pointer none, .pointer none, .string ⟨#[]⟩], none, none, [(0, 1), (1, 1), (2, 1), (3, 1)], [17, 17, 17, 9], false, false⟩ := by kernel_rfl
theorem ti141 : tiOf Try.prog 141 = some ⟨true, 0, 0, [], none, some (0, 16), [], [], false, false⟩ := by kernel_rfl
theorem ti142 : tiOf Try.prog 142 = some ⟨true, 0, 0, [], none, none, [(0, 0)], [141], false, false⟩ := by kernel_rfl
theorem ti148 : tiOf Try.prog 148 = some ⟨false, 1, 8, [.pointer none], none, none, [], [], false, false⟩ := by kernel_rfl
theorem ti151 : tiOf Try.prog 151 = some ⟨true, 11, 48, [.int .u64 (0), .int .u64 (0), .int .u32 (0), .int .u8 (0), .int .u8 (0), .int .u8 (0), .int .u8 (0), .nilFunc, .pointer none, .int .i32 (0), .int .i32 (0)], none, none, [(0, 1), (1, 1), (2, 1), (3, 1), (4, 1), (5, 1), (6, 1), (7, 1), (8, 1), (9, 1), (10, 1)], [12, 12, 126, 145, 5, 5, 146, 147, 148, 149, 150], false, false⟩ := by kernel_rfl
theorem ti153 : tiOf Try.prog 153 = some ⟨false, 1, 8, [.pointer none], none, none, [], [], false, false⟩ := by kernel_rfl
end Go.Proofs.Ytkolpijhgcijbaa
