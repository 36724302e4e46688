/-
  Parts of several texts in one: Ti, MpA, MtA, MsA, AAC, Bnd, MzA, MsB, MsC, MsE, MpB.
-/
import Derived.Test.YtndniceeibflcaaGreatDoorProg
import Derived.WalkKit
import Derived.Lib.ConvBytes
import Derived.LaidEql
import Derived.Lib.ItoaNum
import Derived.Lib.LaidTab
import Derived.KernelRfl
import GoSem.Claims
import GoSem.ClaimJoined
import Derived.Orders
import Derived.Laws.StructEq
import Derived.Maps.Keyed
import Derived.Lib.Strings
import Derived.Maps.AppendAt
import Derived.Laws.Concat
import Derived.MapKept
import Derived.Laws.MakeOwn
import Derived.Scope
import Derived.Lib.Split
import Derived.Lib.AtoiAll
import Derived.Laws.BitsLemmas
import Derived.Maps.RangeRun
import Derived.StillTail
import Derived.OrdersIn
import Derived.TacticsIn
import Derived.RangeFuncRecord
import Derived.RangeFuncCalls
import Derived.RangeFuncSeq
import Derived.Test.YtndniceeibflcaaGreatDoorRows
import Derived.Test.YtndniceeibflcaaGreatDoorChecked
import Derived.ChangeSame
import Derived.ChangeVars
import Derived.JoinedOf
import Derived.ProofKit
import Derived.RowKit
import Derived.RowKitTokens
import Derived.LaidLaws
import Derived.LaidHandle
import Derived.LaidMore
import Derived.Stop.Joined
import Derived.Stop.LaidErr
import Derived.HandedShaped
import Derived.Shelf.Vars
import Derived.Deep.Slices
import Derived.Deep.Strs
import Derived.Deep.Fields
import Derived.Lib.SmallJoins
import Derived.SliceStrings
import Derived.ChangeMaps5
import Derived.Test.YtndniceeibflcaaGreatDoorLaa
import Derived.Test.YtndniceeibflcaaGreatDoorLab
import Derived.Test.YtndniceeibflcaaGreatDoorLac
import Derived.Test.YtndniceeibflcaaGreatDoorLad
import Derived.Test.YtndniceeibflcaaGreatDoorLae
import Derived.Test.YtndniceeibflcaaGreatDoorLaf
set_option linter.unusedSimpArgs false
set_option linter.unusedVariables false
namespace Go.Proofs.YtndniceeibflcaaGreatDoor
namespace Aw
end Aw
namespace Mp
end Mp
end Go.Proofs.YtndniceeibflcaaGreatDoor
namespace Go.Proofs.YtndniceeibflcaaGreatDoor
open Aw
theorem ti80 : tiOf Tryz.prog 80 = some ⟨true, 4, 32, [.int .i64 (0), .int .i64 (0), .int .i64 (0), .int .i64 (0)], none, none, [(0, 1), (1, 1), (2, 1), (3, 1)], [3, 3, 3, 3], false, true, false⟩ := by kernel_rfl
theorem ti81 : tiOf Tryz.prog 81 = some ⟨true, 4, 32, [.int .i64 (0), .int .i64 (0), .int .i64 (0), .int .i64 (0)], none, none, [(0, 1), (1, 1), (2, 1), (3, 1)], [3, 3, 3, 3], false, true, false⟩ := by kernel_rfl
theorem ti88 : tiOf Tryz.prog 88 = some ⟨true, 4, 64, [.int .i64 (0), .slice none 0 0, .int .i64 (0), .slice none 0 0], none, none, [(0, 2), (2, 1), (3, 1)], [24, 3, 27], false, false, false⟩ := by kernel_rfl
theorem ti97 : tiOf Tryz.prog 97 = some ⟨true, 0, 0, [], none, none, [], [], false, true, false⟩ := by kernel_rfl
theorem ti98 : tiOf Tryz.prog 98 = some ⟨true, 0, 0, [], none, none, [], [], false, true, false⟩ := by kernel_rfl
theorem ti99 : tiOf Tryz.prog 99 = some ⟨false, 1, 4, [.int .u32 (0)], none, none, [], [], false, false, false⟩ := by kernel_rfl
theorem ti100 : tiOf Tryz.prog 100 = some ⟨true, 2, 8, [.int .i32 (0), .int .u32 (0)], none, none, [(0, 1), (1, 1)], [21, 99], false, true, false⟩ := by kernel_rfl
theorem ti102 : tiOf Tryz.prog 102 = some ⟨true, 2, 8, [.int .i32 (0), .int .u32 (0)], none, none, [(0, 0), (0, 2)], [98, 101], false, false, false⟩ := by kernel_rfl
theorem ti103 : tiOf Tryz.prog 103 = some ⟨true, 2, 8, [.int .i32 (0), .int .u32 (0)], none, none, [(0, 0), (0, 2)], [98, 101], false, false, false⟩ := by kernel_rfl
theorem ti104 : tiOf Tryz.prog 104 = some ⟨true, 6, 96, [.slice none 0 0, .slice none 0 0, .slice none 0 0, .int .i64 (0), .int .i64 (0), .int .i64 (0)], none, none, [(0, 1), (1, 1), (2, 1), (3, 1), (4, 1), (5, 1)], [70, 70, 72, 3, 3, 3], false, false, false⟩ := by kernel_rfl
theorem ti105 : tiOf Tryz.prog 105 = some ⟨true, 6, 96, [.slice none 0 0, .slice none 0 0, .slice none 0 0, .int .i64 (0), .int .i64 (0), .int .i64 (0)], none, none, [(0, 1), (1, 1), (2, 1), (3, 1), (4, 1), (5, 1)], [70, 70, 72, 3, 3, 3], false, false, false⟩ := by kernel_rfl
theorem ti106 : tiOf Tryz.prog 106 = some ⟨true, 13, 184, [.int .i32 (0), .int .u32 (0), .int .i64 (0), .slice none 0 0, .int .i64 (0), .slice none 0 0, .slice none 0 0, .slice none 0 0, .int .i64 (0), .int .i64 (0), .int .i64 (0), .slice none 0 0, .string ⟨#[]⟩], none, none, [(0, 2), (2, 2), (4, 1), (5, 6), (11, 1), (12, 1)], [103, 24, 3, 105, 27, 9], false, false, false⟩ := by kernel_rfl
theorem ti107 : tiOf Tryz.prog 107 = some ⟨true, 13, 184, [.int .i32 (0), .int .u32 (0), .int .i64 (0), .slice none 0 0, .int .i64 (0), .slice none 0 0, .slice none 0 0, .slice none 0 0, .int .i64 (0), .int .i64 (0), .int .i64 (0), .slice none 0 0, .string ⟨#[]⟩], none, none, [(0, 2), (2, 2), (4, 1), (5, 6), (11, 1), (12, 1)], [103, 24, 3, 105, 27, 9], false, false, false⟩ := by kernel_rfl
theorem ti110 : tiOf Tryz.prog 110 = some ⟨false, 1, 8, [.int .i64 (0)], none, none, [], [], false, false, false⟩ := by kernel_rfl
theorem ti111 : tiOf Tryz.prog 111 = some ⟨true, 4, 32, [.int .i64 (0), .int .i64 (0), .int .i64 (0), .int .i64 (0)], none, none, [(0, 1), (1, 1), (2, 1), (3, 1)], [110, 3, 3, 3], false, true, false⟩ := by kernel_rfl
theorem ti112 : tiOf Tryz.prog 112 = some ⟨true, 4, 32, [.int .i64 (0), .int .i64 (0), .int .i64 (0), .int .i64 (0)], none, none, [(0, 1), (1, 1), (2, 1), (3, 1)], [110, 3, 3, 3], false, true, false⟩ := by kernel_rfl
theorem ti113 : tiOf Tryz.prog 113 = some ⟨false, 1, 16, [.nilIface], none, none, [], [], false, false, false⟩ := by kernel_rfl
theorem ti114 : tiOf Tryz.prog 114 = some ⟨false, 1, 16, [.nilIface], none, none, [], [], false, false, false⟩ := by kernel_rfl
theorem ti121 : tiOf Tryz.prog 121 = some ⟨false, 1, 24, [.slice none 0 0], some 5, none, [], [], false, false, false⟩ := by kernel_rfl
theorem ti126 : tiOf Tryz.prog 126 = some ⟨true, 3, 24, [.int .i64 (0), .int .i64 (0), .int .i64 (0)], none, some (3, 3), [], [], false, false, false⟩ := by kernel_rfl
theorem ti129 : tiOf Tryz.prog 129 = some ⟨true, 6, 96, [.slice none 0 0, .slice none 0 0, .slice none 0 0, .int .i64 (0), .int .i64 (0), .int .i64 (0)], none, none, [(0, 1), (1, 1), (2, 1), (3, 1), (4, 1), (5, 1)], [70, 70, 72, 3, 3, 3], false, false, false⟩ := by kernel_rfl
theorem ti130 : tiOf Tryz.prog 130 = some ⟨true, 6, 96, [.slice none 0 0, .slice none 0 0, .slice none 0 0, .int .i64 (0), .int .i64 (0), .int .i64 (0)], none, none, [(0, 1), (1, 1), (2, 1), (3, 1), (4, 1), (5, 1)], [70, 70, 72, 3, 3, 3], false, false, false⟩ := by kernel_rfl
theorem ti137 : tiOf Tryz.prog 137 = some ⟨false, 1, 8, [.pointer none], none, none, [], [], false, false, false⟩ := by kernel_rfl
theorem ti138 : tiOf Tryz.prog 138 = some ⟨true, 1, 8, [.int .i64 (0)], none, none, [(0, 1)], [33], false, true, false⟩ := by kernel_rfl
theorem ti139 : tiOf Tryz.prog 139 = some ⟨true, 1, 8, [.int .i64 (0)], none, none, [(0, 1)], [33], false, true, false⟩ := by kernel_rfl
theorem ti142 : tiOf Tryz.prog 142 = some ⟨false, 1, 8, [.map none], none, none, [], [], false, false, false⟩ := by kernel_rfl
theorem ti147 : tiOf Tryz.prog 147 = some ⟨false, 1, 8, [.pointer none], none, none, [], [], false, false, false⟩ := by kernel_rfl
theorem ti149 : tiOf Tryz.prog 149 = some ⟨false, 1, 8, [.pointer none], none, none, [], [], false, false, false⟩ := by kernel_rfl
theorem ti151 : tiOf Tryz.prog 151 = some ⟨true, 2, 16, [.bool false, .int .i64 (0)], none, none, [(0, 1), (1, 1)], [4, 33], false, false, false⟩ := by kernel_rfl
theorem ti152 : tiOf Tryz.prog 152 = some ⟨true, 2, 16, [.bool false, .int .i64 (0)], none, none, [(0, 1), (1, 1)], [4, 33], false, false, false⟩ := by kernel_rfl
theorem ti173 : tiOf Tryz.prog 173 = some ⟨false, 1, 8, [.pointer none], none, none, [], [], false, false, false⟩ := by kernel_rfl
theorem ti175 : tiOf Tryz.prog 175 = some ⟨false, 1, 8, [.pointer none], none, none, [], [], false, false, false⟩ := by kernel_rfl
theorem ti177 : tiOf Tryz.prog 177 = some ⟨false, 1, 8, [.pointer none], none, none, [], [], false, false, false⟩ := by kernel_rfl
theorem ti183 : tiOf Tryz.prog 183 = some ⟨true, 3, 24, [.pointer none, .pointer none, .int .u64 (0)], none, none, [(0, 1), (1, 1), (2, 1)], [17, 177, 182], false, false, false⟩ := by kernel_rfl
theorem ti186 : tiOf Tryz.prog 186 = some ⟨false, 1, 16, [.nilIface], none, none, [], [], false, false, false⟩ := by kernel_rfl
theorem ti193 : tiOf Tryz.prog 193 = some ⟨false, 1, 24, [.slice none 0 0], some 152, none, [], [], false, false, false⟩ := by kernel_rfl
theorem ti199 : tiOf Tryz.prog 199 = some ⟨false, 1, 24, [.slice none 0 0], some 81, none, [], [], false, false, false⟩ := by kernel_rfl
theorem ti200 : tiOf Tryz.prog 200 = some ⟨true, 2, 32, [.slice none 0 0, .int .i64 (0)], none, none, [(0, 1), (1, 1)], [199, 3], false, false, false⟩ := by kernel_rfl
theorem ti201 : tiOf Tryz.prog 201 = some ⟨true, 2, 32, [.slice none 0 0, .int .i64 (0)], none, none, [(0, 1), (1, 1)], [199, 3], false, false, false⟩ := by kernel_rfl
theorem ti208 : tiOf Tryz.prog 208 = some ⟨true, 24, 24, [.int .u8 (0), .int .u8 (0), .int .u8 (0), .int .u8 (0), .int .u8 (0), .int .u8 (0), .int .u8 (0), .int .u8 (0), .int .u8 (0), .int .u8 (0), .int .u8 (0), .int .u8 (0), .int .u8 (0), .int .u8 (0), .int .u8 (0), .int .u8 (0), .int .u8 (0), .int .u8 (0), .int .u8 (0), .int .u8 (0), .int .u8 (0), .int .u8 (0), .int .u8 (0), .int .u8 (0)], none, some (24, 5), [], [], false, false, false⟩ := by kernel_rfl
theorem ti209 : tiOf Tryz.prog 209 = some ⟨false, 1, 8, [.int .u64 (0)], none, none, [], [], false, false, false⟩ := by kernel_rfl
theorem ti217 : tiOf Tryz.prog 217 = some ⟨false, 1, 8, [.pointer none], none, none, [], [], false, false, false⟩ := by kernel_rfl
theorem ti222 : tiOf Tryz.prog 222 = some ⟨false, 1, 8, [.pointer none], none, none, [], [], false, false, false⟩ := by kernel_rfl
theorem ti225 : tiOf Tryz.prog 225 = some ⟨true, 1, 8, [.pointer none], none, none, [(0, 1)], [17], false, false, false⟩ := by kernel_rfl
theorem ti227 : tiOf Tryz.prog 227 = some ⟨false, 1, 8, [.pointer none], none, none, [], [], false, false, false⟩ := by kernel_rfl
theorem ti231 : tiOf Tryz.prog 231 = some ⟨false, 1, 16, [.nilIface], none, none, [], [], false, false, false⟩ := by kernel_rfl
theorem ti234 : tiOf Tryz.prog 234 = some ⟨false, 1, 16, [.nilIface], none, none, [], [], false, false, false⟩ := by kernel_rfl
theorem ti236 : tiOf Tryz.prog 236 = some ⟨false, 1, 16, [.nilIface], none, none, [], [], false, false, false⟩ := by kernel_rfl
theorem ti237 : tiOf Tryz.prog 237 = some ⟨false, 1, 24, [.slice none 0 0], some 114, none, [], [], false, false, false⟩ := by kernel_rfl
theorem ti240 : tiOf Tryz.prog 240 = some ⟨false, 1, 8, [.pointer none], none, none, [], [], false, false, false⟩ := by kernel_rfl
theorem ti246 : tiOf Tryz.prog 246 = some ⟨true, 20, 160, [.int .u64 (0), .int .u64 (0), .int .u64 (0), .int .u64 (0), .int .u64 (0), .int .u64 (0), .int .u64 (0), .int .u64 (0), .int .u64 (0), .int .u64 (0), .int .u64 (0), .int .u64 (0), .int .u64 (0), .int .u64 (0), .int .u64 (0), .int .u64 (0), .int .u64 (0), .int .u64 (0), .int .u64 (0), .int .u64 (0)], none, some (20, 209), [], [], false, false, false⟩ := by kernel_rfl
theorem ti254 : tiOf Tryz.prog 254 = some ⟨true, 3, 48, [.string ⟨#[]⟩, .string ⟨#[]⟩, .nilIface], none, none, [(0, 1), (1, 1), (2, 1)], [9, 9, 114], false, false, false⟩ := by kernel_rfl
theorem ti255 : tiOf Tryz.prog 255 = some ⟨true, 3, 48, [.string ⟨#[]⟩, .string ⟨#[]⟩, .nilIface], none, none, [(0, 1), (1, 1), (2, 1)], [9, 9, 114], false, false, false⟩ := by kernel_rfl
theorem ti259 : tiOf Tryz.prog 259 = some ⟨false, 1, 8, [.pointer none], none, none, [], [], false, false, false⟩ := by kernel_rfl
theorem ti260 : tiOf Tryz.prog 260 = some ⟨false, 1, 8, [.pointer none], none, none, [], [], false, false, false⟩ := by kernel_rfl
theorem ti261 : tiOf Tryz.prog 261 = some ⟨true, 1, 16, [.string ⟨#[]⟩], none, none, [(0, 1)], [9], false, false, false⟩ := by kernel_rfl
theorem ti262 : tiOf Tryz.prog 262 = some ⟨true, 1, 16, [.string ⟨#[]⟩], none, none, [(0, 1)], [9], false, false, false⟩ := by kernel_rfl
theorem ti263 : tiOf Tryz.prog 263 = some ⟨true, 32, 32, [.int .u8 (0), .int .u8 (0), .int .u8 (0), .int .u8 (0), .int .u8 (0), .int .u8 (0), .int .u8 (0), .int .u8 (0), .int .u8 (0), .int .u8 (0), .int .u8 (0), .int .u8 (0), .int .u8 (0), .int .u8 (0), .int .u8 (0), .int .u8 (0), .int .u8 (0), .int .u8 (0), .int .u8 (0), .int .u8 (0), .int .u8 (0), .int .u8 (0), .int .u8 (0), .int .u8 (0), .int .u8 (0), .int .u8 (0), .int .u8 (0), .int .u8 (0), .int .u8 (0), .int .u8 (0), .int .u8 (0), .int .u8 (0)], none, some (32, 5), [], [], false, false, false⟩ := by kernel_rfl
theorem ti266 : tiOf Tryz.prog 266 = some ⟨true, 2, 2, [.int .u8 (0), .int .u8 (0)], none, none, [(0, 1), (1, 1)], [5, 5], false, true, false⟩ := by kernel_rfl
theorem ti267 : tiOf Tryz.prog 267 = some ⟨true, 2, 2, [.int .u8 (0), .int .u8 (0)], none, none, [(0, 1), (1, 1)], [5, 5], false, true, false⟩ := by kernel_rfl
theorem ti268 : tiOf Tryz.prog 268 = some ⟨true, 32, 32, [.int .u8 (0), .int .u8 (0), .int .u8 (0), .int .u8 (0), .int .u8 (0), .int .u8 (0), .int .u8 (0), .int .u8 (0), .int .u8 (0), .int .u8 (0), .int .u8 (0), .int .u8 (0), .int .u8 (0), .int .u8 (0), .int .u8 (0), .int .u8 (0), .int .u8 (0), .int .u8 (0), .int .u8 (0), .int .u8 (0), .int .u8 (0), .int .u8 (0), .int .u8 (0), .int .u8 (0), .int .u8 (0), .int .u8 (0), .int .u8 (0), .int .u8 (0), .int .u8 (0), .int .u8 (0), .int .u8 (0), .int .u8 (0)], none, some (16, 267), [], [], false, false, false⟩ := by kernel_rfl
theorem ti269 : tiOf Tryz.prog 269 = some ⟨true, 4, 40, [.pointer none, .pointer none, .pointer none, .string ⟨#[]⟩], none, none, [(0, 1), (1, 1), (2, 1), (3, 1)], [17, 17, 17, 9], false, false, false⟩ := by kernel_rfl
end Go.Proofs.YtndniceeibflcaaGreatDoor

namespace Go.Proofs.YtndniceeibflcaaGreatDoor
namespace Mp
open Go
set_option linter.unusedSimpArgs false

abbrev By := List UInt8

/-- a text cut at the first c. -/
def cutB (c : UInt8) : By → By × By × Bool
  | [] => ([], [], false)
  | b :: l => if b = c then ([], l, true) else (b :: (cutB c l).1, (cutB c l).2.1, (cutB c l).2.2)

theorem cutB_no (c : UInt8) : ∀ l : By, (cutB c l).2.2 = false → (cutB c l).1 = l ∧ (cutB c l).2.1 = [] ∧ c ∉ l
  | [], _ => by simp [cutB]
  | b :: l, h => by
    unfold cutB at h ⊢
    split at h
    · cases h
    · rename_i hb
      obtain ⟨h1, h2, h3⟩ := cutB_no c l h
      rw [if_neg hb]
      refine ⟨by simp [h1], h2, ?_⟩
      simp only [List.mem_cons, not_or]
      exact ⟨fun e => hb e.symm, h3⟩
theorem cutB_yes (c : UInt8) : ∀ l : By, (cutB c l).2.2 = true → l = (cutB c l).1 ++ c :: (cutB c l).2.1 ∧ c ∉ (cutB c l).1
  | [], h => by simp [cutB] at h
  | b :: l, h => by
    unfold cutB at h ⊢
    split at h
    · rename_i hb
      subst hb
      simp
    · rename_i hb
      obtain ⟨h1, h2⟩ := cutB_yes c l h
      rw [if_neg hb]
      refine ⟨by simpa using h1, ?_⟩
      simp only [List.mem_cons, not_or]
      exact ⟨fun e => hb e.symm, h2⟩
theorem cutB_at (c : UInt8) : ∀ (x y : By), c ∉ x → cutB c (x ++ c :: y) = (x, y, true)
  | [], y, _ => by simp [cutB]
  | b :: x, y, h => by
    simp only [List.mem_cons, not_or] at h
    simp only [List.cons_append, cutB, if_neg (Ne.symm h.1), cutB_at c x y h.2]
theorem index_one (c : UInt8) : ∀ l : By, Lib.index l [c] = if (cutB c l).2.2 = true then ((cutB c l).1.length : Int) else -1
  | [] => rfl
  | b :: l => by
    have ih := index_one c l
    unfold Lib.index cutB
    by_cases hb : b = c
    · subst hb
      have : List.isPrefixOf [b] (b :: l) = true := by simp [List.isPrefixOf]
      rw [if_pos this, if_pos rfl]
      simp
    · have : List.isPrefixOf [c] (b :: l) = false := by simp [List.isPrefixOf, Ne.symm hb]
      rw [this, ih, if_neg hb]
      simp only [Bool.false_eq_true, if_false]
      by_cases h : (cutB c l).2.2 = true
      · simp only [h, if_true, List.length_cons, Int.natCast_add, Int.natCast_one]
        rw [if_neg]
        simp only [beq_iff_eq]
        omega
      · simp [h]

theorem cutB_td (c : UInt8) (l : By) (h : (cutB c l).2.2 = true) : l.take (cutB c l).1.length = (cutB c l).1 ∧ l.drop ((cutB c l).1.length + 1) = (cutB c l).2.1 := by
  obtain ⟨h1, _⟩ := cutB_yes c l h
  generalize (cutB c l).1 = x at *
  generalize (cutB c l).2.1 = y at *
  subst h1
  refine ⟨by simp, ?_⟩
  rw [show x ++ c :: y = (x ++ [c]) ++ y by simp, show x.length + 1 = (x ++ [c]).length by simp, List.drop_left]

theorem cut_one (c : UInt8) (l : By) : Lib.cut l [c] = cutB c l := by
  unfold Lib.cut
  rw [index_one]
  cases h : (cutB c l).2.2 with
  | true =>
    obtain ⟨h1, _⟩ := cutB_yes c l h
    simp only [if_true]
    rw [if_pos (by omega)]
    have e : ((((cutB c l).1.length : Nat) : Int)).toNat = (cutB c l).1.length := by omega
    rw [e]
    obtain ⟨t1, t2⟩ := cutB_td c l h
    rw [show [c].length = 1 from rfl]
    rw [t1, t2, ← h]
  | false =>
    obtain ⟨h1, h2, _⟩ := cutB_no c l h
    simp only [Bool.false_eq_true, if_false]
    rw [if_neg (by omega)]
    exact Prod.ext h1.symm (Prod.ext h2.symm h.symm)

/-- a text split at each c. -/
def splB (c : UInt8) : By → List By
  | [] => [[]]
  | b :: l => if b = c then [] :: splB c l else match splB c l with
    | x :: r => (b :: x) :: r
    | [] => [[b]]

theorem splB_ne (c : UInt8) (l : By) : splB c l ≠ [] := by
  cases l with
  | nil => simp [splB]
  | cons b l =>
    unfold splB
    split
    · simp
    · split <;> simp
theorem splB_no (c : UInt8) : ∀ l : By, c ∉ l → splB c l = [l]
  | [], _ => rfl
  | b :: l, h => by
    simp only [List.mem_cons, not_or] at h
    simp only [splB, if_neg (Ne.symm h.1), splB_no c l h.2]
theorem splB_at (c : UInt8) : ∀ (x y : By), c ∉ x → splB c (x ++ c :: y) = x :: splB c y
  | [], y, _ => by simp [splB]
  | b :: x, y, h => by
    simp only [List.mem_cons, not_or] at h
    simp only [List.cons_append, splB, if_neg (Ne.symm h.1), splB_at c x y h.2]
theorem splB_cut (c : UInt8) (l : By) : splB c l = if (cutB c l).2.2 = true then (cutB c l).1 :: splB c (cutB c l).2.1 else [l] := by
  cases h : (cutB c l).2.2 with
  | true =>
    obtain ⟨h1, h2⟩ := cutB_yes c l h
    simp only [if_true]
    conv => lhs; rw [h1]
    exact splB_at c _ _ h2
  | false =>
    obtain ⟨_, _, h3⟩ := cutB_no c l h
    simp [splB_no c l h3]

theorem split_one (c : UInt8) (l : By) : Lib.split l [c] = splB c l := by
  unfold Lib.split Lib.count
  have key : ∀ (n : Nat) (l : By), l.length < n → Lib.splitK [c] 0 (Lib.countFrom [c] n l) l = splB c l := by
    intro n
    induction n with
    | zero => intro l h; omega
    | succ n ih =>
      intro l h
      rw [splB_cut]
      unfold Lib.countFrom
      rw [index_one]
      cases hc : (cutB c l).2.2 with
      | false => simp [Lib.splitK]
      | true =>
        obtain ⟨h1, _⟩ := cutB_yes c l hc
        have hlen : l.length = (cutB c l).1.length + 1 + (cutB c l).2.1.length := by
          conv => lhs; rw [h1]
          simp; omega
        simp only [if_true]
        have hb : ((((cutB c l).1.length : Nat) : Int) == -1) = false := by
          rw [beq_eq_false_iff_ne]; omega
        rw [hb]
        simp only [Bool.false_eq_true, if_false]
        have e : ((((cutB c l).1.length : Nat) : Int)).toNat = (cutB c l).1.length := by omega
        rw [e]
        obtain ⟨t1, t2⟩ := cutB_td c l hc
        rw [show [c].length = 1 from rfl]
        rw [t2, Nat.add_comm 1]
        unfold Lib.splitK
        rw [index_one, hc]
        simp only [if_true]
        rw [hb]
        simp only [Bool.false_eq_true, if_false, Nat.add_zero]
        rw [e, t1, show [c].length = 1 from rfl, t2, ih _ (by omega)]
  exact key _ l (by omega)

/-- the sum. -/
def sumStep (n : Int) (c : UInt8) : Int := (n * 257 + c.toNat + 1) % 1000003
def sumB (n : Int) (l : By) : Int := l.foldl sumStep (n % 1000003)
theorem sumB_lim (n : Int) (l : By) : 0 ≤ sumB n l ∧ sumB n l < 1000003 := by
  have key : ∀ (l : By) (m : Int), 0 ≤ m ∧ m < 1000003 → 0 ≤ l.foldl sumStep m ∧ l.foldl sumStep m < 1000003 := by
    intro l
    induction l with
    | nil => intro m h; exact h
    | cons c l ih => intro m h; exact ih _ (by unfold sumStep; omega)
  exact key l _ (by omega)
/-- whether a text may stand in a log. -/
def ordB (l : By) : Bool := decide (1 ≤ l.length) && decide (l.length ≤ 30) && !l.contains 10
theorem ordB_iff (l : By) : ordB l = true ↔ 1 ≤ l.length ∧ l.length ≤ 30 ∧ (10 : UInt8) ∉ l := by
  simp [ordB, and_assoc]

/-- a line of a log. -/
def lineB (n : Int) (o : By) : By := Lib.itoa n ++ 32 :: o ++ [10]
/-- the log of orders, from a sum on. -/
def lg : Int → List By → By
  | _, [] => []
  | b, o :: r => lineB (sumB b o) o ++ lg (sumB b o) r
/-- the sum behind orders. -/
def sumL (b : Int) (l : List By) : Int := l.foldl sumB b
theorem lg_app (b : Int) (l m : List By) : lg b (l ++ m) = lg b l ++ lg (sumL b l) m := by
  induction l generalizing b with
  | nil => rfl
  | cons o l ih => simp only [List.cons_append, lg, ih, List.append_assoc]; rfl

/-- what is read of a log. -/
def okLine (b : Int) (log : By) : Bool :=
  (cutB 10 log).2.2 && (cutB 32 (cutB 10 log).1).2.2 && ordB (cutB 32 (cutB 10 log).1).2.1 && (Lib.itoa (sumB b (cutB 32 (cutB 10 log).1).2.1) == (cutB 32 (cutB 10 log).1).1)
def ordOf (log : By) : By := (cutB 32 (cutB 10 log).1).2.1
def restOf (log : By) : By := (cutB 10 log).2.1
def rd : Nat → Int → By → List By × By
  | 0, _, log => ([], log)
  | k + 1, b, log => if okLine b log = true then (ordOf log :: (rd k (sumB b (ordOf log)) (restOf log)).1, (rd k (sumB b (ordOf log)) (restOf log)).2) else ([], log)

theorem rd_succ (k : Nat) (b : Int) (log : By) : rd (k + 1) b log = if okLine b log = true then (ordOf log :: (rd k (sumB b (ordOf log)) (restOf log)).1, (rd k (sumB b (ordOf log)) (restOf log)).2) else ([], log) := rfl
theorem dec_digit : ∀ (u : Nat), ∀ c ∈ Lib.decDigits u, 48 ≤ c.toNat ∧ c.toNat ≤ 57 := by
  intro u
  induction u using Nat.strongRecOn with
  | _ u ih =>
    intro c hc
    rw [Lib.decDigits] at hc
    split at hc
    · simp only [List.mem_singleton] at hc
      subst hc
      simp only [UInt8.toNat_ofNat']
      omega
    · rcases List.mem_append.1 hc with hc | hc
      · exact ih (u / 10) (by omega) c hc
      · simp only [List.mem_singleton] at hc
        subst hc
        simp only [UInt8.toNat_ofNat']
        omega
theorem itoa_digit {n : Int} (h : 0 ≤ n) : ∀ c ∈ Lib.itoa n, 48 ≤ c.toNat ∧ c.toNat ≤ 57 := by
  unfold Lib.itoa
  rw [if_neg (by omega)]
  exact dec_digit _
theorem itoa_no {n : Int} (h : 0 ≤ n) (c : UInt8) (hc : c.toNat < 48) : c ∉ Lib.itoa n := fun hm => by
  have := itoa_digit h c hm
  omega

theorem okLine_split {b : Int} {log : By} (h : okLine b log = true) : ordB (ordOf log) = true ∧ log = lineB (sumB b (ordOf log)) (ordOf log) ++ restOf log := by
  unfold okLine at h
  simp only [Bool.and_eq_true, beq_iff_eq] at h
  obtain ⟨⟨⟨h1, h2⟩, h3⟩, h4⟩ := h
  refine ⟨h3, ?_⟩
  obtain ⟨e1, _⟩ := cutB_yes 10 log h1
  obtain ⟨e2, _⟩ := cutB_yes 32 _ h2
  unfold lineB ordOf restOf
  rw [h4]
  conv => lhs; rw [e1]; rw [e2]
  simp
theorem okLine_line (b : Int) (o t : By) (h : ordB o = true) : okLine b (lineB (sumB b o) o ++ t) = true ∧ ordOf (lineB (sumB b o) o ++ t) = o ∧ restOf (lineB (sumB b o) o ++ t) = t := by
  obtain ⟨_, _, h10⟩ := (ordB_iff o).1 h
  have hs := (sumB_lim b o).1
  have e1 : cutB 10 (lineB (sumB b o) o ++ t) = (Lib.itoa (sumB b o) ++ 32 :: o, t, true) := by
    unfold lineB
    rw [List.append_assoc]
    refine cutB_at 10 _ t ?_
    simp only [List.mem_append, List.mem_cons, not_or]
    exact ⟨itoa_no hs 10 (by decide), by decide, h10⟩
  have e2 : cutB 32 (Lib.itoa (sumB b o) ++ 32 :: o) = (Lib.itoa (sumB b o), o, true) := cutB_at 32 _ o (itoa_no hs 32 (by decide))
  unfold okLine ordOf restOf
  rw [e1]
  simp only
  rw [e2]
  simp [h]

theorem rd_len : ∀ (k : Nat) (b : Int) (log : By), (rd k b log).1.length ≤ k
  | 0, _, _ => by simp [rd]
  | k + 1, b, log => by
    unfold rd
    split
    · have := rd_len k (sumB b (ordOf log)) (restOf log)
      simp only [List.length_cons]; omega
    · simp
theorem rd_ord : ∀ (k : Nat) (b : Int) (log : By), ∀ o ∈ (rd k b log).1, ordB o = true
  | 0, _, _, o, h => by simp [rd] at h
  | k + 1, b, log, o, h => by
    unfold rd at h
    split at h
    · rename_i hk
      rcases List.mem_cons.1 h with rfl | h
      · exact (okLine_split hk).1
      · exact rd_ord k _ _ o h
    · simp at h
/-- what is written is read again. -/
theorem rd_of_lg : ∀ (l : List By) (k : Nat) (b : Int) (t : By), (∀ o ∈ l, ordB o = true) → rd (l.length + k) b (lg b l ++ t) = (l ++ (rd k (sumL b l) t).1, (rd k (sumL b l) t).2)
  | [], k, b, t, _ => by simp [lg, sumL]
  | o :: l, k, b, t, h => by
    obtain ⟨h1, h2, h3⟩ := okLine_line b o (lg (sumB b o) l ++ t) (h o (by simp))
    have ih := rd_of_lg l k (sumB b o) t (fun x hx => h x (by simp [hx]))
    rw [show (o :: l).length + k = (l.length + k) + 1 by simp; omega]
    simp only [lg, List.append_assoc]
    rw [rd_succ, if_pos h1, h2, h3, ih]
    rfl
theorem rd_nil (k : Nat) (b : Int) : rd k b [] = ([], []) := by
  cases k with
  | zero => rfl
  | succ k => simp [rd, okLine, cutB]
theorem rd_all {l : List By} (hl : l.length ≤ 100) (ho : ∀ o ∈ l, ordB o = true) : rd 100 0 (lg 0 l) = (l, []) := by
  have := rd_of_lg l (100 - l.length) 0 [] ho
  rw [show l.length + (100 - l.length) = 100 by omega] at this
  simpa [rd_nil] using this

end Mp
end Go.Proofs.YtndniceeibflcaaGreatDoor

namespace Go.Proofs.YtndniceeibflcaaGreatDoor
open Aw Mp Go.RowKit
set_option linter.unusedSimpArgs false

theorem mo : Tryz.prog.follows .mixedOrders = true := by kernel_rfl
theorem io3 : intOf Tryz.prog 3 = some .i64 := by kernel_rfl
theorem io5 : intOf Tryz.prog 5 = some .u8 := by kernel_rfl
theorem nt32 : nilT Tryz.prog 32 = some true := by kernel_rfl
theorem nt114 : nilT Tryz.prog 114 = some false := by kernel_rfl
theorem cc139 : conc Tryz.prog 139 = true := by kernel_rfl
theorem us9 : (Tryz.prog.underlying 9).isSome = true := by kernel_rfl
theorem wrap_byte (c : UInt8) : IntKind.i64.wrap (c.toNat : Int) = c.toNat := IntWalk.i64_in _ (by have := c.toNat_lt; omega)

/-- a function that makes no object of its own. -/
theorem aspec_cl {P : Program} {f : FuncId} {xs : List AV} {post : AV → List Ob → Prop} (hok : okFn P f = true)
    (h : ∀ (w : World) (vs : List Value) (A : Nat → Prop), GOk w → (∀ b, A b → b < w.heap.size) → RVL w A noHv xs vs → Calls P f vs.toArray w fun e w' => ∃ v r, e = .returned v ∧ post r [] ∧ Below w.heap.size w w' ∧ ∀ T : Nat → Prop, (∀ b, T b → A b) → RV w' T noHv r v) : ASpec P f xs post := by
  refine ⟨hok, fun w vs A hG hA hv => (h w vs A hG hA hv).mono ?_⟩
  rintro e w' ⟨v, r, rfl, hp, hb, hr⟩
  have hno : ∀ b, ¬ Aw.Own noHv b := fun b h => by obtain ⟨i, v, h, _⟩ := h; simp [noHv] at h
  exact ⟨r, [], v, noHv, rfl, hp, ⟨fun i ob h => by simp at h, fun i v h => by simp [noHv] at h, fun i j vi vj b h => by simp [noHv] at h, fun b h => Nat.lt_of_lt_of_le (hA b h) hb.size, hG.keep fun b h => hb.block b (hG.lt h), fun b h => absurd h (hno b)⟩,
    hr _ (fun b h => h.elim id fun h => absurd h (hno b)), fun b h => absurd h (hno b), ⟨hb, Nat.le_refl _⟩⟩

theorem aget_bytes {l : List UInt8} {j : Nat} (h : j < l.length) (K : HK (AV → Prop)) : @AGet (bytesA l) j K = K.k (.v (.int .u8 (l[j].toNat : Int))) := by simp [AGet, bytesA, h]
theorem bytesA_len (l : List UInt8) : (bytesA l).length = l.length := by simp [bytesA]

/-- texts as abstract values. -/
def strsA (l : List By) : List AV := l.map S
theorem strsA_len (l : List By) : (strsA l).length = l.length := by simp [strsA]
theorem aget_strs {l : List By} {j : Nat} (h : j < l.length) (K : HK (AV → Prop)) : @AGet (strsA l) j K = K.k (S l[j]) := by simp [AGet, strsA, h]
theorem strsA_pure (l : List By) : AV.pureL (strsA l) = true := pureL_map S (fun _ => rfl) l
theorem strsA_kill (Z : List Nat) (l : List By) : AV.killL Z (strsA l) = strsA l := killL_pure Z _ (strsA_pure l)
theorem strsA_app (l : List By) (o : By) : strsA l ++ [S o] = strsA (l ++ [o]) := by simp [strsA]
theorem strsA_drop (l : List By) (k : Nat) : (strsA l).drop k = strsA (l.drop k) := by simp [strsA]
end Go.Proofs.YtndniceeibflcaaGreatDoor

namespace Go.Proofs.YtndniceeibflcaaGreatDoor
open Aw Go.ChangeShapes Go.WideShapes Go.RowKit Go.Stop
set_option maxRecDepth 100000

theorem Tryz.own : ownKnob Tryz.prog.godebug = none := by kernel_rfl
theorem Tryz.laidOut : laidOutB Tryz.prog = true := by kernel_rfl
theorem g0 : Tryz.prog.globalNamed "errors.errorType" = some 0 := by kernel_rfl
theorem g2 : Tryz.prog.globalNamed "internal/strconv.uint64pow10" = some 2 := by kernel_rfl
theorem g3 : Tryz.prog.globalNamed "strconv.ErrSyntax" = some 3 := by kernel_rfl
theorem g4 : Tryz.prog.globalNamed "strconv.ErrRange" = some 4 := by kernel_rfl
theorem gt2 : (Tryz.prog.globals[2]?).map (·.type) = some 246 := by kernel_rfl
theorem gt3 : (Tryz.prog.globals[3]?).map (·.type) = some 114 := by kernel_rfl
theorem gt4 : (Tryz.prog.globals[4]?).map (·.type) = some 114 := by kernel_rfl
theorem rt226 : (Tryz.prog.cutTypes.find? (·.1 == "internal/reflectlite.rtype")).map (·.2) = some 226 := by kernel_rfl
theorem tsize : Tryz.prog.types.size = 296 := by kernel_rfl
theorem oneRow : ((List.range 296).filter fun t => Tryz.prog.rowNamed t [101, 114, 114, 111, 114]) = [114] := by kernel_rfl
theorem star : "*" ++ "errors.errorString" = "*errors.errorString" := by decide
theorem row260 (u : TypeId) (h : Tryz.prog.typeName? 3 u = some "*errors.errorString") : u = 260 :=
  typeName_ptr_named (nm := "errors.errorString") (by rw [star]; kernel_rfl) (by kernel_rfl) (by decide) u (by rw [star]; exact h)
theorem Tryz.underlying260 : Tryz.prog.underlying 260 = some (.pointer 262) := by kernel_rfl
theorem tc262 : Tryz.prog.cellsOf 262 = 1 := by kernel_rfl
theorem tc9 : Tryz.prog.cellsOf 9 = 1 := by kernel_rfl
theorem Tryz.underlying9 : Tryz.prog.underlying 9 = some .string := by kernel_rfl
theorem powN_is : powN = "internal/strconv.uint64pow10" := by kernel_rfl

/-- the list of what is laid. -/
def laidL : List (String × DataW Unit) := Rows.topLogRow.laid
theorem met_parts {W : World} (h : laidMetH Tryz.prog laidL W) : laidMet Tryz.prog [("math/bits.deBruijn32tab", Rows.laid_math_bits_deBruijn32tab), ("math/bits.deBruijn64tab", Rows.laid_math_bits_deBruijn64tab), ("internal/strconv.uint64pow10", Rows.laid_internal_strconv_uint64pow10), ("unicode/utf8.acceptRanges", Rows.laid_unicode_utf8_acceptRanges), ("strconv.ErrRange", Rows.laid_strconv_ErrRange), ("strconv.ErrSyntax", Rows.laid_strconv_ErrSyntax), ("unicode/utf8.first", Rows.laid_unicode_utf8_first)] W ∧
    handlesMet Tryz.prog [("errors.errorType", Rows.laid_errors_errorType)] W := h
theorem gok_of {W : World} (h : laidMetH Tryz.prog laidL W) (hsh : W.ShapedOpen Tryz.prog) : GOk W := by
  obtain ⟨h1, h2⟩ := met_parts h
  have h3 := laidMet.tail (laidMet.tail h1)
  have h5 := laidMet.tail (laidMet.tail h3)
  have h6 := laidMet.tail h5
  refine ⟨?_, ?_, ?_, ?_, ?_, ?_⟩
  · obtain ⟨ps, ⟨g, t, cs, f, p, q, hg, ht, hv, _⟩, _⟩ := laidMet.tail h3
    have hg8 : Tryz.prog.globalNamed "unicode/utf8.acceptRanges" = some 8 := by kernel_rfl
    have hx : 8 < W.heap.size := by
      rcases Nat.lt_or_ge 8 W.heap.size with h | h
      · exact h
      · unfold World.var? at hv
        rw [hg8] at hv
        simp [Array.getElem?_eq_none h] at hv
    omega
  · exact cell_of_shapedOpen_int (P := Tryz.prog) (g := 1) (t := 3) (zero := #[.int .i64 0]) hsh (of_decide_eq_true (by kernel_rfl)) (by kernel_rfl) rfl (by kernel_rfl) (by kernel_rfl) Tryz.underlying3
  · rw [powN_is]
    exact Lib.tabIs_of_head g2 gt2 Tryz.underlying246 (by kernel_rfl) (by kernel_rfl) (by kernel_rfl) h3
  · obtain ⟨a, s, hv, _⟩ := laid_sentinel h6 g3 gt3 Tryz.underlying114 row260 Tryz.underlying260 Tryz.underlying262 rfl rfl Tryz.underlying9 tc262 tc9
    exact ⟨_, _, by simpa using World.var?_cell g3 hv 0⟩
  · obtain ⟨a, s, hv, _⟩ := laid_sentinel h5 g4 gt4 Tryz.underlying114 row260 Tryz.underlying260 Tryz.underlying262 rfl rfl Tryz.underlying9 tc262 tc9
    exact ⟨_, _, by simpa using World.var?_cell g4 hv 0⟩
  · obtain ⟨name, u, ty, e1, e2, e3, e4, e5⟩ := h2 _ (List.mem_singleton.2 rfl)
    have en : name = [101, 114, 114, 111, 114] := (Option.some.inj e1).symm
    subst en
    obtain rfl := Option.some.inj (rt226.symm.trans e2)
    have hm : ty ∈ (List.range 296).filter fun t => Tryz.prog.rowNamed t [101, 114, 114, 111, 114] := List.mem_filter.2 ⟨List.mem_range.2 (by rw [← tsize]; exact e3), e4⟩
    rw [oneRow] at hm
    obtain rfl := List.mem_singleton.1 hm
    have hh : typeHandle Tryz.prog 114 = .pointer (some ⟨9, 114, none⟩) := by kernel_rfl
    rw [hh] at e5
    simpa using World.var?_cell g0 e5 0
end Go.Proofs.YtndniceeibflcaaGreatDoor

namespace Go.Proofs.YtndniceeibflcaaGreatDoor
namespace Aw
open Go.RowKit
set_option linter.unusedSimpArgs false

/-- the orders between two cuts. -/
inductive OTc
  | cut
  | nil
  | alt (i : Nat) (t : OTc) (more : OTc)
def OTc.alts : OTc → List Nat
  | .alt i _ more => i :: more.alts
  | _ => []
def OTc.isCut : OTc → Bool
  | .cut => true
  | _ => false
def OTc.okAll (ops : Array Oper) (T : Array Bool) (nT : Nat) : OTc → Nat → Array Bool → Bool
  | .cut, n, L => decide (L = T) && decide (n = nT)
  | .nil, _, _ => true
  | .alt i s more, n, L => (s.isCut || (decide (2 ≤ n) && (Region.ready .any ops (L.setIfInBounds i true)).all (fun j => s.alts.contains j) && !(Region.ready .any ops (L.setIfInBounds i true)).isEmpty)) && s.okAll ops T nT (n - 1) (L.setIfInBounds i true) && more.okAll ops T nT n L
/-- the first k operations are done. -/
def preL (s k : Nat) : Array Bool := ((List.range s).map fun i => decide (i < k)).toArray
def OTc.ok (ops : Array Oper) (k kT : Nat) (t : OTc) : Bool := (Region.ready .any ops (preL ops.size k)).all (fun j => t.alts.contains j) && !(Region.ready .any ops (preL ops.size k)).isEmpty && decide (k < ops.size) && !t.isCut && t.okAll ops (preL ops.size kT) (ops.size - kT) (ops.size - k) (preL ops.size k)

/-- an operation with its mark. -/
def amo (P : Program) (own : List Nat) (ops : List Oper) (b : Bool) (o : Oper) (σ : St) [N : HK (St → Prop)] : Prop := match b with
  | true => @amf P ops o σ N
  | false => @aop P own ops o σ N
theorem w_amot {P : Program} {own : List Nat} {ops : List Oper} {o : Oper} {σ : St} {N : HK (St → Prop)} : @amo P own ops true o σ N = @amf P ops o σ N := propext Iff.rfl
theorem w_amof {P : Program} {own : List Nat} {ops : List Oper} {o : Oper} {σ : St} {N : HK (St → Prop)} : @amo P own ops false o σ N = @aop P own ops o σ N := propext Iff.rfl
/-- ms: the marks of the operations that are lent objects. -/
def ADc (P : Program) (own : List Nat) (ops : List Oper) (ms : List Nat) : OTc → St → [HN] → Prop
  | .cut, σ, N => N.k σ
  | .nil, _, _ => True
  | .alt i t more, σ, N => AOpt (ops[i]?) (K := ⟨fun o => @amo P own ops (ms.contains i) o σ ⟨fun σ' => @ADc P own ops ms t σ' N⟩⟩) ∧ @ADc P own ops ms more σ N
theorem w_dcut {P : Program} {own : List Nat} {ops : List Oper} {ms : List Nat} {σ : St} {N : HN} : @ADc P own ops ms .cut σ N = N.k σ := propext Iff.rfl
theorem w_dnil {P : Program} {own : List Nat} {ops : List Oper} {ms : List Nat} {σ : St} {N : HN} : @ADc P own ops ms .nil σ N = True := propext Iff.rfl
theorem w_dalt {P : Program} {own : List Nat} {ops : List Oper} {ms : List Nat} {σ : St} {N : HN} {i : Nat} {t more : OTc} : @ADc P own ops ms (.alt i t more) σ N = (AOpt (ops[i]?) (K := ⟨fun o => @amo P own ops (ms.contains i) o σ ⟨fun σ' => @ADc P own ops ms t σ' N⟩⟩) ∧ @ADc P own ops ms more σ N) := propext Iff.rfl

section
variable {P : Program} {own : List Nat} {ops : Array Oper} {ms : List Nat}
end
end Aw
end Go.Proofs.YtndniceeibflcaaGreatDoor

namespace Go.Proofs.YtndniceeibflcaaGreatDoor
open Aw Go.RowKit
theorem wB0 : type_of% (And.intro @w_move (And.intro @w_assign (And.intro @w_pick (And.intro @w_box (And.intro @w_alloc (And.intro @w_load (And.intro @w_store (And.intro @w_fieldAddr (And.intro @w_indexAddr (And.intro @w_binOp (And.intro @w_not (@w_neg)))))))))))) := And.intro @w_move (And.intro @w_assign (And.intro @w_pick (And.intro @w_box (And.intro @w_alloc (And.intro @w_load (And.intro @w_store (And.intro @w_fieldAddr (And.intro @w_indexAddr (And.intro @w_binOp (And.intro @w_not (@w_neg)))))))))))
theorem wB1 : type_of% (And.intro @w_build (And.intro @w_buildSlice (And.intro @w_extract (And.intro @w_field (And.intro @w_slice (And.intro @w_makeFunc (And.intro @w_nilCheck (And.intro @w_callF (And.intro @w_callT (And.intro @w_len (And.intro @w_makeMap (@w_lookup)))))))))))) := And.intro @w_build (And.intro @w_buildSlice (And.intro @w_extract (And.intro @w_field (And.intro @w_slice (And.intro @w_makeFunc (And.intro @w_nilCheck (And.intro @w_callF (And.intro @w_callT (And.intro @w_len (And.intro @w_makeMap (@w_lookup)))))))))))
theorem wB2 : type_of% (And.intro @w_mapUpdate (And.intro @w_insert (And.intro @w_put (And.intro @w_makeSlice (And.intro @w_min (And.intro @w_max (And.intro @w_append (And.intro @w_aop (And.intro @w_aopg (And.intro @w_gdb (And.intro @w_gdu (@w_take)))))))))))) := And.intro @w_mapUpdate (And.intro @w_insert (And.intro @w_put (And.intro @w_makeSlice (And.intro @w_min (And.intro @w_max (And.intro @w_append (And.intro @w_aop (And.intro @w_aopg (And.intro @w_gdb (And.intro @w_gdu (@w_take)))))))))))
theorem wB3 : type_of% (And.intro @w_takeg (And.intro @w_some (And.intro @w_asome (And.intro @w_anone (And.intro @w_nil (And.intro @w_cons (And.intro @AGet_zero (And.intro @ACond_true (And.intro @ACond_false (And.intro @List.getD_cons_succ.{0} (And.intro @List.getD_cons_zero.{0} (@List.set_cons_succ.{0})))))))))))) := And.intro @w_takeg (And.intro @w_some (And.intro @w_asome (And.intro @w_anone (And.intro @w_nil (And.intro @w_cons (And.intro @AGet_zero (And.intro @ACond_true (And.intro @ACond_false (And.intro @List.getD_cons_succ.{0} (And.intro @List.getD_cons_zero.{0} (@List.set_cons_succ.{0})))))))))))
theorem wB4 : type_of% (And.intro @List.set_cons_zero.{0} (And.intro @List.getElem?_cons_succ.{0} (And.intro @List.getElem?_cons_zero.{0} (And.intro @List.length_cons.{0} (And.intro @List.head?_cons.{0} (And.intro @List.length_nil.{0} (And.intro @List.replicate_succ.{0} (And.intro @List.replicate_zero.{0} (And.intro @List.cons_append.{0} (And.intro @List.nil_append.{0} (And.intro @List.contains_nil.{0} (@List.contains_cons.{0})))))))))))) := And.intro @List.set_cons_zero.{0} (And.intro @List.getElem?_cons_succ.{0} (And.intro @List.getElem?_cons_zero.{0} (And.intro @List.length_cons.{0} (And.intro @List.head?_cons.{0} (And.intro @List.length_nil.{0} (And.intro @List.replicate_succ.{0} (And.intro @List.replicate_zero.{0} (And.intro @List.cons_append.{0} (And.intro @List.nil_append.{0} (And.intro @List.contains_nil.{0} (@List.contains_cons.{0})))))))))))
theorem wB5 : type_of% (And.intro @List.isEmpty_nil.{0} (And.intro @List.isEmpty_cons.{0} (And.intro @Option.getD_some.{0} (And.intro @Option.getD_none.{0} (And.intro @Bool.false_eq_true (And.intro (And.intro @if_false.{1} @if_false.{0}) (And.intro (And.intro @if_true.{1} @if_true.{0}) (And.intro @true_and (And.intro @and_true (And.intro @List.all_cons.{0} (And.intro @List.all_nil.{0} (@Bool.and_true)))))))))))) := And.intro @List.isEmpty_nil.{0} (And.intro @List.isEmpty_cons.{0} (And.intro @Option.getD_some.{0} (And.intro @Option.getD_none.{0} (And.intro @Bool.false_eq_true (And.intro (And.intro @if_false.{1} @if_false.{0}) (And.intro (And.intro @if_true.{1} @if_true.{0}) (And.intro @true_and (And.intro @and_true (And.intro @List.all_cons.{0} (And.intro @List.all_nil.{0} (@Bool.and_true)))))))))))
theorem wB6 : type_of% (And.intro @Bool.true_and (And.intro @Bool.not_true (And.intro @Bool.not_false (And.intro @Option.isSome_some.{0} (And.intro @Nat.zero_add (And.intro @Nat.add_zero (And.intro @beq_self_eq_true.{0} (And.intro @List.map_cons.{0,0} (And.intro @List.map_nil.{0,0} (And.intro @decide_true (And.intro @nbeq (@decide_false)))))))))))) := And.intro @Bool.true_and (And.intro @Bool.not_true (And.intro @Bool.not_false (And.intro @Option.isSome_some.{0} (And.intro @Nat.zero_add (And.intro @Nat.add_zero (And.intro @beq_self_eq_true.{0} (And.intro @List.map_cons.{0,0} (And.intro @List.map_nil.{0,0} (And.intro @decide_true (And.intro @nbeq (@decide_false)))))))))))
theorem wB7 : type_of% (And.intro @Bool.or_false (And.intro @Bool.or_true (And.intro @Bool.false_or (And.intro @Bool.true_or (And.intro (And.intro @eq_self.{1} @eq_self.{0}) (And.intro @Bool.false_and (And.intro @Bool.and_false (And.intro @decide_eq_true_eq (And.intro @List.getElem?_nil.{0} (And.intro @List.length_append.{0} (And.intro @Int.toNat_zero (@Int.toNat_one)))))))))))) := And.intro @Bool.or_false (And.intro @Bool.or_true (And.intro @Bool.false_or (And.intro @Bool.true_or (And.intro (And.intro @eq_self.{1} @eq_self.{0}) (And.intro @Bool.false_and (And.intro @Bool.and_false (And.intro @decide_eq_true_eq (And.intro @List.getElem?_nil.{0} (And.intro @List.length_append.{0} (And.intro @Int.toNat_zero (@Int.toNat_one)))))))))))
theorem wB8 : type_of% (And.intro @Option.bind_some.{0,0} (And.intro @Option.bind_none.{0,0} (And.intro (And.intro @ne_eq.{1} @ne_eq.{0}) (And.intro @not_false_eq_true (And.intro @Option.map_some.{0,0} (And.intro @Option.map_none.{0,0} (And.intro @w_bt (And.intro @w_bf (And.intro @intsA_len (And.intro @w_index (And.intro @w_makeInterface (@w_convert)))))))))))) := And.intro @Option.bind_some.{0,0} (And.intro @Option.bind_none.{0,0} (And.intro (And.intro @ne_eq.{1} @ne_eq.{0}) (And.intro @not_false_eq_true (And.intro @Option.map_some.{0,0} (And.intro @Option.map_none.{0,0} (And.intro @w_bt (And.intro @w_bf (And.intro @intsA_len (And.intro @w_index (And.intro @w_makeInterface (@w_convert)))))))))))
theorem wB9 : type_of% (And.intro @w_isCc (And.intro @w_isCt (And.intro @ByteArray.toList_mk (And.intro @w_fnil (And.intro @w_fcall (And.intro @w_fcons (And.intro @w_fcons0 (And.intro @w_amf (And.intro @w_amfg (And.intro @ti2 (And.intro @ti3 (@ti4)))))))))))) := And.intro @w_isCc (And.intro @w_isCt (And.intro @ByteArray.toList_mk (And.intro @w_fnil (And.intro @w_fcall (And.intro @w_fcons (And.intro @w_fcons0 (And.intro @w_amf (And.intro @w_amfg (And.intro @ti2 (And.intro @ti3 (@ti4)))))))))))
theorem wB10 : type_of% (And.intro @ti5 (And.intro @ti7 (And.intro @ti9 (And.intro @ti12 (And.intro @ti13 (And.intro @ti15 (And.intro @ti16 (And.intro @ti17 (And.intro @ti18 (And.intro @ti20 (And.intro @ti21 (@ti22)))))))))))) := And.intro @ti5 (And.intro @ti7 (And.intro @ti9 (And.intro @ti12 (And.intro @ti13 (And.intro @ti15 (And.intro @ti16 (And.intro @ti17 (And.intro @ti18 (And.intro @ti20 (And.intro @ti21 (@ti22)))))))))))
theorem wB11 : type_of% (And.intro @ti23 (And.intro @ti24 (And.intro @ti25 (And.intro @ti26 (And.intro @ti27 (And.intro @ti32 (And.intro @ti33 (And.intro @ti46 (And.intro @ti51 (And.intro @ti54 (And.intro @ti55 (@ti70)))))))))))) := And.intro @ti23 (And.intro @ti24 (And.intro @ti25 (And.intro @ti26 (And.intro @ti27 (And.intro @ti32 (And.intro @ti33 (And.intro @ti46 (And.intro @ti51 (And.intro @ti54 (And.intro @ti55 (@ti70)))))))))))
theorem wB12 : type_of% (And.intro @ti72 (And.intro @ti78 (And.intro @ti79 (And.intro @ti80 (And.intro @ti81 (And.intro @ti88 (And.intro @ti97 (And.intro @ti98 (And.intro @ti99 (And.intro @ti100 (And.intro @ti102 (@ti103)))))))))))) := And.intro @ti72 (And.intro @ti78 (And.intro @ti79 (And.intro @ti80 (And.intro @ti81 (And.intro @ti88 (And.intro @ti97 (And.intro @ti98 (And.intro @ti99 (And.intro @ti100 (And.intro @ti102 (@ti103)))))))))))
theorem wB13 : type_of% (And.intro @ti104 (And.intro @ti105 (And.intro @ti106 (And.intro @ti107 (And.intro @ti110 (And.intro @ti111 (And.intro @ti112 (And.intro @ti113 (And.intro @ti114 (And.intro @ti121 (And.intro @ti126 (@ti129)))))))))))) := And.intro @ti104 (And.intro @ti105 (And.intro @ti106 (And.intro @ti107 (And.intro @ti110 (And.intro @ti111 (And.intro @ti112 (And.intro @ti113 (And.intro @ti114 (And.intro @ti121 (And.intro @ti126 (@ti129)))))))))))
theorem wB14 : type_of% (And.intro @ti130 (And.intro @ti137 (And.intro @ti138 (And.intro @ti139 (And.intro @ti142 (And.intro @ti147 (And.intro @ti149 (And.intro @ti151 (And.intro @ti152 (And.intro @ti173 (And.intro @ti175 (@ti177)))))))))))) := And.intro @ti130 (And.intro @ti137 (And.intro @ti138 (And.intro @ti139 (And.intro @ti142 (And.intro @ti147 (And.intro @ti149 (And.intro @ti151 (And.intro @ti152 (And.intro @ti173 (And.intro @ti175 (@ti177)))))))))))
theorem wB15 : type_of% (And.intro @ti183 (And.intro @ti186 (And.intro @ti193 (And.intro @ti199 (And.intro @ti200 (And.intro @ti201 (And.intro @ti208 (And.intro @ti209 (And.intro @ti217 (And.intro @ti222 (And.intro @ti225 (@ti227)))))))))))) := And.intro @ti183 (And.intro @ti186 (And.intro @ti193 (And.intro @ti199 (And.intro @ti200 (And.intro @ti201 (And.intro @ti208 (And.intro @ti209 (And.intro @ti217 (And.intro @ti222 (And.intro @ti225 (@ti227)))))))))))
theorem wB16 : type_of% (And.intro @ti231 (And.intro @ti234 (And.intro @ti236 (And.intro @ti237 (And.intro @ti240 (And.intro @ti246 (And.intro @ti254 (And.intro @ti255 (And.intro @ti259 (And.intro @ti260 (And.intro @ti261 (@ti262)))))))))))) := And.intro @ti231 (And.intro @ti234 (And.intro @ti236 (And.intro @ti237 (And.intro @ti240 (And.intro @ti246 (And.intro @ti254 (And.intro @ti255 (And.intro @ti259 (And.intro @ti260 (And.intro @ti261 (@ti262)))))))))))
theorem wB17 : type_of% (And.intro @ti263 (And.intro @ti266 (And.intro @ti267 (And.intro @ti268 (And.intro @ti269 (And.intro @w_dcut (And.intro @w_dnil (And.intro @w_dalt (And.intro @w_amot (@w_amof)))))))))) := And.intro @ti263 (And.intro @ti266 (And.intro @ti267 (And.intro @ti268 (And.intro @ti269 (And.intro @w_dcut (And.intro @w_dnil (And.intro @w_dalt (And.intro @w_amot (@w_amof)))))))))
theorem wB : type_of% (And.intro @wB0 (And.intro @wB1 (And.intro @wB2 (And.intro @wB3 (And.intro @wB4 (And.intro @wB5 (And.intro @wB6 (And.intro @wB7 (And.intro @wB8 (And.intro @wB9 (And.intro @wB10 (And.intro @wB11 (And.intro @wB12 (And.intro @wB13 (And.intro @wB14 (And.intro @wB15 (And.intro @wB16 (@wB17)))))))))))))))))) := And.intro @wB0 (And.intro @wB1 (And.intro @wB2 (And.intro @wB3 (And.intro @wB4 (And.intro @wB5 (And.intro @wB6 (And.intro @wB7 (And.intro @wB8 (And.intro @wB9 (And.intro @wB10 (And.intro @wB11 (And.intro @wB12 (And.intro @wB13 (And.intro @wB14 (And.intro @wB15 (And.intro @wB16 (@wB17)))))))))))))))))
end Go.Proofs.YtndniceeibflcaaGreatDoor

namespace Go.Proofs.YtndniceeibflcaaGreatDoor
open Aw Mp Go.RowKit
set_option linter.unusedSimpArgs false

def idxL {α : Type} [DecidableEq α] (l : List α) (x : α) : Int := match l.findIdx? (fun y => decide (x = y)) with | some i => (i : Int) | none => -1
theorem idxL_some {α : Type} [DecidableEq α] {l : List α} {x : α} {k : Nat} (h : k < l.length) (hno : ∀ j (h : j < l.length), j < k → x ≠ l[j]) (hx : x = l[k]) : idxL l x = k := by
  have : l.findIdx? (fun y => decide (x = y)) = some k := by
    rw [List.findIdx?_eq_some_iff_getElem]
    exact ⟨h, by simpa using hx, fun j hj => by simpa using hno j (by omega) hj⟩
  simp [idxL, this]
theorem idxL_none {α : Type} [DecidableEq α] {l : List α} {x : α} (hno : ∀ j (h : j < l.length), x ≠ l[j]) : idxL l x = -1 := by
  have : l.findIdx? (fun y => decide (x = y)) = none := by
    rw [List.findIdx?_eq_none_iff]
    intro y hy
    obtain ⟨j, hj, rfl⟩ := List.mem_iff_getElem.1 hy
    simpa using hno j hj
  simp [idxL, this]
def memL {α : Type} [DecidableEq α] (l : List α) (x : α) : Bool := decide (x ∈ l)
theorem memL_eq {α : Type} [DecidableEq α] (l : List α) (x : α) : memL l x = true ↔ x ∈ l := by simp [memL]
theorem idxL_mem {α : Type} [DecidableEq α] (l : List α) (x : α) : decide (0 ≤ idxL l x) = memL l x := by
  unfold idxL memL
  cases h : l.findIdx? (fun y => decide (x = y)) with
  | none =>
    rw [List.findIdx?_eq_none_iff] at h
    have : x ∉ l := fun hx => by simpa using h x hx
    simp [this]
  | some i =>
    rw [List.findIdx?_eq_some_iff_getElem] at h
    obtain ⟨hi, hx, _⟩ := h
    have : x ∈ l := by rw [of_decide_eq_true hx]; exact List.getElem_mem hi
    simp [this]

theorem ok143 : okFn Tryz.prog 143 = true := by kernel_rfl
theorem s143 (l : List Int) (x : Int) (hl : l.length ≤ 1000000) : ASpec Tryz.prog 143 [.s 1 (intsA l), I x] (fun r Ms => r = I (idxL l x) ∧ Ms = []) := by
  refine aspec_of (own := []) Tryz.func143 rfl ok143 ?_
  simp only [wB, awp, asN, lenA, St.ev, St.step, setS, killS, AV.kill, AV.killL, Mem.kill, Nat.reduceAdd, Nat.reduceSub, Int.reduceAdd, Int.reduceSub, lenK, Tryz.ntmps143]
  refine swp_loop' (fun k : Nat => ⟨[.s 1 (intsA l), I x, .bot, .bot, .bot, .bot, .s 1 (intsA l), I (intsA l).length, I k, .bot, .bot, .bot, .bot, .bot, .bot, .bot, .bot, .bot, .bot], []⟩) (fun k => k ≤ l.length ∧ ∀ j (h : j < l.length), j < k → x ≠ l[j]) (fun k => l.length - k) 0 (le_sl (by simp [leSl, intsA_len, prsA_len])) ⟨Nat.zero_le _, by omega⟩ ?_
  rintro k ⟨hk, hno⟩
  refine awp_sound (own := []) _ _ _ _ _ ?_
  simp only [wB, awp, binC, cmpC, asB, asI, St.ev, St.step, setS, killS, AV.kill, AV.killL, Mem.kill, Nat.reduceAdd, Int.reduceAdd]
  by_cases h : k < l.length
  · have h' : (k : Int) < (l.length : Int) := by omega
    simp only [wB, awp, binC, idxC, cmpC, asP, asS, asB, asI, asN, loadA, St.ev, St.step, setS, killS, AV.kill, AV.killL, Mem.kill, AV.cells, AV.flat, AV.single, Nat.reduceAdd, Int.reduceAdd, decide_eq_true h', aget_ints h, Int.toNat_natCast]
    refine ⟨by omega, ?_⟩
    by_cases hx : x = l[k]
    · simp only [wB, awp, asN, St.ev, St.step, setS, killS, AV.kill, AV.killL, Mem.kill, Nat.reduceAdd, Int.reduceAdd, decide_eq_true hx]
      exact aend_frz rfl ⟨by rw [idxL_some h hno hx]; rfl, rfl⟩
    · simp only [wB, awp, binC, arithC, cmpC, asI, St.ev, St.step, setS, killS, AV.kill, AV.killL, Mem.kill, Nat.reduceAdd, Int.reduceAdd, isU, decide_eq_false hx]
      refine ⟨by unfold lim; omega, k + 1, le_sl (by simp [leSl, intsA_len, prsA_len]), ⟨h, fun j hj hlt => ?_⟩, by omega⟩
      rcases Nat.lt_or_ge j k with h1 | h1
      · exact hno j hj h1
      · obtain rfl : j = k := by omega
        exact hx
  · have h' : ¬ (k : Int) < (l.length : Int) := by omega
    simp only [wB, awp, asN, St.ev, St.step, setS, killS, AV.kill, AV.killL, Mem.kill, Nat.reduceAdd, Int.reduceAdd, Int.reduceNeg, decide_eq_false h']
    exact aend_frz rfl ⟨by rw [idxL_none fun j hj => hno j hj (by omega)]; rfl, rfl⟩

theorem ok102 : okFn Tryz.prog 102 = true := by kernel_rfl
theorem s102 (l : List Int) (x : Int) (hl : l.length ≤ 1000000) : ASpec Tryz.prog 102 [.s 1 (intsA l), I x] (fun r Ms => r = B (memL l x) ∧ Ms = []) := by
  refine aspec_of (own := []) Tryz.func102 rfl ok102 ?_
  simp only [wB, awp, asN, St.ev, St.step, setS, killS, AV.kill, AV.killL, Mem.kill, Nat.reduceAdd, Nat.reduceSub, Int.reduceAdd, Int.reduceSub, Tryz.ntmps102]
  refine acall_v (s143 l x hl) rfl rfl ?_
  simp only [wB, awp, binC, cmpC, asI, asN, St.ev, St.step, setS, killS, AV.kill, AV.killL, Mem.kill, idxL_mem]
  exact aend_frz rfl ⟨rfl, rfl⟩

theorem ok127 : okFn Tryz.prog 127 = true := by kernel_rfl
theorem s127 (l : List (Int × Int)) (x y : Int) (hl : l.length ≤ 1000000) : ASpec Tryz.prog 127 [.s 2 (prsA l), .g [I x, I y]] (fun r Ms => r = I (idxL l (x, y)) ∧ Ms = []) := by
  refine aspec_of (own := []) Tryz.func127 rfl ok127 ?_
  simp only [wB, awp, asN, lenA, St.ev, St.step, setS, killS, AV.kill, AV.killL, Mem.kill, AV.cellular, AV.pure, AV.pureL, Nat.reduceAdd, Nat.reduceSub, Int.reduceAdd, Int.reduceSub, lenK, Tryz.ntmps127]
  refine swp_loop' (fun k : Nat => ⟨[.s 2 (prsA l), .bot, .bot, .p (.g [I x, I y]) 0, .bot, .bot, .s 2 (prsA l), I (prsA l).length, I k, .bot, .bot, .bot, .bot, .bot, .bot, .bot, .bot, .bot, .bot], []⟩) (fun k => k ≤ l.length ∧ ∀ j (h : j < l.length), j < k → (x, y) ≠ l[j]) (fun k => l.length - k) 0 (le_sl (by simp [leSl, intsA_len, prsA_len])) ⟨Nat.zero_le _, by omega⟩ ?_
  rintro k ⟨hk, hno⟩
  refine awp_sound (own := []) _ _ _ _ _ ?_
  simp only [wB, awp, binC, cmpC, asB, asI, St.ev, St.step, setS, killS, AV.kill, AV.killL, Mem.kill, Nat.reduceAdd, Int.reduceAdd, prsA_len]
  by_cases h : k < l.length
  · have h' : (k : Int) < (l.length : Int) := by omega
    simp only [wB, awp, asN, St.ev, St.step, setS, killS, AV.kill, AV.killL, Mem.kill, Nat.reduceAdd, Int.reduceAdd, decide_eq_true h']
    refine swp_draw (own := []) (.take 0 .reads [] (.take 1 .plain [] (.take 2 .plain [] (.take 3 .reads [] (.take 4 .reads [] (.take 5 .plain [] (.done))))))) [⟨12, 8, 0, 0, true⟩, ⟨13, 1, 0, 0, true⟩, ⟨14, 32, 0, 0, true⟩, ⟨15, 12288, 6, 0, true⟩, ⟨16, 16384, 8, 0, true⟩, ⟨17, 34816, 17, 0, true⟩] mo (by kernel_rfl) ?_
    simp only [wB, awp, binC, idxC, eqC, asP, asS, asG, asB, asI, loadA, St.ev, setS, AV.cells, AV.flat, AV.single, ints, Nat.reduceAdd, Nat.reduceLeDiff, Int.reduceAdd, ASch, St.put, Md.mem, Md.need, aget_prs h, Int.toNat_natCast]
    refine ⟨by omega, ?_⟩
    by_cases hx : (x, y) = l[k]
    · have hx' : [x, y] = [l[k].1, l[k].2] := by rw [← hx]
      simp only [wB, awp, asN, St.ev, St.step, setS, killS, AV.kill, AV.killL, Mem.kill, Nat.reduceAdd, Int.reduceAdd, St.put, decide_eq_true hx']
      exact aend_frz rfl ⟨by rw [idxL_some h hno hx]; rfl, rfl⟩
    · have hx' : ¬ [x, y] = [l[k].1, l[k].2] := fun e => hx (by simp at e; exact Prod.ext e.1 e.2)
      simp only [wB, awp, binC, arithC, cmpC, asI, St.ev, St.step, setS, killS, AV.kill, AV.killL, Mem.kill, Nat.reduceAdd, Int.reduceAdd, St.put, isU, decide_eq_false hx']
      refine ⟨by unfold lim; omega, k + 1, le_sl (by simp [leSl, intsA_len, prsA_len]), ⟨h, fun j hj hlt => ?_⟩, by omega⟩
      rcases Nat.lt_or_ge j k with h1 | h1
      · exact hno j hj h1
      · obtain rfl : j = k := by omega
        exact hx
  · have h' : ¬ (k : Int) < (l.length : Int) := by omega
    simp only [wB, awp, asN, St.ev, St.step, setS, killS, AV.kill, AV.killL, Mem.kill, Nat.reduceAdd, Int.reduceAdd, Int.reduceNeg, decide_eq_false h']
    exact aend_frz rfl ⟨by rw [idxL_none fun j hj => hno j hj (by omega)]; rfl, rfl⟩

theorem ok92 : okFn Tryz.prog 92 = true := by kernel_rfl
theorem s92 (l : List (Int × Int)) (x y : Int) (hl : l.length ≤ 1000000) : ASpec Tryz.prog 92 [.s 2 (prsA l), .g [I x, I y]] (fun r Ms => r = B (memL l (x, y)) ∧ Ms = []) := by
  refine aspec_of (own := []) Tryz.func92 rfl ok92 ?_
  simp only [wB, awp, asP, asN, loadA, St.ev, St.step, setS, killS, AV.kill, AV.killL, Mem.kill, AV.cells, AV.flat, AV.single, AV.cellular, AV.pure, AV.pureL, Nat.reduceAdd, Nat.reduceSub, Nat.reduceLeDiff, Int.reduceAdd, Int.reduceSub, Tryz.ntmps92]
  refine acall_v (s127 l x y hl) rfl rfl ?_
  simp only [wB, awp, binC, cmpC, asI, asN, St.ev, St.step, setS, killS, AV.kill, AV.killL, Mem.kill, idxL_mem]
  exact aend_frz rfl ⟨rfl, rfl⟩

def trapA (n : Int) (ls : List (Int × Int)) : AV := .g [I n, .s 2 (prsA ls)]
/-- a link between two zones. -/
def lnk (ls : List (Int × Int)) (a b : Int) : Bool := memL ls (min a b, max a b)
theorem ok184 : okFn Tryz.prog 184 = true := by kernel_rfl
theorem s184 (n : Int) (ls : List (Int × Int)) (a b : Int) (hl : ls.length ≤ 1000000) : ASpec Tryz.prog 184 [trapA n ls, I a, I b] (fun r Ms => r = B (lnk ls a b) ∧ Ms = []) := by
  refine aspec_of (own := []) Tryz.func184 rfl ok184 ?_
  simp only [wB, awp, asP, asN, minmaxA, loadA, fillA, putsA, St.ev, St.step, setS, killS, AV.kill, AV.killL, Mem.kill, AV.cells, AV.flat, AV.single, AV.cellular, AV.pure, AV.pureL, Value.oneCell', Nat.reduceAdd, Nat.reduceEqDiff, Nat.reduceSub, Nat.reduceLeDiff, Int.reduceAdd, Int.reduceSub, Tryz.ntmps184, trapA]
  refine acall_v (s92 ls (min a b) (max a b) hl) rfl rfl ?_
  simp only [wB, awp, asN, St.ev, St.step, setS, killS, AV.kill, AV.killL, Mem.kill]
  exact aend_frz rfl ⟨rfl, rfl⟩

theorem ok117 : okFn Tryz.prog 117 = true := by kernel_rfl
theorem s117 (n : Int) (ls : List (Int × Int)) (z : Int) : ASpec Tryz.prog 117 [trapA n ls, I z] (fun r Ms => r = B (decide (0 ≤ z ∧ z < n)) ∧ Ms = []) := by
  refine aspec_of (own := []) Tryz.func117 rfl ok117 ?_
  simp only [wB, awp, binC, cmpC, asI, asN, St.ev, St.step, setS, killS, AV.kill, AV.killL, Mem.kill, AV.cellular, AV.pure, AV.pureL, Nat.reduceAdd, Nat.reduceSub, Int.reduceAdd, Int.reduceSub, Tryz.ntmps117, trapA]
  by_cases h : 0 ≤ z
  · simp only [wB, awp, binC, cmpC, asP, asB, asI, asN, loadA, St.ev, St.step, setS, killS, AV.kill, AV.killL, Mem.kill, AV.cells, AV.flat, AV.single, Nat.reduceAdd, Nat.reduceEqDiff, Nat.reduceLeDiff, Int.reduceAdd, decide_eq_true h]
    exact aend_frz rfl ⟨by simp [h]; rfl, rfl⟩
  · simp only [wB, awp, asB, asN, St.ev, St.step, setS, killS, AV.kill, AV.killL, Mem.kill, decide_eq_false h]
    exact aend_frz rfl ⟨by simp [h]; rfl, rfl⟩

/-- what is in a list, told by the places. -/
theorem memL_true {α : Type} [DecidableEq α] {l : List α} {x : α} {k : Nat} (h : k < l.length) (hx : l[k] = x) : memL l x = true := by rw [memL_eq, ← hx]; exact List.getElem_mem h
theorem memL_false {α : Type} [DecidableEq α] {l : List α} {x : α} (h : ∀ j (hj : j < l.length), l[j] ≠ x) : memL l x = false := by
  rw [Bool.eq_false_iff, ne_eq, memL_eq]
  intro hx
  obtain ⟨j, hj, e⟩ := List.mem_iff_getElem.1 hx
  exact h j hj e
theorem upto {p : Nat → Prop} {k : Nat} (h : ∀ j, j < k → p j) (hk : p k) : ∀ j, j < k + 1 → p j := fun j hj => by
  rcases Nat.lt_or_ge j k with h1 | h1
  · exact h j h1
  · obtain rfl : j = k := by omega
    exact hk

theorem ok52 : okFn Tryz.prog 52 = true := by kernel_rfl
theorem s52 (a b : List Int) (ha : a.length ≤ 1000000) (hb : b.length ≤ 1000000) : ASpec Tryz.prog 52 [.s 1 (intsA a), .s 1 (intsA b)] (fun r Ms => r = B (decide (a = b)) ∧ Ms = []) := by
  refine aspec_of (own := []) Tryz.func52 rfl ok52 ?_
  simp only [wB, awp, binC, cmpC, asB, asI, asN, lenA, St.ev, St.step, setS, killS, AV.kill, AV.killL, Mem.kill, Nat.reduceAdd, Nat.reduceSub, Int.reduceAdd, Int.reduceSub, lenK, Tryz.ntmps52]
  by_cases hl : (a.length : Int) = b.length
  · simp only [wB, awp, asN, St.ev, St.step, setS, killS, AV.kill, AV.killL, Mem.kill, Nat.reduceAdd, Int.reduceAdd, decide_eq_true hl]
    refine swp_loop' (fun k : Nat => ⟨[.s 1 (intsA a), .s 1 (intsA b), .bot, .bot, .bot, I k, .bot, .bot, .bot, .bot, .bot, .bot, .bot, .bot, .bot, .bot, .bot, .bot, .bot, .bot, .bot, .bot, .bot, .bot, .bot, .bot], []⟩) (fun k => k ≤ a.length ∧ ∀ j (h : j < a.length) (h' : j < b.length), j < k → a[j] = b[j]) (fun k => a.length - k) 0 (le_sl (by simp [leSl, intsA_len, prsA_len])) ⟨Nat.zero_le _, by omega⟩ ?_
    rintro k ⟨hk, hno⟩
    refine awp_sound (own := []) _ _ _ _ _ ?_
    simp only [wB, awp, binC, cmpC, asB, asI, lenA, St.ev, St.step, setS, killS, AV.kill, AV.killL, Mem.kill, Nat.reduceAdd, Int.reduceAdd, lenK]
    by_cases h : k < a.length
    · have h' : (k : Int) < (a.length : Int) := by omega
      have h2 : k < b.length := by omega
      simp only [awp, ACond_true, decide_eq_true h']
      refine swp_draw (own := []) (.take 0 .plain [] (.take 1 .plain [] (.take 2 .reads [] (.take 3 .reads [] (.take 4 .plain [] (.take 5 .plain [] (.take 6 .reads [] (.take 7 .reads [] (.take 8 .plain [] (.done)))))))))) [⟨18, 1, 0, 0, true⟩, ⟨19, 32, 0, 0, true⟩, ⟨20, 393216, 3, 0, true⟩, ⟨21, 524288, 4, 0, true⟩, ⟨22, 2, 0, 0, true⟩, ⟨23, 32, 0, 0, true⟩, ⟨24, 6291456, 48, 0, true⟩, ⟨25, 8388608, 64, 0, true⟩, ⟨26, 17825792, 136, 0, true⟩] mo (by kernel_rfl) ?_
      simp only [wB, awp, binC, idxC, cmpC, asP, asS, asB, asI, loadA, St.ev, setS, AV.cells, AV.flat, AV.single, ASch, St.put, Md.mem, Md.need, aget_ints h, aget_ints h2, Int.toNat_natCast]
      refine ⟨by omega, by omega, ?_⟩
      by_cases hx : a[k] = b[k]
      · simp only [wB, awp, binC, arithC, cmpC, asI, asN, St.ev, St.step, setS, killS, AV.kill, AV.killL, Mem.kill, Nat.reduceAdd, Int.reduceAdd, St.put, isU, decide_eq_true hx]
        refine ⟨by unfold lim; omega, k + 1, le_sl (by simp [leSl, intsA_len, prsA_len]), ⟨h, fun j hj hj' hlt => ?_⟩, by omega⟩
        rcases Nat.lt_or_ge j k with h1 | h1
        · exact hno j hj hj' h1
        · obtain rfl : j = k := by omega
          exact hx
      · simp only [wB, awp, asN, St.ev, St.step, setS, killS, AV.kill, AV.killL, Mem.kill, Nat.reduceAdd, Int.reduceAdd, St.put, decide_eq_false hx]
        refine aend_frz rfl ⟨?_, rfl⟩
        rw [decide_eq_false (fun e => hx (by subst e; rfl))]
        rfl
    · have h' : ¬ (k : Int) < (a.length : Int) := by omega
      simp only [wB, awp, asN, St.ev, St.step, setS, killS, AV.kill, AV.killL, Mem.kill, Nat.reduceAdd, Int.reduceAdd, decide_eq_false h']
      refine aend_frz rfl ⟨?_, rfl⟩
      rw [decide_eq_true (List.ext_getElem (by omega) fun j h1 h2 => hno j h1 h2 (by omega))]
      rfl
  · simp only [wB, awp, asN, St.ev, St.step, setS, killS, AV.kill, AV.killL, Mem.kill, Nat.reduceAdd, Int.reduceAdd, decide_eq_false hl]
    refine aend_frz rfl ⟨?_, rfl⟩
    rw [decide_eq_false (fun e => hl (by rw [e]))]
    rfl

theorem ok50 : okFn Tryz.prog 50 = true := by kernel_rfl
theorem s50 (l : List Int) (x : Int) (hl : l.length ≤ 1000000) : ASpec Tryz.prog 50 [.s 1 (intsA l), I x] (fun r Ms => r = B (memL l x) ∧ Ms = []) := by
  refine aspec_of (own := []) Tryz.func50 rfl ok50 ?_
  simp only [wB, awp, asN, St.ev, St.step, setS, killS, AV.kill, AV.killL, Mem.kill, Nat.reduceAdd, Nat.reduceSub, Int.reduceAdd, Int.reduceSub, Tryz.ntmps50]
  refine swp_loop' (fun k : Nat => ⟨[.s 1 (intsA l), I x, .bot, .bot, .bot, I k, .bot, .bot, .bot, .bot, .bot, .bot, .bot, .bot, .bot, .bot, .bot, .bot], []⟩) (fun k => k ≤ l.length ∧ ∀ j, j < k → ∀ h : j < l.length, l[j] ≠ x) (fun k => l.length - k) 0 (le_sl (by simp [leSl, intsA_len, prsA_len])) ⟨Nat.zero_le _, by omega⟩ ?_
  rintro k ⟨hk, hno⟩
  refine awp_sound (own := []) _ _ _ _ _ ?_
  simp only [wB, awp, binC, cmpC, asB, asI, lenA, St.ev, St.step, setS, killS, AV.kill, AV.killL, Mem.kill, Nat.reduceAdd, Int.reduceAdd, lenK]
  by_cases h : k < l.length
  · have h' : (k : Int) < (l.length : Int) := by omega
    simp only [wB, awp, binC, idxC, cmpC, asP, asS, asB, asI, loadA, St.ev, St.step, setS, killS, AV.kill, AV.killL, Mem.kill, AV.cells, AV.flat, AV.single, Nat.reduceAdd, Int.reduceAdd, decide_eq_true h', aget_ints h, Int.toNat_natCast]
    refine ⟨by omega, ?_⟩
    by_cases hx : l[k] = x
    · simp only [wB, awp, asN, St.ev, St.step, setS, killS, AV.kill, AV.killL, Mem.kill, Nat.reduceAdd, Int.reduceAdd, decide_eq_true hx]
      exact aend_frz rfl ⟨by rw [memL_true h hx]; rfl, rfl⟩
    · simp only [wB, awp, binC, arithC, cmpC, asI, asN, St.ev, St.step, setS, killS, AV.kill, AV.killL, Mem.kill, Nat.reduceAdd, Int.reduceAdd, isU, decide_eq_false hx]
      exact ⟨by unfold lim; omega, k + 1, le_sl (by simp [leSl, intsA_len, prsA_len]), ⟨h, upto hno fun _ => hx⟩, by omega⟩
  · have h' : ¬ (k : Int) < (l.length : Int) := by omega
    simp only [wB, awp, asN, St.ev, St.step, setS, killS, AV.kill, AV.killL, Mem.kill, Nat.reduceAdd, Int.reduceAdd, decide_eq_false h']
    exact aend_frz rfl ⟨by rw [memL_false fun j hj => hno j (by omega) hj]; rfl, rfl⟩

theorem ok149 : okFn Tryz.prog 149 = true := by kernel_rfl
theorem s149 (n : Int) (ls : List (Int × Int)) (a b : Int) (hl : ls.length ≤ 1000000) : ASpec Tryz.prog 149 [trapA n ls, I a, I b] (fun r Ms => r = B (lnk ls a b) ∧ Ms = []) := by
  refine aspec_of (own := []) Tryz.func149 rfl ok149 ?_
  simp only [wB, awp, asN, St.ev, St.step, setS, killS, AV.kill, AV.killL, Mem.kill, AV.cellular, AV.pure, AV.pureL, Nat.reduceAdd, Nat.reduceSub, Int.reduceAdd, Int.reduceSub, Tryz.ntmps149, trapA]
  refine swp_loop' (fun k : Nat => ⟨[.bot, I a, I b, .p (.g [I n, .s 2 (prsA ls)]) 0, .bot, .bot, .bot, I k, .bot, .bot, .bot, .bot, .bot, .bot, .bot, .bot, .bot, .bot, .bot, .bot, .bot, .bot, .bot, .bot, .bot, .bot, .bot, .bot, .bot, .bot, .bot, .bot, .bot, .bot, .bot, .bot, .bot], []⟩) (fun k => k ≤ ls.length ∧ ∀ j, j < k → ∀ h : j < ls.length, ls[j] ≠ (min a b, max a b)) (fun k => ls.length - k) 0 (le_sl (by simp [leSl, intsA_len, prsA_len])) ⟨Nat.zero_le _, by omega⟩ ?_
  rintro k ⟨hk, hno⟩
  refine awp_sound (own := []) _ _ _ _ _ ?_
  simp only [wB, awp, binC, cmpC, asP, asB, asI, lenA, loadA, St.ev, St.step, setS, killS, AV.kill, AV.killL, Mem.kill, AV.cells, AV.flat, AV.single, Nat.reduceAdd, Nat.reduceEqDiff, Nat.reduceLeDiff, Int.reduceAdd, lenK, prsA_len]
  by_cases h : k < ls.length
  · have h' : (k : Int) < (ls.length : Int) := by omega
    simp only [wB, awp, binC, idxC, cmpC, asP, asS, asI, minmaxA, loadA, St.ev, St.step, setS, killS, AV.kill, AV.killL, Mem.kill, AV.cells, AV.flat, AV.single, Nat.reduceAdd, Nat.reduceEqDiff, Nat.reduceLeDiff, Int.reduceAdd, decide_eq_true h', aget_prs h, Int.toNat_natCast]
    refine ⟨by omega, ?_⟩
    by_cases h1 : ls[k].1 = min a b
    · simp only [wB, awp, binC, idxC, cmpC, asP, asS, asB, asI, minmaxA, loadA, St.ev, St.step, setS, killS, AV.kill, AV.killL, Mem.kill, AV.cells, AV.flat, AV.single, Nat.reduceAdd, Nat.reduceEqDiff, Nat.reduceLeDiff, Int.reduceAdd, decide_eq_true h1, aget_prs h, Int.toNat_natCast]
      refine ⟨by omega, ?_⟩
      by_cases h2 : ls[k].2 = max a b
      · simp only [wB, awp, asN, St.ev, St.step, setS, killS, AV.kill, AV.killL, Mem.kill, Nat.reduceAdd, Int.reduceAdd, decide_eq_true h2]
        exact aend_frz rfl ⟨by rw [lnk, memL_true h (Prod.ext h1 h2)]; rfl, rfl⟩
      · simp only [wB, awp, binC, arithC, cmpC, asI, asN, St.ev, St.step, setS, killS, AV.kill, AV.killL, Mem.kill, Nat.reduceAdd, Int.reduceAdd, isU, decide_eq_false h2]
        exact ⟨by unfold lim; omega, k + 1, le_sl (by simp [leSl, intsA_len, prsA_len]), ⟨h, upto hno fun _ e => h2 (by rw [e])⟩, by omega⟩
    · simp only [wB, awp, binC, arithC, cmpC, asB, asI, asN, St.ev, St.step, setS, killS, AV.kill, AV.killL, Mem.kill, Nat.reduceAdd, Int.reduceAdd, isU, decide_eq_false h1]
      exact ⟨by unfold lim; omega, k + 1, le_sl (by simp [leSl, intsA_len, prsA_len]), ⟨h, upto hno fun _ e => h1 (by rw [e])⟩, by omega⟩
  · have h' : ¬ (k : Int) < (ls.length : Int) := by omega
    simp only [wB, awp, asN, St.ev, St.step, setS, killS, AV.kill, AV.killL, Mem.kill, Nat.reduceAdd, Int.reduceAdd, decide_eq_false h']
    exact aend_frz rfl ⟨by rw [lnk, memL_false fun j hj => hno j (by omega) hj]; rfl, rfl⟩

def okLn (n : Int) (l : Int × Int) : Prop := 0 ≤ l.1 ∧ l.2 < n ∧ l.1 < l.2
instance (n : Int) (l : Int × Int) : Decidable (okLn n l) := by unfold okLn; infer_instance
/-- the first error of a trap. -/
def vT (n : Int) (ls : List (Int × Int)) : Int := if n < 1 ∨ 6 < n then 1 else if ∀ l ∈ ls, okLn n l then (if ls.Nodup then 0 else 6) else 1

theorem prsA_take (l : List (Int × Int)) (k : Nat) : (prsA l).take k = prsA (l.take k) := by simp [prsA]
theorem intsA_take (l : List Int) (k : Nat) : (intsA l).take k = intsA (l.take k) := by simp [intsA]
theorem le_all {sl sl' : List AV} {M : Mem} (h : leSl sl sl') (hf : AV.freeL ((List.range M.length).map (· + 0)) sl' = true) : Le ⟨sl, M⟩ ⟨sl', []⟩ := le_of (M' := []) (Mx := M) h rfl hf (by simp)

theorem not_nodup {α : Type} {l : List α} {k : Nat} (h : k < l.length) (hm : l[k] ∈ l.take k) : ¬ l.Nodup := by
  intro hn
  obtain ⟨j, hj, e⟩ := List.mem_iff_getElem.1 hm
  rw [List.getElem_take] at e
  have hj' : j < k := by simp at hj; omega
  rw [List.Nodup, List.pairwise_iff_getElem] at hn
  exact hn j k (by omega) h hj' e
theorem nodup_of {α : Type} {l : List α} (h : ∀ k (hk : k < l.length), l[k] ∉ l.take k) : l.Nodup := by
  rw [List.Nodup, List.pairwise_iff_getElem]
  intro i j hi hj hij e
  exact h j hj (by rw [← e]; exact List.mem_take_iff_getElem.2 ⟨i, by omega, rfl⟩)

theorem ok65 : okFn Tryz.prog 65 = true := by kernel_rfl
theorem s65 (n : Int) (ls : List (Int × Int)) (hl : ls.length ≤ 1000000) : ASpec Tryz.prog 65 [trapA n ls] (fun r Ms => r = I (vT n ls) ∧ Ms = []) := by
  refine aspec_of (own := []) Tryz.func65 rfl ok65 ?_
  simp only [wB, awp, binC, cmpC, asP, asI, asN, loadA, St.ev, St.step, setS, killS, AV.kill, AV.killL, Mem.kill, AV.cells, AV.flat, AV.single, AV.cellular, AV.pure, AV.pureL, Nat.reduceAdd, Nat.reduceEqDiff, Nat.reduceSub, Nat.reduceLeDiff, Int.reduceAdd, Int.reduceSub, Tryz.ntmps65, trapA]
  by_cases h1 : n < 1
  · simp only [wB, awp, asB, asN, St.ev, St.step, setS, killS, AV.kill, AV.killL, Mem.kill, Nat.reduceAdd, Int.reduceAdd, decide_eq_true h1]
    exact aend_frz rfl ⟨by rw [vT, if_pos (.inl h1)]; rfl, rfl⟩
  simp only [wB, awp, binC, cmpC, asP, asB, asI, loadA, St.ev, St.step, setS, killS, AV.kill, AV.killL, Mem.kill, AV.cells, AV.flat, AV.single, Nat.reduceAdd, Nat.reduceEqDiff, Nat.reduceLeDiff, Int.reduceAdd, decide_eq_false h1]
  by_cases h2 : 6 < n
  · simp only [wB, awp, asN, St.ev, St.step, setS, killS, AV.kill, AV.killL, Mem.kill, Nat.reduceAdd, Int.reduceAdd, decide_eq_true h2]
    exact aend_frz rfl ⟨by rw [vT, if_pos (.inr h2)]; rfl, rfl⟩
  simp only [wB, awp, asP, lenA, loadA, St.ev, St.step, setS, killS, AV.kill, AV.killL, Mem.kill, AV.cells, AV.flat, AV.single, Nat.reduceAdd, Nat.reduceEqDiff, Nat.reduceLeDiff, Int.reduceAdd, lenK, decide_eq_false h2]
  refine swp_loop' (fun k : Nat => ⟨[.bot, .p (.g [I n, .s 2 (prsA ls)]) 0, .bot, .bot, .bot, .bot, .bot, .bot, .bot, .bot, .bot, .bot, .bot, .bot, .bot, .bot, .s 2 (prsA ls), I ls.length, I k, .bot, .bot, .bot, .bot, .bot, .bot, .bot, .bot, .bot, .bot, .bot, .bot, .bot, .bot, .bot, .bot, .bot, .bot, .bot, .bot, .bot, .bot, .bot, .bot, .bot, .bot, .bot, .bot, .bot, .bot, .bot, .bot, .bot, .bot, .bot, .bot], []⟩) (fun k => k ≤ ls.length ∧ ∀ j, j < k → ∀ h : j < ls.length, okLn n ls[j]) (fun k => ls.length - k) 0 (le_sl (by simp [leSl, prsA_len])) ⟨Nat.zero_le _, by omega⟩ ?_
  rintro k ⟨hk, hno⟩
  refine awp_sound (own := []) _ _ _ _ _ ?_
  simp only [wB, awp, binC, cmpC, asB, asI, St.ev, St.step, setS, killS, AV.kill, AV.killL, Mem.kill, Nat.reduceAdd, Int.reduceAdd]
  by_cases h : k < ls.length
  · have h' : (k : Int) < (ls.length : Int) := by omega
    simp only [wB, awp, binC, idxC, cmpC, asP, asQ, asS, asI, obA, loadA, storeA, putsA, mkA, Aw.newRow, St.ev, St.step, setS, killS, AV.kill, AV.killL, Mem.kill, AV.cells, AV.flat, AV.single, AV.cellular, Nat.reduceAdd, Nat.reduceEqDiff, Nat.reduceLeDiff, Int.reduceAdd, decide_eq_true h', aget_prs h, Int.toNat_natCast]
    have bad : ¬ okLn n ls[k] → ¬ ∀ l ∈ ls, okLn n l := fun hb ha => hb (ha _ (List.getElem_mem h))
    have ret : ¬ okLn n ls[k] → vT n ls = 1 := fun hb => by rw [vT, if_neg (by omega), if_neg (bad hb)]
    refine ⟨by omega, ?_⟩
    by_cases c1 : ls[k].1 < 0
    · simp only [wB, awp, asB, asN, St.ev, St.step, setS, killS, AV.kill, AV.killL, Mem.kill, Nat.reduceAdd, Int.reduceAdd, decide_eq_true c1]
      exact aend_frz rfl ⟨by rw [ret (fun hb => by have := hb.1; omega)]; rfl, rfl⟩
    simp only [wB, binC, cmpC, asP, asQ, asB, asI, obA, loadA, St.ev, St.step, setS, killS, AV.kill, AV.killL, Mem.kill, AV.cells, AV.flat, AV.single, Nat.reduceAdd, Nat.reduceEqDiff, Nat.reduceLeDiff, Int.reduceAdd, decide_eq_false c1]
    by_cases c2 : n ≤ ls[k].2
    · simp only [wB, awp, asB, asN, St.ev, St.step, setS, killS, AV.kill, AV.killL, Mem.kill, Nat.reduceAdd, Int.reduceAdd, decide_eq_true c2]
      exact aend_frz rfl ⟨by rw [ret (fun hb => by have := hb.2.1; omega)]; rfl, rfl⟩
    simp only [wB, awp, binC, cmpC, asP, asQ, asB, asI, obA, loadA, St.ev, St.step, setS, killS, AV.kill, AV.killL, Mem.kill, AV.cells, AV.flat, AV.single, Nat.reduceAdd, Nat.reduceEqDiff, Nat.reduceLeDiff, Int.reduceAdd, decide_eq_false c2]
    by_cases c3 : ls[k].2 ≤ ls[k].1
    · simp only [wB, awp, asN, St.ev, St.step, setS, killS, AV.kill, AV.killL, Mem.kill, Nat.reduceAdd, Int.reduceAdd, decide_eq_true c3]
      exact aend_frz rfl ⟨by rw [ret (fun hb => by have := hb.2.2; omega)]; rfl, rfl⟩
    simp only [wB, awp, binC, arithC, cmpC, asI, St.ev, St.step, setS, killS, AV.kill, AV.killL, Mem.kill, Nat.reduceAdd, Int.reduceAdd, isU, decide_eq_false c3]
    exact ⟨by unfold lim; omega, k + 1, le_all (by simp [leSl]) rfl, ⟨h, upto hno fun _ => ⟨by omega, by omega, by omega⟩⟩, by omega⟩
  · have h' : ¬ (k : Int) < (ls.length : Int) := by omega
    have good : ∀ l ∈ ls, okLn n l := fun l hm => by
      obtain ⟨j, hj, rfl⟩ := List.mem_iff_getElem.1 hm
      exact hno j (by omega) hj
    simp only [wB, awp, asP, lenA, loadA, St.ev, St.step, setS, killS, AV.kill, AV.killL, Mem.kill, AV.cells, AV.flat, AV.single, Nat.reduceAdd, Nat.reduceEqDiff, Nat.reduceLeDiff, Int.reduceAdd, lenK, decide_eq_false h', prsA_len]
    clear hno h h' hk
    refine swp_loop' (fun k : Nat => ⟨[.bot, .p (.g [I n, .s 2 (prsA ls)]) 0, .bot, .bot, .bot, .bot, .bot, .bot, .bot, .bot, .bot, .bot, .bot, .bot, .bot, .bot, .bot, .bot, .bot, .bot, .bot, .bot, .bot, .bot, .bot, .bot, .bot, .bot, .bot, .bot, .bot, .bot, .bot, .bot, .bot, .bot, .bot, .bot, .bot, .bot, .bot, .s 2 (prsA ls), I ls.length, I k, .bot, .bot, .bot, .bot, .bot, .bot, .bot, .bot, .bot, .bot, .bot], []⟩) (fun k => k ≤ ls.length ∧ ∀ j, j < k → ∀ h : j < ls.length, ls[j] ∉ ls.take j) (fun k => ls.length - k) 0 (le_sl (by simp [leSl, prsA_len])) ⟨Nat.zero_le _, by omega⟩ ?_
    rintro k ⟨hk, hno⟩
    refine awp_sound (own := []) _ _ _ _ _ ?_
    simp only [wB, awp, binC, cmpC, asB, asI, St.ev, St.step, setS, killS, AV.kill, AV.killL, Mem.kill, Nat.reduceAdd, Int.reduceAdd]
    by_cases h : k < ls.length
    · have h' : (k : Int) < (ls.length : Int) := by omega
      simp only [wB, awp, idxC, asP, asQ, asS, asI, asN, obA, loadA, storeA, putsA, mkA, Aw.newRow, St.ev, St.step, setS, killS, AV.kill, AV.killL, Mem.kill, AV.cells, AV.flat, AV.single, AV.cellular, Nat.reduceAdd, Nat.reduceEqDiff, Nat.reduceLeDiff, Int.reduceAdd, decide_eq_true h', aget_prs h, Int.toNat_natCast]
      refine ⟨by omega, ?_⟩
      refine swp_draw (own := []) (.take 0 .plain [] (.take 1 .reads [] (.take 2 .plain [] (.take 3 .plain [] (.take 4 .reads [] (.alt 5 (.done) (.nil))))))) [⟨49, 2, 0, 0, true⟩, ⟨50, 281474976710656, 1, 0, true⟩, ⟨51, 32, 0, 0, true⟩, ⟨52, 1688849860263936, 6, 0, true⟩, ⟨53, 64, 0, 0, true⟩, ⟨54, 6755399441055744, 24, 0, false⟩] mo (by kernel_rfl) ?_
      simp only [wB, asP, asQ, asS, obA, bndA, loadA, St.ev, setS, AV.cells, AV.flat, AV.single, Nat.reduceAdd, Nat.reduceEqDiff, Nat.reduceLeDiff, Int.reduceAdd, Int.reduceLE, ASch, St.put, Md.mem, Md.need, prsA_len, bndA, prsA_take, List.drop_zero, Int.toNat_natCast]
      refine ⟨by omega, acall_v (s92 (ls.take k) ls[k].1 ls[k].2 (by simp only [List.length_take]; omega)) rfl rfl ?_⟩
      by_cases hm : ls[k] ∈ ls.take k
      · have hm' : memL (ls.take k) (ls[k].1, ls[k].2) = true := (memL_eq _ _).2 hm
        simp only [wB, awp, asB, asN, St.ev, St.step, setS, killS, AV.kill, AV.killL, Mem.kill, Nat.reduceAdd, Int.reduceAdd, ASch, hm']
        refine aend_frz rfl ⟨?_, rfl⟩
        rw [vT, if_neg (by omega), if_pos good, if_neg (not_nodup h hm)]
        rfl
      · have hm' : memL (ls.take k) (ls[k].1, ls[k].2) = false := by rw [Bool.eq_false_iff, ne_eq, memL_eq]; exact hm
        simp only [wB, awp, binC, arithC, cmpC, asB, asI, St.ev, St.step, setS, killS, AV.kill, AV.killL, Mem.kill, Nat.reduceAdd, Int.reduceAdd, ASch, isU, hm']
        exact ⟨by unfold lim; omega, k + 1, le_all (by simp [leSl]) rfl, ⟨h, upto hno fun _ => hm⟩, by omega⟩
    · have h' : ¬ (k : Int) < (ls.length : Int) := by omega
      simp only [wB, awp, asN, St.ev, St.step, setS, killS, AV.kill, AV.killL, Mem.kill, Nat.reduceAdd, Int.reduceAdd, decide_eq_false h']
      refine aend_frz rfl ⟨?_, rfl⟩
      rw [vT, if_neg (by omega), if_pos good, if_pos (nodup_of fun j hj => hno j (by omega) hj)]
      rfl
end Go.Proofs.YtndniceeibflcaaGreatDoor

namespace Go.Proofs.YtndniceeibflcaaGreatDoor
open Aw Go.ChangeShapes Go.WideShapes Go.ChangeAt Go.RowKit Go.Deep Go.Joins Go.Stop
set_option maxRecDepth 100000

theorem tc26 : Tryz.prog.cellsOf 26 = 3 := by kernel_rfl
theorem tc24 : Tryz.prog.cellsOf 24 = 2 := by kernel_rfl
theorem tc22 : Tryz.prog.cellsOf 22 = 1 := by kernel_rfl
theorem tc79 : Tryz.prog.cellsOf 79 = 2 := by kernel_rfl
theorem tc3 : Tryz.prog.cellsOf 3 = 1 := by kernel_rfl
/-- what a machine is made with. -/
def labA (n : Int) (ls : List (Int × Int)) (lm : Int) : AV := .g [I n, .s 2 (prsA ls), I lm]
/-- the plain wrap: the condition on the variables, and the world's shape. -/
theorem returns_laid {H : Type} {enc : TypeId × Value → H} {a : Assume} {C : Checked} {os : Os} {f : FuncId} {fn : Func} {s : ChangeSpec} {conds : List PathCond} {apart fresh handsOn again : Bool} {X : World → Array Value → Prop}
    (hX : ∀ (w w' : World) (args : Array Value), w.heap = w'.heap → X w args → X w' args)
    (own : ownKnob C.prog.godebug = none) (started : os.Started) (noInit : C.prog.inits.idxOf? f = none) (hfn : C.prog.funcs[f]? = some fn)
    (witness : ∃ (w : World) (tape : Tape) (i : Input), w.os = os ∧ (w.forCall tape i).Shaped C.prog ∧ i.vars = [] ∧ Input.okWide C.prog (w.forCall tape i) .any w.heap.size f i ∧
      ((s.pre enc C.prog fn conds apart (w.forCall tape i).memory i.args ∧ X (w.forCall tape i).memory i.args) ∧ sizedMet enc C.prog fn (OpenSpec.ofChange s) apart (w.forCall tape i).memory i.args) ∧ a.holds C.prog (lone (Frame.enter C.prog f i.args .normal) [] (w.forCall tape i)))
    (contract : ∀ (W : World) (base : Nat) (args : Array Value) (ds gs : List (DataW H)) (before : List MemPlace),
      (∀ (j : Nat) t v, fn.params[j]? = some t → args[j]? = some v → Value.okWide C.prog W .any base t v) →
      DataW.Whole enc C.prog fn.params.toList s.vars apart W args.toList ds gs before →
      (DataW.weightsEach C.prog (fn.params.toList ++ s.plain.varTypes C.prog) (ds ++ gs)).all (· ≤ reachBytes) = true → X W args → W.ShapedOpen C.prog →
      Calls C.prog f args W fun e W' => ∃ v, e = .returned v ∧ s.post enc C.prog fn apart fresh handsOn again W args v W') :
    ReturnsInHanded a C os f .any (fun w args => (s.pre enc C.prog fn conds apart w args ∧ X w args) ∧ sizedMet enc C.prog fn (OpenSpec.ofChange s) apart w args) (s.post enc C.prog fn apart fresh handsOn again) := by
  refine returnsInHanded_of_calls own started noInit witness ?_
  intro w tape i _ hsh _ hok hpre _
  obtain ⟨_, _, _, fn', hfn', _, _, _, _, hval⟩ := hok
  have e : fn' = fn := Option.some.inj (hfn'.symm.trans hfn)
  subst e
  obtain ⟨⟨⟨ds, gs, before, hw, hc⟩, hx⟩, hz⟩ := hpre
  have hw' := DataW.Whole.of_heap (w' := w.forCall tape i) (by rfl) hw
  refine (contract (w.forCall tape i) w.heap.size i.args ds gs before hval hw' (hz.weights hw) (hX _ _ _ (by rfl) hx) hsh).mono fun e W' ⟨v, he, hp⟩ => ?_
  subst he
  exact ChangeSpec.post_blind hp
/-- A LAW's last step: it has answered, below the old size of the heap nothing has turned, and each argument reads as it did. -/
theorem law_shut {P : Program} {H : Type} {enc : TypeId × Value → H} {f : Func} {s : ChangeSpec} {ap fr ho ag : Bool} {W W' : World} {args : Array Value} {v : Value} {ds : List (DataW H)} {before : List MemPlace}
    (hW : DataW.Whole enc P f.params.toList s.vars ap W args.toList ds [] before) (hb : Below W.heap.size W W') (hv : s.vars = [])
    (hr : ∀ (b : Nat) (sp : Nat → Bool) (hd : Bool), DataW.TrodAll enc P W' b sp hd f.resultTypes.toList (v.resultList f.resultTypes.size) (s.fn H (ds ++ [])).results [])
    (ha : ∀ sp : Nat → Bool, (∀ p ∈ before, sp p.block = true) → DataW.TrodAll enc P W' 0 sp true f.params.toList args.toList (s.fn H (ds ++ [])).args before) (hvs : (s.fn H (ds ++ [])).vars = [])
    (hk : ∀ (j : Nat) (t : TypeId) (r : Value), f.resultTypes[j]? = some t → (v.resultList f.resultTypes.size)[j]? = some r → Value.okWide P W' .any 0 t r) :
    s.post enc P f ap fr ho ag W args v W' := by
  have old : ∀ p ∈ before, p.block < W.heap.size := fun p hp => hW.lt p hp
  have vars : ∀ sp : Nat → Bool, DataW.TrodVars enc P W' sp s.vars (s.fn H (ds ++ [])).vars [] := fun sp => by rw [hv, hvs]; simp [DataW.TrodVars]
  have keep : W.keptBut W' (fun p => p ∈ before) := hb.frame (· ∈ before)
  obtain ⟨_, _, _, _, _, hz, hn⟩ := id hW
  refine ⟨ds, [], before, [], before, [], hW, hr _ _ _, ha _ fun p hp => by simpa using old p hp, vars _, World.keptBut_mono (fun p hp => ⟨hp, by simpa using hp⟩) keep, fun _ => ⟨hk, _, _, ([] ++ before) ++ [], ⟨[] ++ before, [], trodAll_append (ha _ fun _ _ => rfl) (hr _ _ _), vars _, rfl, fun b off hp => ?_, fun hap => ?_⟩, fun p hp _ => by simpa using hp⟩⟩
  · have hin : MemPlace.cell b off ∈ before := by simpa using hp
    rw [hb.frozen (old _ hin)]
    exact hz b off hin
  · simpa using hn hap
section
variable {H : Type} {enc : TypeId × Value → H} {w : World}

abbrev noA : Nat → Prop := fun _ => False

theorem cell_at_lit {a : Addr} {v : Value} (h : w.cell? a = some v) : a.spot = none ∧ a.block < w.heap.size := by
  unfold World.cell? at h
  split at h
  · rename_i c e f hh
    refine ⟨?_, (Array.getElem?_eq_some_iff.1 hh).1⟩
    cases hsp : a.spot with
    | none => rfl
    | some s => simp [hsp] at h
  · cases h

/-- a row of cells reads as a list of abstract values. -/
theorem s_of_cells {k : Nat} {a : Addr} {n cap : Nat} {xs : List AV} {us : List Value} (hn : xs.length = n) (hc : n ≤ cap) (hm : cap ≤ maxLen) (hk : ∀ x ∈ xs, x.size = k) (hr : RL w noA noHv xs us) (hpos : 0 < k)
    (hcell : ∀ (j : Nat) (u : Value), us[j]? = some u → w.cell? (a.add j) = some u) : RV w noA noHv (.s k xs) (.slice (some a) n cap) := by
  simp only [RV, R]
  refine ⟨some a, cap, us, by rw [hn], by omega, hm, hk, hr, fun hne => ?_⟩
  have hl := RL_len xs us hk hr
  have h0 : 0 < us.length := by
    rw [hl]
    exact Nat.mul_pos (List.length_pos_iff.2 hne) hpos
  have h1 := hcell 0 us[0] (List.getElem?_eq_getElem h0)
  have ea : a.add 0 = a := by simp [Addr.add]
  rw [ea] at h1
  obtain ⟨hs, hb⟩ := cell_at_lit h1
  obtain ⟨b, off, sp⟩ := a
  simp only at hs
  subst hs
  refine ⟨b, off, rfl, hb, fun h => h, fun j u hu => ?_⟩
  have := hcell j u hu
  rw [Addr.add_lit] at this
  exact this

theorem list_of {α : Type} (Φ : Nat → α → Prop) : ∀ n : Nat, (∀ i, i < n → ∃ x, Φ i x) → ∃ l : List α, l.length = n ∧ ∀ (i : Nat) (h : i < l.length), Φ i l[i]
  | 0, _ => ⟨[], rfl, by simp⟩
  | n + 1, h => by
    obtain ⟨l, hl, hp⟩ := list_of Φ n fun i hi => h i (by omega)
    obtain ⟨x, hx⟩ := h n (by omega)
    refine ⟨l ++ [x], by simp [hl], fun i hi => ?_⟩
    rcases Nat.lt_or_ge i l.length with hlt | hge
    · rw [List.getElem_append_left hlt]; exact hp i hlt
    · simp at hi
      obtain rfl : i = l.length := by omega
      simp only [List.getElem_append_right (Nat.le_refl _), Nat.sub_self, List.getElem_cons_zero]
      rw [hl]; exact hx

theorem rl_prs (zs : List (Int × Int)) : RL w noA noHv (prsA zs) (zs.flatMap fun z => [Value.int .i64 z.1, Value.int .i64 z.2]) := by
  induction zs with
  | nil => simp [prsA, RL]
  | cons z zs ih =>
    simp only [prsA, List.map_cons, RL, List.flatMap_cons] at *
    refine ⟨[.int .i64 z.1, .int .i64 z.2], _, rfl, ?_, ih⟩
    simp only [prA, R, RL]
    exact ⟨[.int .i64 z.1], [.int .i64 z.2], rfl, ⟨rfl, rfl⟩, [.int .i64 z.2], [], rfl, ⟨rfl, rfl⟩, rfl⟩

theorem prs_at (zs : List (Int × Int)) : ∀ (j : Nat) (u : Value), (zs.flatMap fun z => [Value.int .i64 z.1, Value.int .i64 z.2])[j]? = some u → ∃ (i : Nat) (h : i < zs.length), (j = i * 2 ∧ u = .int .i64 zs[i].1) ∨ (j = i * 2 + 1 ∧ u = .int .i64 zs[i].2) := by
  induction zs with
  | nil => intro j u h; simp at h
  | cons z zs ih =>
    intro j u h
    rw [List.flatMap_cons] at h
    match j with
    | 0 => simp at h; exact ⟨0, by simp, .inl ⟨rfl, h.symm⟩⟩
    | 1 => simp at h; exact ⟨0, by simp, .inr ⟨rfl, h.symm⟩⟩
    | j + 2 =>
      simp at h
      obtain ⟨i, hi, h⟩ := ih j u (by simpa using h)
      refine ⟨i + 1, by simpa using hi, ?_⟩
      rcases h with ⟨h1, h2⟩ | ⟨h1, h2⟩
      · exact .inl ⟨by omega, by simpa using h2⟩
      · exact .inr ⟨by omega, by simpa using h2⟩

theorem sa_prs {t e : TypeId} {f0 f1 : Field} (ht : Tryz.prog.underlying t = some (.slice e)) (he : Tryz.prog.underlying e = some (.struct #[f0, f1])) (hC : Tryz.prog.cellsOf e = 2) (e0 : f0.type = 3) (e1 : f1.type = 3) (o0 : f0.offset = 0) (o1 : f1.offset = 1)
    {v : Value} {cs : List Value} {b0 : Nat} {sp : Nat → Bool} {hd : Bool} {fuel : Nat} {x : DataW H × List MemPlace} (hcs : cs = [v]) (h : DataW.trod enc Tryz.prog w b0 sp hd fuel t cs = some x) : ∃ l, RV w noA noHv (.s 2 (prsA l)) v := by
  rcases open_slice ht h with ⟨h1, _⟩ | ⟨a, len, cap, m, n, D, Pl, h1, _, hl, hm, hmm, _, hi⟩
  · rw [hcs] at h1
    injection h1 with h1
    refine ⟨[], ?_⟩
    rw [h1]
    simp only [RV, R]
    exact ⟨none, 0, [], rfl, Nat.le_refl _, Nat.zero_le _, by simp [prsA], by simp [prsA, RL], fun h => absurd rfl h⟩
  · rw [hcs] at h1
    injection h1 with h1
    subst h1
    have hml : len ≤ m := by rw [hmm]; split <;> omega
    obtain ⟨zs, hzl, hzs⟩ := list_of (fun i (z : Int × Int) => w.cell? (a.add (i * 2)) = some (.int .i64 z.1) ∧ w.cell? (a.add (i * 2 + 1)) = some (.int .i64 z.2)) len fun i hil => by
      obtain ⟨cs', hc, htr⟩ := hi i (by omega)
      rw [hC] at hc
      obtain ⟨_, hcl, hat⟩ := World.cells?_some hc
      obtain ⟨y0, y1, n', _, _, t0, t1⟩ := trod_struct2 he htr
      match cs', hcl with
      | [c0, c1], _ =>
        rw [e0, o0, tc3] at t0
        rw [e1, o1, tc3] at t1
        obtain ⟨n0, g0, _, _⟩ := DataW.trod_int Tryz.underlying3 t0
        obtain ⟨n1, g1, _, _⟩ := DataW.trod_int Tryz.underlying3 t1
        simp at g0 g1
        subst g0; subst g1
        refine ⟨(n0, n1), ?_, ?_⟩
        · have := hat 0 (by omega)
          rw [Go.Deep.add_add] at this
          simpa using this
        · have := hat 1 (by omega)
          rw [Go.Deep.add_add] at this
          simpa using this
    refine ⟨zs, s_of_cells (k := 2) (us := zs.flatMap fun z => [Value.int .i64 z.1, Value.int .i64 z.2]) (by simp [prsA, hzl]) hl hm (by intro y hy; simp only [prsA, List.mem_map] at hy; obtain ⟨q, _, rfl⟩ := hy; rfl) (rl_prs _) (by decide) fun j u hu => ?_⟩
    obtain ⟨i, hi', hh⟩ := prs_at zs j u hu
    have := hzs i hi'
    rcases hh with ⟨rfl, rfl⟩ | ⟨rfl, rfl⟩
    · exact this.1
    · exact this.2

theorem rl_strs (zs : List (List UInt8)) : RL w noA noHv (zs.map S) (zs.map fun l => Value.string ⟨l.toArray⟩) := by
  induction zs with
  | nil => simp [RL]
  | cons z zs ih =>
    simp only [List.map_cons, RL] at *
    exact ⟨[.string ⟨z.toArray⟩], _, rfl, ⟨rfl, rfl⟩, ih⟩
theorem sa_strs {v : Value} {r : Reach} {b1 b0 : Nat} {sp : Nat → Bool} {hd : Bool} {d : DataW H} {p : List MemPlace} (hv : Value.okWide Tryz.prog w r b1 27 v) (h : DataW.Trod enc Tryz.prog w b0 sp hd 27 v d p) : ∃ l : List (List UInt8), RV w noA noHv (.s 1 (l.map S)) v ∧ ∀ o ∈ l, o.length ≤ 9223372036854775807 := by
  obtain ⟨a0, len, cap, rfl⟩ := okWide_slice Tryz.underlying27 hv
  obtain ⟨fuel, hf⟩ := h
  rcases open_strings Tryz.underlying27 Tryz.underlying9 tc9 hf with ⟨h1, _⟩ | ⟨a, len', cap', ss, h1, _, hl, hm, hz, _, hcell, hbound⟩
  · injection h1 with h1
    refine ⟨[], ?_, by simp⟩
    rw [h1]
    simp only [RV, R]
    exact ⟨none, 0, [], rfl, Nat.le_refl _, Nat.zero_le _, by simp, by simp [RL], fun h => absurd rfl h⟩
  · injection h1 with h1
    rw [h1]
    have hzl : len' ≤ ss.length := by rw [hz]; split <;> omega
    refine ⟨(ss.take len').map fun s => s.data.toList, s_of_cells (k := 1) (us := ((ss.take len').map fun s => s.data.toList).map fun l => Value.string ⟨l.toArray⟩) (by simp; omega) hl hm (by intro y hy; simp only [List.mem_map] at hy; obtain ⟨q, _, rfl⟩ := hy; rfl) (rl_strs _) (by decide) fun j u hu => ?_, fun o ho => ?_⟩
    · simp only [List.getElem?_map, Option.map_eq_some_iff] at hu
      obtain ⟨l, ⟨z, hz1, rfl⟩, rfl⟩ := hu
      have hj : j < (ss.take len').length := (List.getElem?_eq_some_iff.1 hz1).1
      simp at hj
      have := hcell j (by omega)
      rw [this]
      congr 2
      have e : (ss.take len')[j]? = ss[j]? := by rw [List.getElem?_take, if_pos (by omega)]
      rw [e] at hz1
      rw [List.getD_eq_getElem?_getD, hz1]
      rfl
    · simp only [List.mem_map] at ho
      obtain ⟨s, hs, rfl⟩ := ho
      have := hbound s (List.mem_of_mem_take hs)
      have e : s.size = s.data.size := rfl
      unfold maxLen at this
      simp only [Array.length_toList]
      omega
theorem sa_lab {v : Value} {r : Reach} {b1 b0 : Nat} {sp : Nat → Bool} {hd : Bool} {d : DataW H} {p : List MemPlace} (hv : Value.okWide Tryz.prog w r b1 26 v) (h : DataW.Trod enc Tryz.prog w b0 sp hd 26 v d p) : ∃ n ls lm, RV w noA noHv (labA n ls lm) v := by
  obtain ⟨cs, rfl, hsz⟩ := okWide_struct Tryz.underlying26 hv
  obtain ⟨fuel, hf⟩ := h
  obtain ⟨y0, y1, m, _, hl, t0, t1⟩ := trod_struct2 Tryz.underlying26 hf
  have hcs : cs.size = 3 := hsz.trans tc26
  have t0 : DataW.trod enc Tryz.prog w b0 sp hd m 24 ((cs.toList.drop 0).take (Tryz.prog.cellsOf 24)) = some y0 := by simpa [Value.cells] using t0
  have t1 : DataW.trod enc Tryz.prog w b0 sp hd m 3 ((cs.toList.drop 2).take (Tryz.prog.cellsOf 3)) = some y1 := by simpa [Value.cells] using t1
  rw [tc24] at t0
  rw [tc3] at t1
  match hcl : cs.toList, (show cs.toList.length = 3 by simpa using hcs) with
  | [c0, c1, c2], _ =>
    rw [hcl] at t0 t1
    simp only [List.drop_zero, List.take_succ_cons, List.take_zero, List.drop_succ_cons] at t0 t1
    obtain ⟨z0, z1, m', _, _, s0, s1⟩ := trod_struct2 Tryz.underlying24 t0
    have s0 : DataW.trod enc Tryz.prog w b0 sp hd m' 3 [c0] = some z0 := by simpa [tc3] using s0
    have s1 : DataW.trod enc Tryz.prog w b0 sp hd m' 22 [c1] = some z1 := by simpa [tc22] using s1
    obtain ⟨n0, e0, _, _⟩ := DataW.trod_int Tryz.underlying3 s0
    obtain ⟨n2, e2, _, _⟩ := DataW.trod_int Tryz.underlying3 t1
    simp at e0 e2
    subst e0
    subst e2
    obtain ⟨ls, hls⟩ := sa_prs Tryz.underlying22 Tryz.underlying79 tc79 rfl rfl rfl rfl rfl s1
    refine ⟨n0, ls, n2, ?_⟩
    have : cs = #[.int .i64 n0, c1, .int .i64 n2] := by rw [← Array.toList_inj, hcl]
    subst this
    simp only [labA, RV, RL, R]
    simp only [RV] at hls
    exact ⟨_, rfl, [.int .i64 n0], [c1, .int .i64 n2], rfl, ⟨rfl, rfl⟩, [c1], [.int .i64 n2], rfl, hls, [.int .i64 n2], [], rfl, ⟨rfl, rfl⟩, rfl⟩
theorem rr26 : Tryz.prog.readableRec 26 = true := by kernel_rfl
theorem rr27 : Tryz.prog.readableRec 27 = true := by kernel_rfl
theorem lt26 : 26 < Tryz.prog.types.size := of_decide_eq_true (by kernel_rfl)
theorem lt27 : 27 < Tryz.prog.types.size := of_decide_eq_true (by kernel_rfl)
/-- an argument reads as it did. -/
theorem arg_stays {P : Program} {t : TypeId} (hl : laidOutB P = true) (hr : P.readableRec t = true) (hrow : t < P.types.size) {W W' : World} {v : Value} {d : DataW H} {ps : List MemPlace} {sp : Nat → Bool}
    (h : DataW.Trod enc P W 0 (fun _ => true) true t v d ps) (hb : Below W.heap.size W W') (hlt : ∀ x ∈ ps, x.block < W.heap.size) (hsp : ∀ x ∈ ps, sp x.block = true) : DataW.Trod enc P W' 0 sp true t v d ps :=
  WideElems.Trod_stays hl hr hrow h (fun x hx => hb.same (hlt x hx)) hsp

/-- a call that answers true. -/
theorem calls_true {f : FuncId} {xs : List AV} {vs : List Value} (h : ASpec Tryz.prog f xs (fun r Ms => r = B true ∧ Ms = [])) (hv : RVL w noA noHv xs vs) (hG : GOk w) :
    Calls Tryz.prog f vs.toArray w fun e w' => e = .returned (.bool true) ∧ Below w.heap.size w w' := by
  refine (h.2 w vs noA hG (fun _ h => h.elim) hv).mono ?_
  rintro e w' ⟨r, Ms, v, hv', rfl, ⟨rfl, rfl⟩, _, hr, _, hb⟩
  simp only [RV] at hr
  subst hr
  exact ⟨rfl, hb.toBelow⟩
end
end Go.Proofs.YtndniceeibflcaaGreatDoor

namespace Go.Proofs.YtndniceeibflcaaGreatDoor
open Aw Go.ChangeShapes Go.WideShapes Go.RowKit Go.Stop
set_option maxRecDepth 100000

def flatD : Nat → DataW Unit → List Value
  | 0, _ => []
  | _ + 1, .lit (.int k n) => [.int k n]
  | k + 1, .agg l => l.flatMap (flatD k)
  | _, _ => []
noncomputable def low : Nat := (World.holding Tryz.prog default ⟨#[], #[], []⟩).heap.size
def putG (g : Nat) (cs : Array Value) (h : Array Obj) : Array Obj := h.modify g fun
  | .cells _ t frozen => .cells cs t frozen
  | o => o
noncomputable def laidWorld (os : Os) : World :=
  let w0 := World.holding Tryz.prog os ⟨#[.cells #[.string ⟨#[118, 97, 108, 117, 101, 32, 111, 117, 116, 32, 111, 102, 32, 114, 97, 110, 103, 101]⟩] 262, .cells #[.string ⟨#[105, 110, 118, 97, 108, 105, 100, 32, 115, 121, 110, 116, 97, 120]⟩] 262], #[], []⟩
  { w0 with heap := putG 0 #[.iface 226 (.agg #[.pointer (some ⟨9, 114, none⟩)])] (putG 2 (flatD 4 Rows.laid_internal_strconv_uint64pow10).toArray (putG 3 #[.iface 260 (.pointer (some ⟨low + 1, 0, none⟩))] (putG 4 #[.iface 260 (.pointer (some ⟨low, 0, none⟩))]
      (putG 5 (flatD 4 Rows.laid_math_bits_deBruijn32tab).toArray (putG 6 (flatD 4 Rows.laid_math_bits_deBruijn64tab).toArray (putG 7 (flatD 4 Rows.laid_unicode_utf8_first).toArray (putG 8 (flatD 4 Rows.laid_unicode_utf8_acceptRanges).toArray w0.heap))))))) }
theorem laidWorld_met (os : Os) (args : Array Value) : laidMetH Tryz.prog laidL ((laidWorld os).forCall (fun _ _ => 0) ⟨#[], args, []⟩).memory :=
  laidMetH_of_parts (laidMet_of_run' 8 (by kernel_rfl) (by kernel_rfl)) (by kernel_rfl)
end Go.Proofs.YtndniceeibflcaaGreatDoor

namespace Go.Proofs.YtndniceeibflcaaGreatDoor
open Aw Go.ChangeShapes Go.WideShapes Go.RowKit Go.Stop
set_option maxRecDepth 100000

/-- the closed facts of a row, one by one. -/
theorem joined_of {f : FuncId} {fn : Func} {s : ChangeSpec} {c : OpenClaim} (k1 : c.wf (OpenSpec.ofChange s) = true) (k4 : fn.params.all (Tryz.prog.readableRec ·) = true) (k5 : namedTie Tryz.prog c.named s.vars = true)
    (k6 : (c.stops == []) = true) (k8 : (c.knobs == []) = true) (k10 : (c.inPlace == Tryz.prog.inPlace f) = true) (k11 : (c.unfollowed == Tryz.prog.unfollowed f) = true) (k12 : (c.recurses == Tryz.prog.recurses f) = true) (k13 : (c.named == Tryz.prog.varsNamed f) = true)
    (k14 : ((c.maps == (fn.params.toList ++ s.plain.varTypes Tryz.prog).any (Tryz.prog.mapsRec ·)) && (c.ifaces == (fn.params.toList ++ s.plain.varTypes Tryz.prog).any (Tryz.prog.ifacesRec ·)) && (c.mapsOut == Tryz.prog.mapsAmong fn.resultTypes.toList) &&
      (c.loops == (fn.params.toList ++ s.plain.varTypes Tryz.prog).any (Tryz.prog.loopsFrom ·)) && (c.wideKeys == (fn.params.toList ++ s.plain.varTypes Tryz.prog ++ fn.resultTypes.toList).any (Tryz.prog.wideKeysFrom ·)) &&
      s.vars.all (Tryz.prog.varReadable ·) && fn.resultTypes.all (fun t => Tryz.prog.readableRec t && decide (t < Tryz.prog.types.size)) && (c.ifacesOut == fn.resultTypes.toList.any (Tryz.prog.ifacesRec ·)) && (c.loopsOut == fn.resultTypes.toList.any (Tryz.prog.loopsFrom ·))) = true)
    (k15 : (c.plainKeys == Tryz.prog.plainKeys) = true) (k16 : c.shortTexts.isNone = true) (k17 : (c.lifted == Tryz.prog.liftsFinal) = true) (k18 : (Tryz.prog.make == some c.make) = true)
    (k19 : ((c.kinds == (if c.domain.isEmpty then [] else fn.params.toList.map fun t => match Tryz.prog.underlying t with | some (.int k) => some k | _ => none)) && (c.pinned == c.pinnedBy) &&
      (c.veiled == (fn.params.toList ++ s.plain.varTypes Tryz.prog ++ fn.resultTypes.toList).any (Tryz.prog.veiledRec ·)) && c.veiledFits Tryz.prog fn.params.toList (fn.params.toList ++ s.plain.varTypes Tryz.prog ++ fn.resultTypes.toList)) = true) : joinedFacts Tryz.prog f fn s c = true := by
  simp only [Bool.and_eq_true] at k14 k19
  obtain ⟨⟨⟨⟨⟨⟨⟨⟨a1, a2⟩, a3⟩, a4⟩, a5⟩, a6⟩, a7⟩, a8⟩, a9⟩ := k14
  obtain ⟨⟨⟨b1, b2⟩, b3⟩, b4⟩ := k19
  unfold joinedFacts
  simp only [Bool.and_eq_true]
  exact ⟨⟨⟨⟨⟨⟨⟨⟨⟨⟨⟨⟨⟨⟨⟨⟨⟨⟨⟨⟨⟨⟨⟨⟨⟨⟨⟨⟨⟨⟨⟨k1, Tryz.laidOut⟩, Tryz.rowed⟩, k4⟩, k5⟩, k6⟩, Tryz.stopsE⟩, k8⟩, Tryz.stopKE⟩, k10⟩, k11⟩, k12⟩, k13⟩, a1⟩, a2⟩, a3⟩, a4⟩, a5⟩, a6⟩, a7⟩, a8⟩, a9⟩, k15⟩, k16⟩, Tryz.heard⟩, Tryz.enters⟩, k17⟩, k18⟩, b1⟩, b2⟩, b3⟩, b4⟩
end Go.Proofs.YtndniceeibflcaaGreatDoor

namespace Go.Proofs.YtndniceeibflcaaGreatDoor
namespace Mp
open Go
set_option linter.unusedSimpArgs false

theorem digit_val {u : Nat} (h : u < 10) : (UInt8.ofNat (48 + u)).toNat = 48 + u := by
  rw [UInt8.toNat_ofNat']
  omega
theorem parse_dec : ∀ (u : Nat) (r : By), u ≤ 1000000000 → Lib.parseUint10 0 (Lib.decDigits u ++ r) = Lib.parseUint10 u r := by
  intro u
  induction u using Nat.strongRecOn with
  | _ u ih =>
    intro r hu
    by_cases h : u < 10
    · rw [Lib.decDigits, dif_pos h]
      simp only [List.cons_append, List.nil_append]
      rw [Lib.parseUint10, digit_val h, if_pos (by omega), if_neg (by omega), if_neg (by omega)]
      congr 1
      omega
    · rw [Lib.decDigits, dif_neg h, List.append_assoc, ih (u / 10) (by omega) _ (by omega)]
      simp only [List.cons_append, List.nil_append]
      rw [Lib.parseUint10, digit_val (by omega), if_pos (by omega), if_neg (by omega), if_neg (by omega)]
      congr 1
      omega
theorem dec_ne (u : Nat) : Lib.decDigits u ≠ [] := by
  rw [Lib.decDigits]
  split <;> simp
theorem atoi_dec {u : Nat} (hu : u ≤ 1000000000) : Lib.atoiAll (Lib.decDigits u) = .ok (u : Int) := by
  have hp := parse_dec u [] hu
  rw [List.append_nil, Lib.parseUint10] at hp
  have hd := dec_digit u
  have hne := dec_ne u
  revert hp hd hne
  generalize Lib.decDigits u = l
  intro hp hd hne
  cases l with
  | nil => exact absurd rfl hne
  | cons c r =>
    have hc := hd c (by simp)
    unfold Lib.atoiAll
    simp only
    rw [if_neg (by omega)]
    unfold Lib.parseMag
    rw [if_neg (by simp), hp]
    simp only
    rw [if_neg (by omega), if_neg (by omega), if_neg (by omega)]
theorem atoi_itoa {n : Int} (h0 : 0 ≤ n) (hn : n ≤ 1000000000) : Lib.atoiAll (Lib.itoa n) = .ok n := by
  unfold Lib.itoa
  rw [if_neg (by omega), atoi_dec (by omega)]
  congr 1
  omega

end Mp
end Go.Proofs.YtndniceeibflcaaGreatDoor
