/-
  Parts of several texts in one: MsB.
-/
import Derived.Test.YtndniceeibflcaaGreatDoorProg
import Derived.WalkKit
import Derived.Lib.ConvBytes
import Derived.LaidEql
import Derived.Lib.ItoaNum
import Derived.Lib.LaidTab
import Derived.KernelRfl
import GoSem.Claims
import GoSem.ClaimJoined
import Derived.Orders
import Derived.Laws.StructEq
import Derived.Maps.Keyed
import Derived.Lib.Strings
import Derived.Maps.AppendAt
import Derived.Laws.Concat
import Derived.MapKept
import Derived.Laws.MakeOwn
import Derived.Scope
import Derived.Laws.BitsLemmas
import Derived.Maps.RangeRun
import Derived.StillTail
import Derived.OrdersIn
import Derived.TacticsIn
import Derived.RangeFuncRecord
import Derived.RangeFuncCalls
import Derived.RangeFuncSeq
import Derived.Lib.Split
import Derived.Lib.AtoiAll
import Derived.Test.YtndniceeibflcaaGreatDoorRows
import Derived.Test.YtndniceeibflcaaGreatDoorChecked
import Derived.ChangeSame
import Derived.ChangeVars
import Derived.JoinedOf
import Derived.ProofKit
import Derived.RowKit
import Derived.RowKitTokens
import Derived.LaidLaws
import Derived.LaidHandle
import Derived.LaidMore
import Derived.Stop.Joined
import Derived.Stop.LaidErr
import Derived.HandedShaped
import Derived.Shelf.Vars
import Derived.Deep.Slices
import Derived.Deep.Strs
import Derived.Deep.Fields
import Derived.Lib.SmallJoins
import Derived.SliceStrings
import Derived.ChangeMaps5
import Derived.Test.YtndniceeibflcaaGreatDoorKaa
import Derived.Test.YtndniceeibflcaaGreatDoorKag
set_option linter.unusedSimpArgs false
set_option linter.unusedVariables false
namespace Go.Proofs.YtndniceeibflcaaGreatDoor
namespace Aw
end Aw
namespace Mp
end Mp
end Go.Proofs.YtndniceeibflcaaGreatDoor
namespace Go.Proofs.YtndniceeibflcaaGreatDoor
open Aw Go.ChangeShapes Go.WideShapes Go.ChangeAt Go.RowKit Go.Deep Go.Joins Go.Stop
set_option maxRecDepth 100000

section
variable {H : Type} {enc : TypeId × Value → H} {w : World}

theorem sa_str {v : Value} {r : Reach} {b1 b0 : Nat} {sp : Nat → Bool} {hd : Bool} {d : DataW H} {p : List MemPlace} (hv : Value.okWide Tryz.prog w r b1 9 v) (h : DataW.Trod enc Tryz.prog w b0 sp hd 9 v d p) : ∃ l : List UInt8, RV w noA noHv (S l) v ∧ d = .lit (.string l) ∧ l.length ≤ 9223372036854775807 := by
  obtain ⟨s, rfl, rfl, _, hs⟩ := Go.ChangeMaps.open_string Tryz.underlying9 hv h
  refine ⟨s.data.toList, by simp [RV], rfl, ?_⟩
  have : s.size = s.data.size := rfl
  unfold maxLen at hs
  simp only [Array.length_toList]
  omega
theorem rr9 : Tryz.prog.readableRec 9 = true := by kernel_rfl
theorem lt9 : 9 < Tryz.prog.types.size := of_decide_eq_true (by kernel_rfl)
end
end Go.Proofs.YtndniceeibflcaaGreatDoor
