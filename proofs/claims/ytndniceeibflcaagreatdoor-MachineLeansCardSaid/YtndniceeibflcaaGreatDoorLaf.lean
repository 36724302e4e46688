/-
  Parts of several texts in one: MsD.
-/
import Derived.Test.YtndniceeibflcaaGreatDoorProg
import Derived.WalkKit
import Derived.Lib.ConvBytes
import Derived.LaidEql
import Derived.Lib.ItoaNum
import Derived.Lib.LaidTab
import Derived.KernelRfl
import GoSem.Claims
import GoSem.ClaimJoined
import Derived.Orders
import Derived.Laws.StructEq
import Derived.Maps.Keyed
import Derived.Lib.Strings
import Derived.Maps.AppendAt
import Derived.Laws.Concat
import Derived.MapKept
import Derived.Laws.MakeOwn
import Derived.Scope
import Derived.Laws.BitsLemmas
import Derived.Maps.RangeRun
import Derived.StillTail
import Derived.OrdersIn
import Derived.TacticsIn
import Derived.RangeFuncRecord
import Derived.RangeFuncCalls
import Derived.RangeFuncSeq
import Derived.Lib.Split
import Derived.Lib.AtoiAll
import Derived.Test.YtndniceeibflcaaGreatDoorRows
import Derived.Test.YtndniceeibflcaaGreatDoorChecked
import Derived.ChangeSame
import Derived.ChangeVars
import Derived.JoinedOf
import Derived.ProofKit
import Derived.RowKit
import Derived.RowKitTokens
import Derived.LaidLaws
import Derived.LaidHandle
import Derived.LaidMore
import Derived.Stop.Joined
import Derived.Stop.LaidErr
import Derived.HandedShaped
import Derived.Shelf.Vars
import Derived.Test.YtndniceeibflcaaGreatDoorTie
import Derived.Test.YtndniceeibflcaaGreatDoorCards
set_option linter.unusedSimpArgs false
set_option linter.unusedVariables false
namespace Go.Proofs.YtndniceeibflcaaGreatDoor
namespace Aw
end Aw
namespace Mp
end Mp
end Go.Proofs.YtndniceeibflcaaGreatDoor
namespace Go.Proofs.YtndniceeibflcaaGreatDoor
open Aw Go.ChangeShapes Go.WideShapes Go.RowKit Go.Stop
set_option maxRecDepth 100000

theorem Tryz.enters : Tryz.prog.mayEnter = true := by kernel_rfl
theorem Tryz.lifts : (Rows.topLogRow.lifted == Tryz.prog.liftsFinal) = true := by kernel_rfl
theorem Tryz.made : (Tryz.prog.make == some Rows.topLogRow.make) = true := by kernel_rfl
theorem Tryz.mainE : Tryz.pinned.checked.prog.mainIs = some (true, "aa03d57e40d7f46a321b7a338959e31570b187a828c7cad4885241d6f19c00d7".toList) := by kernel_rfl
theorem Tryz.looksE : true = Tryz.prog.looks [] := by kernel_rfl
theorem Tryz.rowed : mapsRowed Tryz.prog = true := by kernel_rfl
theorem Tryz.keysE : (Rows.topLogRow.plainKeys == Tryz.prog.plainKeys) = true := by kernel_rfl
theorem Tryz.heard : Tryz.prog.stopsHeard = true := by kernel_rfl
theorem Tryz.stopsE : (Tryz.prog.stops == []) = true := by kernel_rfl
theorem Tryz.stopKE : (Tryz.prog.stopKnobs == []) = true := by kernel_rfl
theorem Tryz.st26 : Tryz.prog.wantsStandIn 26 = false := by kernel_rfl
theorem Tryz.st27 : Tryz.prog.wantsStandIn 27 = false := by kernel_rfl
end Go.Proofs.YtndniceeibflcaaGreatDoor
