/-
  Parts of several texts in one: MyI.
-/
import Derived.Test.YtndniceeibflcaaGreatDoorProg
import Derived.WalkKit
import Derived.Lib.ConvBytes
import Derived.LaidEql
import Derived.Lib.ItoaNum
import Derived.Lib.LaidTab
import Derived.KernelRfl
import GoSem.Claims
import GoSem.ClaimJoined
import Derived.Orders
import Derived.Laws.StructEq
import Derived.Maps.Keyed
import Derived.Lib.Strings
import Derived.Maps.AppendAt
import Derived.Laws.Concat
import Derived.MapKept
import Derived.Laws.MakeOwn
import Derived.Scope
import Derived.Laws.BitsLemmas
import Derived.Maps.RangeRun
import Derived.StillTail
import Derived.OrdersIn
import Derived.TacticsIn
import Derived.RangeFuncRecord
import Derived.RangeFuncCalls
import Derived.RangeFuncSeq
import Derived.Lib.Split
import Derived.Lib.AtoiAll
import Derived.Shelf.LaysM
import Derived.Shelf.LaysC
import Derived.Shelf.Strconv.Itoa3
import Derived.Shelf.Strconv.AtoiAll
import Derived.Shelf.Strings.Search3
import Derived.Shelf.Strings.Cut
import Derived.Shelf.Strings.Prefix
import Derived.Shelf.Strings.Split
import Derived.Lib.AppendIntMem
import Derived.Stop.Asserts
import Derived.RowKitTokens
import Derived.Conc.MuLone
import Derived.Test.YtndniceeibflcaaGreatDoorRows
import Derived.Test.YtndniceeibflcaaGreatDoorChecked
import Derived.ChangeSame
import Derived.ChangeVars
import Derived.JoinedOf
import Derived.ProofKit
import Derived.RowKit
import Derived.LaidLaws
import Derived.LaidHandle
import Derived.LaidMore
import Derived.Stop.Joined
import Derived.Stop.LaidErr
import Derived.HandedShaped
import Derived.Shelf.Vars
import Derived.Deep.Slices
import Derived.Deep.Strs
import Derived.Deep.Fields
import Derived.Lib.SmallJoins
import Derived.SliceStrings
import Derived.ChangeMaps5
import Derived.Test.YtndniceeibflcaaGreatDoorKaa
import Derived.Test.YtndniceeibflcaaGreatDoorKab
import Derived.Test.YtndniceeibflcaaGreatDoorKac
import Derived.Test.YtndniceeibflcaaGreatDoorKag
import Derived.Test.YtndniceeibflcaaGreatDoorKai
import Derived.Test.YtndniceeibflcaaGreatDoorKay
set_option linter.unusedSimpArgs false
set_option linter.unusedVariables false
namespace Go.Proofs.YtndniceeibflcaaGreatDoor
namespace Aw
end Aw
namespace Mp
end Mp
end Go.Proofs.YtndniceeibflcaaGreatDoor
namespace Go.Proofs.YtndniceeibflcaaGreatDoor
open Aw Mp Go.RowKit
set_option linter.unusedSimpArgs false
set_option maxRecDepth 8000

theorem strsA_msub (F : Nat → AV) (G : Nat → Nat → Nat → Nat → AV) (l : List By) : (strsA l).map (AV.sub F G) = strsA l := by rw [← AV.subL_map, strsA_sub]
theorem acall_mk {f : FuncId} {aS : List AV} {M : Mem} {K : HK (AV → Mem → Prop)} {x : AV} {m : Mch} (spec : ASpec Tryz.prog f aS (fun r Ns => r = x ∧ Ns = [m.obA 1, m.od])) (ha : AV.pureL aS = true) (h : K.k (x.up M.length) (M ++ [some (m.obA (M.length + 1)), some m.od])) : ACall Tryz.prog f aS M (K := K) := by
  refine acall_os spec ha ?_
  have e1 : (m.obA 1).up M.length = m.obA (M.length + 1) := by
    simp [Ob.up, Mch.obA, Mch.cells, AV.up, AV.sub, AV.subL, prsA_sub, strsA_sub, intsA_sub, gtsA_sub, Nat.add_comm]
  have e2 : m.od.up M.length = m.od := by
    simp [Ob.up, Mch.od, AV.up, AV.sub, AV.subL, strsA_sub, strsA_msub]
  simp only [List.map_cons, List.map_nil, e1, e2]
  exact h
end Go.Proofs.YtndniceeibflcaaGreatDoor
