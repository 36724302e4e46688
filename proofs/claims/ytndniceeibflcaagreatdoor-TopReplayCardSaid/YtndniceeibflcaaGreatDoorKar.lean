/-
  Parts of several texts in one: MyA, MyH.
-/
import Derived.Test.YtndniceeibflcaaGreatDoorProg
import Derived.WalkKit
import Derived.Lib.ConvBytes
import Derived.LaidEql
import Derived.Lib.ItoaNum
import Derived.Lib.LaidTab
import Derived.KernelRfl
import GoSem.Claims
import GoSem.ClaimJoined
import Derived.Orders
import Derived.Laws.StructEq
import Derived.Maps.Keyed
import Derived.Lib.Strings
import Derived.Maps.AppendAt
import Derived.Laws.Concat
import Derived.MapKept
import Derived.Laws.MakeOwn
import Derived.Scope
import Derived.Laws.BitsLemmas
import Derived.Maps.RangeRun
import Derived.StillTail
import Derived.OrdersIn
import Derived.TacticsIn
import Derived.RangeFuncRecord
import Derived.RangeFuncCalls
import Derived.RangeFuncSeq
import Derived.Lib.Split
import Derived.Lib.AtoiAll
import Derived.Shelf.LaysM
import Derived.Shelf.LaysC
import Derived.Shelf.Strconv.Itoa3
import Derived.Shelf.Strconv.AtoiAll
import Derived.Shelf.Strings.Search3
import Derived.Shelf.Strings.Cut
import Derived.Shelf.Strings.Prefix
import Derived.Shelf.Strings.Split
import Derived.Lib.AppendIntMem
import Derived.Stop.Asserts
import Derived.RowKitTokens
import Derived.Conc.MuLone
import Derived.Test.YtndniceeibflcaaGreatDoorRows
import Derived.Test.YtndniceeibflcaaGreatDoorChecked
import Derived.ChangeSame
import Derived.ChangeVars
import Derived.JoinedOf
import Derived.ProofKit
import Derived.RowKit
import Derived.LaidLaws
import Derived.LaidHandle
import Derived.LaidMore
import Derived.Stop.Joined
import Derived.Stop.LaidErr
import Derived.HandedShaped
import Derived.Shelf.Vars
import Derived.Deep.Slices
import Derived.Deep.Strs
import Derived.Deep.Fields
import Derived.Lib.SmallJoins
import Derived.SliceStrings
import Derived.ChangeMaps5
import Derived.Test.YtndniceeibflcaaGreatDoorKaa
import Derived.Test.YtndniceeibflcaaGreatDoorKae
import Derived.Test.YtndniceeibflcaaGreatDoorKai
import Derived.Test.YtndniceeibflcaaGreatDoorKap
set_option linter.unusedSimpArgs false
set_option linter.unusedVariables false
namespace Go.Proofs.YtndniceeibflcaaGreatDoor
namespace Aw
end Aw
namespace Mp
end Mp
end Go.Proofs.YtndniceeibflcaaGreatDoor
namespace Go.Proofs.YtndniceeibflcaaGreatDoor
open Aw Mp Go.RowKit
set_option linter.unusedSimpArgs false
set_option maxRecDepth 8000

theorem not_dead {M : Mem} {n i : Nat} (h : liveI M i = true) : (deadL M n).contains i = false := by
  cases hc : (deadL M n).contains i with
  | false => rfl
  | true =>
    have hm := List.contains_iff_mem.1 hc
    unfold deadL at hm
    have := (List.mem_filter.1 hm).2
    rw [h] at this
    cases this
end Go.Proofs.YtndniceeibflcaaGreatDoor

namespace Go.Proofs.YtndniceeibflcaaGreatDoor
open Aw Mp Go.RowKit
set_option linter.unusedSimpArgs false
set_option maxRecDepth 8000

/-- other objects that no machine's call turns. -/
theorem fT {f : FuncId} {ars : List AV} {m m' : Mch} {x : AV} (h : MSpec Tryz.prog f ars (memD m) (fun r N => r = x ∧ N = memD m')) (T : Mem) (hfa : AV.freeL (deadL (memD m) (3 + T.length)) ars = true)
    (hT : ∀ F G, (T.map fun c : Option Ob => c.map fun ob => { ob with xs := AV.subL F G ob.xs }) = T) : FSpec Tryz.prog f ars (memD m) (memD m ++ T) x (memD m' ++ T) := fD h T _ rfl hfa (hT _ _)
theorem q0_free (m : Mch) (k : Nat) (ars : List AV) (h : AV.pureL ars = true) : AV.freeL (deadL (memD m) k) (.q 0 13 0 0 :: ars) = true := by
  have h0 : (deadL (memD m) k).contains 0 = false := not_dead rfl
  simp [AV.freeL, AV.free, -List.contains_eq_mem, h0, freeL_pure _ h]
end Go.Proofs.YtndniceeibflcaaGreatDoor
