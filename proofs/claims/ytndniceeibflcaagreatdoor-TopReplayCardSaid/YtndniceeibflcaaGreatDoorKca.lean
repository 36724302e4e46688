/-
  Parts of several texts in one: MqC, MxB.
-/
import Derived.Test.YtndniceeibflcaaGreatDoorProg
import Derived.WalkKit
import Derived.Lib.ConvBytes
import Derived.LaidEql
import Derived.Lib.ItoaNum
import Derived.Lib.LaidTab
import Derived.KernelRfl
import GoSem.Claims
import GoSem.ClaimJoined
import Derived.Orders
import Derived.Laws.StructEq
import Derived.Maps.Keyed
import Derived.Lib.Strings
import Derived.Maps.AppendAt
import Derived.Laws.Concat
import Derived.MapKept
import Derived.Laws.MakeOwn
import Derived.Scope
import Derived.Laws.BitsLemmas
import Derived.Maps.RangeRun
import Derived.StillTail
import Derived.OrdersIn
import Derived.TacticsIn
import Derived.RangeFuncRecord
import Derived.RangeFuncCalls
import Derived.RangeFuncSeq
import Derived.Lib.Split
import Derived.Lib.AtoiAll
import Derived.Shelf.LaysM
import Derived.Shelf.LaysC
import Derived.Shelf.Strconv.Itoa3
import Derived.Shelf.Strconv.AtoiAll
import Derived.Shelf.Strings.Search3
import Derived.Shelf.Strings.Cut
import Derived.Shelf.Strings.Prefix
import Derived.Shelf.Strings.Split
import Derived.Lib.AppendIntMem
import Derived.Stop.Asserts
import Derived.RowKitTokens
import Derived.Conc.MuLone
import Derived.Test.YtndniceeibflcaaGreatDoorKaa
import Derived.Test.YtndniceeibflcaaGreatDoorKad
import Derived.Test.YtndniceeibflcaaGreatDoorKae
import Derived.Test.YtndniceeibflcaaGreatDoorKag
import Derived.Test.YtndniceeibflcaaGreatDoorKai
set_option linter.unusedSimpArgs false
set_option linter.unusedVariables false
namespace Go.Proofs.YtndniceeibflcaaGreatDoor
namespace Aw
end Aw
namespace Mp
end Mp
end Go.Proofs.YtndniceeibflcaaGreatDoor
namespace Go.Proofs.YtndniceeibflcaaGreatDoor
open Aw Mp Go.RowKit
set_option linter.unusedSimpArgs false

theorem Acc.do {n lim : Int} {ls : List (Int × Int)} {l : List By} (h : Acc n lim ls l) (o : By) : Acc n lim ls (doO n lim ls l o) := by
  unfold doO
  split
  · exact .snoc h (by assumption)
  · exact h
end Go.Proofs.YtndniceeibflcaaGreatDoor

namespace Go.Proofs.YtndniceeibflcaaGreatDoor
open Aw Mp Go.RowKit
set_option linter.unusedSimpArgs false
set_option maxRecDepth 8000

def doL (n lm : Int) (ls : List (Int × Int)) (l : List By) : List By := l.foldl (doO n lm ls) []
theorem doL_acc (n lm : Int) (ls : List (Int × Int)) (l : List By) : Acc n lm ls (doL n lm ls l) := by
  suffices h : ∀ (l d : List By), Acc n lm ls d → Acc n lm ls (l.foldl (doO n lm ls) d) from h l [] .nil
  intro l
  induction l with
  | nil => exact fun d h => h
  | cons o r ih => exact fun d h => ih _ (h.do o)
theorem doL_take {n lm : Int} {ls : List (Int × Int)} {l : List By} {k : Nat} (h : k < l.length) : doL n lm ls (l.take (k + 1)) = doO n lm ls (doL n lm ls (l.take k)) l[k] := by
  unfold doL
  rw [← List.take_append_getElem h, List.foldl_append]
  rfl
end Go.Proofs.YtndniceeibflcaaGreatDoor
