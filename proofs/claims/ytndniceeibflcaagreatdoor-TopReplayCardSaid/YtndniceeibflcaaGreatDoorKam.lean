/-
  Parts of several texts in one: AA2, MwV.
-/
import Derived.Test.YtndniceeibflcaaGreatDoorProg
import Derived.WalkKit
import Derived.Lib.ConvBytes
import Derived.LaidEql
import Derived.Lib.ItoaNum
import Derived.Lib.LaidTab
import Derived.KernelRfl
import GoSem.Claims
import GoSem.ClaimJoined
import Derived.Orders
import Derived.Laws.StructEq
import Derived.Maps.Keyed
import Derived.Lib.Strings
import Derived.Maps.AppendAt
import Derived.Laws.Concat
import Derived.MapKept
import Derived.Laws.MakeOwn
import Derived.Scope
import Derived.Laws.BitsLemmas
import Derived.Maps.RangeRun
import Derived.StillTail
import Derived.OrdersIn
import Derived.TacticsIn
import Derived.RangeFuncRecord
import Derived.RangeFuncCalls
import Derived.RangeFuncSeq
import Derived.Lib.Split
import Derived.Lib.AtoiAll
import Derived.Shelf.LaysM
import Derived.Shelf.LaysC
import Derived.Shelf.Strconv.Itoa3
import Derived.Shelf.Strconv.AtoiAll
import Derived.Shelf.Strings.Search3
import Derived.Shelf.Strings.Cut
import Derived.Shelf.Strings.Prefix
import Derived.Shelf.Strings.Split
import Derived.Lib.AppendIntMem
import Derived.Stop.Asserts
import Derived.RowKitTokens
import Derived.Conc.MuLone
import Derived.Test.YtndniceeibflcaaGreatDoorKaa
import Derived.Test.YtndniceeibflcaaGreatDoorKac
import Derived.Test.YtndniceeibflcaaGreatDoorKad
import Derived.Test.YtndniceeibflcaaGreatDoorKag
import Derived.Test.YtndniceeibflcaaGreatDoorKai
set_option linter.unusedSimpArgs false
set_option linter.unusedVariables false
namespace Go.Proofs.YtndniceeibflcaaGreatDoor
namespace Aw
end Aw
namespace Mp
end Mp
end Go.Proofs.YtndniceeibflcaaGreatDoor
namespace Go.Proofs.YtndniceeibflcaaGreatDoor
namespace Aw
open Go.RowKit
set_option linter.unusedSimpArgs false

section
variable {P : Program}

/-- what is kept away from stays. -/
theorem StR.at {D : Ctx} {σ : St} {a : Act} {w : World} (hS : StR D σ a w) {b : Nat} (hb : D.A b) : w.heap[b]? = D.w0.heap[b]? := by
  obtain ⟨hv, _, _, _, _, hF⟩ := hS
  exact hF.block b (hF.aold b hb) (hF.dis b hb)

end
end Aw
end Go.Proofs.YtndniceeibflcaaGreatDoor

namespace Go.Proofs.YtndniceeibflcaaGreatDoor
open Aw Mp Go.RowKit
set_option linter.unusedSimpArgs false
set_option maxRecDepth 8000

theorem Acc.at {n lm : Int} {ls : List (Int × Int)} {l : List By} (h : Acc n lm ls l) : ∀ i, (hi : i < l.length) → Acc n lm ls (l.take i) ∧ erO n lm ls (l.take i) l[i] = 0 := by
  induction h with
  | nil => intro i hi; simp at hi
  | snoc h he ih =>
    rename_i l o
    intro i hi
    rcases Nat.lt_or_ge i l.length with h1 | h1
    · obtain ⟨h2, h3⟩ := ih i h1
      rw [List.take_append_of_le_length (by omega), List.getElem_append_left h1]
      exact ⟨h2, h3⟩
    · have : i = l.length := by simp at hi; omega
      subst this
      rw [List.take_append_of_le_length (Nat.le_refl _), List.take_length]
      refine ⟨h, ?_⟩
      simpa using he
end Go.Proofs.YtndniceeibflcaaGreatDoor
