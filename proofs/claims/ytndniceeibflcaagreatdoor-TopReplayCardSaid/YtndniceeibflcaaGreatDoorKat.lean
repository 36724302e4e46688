/-
  Parts of several texts in one: MsB.
-/
import Derived.Test.YtndniceeibflcaaGreatDoorProg
import Derived.WalkKit
import Derived.Lib.ConvBytes
import Derived.LaidEql
import Derived.Lib.ItoaNum
import Derived.Lib.LaidTab
import Derived.KernelRfl
import GoSem.Claims
import GoSem.ClaimJoined
import Derived.Orders
import Derived.Laws.StructEq
import Derived.Maps.Keyed
import Derived.Lib.Strings
import Derived.Maps.AppendAt
import Derived.Laws.Concat
import Derived.MapKept
import Derived.Laws.MakeOwn
import Derived.Scope
import Derived.Laws.BitsLemmas
import Derived.Maps.RangeRun
import Derived.StillTail
import Derived.OrdersIn
import Derived.TacticsIn
import Derived.RangeFuncRecord
import Derived.RangeFuncCalls
import Derived.RangeFuncSeq
import Derived.Lib.Split
import Derived.Lib.AtoiAll
import Derived.Test.YtndniceeibflcaaGreatDoorRows
import Derived.Test.YtndniceeibflcaaGreatDoorChecked
import Derived.ChangeSame
import Derived.ChangeVars
import Derived.JoinedOf
import Derived.ProofKit
import Derived.RowKit
import Derived.RowKitTokens
import Derived.LaidLaws
import Derived.LaidHandle
import Derived.LaidMore
import Derived.Stop.Joined
import Derived.Stop.LaidErr
import Derived.HandedShaped
import Derived.Shelf.Vars
import Derived.Deep.Slices
import Derived.Deep.Strs
import Derived.Deep.Fields
import Derived.Lib.SmallJoins
import Derived.SliceStrings
import Derived.ChangeMaps5
import Derived.Test.YtndniceeibflcaaGreatDoorKaa
import Derived.Test.YtndniceeibflcaaGreatDoorKag
set_option linter.unusedSimpArgs false
set_option linter.unusedVariables false
namespace Go.Proofs.YtndniceeibflcaaGreatDoor
namespace Aw
end Aw
namespace Mp
end Mp
end Go.Proofs.YtndniceeibflcaaGreatDoor
namespace Go.Proofs.YtndniceeibflcaaGreatDoor
open Aw Go.ChangeShapes Go.WideShapes Go.ChangeAt Go.RowKit Go.Deep Go.Joins Go.Stop
set_option maxRecDepth 100000

section
variable {H : Type} {enc : TypeId × Value → H} {w : World}

theorem cell_at_lit {a : Addr} {v : Value} (h : w.cell? a = some v) : a.spot = none ∧ a.block < w.heap.size := by
  unfold World.cell? at h
  split at h
  · rename_i c e f hh
    refine ⟨?_, (Array.getElem?_eq_some_iff.1 hh).1⟩
    cases hsp : a.spot with
    | none => rfl
    | some s => simp [hsp] at h
  · cases h

/-- a row of cells reads as a list of abstract values. -/
theorem s_of_cells {k : Nat} {a : Addr} {n cap : Nat} {xs : List AV} {us : List Value} (hn : xs.length = n) (hc : n ≤ cap) (hm : cap ≤ maxLen) (hk : ∀ x ∈ xs, x.size = k) (hr : RL w noA noHv xs us) (hpos : 0 < k)
    (hcell : ∀ (j : Nat) (u : Value), us[j]? = some u → w.cell? (a.add j) = some u) : RV w noA noHv (.s k xs) (.slice (some a) n cap) := by
  simp only [RV, R]
  refine ⟨some a, cap, us, by rw [hn], by omega, hm, hk, hr, fun hne => ?_⟩
  have hl := RL_len xs us hk hr
  have h0 : 0 < us.length := by
    rw [hl]
    exact Nat.mul_pos (List.length_pos_iff.2 hne) hpos
  have h1 := hcell 0 us[0] (List.getElem?_eq_getElem h0)
  have ea : a.add 0 = a := by simp [Addr.add]
  rw [ea] at h1
  obtain ⟨hs, hb⟩ := cell_at_lit h1
  obtain ⟨b, off, sp⟩ := a
  simp only at hs
  subst hs
  refine ⟨b, off, rfl, hb, fun h => h, fun j u hu => ?_⟩
  have := hcell j u hu
  rw [Addr.add_lit] at this
  exact this

end
end Go.Proofs.YtndniceeibflcaaGreatDoor
