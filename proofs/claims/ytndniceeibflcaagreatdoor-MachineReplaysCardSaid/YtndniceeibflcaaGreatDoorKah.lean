/-
  Parts of several texts in one: MzA.
-/
import Derived.Test.YtndniceeibflcaaGreatDoorProg
import Derived.WalkKit
import Derived.Lib.ConvBytes
import Derived.LaidEql
import Derived.Lib.ItoaNum
import Derived.Lib.LaidTab
import Derived.KernelRfl
import GoSem.Claims
import GoSem.ClaimJoined
import Derived.Orders
import Derived.Laws.StructEq
import Derived.Maps.Keyed
import Derived.Lib.Strings
import Derived.Maps.AppendAt
import Derived.Laws.Concat
import Derived.MapKept
import Derived.Laws.MakeOwn
import Derived.Scope
import Derived.Laws.BitsLemmas
import Derived.Maps.RangeRun
import Derived.StillTail
import Derived.OrdersIn
import Derived.TacticsIn
import Derived.RangeFuncRecord
import Derived.RangeFuncCalls
import Derived.RangeFuncSeq
import Derived.Lib.Split
import Derived.Lib.AtoiAll
import Derived.Test.YtndniceeibflcaaGreatDoorKaa
import Derived.Test.YtndniceeibflcaaGreatDoorKac
import Derived.Test.YtndniceeibflcaaGreatDoorKad
import Derived.Test.YtndniceeibflcaaGreatDoorKae
import Derived.Test.YtndniceeibflcaaGreatDoorKag
set_option linter.unusedSimpArgs false
set_option linter.unusedVariables false
namespace Go.Proofs.YtndniceeibflcaaGreatDoor
namespace Aw
end Aw
namespace Mp
end Mp
end Go.Proofs.YtndniceeibflcaaGreatDoor
namespace Go.Proofs.YtndniceeibflcaaGreatDoor
open Aw Mp Go.RowKit
set_option linter.unusedSimpArgs false

/-- what is in a list, told by the places. -/
theorem memL_true {α : Type} [DecidableEq α] {l : List α} {x : α} {k : Nat} (h : k < l.length) (hx : l[k] = x) : memL l x = true := by rw [memL_eq, ← hx]; exact List.getElem_mem h
theorem memL_false {α : Type} [DecidableEq α] {l : List α} {x : α} (h : ∀ j (hj : j < l.length), l[j] ≠ x) : memL l x = false := by
  rw [Bool.eq_false_iff, ne_eq, memL_eq]
  intro hx
  obtain ⟨j, hj, e⟩ := List.mem_iff_getElem.1 hx
  exact h j hj e
theorem ok50 : okFn Tryz.prog 50 = true := by kernel_rfl
theorem s50 (l : List Int) (x : Int) (hl : l.length ≤ 1000000) : ASpec Tryz.prog 50 [.s 1 (intsA l), I x] (fun r Ms => r = B (memL l x) ∧ Ms = []) := by
  refine aspec_of (own := []) Tryz.func50 rfl ok50 ?_
  simp only [wB, awp, asN, St.ev, St.step, setS, killS, AV.kill, AV.killL, Mem.kill, Nat.reduceAdd, Nat.reduceSub, Int.reduceAdd, Int.reduceSub, Tryz.ntmps50]
  refine swp_loop' (fun k : Nat => ⟨[.s 1 (intsA l), I x, .bot, .bot, .bot, I k, .bot, .bot, .bot, .bot, .bot, .bot, .bot, .bot, .bot, .bot, .bot, .bot], []⟩) (fun k => k ≤ l.length ∧ ∀ j, j < k → ∀ h : j < l.length, l[j] ≠ x) (fun k => l.length - k) 0 (le_sl (by simp [leSl, intsA_len, prsA_len])) ⟨Nat.zero_le _, by omega⟩ ?_
  rintro k ⟨hk, hno⟩
  refine awp_sound (own := []) _ _ _ _ _ ?_
  simp only [wB, awp, binC, cmpC, asB, asI, lenA, St.ev, St.step, setS, killS, AV.kill, AV.killL, Mem.kill, Nat.reduceAdd, Int.reduceAdd, lenK]
  by_cases h : k < l.length
  · have h' : (k : Int) < (l.length : Int) := by omega
    simp only [wB, awp, binC, idxC, cmpC, asP, asS, asB, asI, loadA, St.ev, St.step, setS, killS, AV.kill, AV.killL, Mem.kill, AV.cells, AV.flat, AV.single, Nat.reduceAdd, Int.reduceAdd, decide_eq_true h', aget_ints h, Int.toNat_natCast]
    refine ⟨by omega, ?_⟩
    by_cases hx : l[k] = x
    · simp only [wB, awp, asN, St.ev, St.step, setS, killS, AV.kill, AV.killL, Mem.kill, Nat.reduceAdd, Int.reduceAdd, decide_eq_true hx]
      exact aend_frz rfl ⟨by rw [memL_true h hx]; rfl, rfl⟩
    · simp only [wB, awp, binC, arithC, cmpC, asI, asN, St.ev, St.step, setS, killS, AV.kill, AV.killL, Mem.kill, Nat.reduceAdd, Int.reduceAdd, isU, decide_eq_false hx]
      exact ⟨by unfold lim; omega, k + 1, le_sl (by simp [leSl, intsA_len, prsA_len]), ⟨h, upto hno fun _ => hx⟩, by omega⟩
  · have h' : ¬ (k : Int) < (l.length : Int) := by omega
    simp only [wB, awp, asN, St.ev, St.step, setS, killS, AV.kill, AV.killL, Mem.kill, Nat.reduceAdd, Int.reduceAdd, decide_eq_false h']
    exact aend_frz rfl ⟨by rw [memL_false fun j hj => hno j (by omega) hj]; rfl, rfl⟩

end Go.Proofs.YtndniceeibflcaaGreatDoor
