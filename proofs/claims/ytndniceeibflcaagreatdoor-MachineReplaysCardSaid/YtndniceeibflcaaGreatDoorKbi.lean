/-
  Parts of several texts in one: MtC.
-/
import Derived.Test.YtndniceeibflcaaGreatDoorProg
import Derived.WalkKit
import Derived.Lib.ConvBytes
import Derived.LaidEql
import Derived.Lib.ItoaNum
import Derived.Lib.LaidTab
import Derived.KernelRfl
import GoSem.Claims
import GoSem.ClaimJoined
import Derived.Orders
import Derived.Laws.StructEq
import Derived.Maps.Keyed
import Derived.Lib.Strings
import Derived.Maps.AppendAt
import Derived.Laws.Concat
import Derived.MapKept
import Derived.Laws.MakeOwn
import Derived.Scope
import Derived.Laws.BitsLemmas
import Derived.Maps.RangeRun
import Derived.StillTail
import Derived.OrdersIn
import Derived.TacticsIn
import Derived.RangeFuncRecord
import Derived.RangeFuncCalls
import Derived.RangeFuncSeq
import Derived.Lib.Split
import Derived.Lib.AtoiAll
import Derived.Shelf.LaysM
import Derived.Shelf.LaysC
import Derived.Shelf.Strconv.Itoa3
import Derived.Shelf.Strconv.AtoiAll
import Derived.Shelf.Strings.Search3
import Derived.Shelf.Strings.Cut
import Derived.Shelf.Strings.Prefix
import Derived.Shelf.Strings.Split
import Derived.Lib.AppendIntMem
import Derived.Test.YtndniceeibflcaaGreatDoorKaa
import Derived.Test.YtndniceeibflcaaGreatDoorKac
import Derived.Test.YtndniceeibflcaaGreatDoorKad
import Derived.Test.YtndniceeibflcaaGreatDoorKae
import Derived.Test.YtndniceeibflcaaGreatDoorKag
import Derived.Test.YtndniceeibflcaaGreatDoorKai
set_option linter.unusedSimpArgs false
set_option linter.unusedVariables false
namespace Go.Proofs.YtndniceeibflcaaGreatDoor
namespace Aw
end Aw
namespace Mp
end Mp
end Go.Proofs.YtndniceeibflcaaGreatDoor
namespace Go.Proofs.YtndniceeibflcaaGreatDoor
open Aw Mp Go.RowKit
set_option linter.unusedSimpArgs false

theorem mod1 (b : Int) : (if b.tmod 1000003 < 0 then b.tmod 1000003 + 1000003 else b.tmod 1000003) = b % 1000003 := by
  rcases Int.le_total 0 b with h | h
  · rw [Int.tmod_eq_emod_of_nonneg h, if_neg (by omega)]
  · obtain ⟨c, rfl⟩ : ∃ c, b = -c := ⟨-b, by omega⟩
    rw [Int.neg_tmod, Int.tmod_eq_emod_of_nonneg (by omega)]
    split <;> omega
theorem ok32 : okFn Tryz.prog 32 = true := by kernel_rfl
theorem s32 (b : Int) (l : By) (hl : l.length ≤ 1000000) : ASpec Tryz.prog 32 [I b, S l] (fun r Ms => r = I (sumB b l) ∧ Ms = []) := by
  refine aspec_of (own := []) Tryz.func32 rfl ok32 ?_
  have ht := tmod_lim b
  have h1 := mod1 b
  by_cases h0 : b.tmod 1000003 < 0
  case' pos => (rw [if_pos h0] at h1; simp only [wB, awp, binC, arithC, cmpC, asB, asI, asN, St.ev, St.step, setS, killS, AV.kill, AV.killL, Mem.kill, Nat.reduceAdd, Nat.reduceSub, Int.reduceAdd, Int.reduceSub, Int.reduceEq, isU, Tryz.ntmps32, decide_eq_true h0, h1]; refine ⟨by unfold lim; omega, ?_⟩)
  case' neg => (rw [if_neg h0] at h1; have h0' : ¬ b % 1000003 < 0 := by omega
                simp only [wB, awp, binC, arithC, cmpC, asB, asI, asN, St.ev, St.step, setS, killS, AV.kill, AV.killL, Mem.kill, Nat.reduceAdd, Nat.reduceSub, Int.reduceAdd, Int.reduceSub, Int.reduceEq, isU, Tryz.ntmps32, h1, decide_eq_false h0'])
  all_goals
    refine swp_loop' (fun k : Nat => ⟨[I b, S l, .bot, .bot, .bot, I (sumB b (l.take k)), I k, .bot, .bot, .bot, .bot, .bot, .bot, .bot, .bot, .bot, .bot, .bot, .bot, .bot, .bot, .bot, .bot, .bot, .bot, .bot, .bot, .bot, .bot], []⟩) (fun k => k ≤ l.length) (fun k => l.length - k) 0 (le_sl (by simp [leSl, sumB])) (Nat.zero_le _) ?_
    intro k hk
    refine awp_sound (own := []) _ _ _ _ _ ?_
    simp only [wB, awp, binC, cmpC, asB, asI, lenA, St.ev, St.step, setS, killS, AV.kill, AV.killL, Mem.kill, Nat.reduceAdd, Int.reduceAdd, lenK]
    by_cases h : k < l.length
    · have h' : (k : Int) < l.length := by omega
      have hs := sumB_lim b (l.take k)
      have hc : (l[k].toNat : Int) ≤ 255 := by have := l[k].toNat_lt; omega
      have hg : l.getD k 0 = l[k] := by rw [List.getD_eq_getElem?_getD, List.getElem?_eq_getElem h]; rfl
      simp only [wB, awp, binC, arithC, cmpC, asI, asN, St.ev, St.step, setS, killS, AV.kill, AV.killL, Mem.kill, Nat.reduceAdd, Int.reduceAdd, Int.reduceEq, isU, asStr, io3, io5, wrap_byte, decide_eq_true h', Int.toNat_natCast, hg]
      refine ⟨by unfold lim; omega, ⟨by omega, h'⟩, by unfold lim; omega, by unfold lim; omega, by unfold lim; omega, k + 1, ?_, by omega, by omega⟩
      rw [sum_take h]
      exact le_sl (by simp [leSl])
    · have h' : ¬ (k : Int) < l.length := by omega
      simp only [wB, awp, asN, St.ev, St.step, setS, killS, AV.kill, AV.killL, Mem.kill, Nat.reduceAdd, Int.reduceAdd, decide_eq_false h']
      refine aend_frz rfl ⟨?_, rfl⟩
      rw [List.take_of_length_le (by omega)]
      rfl
end Go.Proofs.YtndniceeibflcaaGreatDoor
