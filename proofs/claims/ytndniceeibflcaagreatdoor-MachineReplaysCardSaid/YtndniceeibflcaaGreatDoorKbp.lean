/-
  Parts of several texts in one: MtC.
-/
import Derived.Test.YtndniceeibflcaaGreatDoorProg
import Derived.WalkKit
import Derived.Lib.ConvBytes
import Derived.LaidEql
import Derived.Lib.ItoaNum
import Derived.Lib.LaidTab
import Derived.KernelRfl
import GoSem.Claims
import GoSem.ClaimJoined
import Derived.Orders
import Derived.Laws.StructEq
import Derived.Maps.Keyed
import Derived.Lib.Strings
import Derived.Maps.AppendAt
import Derived.Laws.Concat
import Derived.MapKept
import Derived.Laws.MakeOwn
import Derived.Scope
import Derived.Laws.BitsLemmas
import Derived.Maps.RangeRun
import Derived.StillTail
import Derived.OrdersIn
import Derived.TacticsIn
import Derived.RangeFuncRecord
import Derived.RangeFuncCalls
import Derived.RangeFuncSeq
import Derived.Lib.Split
import Derived.Lib.AtoiAll
import Derived.Shelf.LaysM
import Derived.Shelf.LaysC
import Derived.Shelf.Strconv.Itoa3
import Derived.Shelf.Strconv.AtoiAll
import Derived.Shelf.Strings.Search3
import Derived.Shelf.Strings.Cut
import Derived.Shelf.Strings.Prefix
import Derived.Shelf.Strings.Split
import Derived.Lib.AppendIntMem
import Derived.Test.YtndniceeibflcaaGreatDoorKaa
import Derived.Test.YtndniceeibflcaaGreatDoorKab
import Derived.Test.YtndniceeibflcaaGreatDoorKac
import Derived.Test.YtndniceeibflcaaGreatDoorKad
import Derived.Test.YtndniceeibflcaaGreatDoorKae
import Derived.Test.YtndniceeibflcaaGreatDoorKag
set_option linter.unusedSimpArgs false
set_option linter.unusedVariables false
namespace Go.Proofs.YtndniceeibflcaaGreatDoor
namespace Aw
end Aw
namespace Mp
end Mp
end Go.Proofs.YtndniceeibflcaaGreatDoor
namespace Go.Proofs.YtndniceeibflcaaGreatDoor
open Aw Mp Go.RowKit
set_option linter.unusedSimpArgs false

theorem ok85 : okFn Tryz.prog 85 = true := by kernel_rfl
theorem s85 (l : By) (hl : l.length ≤ 9223372036854775807) : ASpec Tryz.prog 85 [S l] (fun r Ms => r = B (ordB l) ∧ Ms = []) := by
  refine aspec_of (own := []) Tryz.func85 rfl ok85 ?_
  simp only [wB, awp, asN, St.ev, St.step, setS, killS, AV.kill, AV.killL, Mem.kill, Nat.reduceAdd, Nat.reduceSub, Int.reduceAdd, Int.reduceSub, Tryz.ntmps85]
  refine swp_loop' (fun k : Nat => ⟨[S l, .bot, .bot, I k, .bot, .bot, .bot, .bot, .bot, .bot, .bot, .bot, .bot, .bot, .bot, .bot, .bot, .bot, .bot, .bot, .bot, .bot], []⟩) (fun k => k ≤ l.length ∧ (10 : UInt8) ∉ l.take k) (fun k => l.length - k) 0 (le_sl (by simp [leSl])) ⟨Nat.zero_le _, by simp⟩ ?_
  rintro k ⟨hk, hno⟩
  refine awp_sound (own := []) _ _ _ _ _ ?_
  simp only [wB, awp, binC, cmpC, asB, asI, lenA, St.ev, St.step, setS, killS, AV.kill, AV.killL, Mem.kill, Nat.reduceAdd, Int.reduceAdd, lenK]
  by_cases h : k < l.length
  · have h' : (k : Int) < l.length := by omega
    have hg : l.getD k 0 = l[k] := by rw [List.getD_eq_getElem?_getD, List.getElem?_eq_getElem h]; rfl
    simp only [wB, awp, binC, cmpC, asB, asI, St.ev, St.step, setS, killS, AV.kill, AV.killL, Mem.kill, Nat.reduceAdd, Int.reduceAdd, asStr, decide_eq_true h', Int.toNat_natCast, hg]
    refine ⟨⟨by omega, h'⟩, ?_⟩
    by_cases h10 : l[k] = 10
    · have h'' : (l[k].toNat : Int) = 10 := by rw [h10]; rfl
      simp only [wB, awp, asN, St.ev, St.step, setS, killS, AV.kill, AV.killL, Mem.kill, Nat.reduceAdd, Int.reduceAdd, decide_eq_true h'']
      refine aend_frz rfl ⟨?_, rfl⟩
      have : (10 : UInt8) ∈ l := h10 ▸ List.getElem_mem h
      simp [ordB, this]
      rfl
    · have h'' : ¬ (l[k].toNat : Int) = 10 := fun e => by
        have e3 : l[k].toNat = (10 : UInt8).toNat := by show _ = 10; omega
        exact h10 (UInt8.toNat_inj.1 e3)
      simp only [wB, awp, binC, arithC, cmpC, asI, asN, St.ev, St.step, setS, killS, AV.kill, AV.killL, Mem.kill, Nat.reduceAdd, Int.reduceAdd, isU, decide_eq_false h'']
      refine ⟨by unfold lim; omega, k + 1, le_sl (by simp [leSl]), ⟨by omega, ?_⟩, by omega⟩
      rw [List.take_add_one, List.getElem?_eq_getElem h]
      simp only [Option.toList_some, List.mem_append, List.mem_singleton, not_or]
      exact ⟨hno, fun e => h10 e.symm⟩
  · have h' : ¬ (k : Int) < l.length := by omega
    rw [List.take_of_length_le (by omega)] at hno
    simp only [wB, awp, binC, cmpC, asI, lenA, St.ev, St.step, setS, killS, AV.kill, AV.killL, Mem.kill, Nat.reduceAdd, Int.reduceAdd, lenK, decide_eq_false h']
    have hno' : l.contains 10 = false := by simpa using hno
    by_cases h1 : (1 : Int) ≤ l.length
    · simp only [wB, awp, binC, cmpC, asB, asI, asN, lenA, St.ev, St.step, setS, killS, AV.kill, AV.killL, Mem.kill, lenK, decide_eq_true h1]
      refine aend_frz rfl ⟨?_, rfl⟩
      have e1 : decide (1 ≤ l.length) = true := decide_eq_true (by omega)
      simp only [ordB, e1, hno', Bool.true_and, Bool.not_false, Bool.and_true]
      have e : decide ((l.length : Int) ≤ 30) = decide (l.length ≤ 30) := by congr 1; exact propext ⟨fun _ => by omega, fun _ => by omega⟩
      rw [← e]
      rfl
    · simp only [wB, awp, asB, asN, St.ev, St.step, setS, killS, AV.kill, AV.killL, Mem.kill, decide_eq_false h1]
      refine aend_frz rfl ⟨?_, rfl⟩
      have e2 : decide (1 ≤ l.length) = false := decide_eq_false (by omega)
      simp only [ordB, e2, Bool.false_and]
      rfl
end Go.Proofs.YtndniceeibflcaaGreatDoor
