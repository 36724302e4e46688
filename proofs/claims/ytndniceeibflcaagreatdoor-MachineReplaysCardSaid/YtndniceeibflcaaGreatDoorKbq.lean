/-
  Parts of several texts in one: MtC.
-/
import Derived.Test.YtndniceeibflcaaGreatDoorProg
import Derived.WalkKit
import Derived.Lib.ConvBytes
import Derived.LaidEql
import Derived.Lib.ItoaNum
import Derived.Lib.LaidTab
import Derived.KernelRfl
import GoSem.Claims
import GoSem.ClaimJoined
import Derived.Orders
import Derived.Laws.StructEq
import Derived.Maps.Keyed
import Derived.Lib.Strings
import Derived.Maps.AppendAt
import Derived.Laws.Concat
import Derived.MapKept
import Derived.Laws.MakeOwn
import Derived.Scope
import Derived.Laws.BitsLemmas
import Derived.Maps.RangeRun
import Derived.StillTail
import Derived.OrdersIn
import Derived.TacticsIn
import Derived.RangeFuncRecord
import Derived.RangeFuncCalls
import Derived.RangeFuncSeq
import Derived.Lib.Split
import Derived.Lib.AtoiAll
import Derived.Shelf.LaysM
import Derived.Shelf.LaysC
import Derived.Shelf.Strconv.Itoa3
import Derived.Shelf.Strconv.AtoiAll
import Derived.Shelf.Strings.Search3
import Derived.Shelf.Strings.Cut
import Derived.Shelf.Strings.Prefix
import Derived.Shelf.Strings.Split
import Derived.Lib.AppendIntMem
import Derived.Test.YtndniceeibflcaaGreatDoorKaa
import Derived.Test.YtndniceeibflcaaGreatDoorKac
import Derived.Test.YtndniceeibflcaaGreatDoorKad
import Derived.Test.YtndniceeibflcaaGreatDoorKae
import Derived.Test.YtndniceeibflcaaGreatDoorKag
import Derived.Test.YtndniceeibflcaaGreatDoorKai
set_option linter.unusedSimpArgs false
set_option linter.unusedVariables false
namespace Go.Proofs.YtndniceeibflcaaGreatDoor
namespace Aw
end Aw
namespace Mp
end Mp
end Go.Proofs.YtndniceeibflcaaGreatDoor
namespace Go.Proofs.YtndniceeibflcaaGreatDoor
open Aw Mp Go.RowKit
set_option linter.unusedSimpArgs false

theorem itoa_nat (n : Nat) : Lib.itoa (n : Int) = Lib.decDigits n := by
  unfold Lib.itoa
  rw [if_neg (by omega)]
  simp

theorem ten (n : Nat) (h : n < 10) : (([48, 49, 50, 51, 52, 53, 54, 55, 56, 57] : List UInt8).take (n + 1)).drop n = Lib.decDigits n := by
  rw [Lib.decDigits, dif_pos h]
  have : ∀ m < 10, (([48, 49, 50, 51, 52, 53, 54, 55, 56, 57] : List UInt8).take (m + 1)).drop m = [UInt8.ofNat (48 + m)] := by decide
  exact this n h

theorem ok83 : okFn Tryz.prog 83 = true := by kernel_rfl
theorem s83 (n : Nat) (hn : n ≤ 1000000000) : ASpec Tryz.prog 83 [I n] (fun r Ms => r = S (Lib.decDigits n) ∧ Ms = []) := by
  induction n using Nat.strongRecOn with
  | _ n ih =>
    refine aspec_of (own := []) Tryz.func83 rfl ok83 ?_
    by_cases h : n < 10
    · have h' : (n : Int) < 10 := by omega
      have e : ((n : Int) + 1).toNat = n + 1 := by omega
      simp only [wB, awp, binC, arithC, cmpC, asS, asB, asI, asN, bndA, St.ev, St.step, setS, killS, AV.kill, AV.killL, Mem.kill, Nat.reduceAdd, Nat.reduceSub, Int.reduceAdd, Int.reduceSub, isU, asStr, Tryz.ntmps83, decide_eq_true h', Int.toNat_natCast, e, ten n h]
      exact ⟨by unfold lim; omega, ⟨by omega, by omega, by simp; omega⟩, aend_frz rfl ⟨rfl, rfl⟩⟩
    · have h' : ¬ (n : Int) < 10 := by omega
      have e1 : (n : Int).tdiv 10 = ((n / 10 : Nat) : Int) := (Int.ofNat_tdiv n 10).symm
      have e2 : (n : Int).tmod 10 = ((n % 10 : Nat) : Int) := (Int.ofNat_tmod n 10).symm
      simp only [wB, awp, binC, arithC, cmpC, asB, asI, asN, St.ev, St.step, setS, killS, AV.kill, AV.killL, Mem.kill, Nat.reduceAdd, Nat.reduceSub, Int.reduceAdd, Int.reduceSub, Int.reduceEq, isU, Tryz.ntmps83, decide_eq_false h', e1]
      refine ⟨by unfold lim; omega, acall_v (ih (n / 10) (by omega) (by omega)) rfl rfl ?_⟩
      simp only [wB, binC, arithC, cmpC, asI, St.ev, St.step, setS, killS, AV.kill, AV.killL, Mem.kill, Int.reduceEq, isU, e2]
      refine acall_v (ih (n % 10) (by omega) (by omega)) rfl rfl ?_
      simp only [wB, awp, binC, eqC, asG, asB, asI, asN, St.ev, St.step, setS, killS, AV.kill, AV.killL, Mem.kill, asStr, strC]
      have l1 := dec_len (u := n / 10) (by omega)
      have l2 := dec_len (u := n % 10) (by omega)
      refine ⟨by omega, aend_frz rfl ⟨?_, rfl⟩⟩
      have e3 : Lib.decDigits n = Lib.decDigits (n / 10) ++ [UInt8.ofNat (48 + n % 10)] := by conv => lhs; rw [Lib.decDigits, dif_neg h]
      have e4 : Lib.decDigits (n % 10) = [UInt8.ofNat (48 + n % 10)] := by rw [Lib.decDigits, dif_pos (by omega)]
      rw [e3, ← e4]
      rfl

end Go.Proofs.YtndniceeibflcaaGreatDoor
