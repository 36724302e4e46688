/-
  Parts of several texts in one: MwY.
-/
import Derived.Test.YtndniceeibflcaaGreatDoorProg
import Derived.WalkKit
import Derived.Lib.ConvBytes
import Derived.LaidEql
import Derived.Lib.ItoaNum
import Derived.Lib.LaidTab
import Derived.KernelRfl
import GoSem.Claims
import GoSem.ClaimJoined
import Derived.Orders
import Derived.Laws.StructEq
import Derived.Maps.Keyed
import Derived.Lib.Strings
import Derived.Maps.AppendAt
import Derived.Laws.Concat
import Derived.MapKept
import Derived.Laws.MakeOwn
import Derived.Scope
import Derived.Laws.BitsLemmas
import Derived.Maps.RangeRun
import Derived.StillTail
import Derived.OrdersIn
import Derived.TacticsIn
import Derived.RangeFuncRecord
import Derived.RangeFuncCalls
import Derived.RangeFuncSeq
import Derived.Lib.Split
import Derived.Lib.AtoiAll
import Derived.Shelf.LaysM
import Derived.Shelf.LaysC
import Derived.Shelf.Strconv.Itoa3
import Derived.Shelf.Strconv.AtoiAll
import Derived.Shelf.Strings.Search3
import Derived.Shelf.Strings.Cut
import Derived.Shelf.Strings.Prefix
import Derived.Shelf.Strings.Split
import Derived.Lib.AppendIntMem
import Derived.Stop.Asserts
import Derived.RowKitTokens
import Derived.Conc.MuLone
import Derived.Test.YtndniceeibflcaaGreatDoorKaa
import Derived.Test.YtndniceeibflcaaGreatDoorKac
import Derived.Test.YtndniceeibflcaaGreatDoorKad
import Derived.Test.YtndniceeibflcaaGreatDoorKae
import Derived.Test.YtndniceeibflcaaGreatDoorKag
import Derived.Test.YtndniceeibflcaaGreatDoorKai
import Derived.Test.YtndniceeibflcaaGreatDoorKaq
set_option linter.unusedSimpArgs false
set_option linter.unusedVariables false
namespace Go.Proofs.YtndniceeibflcaaGreatDoor
namespace Aw
end Aw
namespace Mp
end Mp
end Go.Proofs.YtndniceeibflcaaGreatDoor
namespace Go.Proofs.YtndniceeibflcaaGreatDoor
open Aw Mp Go.RowKit
set_option linter.unusedSimpArgs false

theorem g4_eq (g h : G4) : [g.k, g.a, g.b, g.t] = [h.k, h.a, h.b, h.t] ↔ g = h := by
  cases g; cases h; simp
theorem ok53 : okFn Tryz.prog 53 = true := by kernel_rfl
theorem s53 (a b : List G4) (ha : a.length ≤ 1000000) (hb : b.length ≤ 1000000) : ASpec Tryz.prog 53 [.s 4 (gtsA a), .s 4 (gtsA b)] (fun r Ms => r = B (decide (a = b)) ∧ Ms = []) := by
  refine aspec_of (own := []) Tryz.func53 rfl ok53 ?_
  simp only [wB, awp, binC, cmpC, asB, asI, asN, lenA, St.ev, St.step, setS, killS, AV.kill, AV.killL, Mem.kill, Nat.reduceAdd, Nat.reduceSub, Int.reduceAdd, Int.reduceSub, lenK, Tryz.ntmps53, gtsA_len]
  by_cases hl : (a.length : Int) = b.length
  · simp only [wB, awp, asN, St.ev, St.step, setS, killS, AV.kill, AV.killL, Mem.kill, Nat.reduceAdd, Int.reduceAdd, decide_eq_true hl]
    refine swp_loop' (fun k : Nat => ⟨[.s 4 (gtsA a), .s 4 (gtsA b), .bot, .bot, .bot, I k, .bot, .bot, .bot, .bot, .bot, .bot, .bot, .bot, .bot, .bot, .bot, .bot, .bot, .bot, .bot, .bot, .bot, .bot, .bot, .bot], []⟩) (fun k => k ≤ a.length ∧ ∀ j (h : j < a.length) (h' : j < b.length), j < k → a[j] = b[j]) (fun k => a.length - k) 0 (le_sl (by simp [leSl, gtsA_len])) ⟨Nat.zero_le _, by omega⟩ ?_
    rintro k ⟨hk, hno⟩
    refine awp_sound (own := []) _ _ _ _ _ ?_
    simp only [wB, awp, binC, cmpC, asB, asI, lenA, St.ev, St.step, setS, killS, AV.kill, AV.killL, Mem.kill, Nat.reduceAdd, Int.reduceAdd, lenK, gtsA_len]
    by_cases h : k < a.length
    · have h' : (k : Int) < (a.length : Int) := by omega
      have h2 : k < b.length := by omega
      simp only [awp, ACond_true, decide_eq_true h']
      refine swp_draw (own := []) (.take 0 .plain [] (.take 1 .plain [] (.take 2 .reads [] (.take 3 .reads [] (.take 4 .plain [] (.take 5 .plain [] (.take 6 .reads [] (.take 7 .reads [] (.take 8 .plain [] (.done)))))))))) [⟨18, 1, 0, 0, true⟩, ⟨19, 32, 0, 0, true⟩, ⟨20, 393216, 3, 0, true⟩, ⟨21, 524288, 4, 0, true⟩, ⟨22, 2, 0, 0, true⟩, ⟨23, 32, 0, 0, true⟩, ⟨24, 6291456, 48, 0, true⟩, ⟨25, 8388608, 64, 0, true⟩, ⟨26, 17825792, 136, 0, true⟩] mo (by kernel_rfl) ?_
      simp only [wB, awp, binC, idxC, eqC, asP, asS, asG, asB, asI, loadA, St.ev, setS, AV.cells, AV.flat, AV.single, ints, Nat.reduceAdd, Nat.reduceLeDiff, Int.reduceAdd, ASch, St.put, Md.mem, Md.need, aget_gts h, aget_gts h2, Int.toNat_natCast]
      refine ⟨by omega, by omega, ?_⟩
      by_cases hx : [a[k].k, a[k].a, a[k].b, a[k].t] = [b[k].k, b[k].a, b[k].b, b[k].t]
      · simp only [wB, awp, binC, arithC, cmpC, asI, asN, St.ev, St.step, setS, killS, AV.kill, AV.killL, Mem.kill, Nat.reduceAdd, Int.reduceAdd, St.put, isU, decide_eq_true hx]
        refine ⟨by unfold lim; omega, k + 1, le_sl (by simp [leSl, gtsA_len]), ⟨h, fun j hj hj' hlt => ?_⟩, by omega⟩
        rcases Nat.lt_or_ge j k with h1 | h1
        · exact hno j hj hj' h1
        · obtain rfl : j = k := by omega
          exact (g4_eq _ _).1 hx
      · simp only [wB, awp, asN, St.ev, St.step, setS, killS, AV.kill, AV.killL, Mem.kill, Nat.reduceAdd, Int.reduceAdd, St.put, decide_eq_false hx]
        refine aend_frz rfl ⟨?_, rfl⟩
        rw [decide_eq_false (fun e => hx (by subst e; rfl))]
        rfl
    · have h' : ¬ (k : Int) < (a.length : Int) := by omega
      simp only [wB, awp, asN, St.ev, St.step, setS, killS, AV.kill, AV.killL, Mem.kill, Nat.reduceAdd, Int.reduceAdd, decide_eq_false h']
      refine aend_frz rfl ⟨?_, rfl⟩
      rw [decide_eq_true (List.ext_getElem (by omega) fun j h1 h2 => hno j h1 h2 (by omega))]
      rfl
  · simp only [wB, awp, asN, St.ev, St.step, setS, killS, AV.kill, AV.killL, Mem.kill, Nat.reduceAdd, Int.reduceAdd, decide_eq_false hl]
    refine aend_frz rfl ⟨?_, rfl⟩
    rw [decide_eq_false (fun e => hl (by rw [e]))]
    rfl

end Go.Proofs.YtndniceeibflcaaGreatDoor
