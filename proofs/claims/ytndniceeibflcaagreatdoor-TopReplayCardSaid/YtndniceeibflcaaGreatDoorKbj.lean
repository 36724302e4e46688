/-
  Parts of several texts in one: MzA, MwJ, MxA.
-/
import Derived.Test.YtndniceeibflcaaGreatDoorProg
import Derived.WalkKit
import Derived.Lib.ConvBytes
import Derived.LaidEql
import Derived.Lib.ItoaNum
import Derived.Lib.LaidTab
import Derived.KernelRfl
import GoSem.Claims
import GoSem.ClaimJoined
import Derived.Orders
import Derived.Laws.StructEq
import Derived.Maps.Keyed
import Derived.Lib.Strings
import Derived.Maps.AppendAt
import Derived.Laws.Concat
import Derived.MapKept
import Derived.Laws.MakeOwn
import Derived.Scope
import Derived.Laws.BitsLemmas
import Derived.Maps.RangeRun
import Derived.StillTail
import Derived.OrdersIn
import Derived.TacticsIn
import Derived.RangeFuncRecord
import Derived.RangeFuncCalls
import Derived.RangeFuncSeq
import Derived.Lib.Split
import Derived.Lib.AtoiAll
import Derived.Shelf.LaysM
import Derived.Shelf.LaysC
import Derived.Shelf.Strconv.Itoa3
import Derived.Shelf.Strconv.AtoiAll
import Derived.Shelf.Strings.Search3
import Derived.Shelf.Strings.Cut
import Derived.Shelf.Strings.Prefix
import Derived.Shelf.Strings.Split
import Derived.Lib.AppendIntMem
import Derived.Stop.Asserts
import Derived.RowKitTokens
import Derived.Conc.MuLone
import Derived.Test.YtndniceeibflcaaGreatDoorKaa
import Derived.Test.YtndniceeibflcaaGreatDoorKac
import Derived.Test.YtndniceeibflcaaGreatDoorKad
import Derived.Test.YtndniceeibflcaaGreatDoorKae
import Derived.Test.YtndniceeibflcaaGreatDoorKag
import Derived.Test.YtndniceeibflcaaGreatDoorKai
import Derived.Test.YtndniceeibflcaaGreatDoorKap
set_option linter.unusedSimpArgs false
set_option linter.unusedVariables false
namespace Go.Proofs.YtndniceeibflcaaGreatDoor
namespace Aw
end Aw
namespace Mp
end Mp
end Go.Proofs.YtndniceeibflcaaGreatDoor
namespace Go.Proofs.YtndniceeibflcaaGreatDoor
open Aw Mp Go.RowKit
set_option linter.unusedSimpArgs false

theorem ok52 : okFn Tryz.prog 52 = true := by kernel_rfl
theorem s52 (a b : List Int) (ha : a.length ≤ 1000000) (hb : b.length ≤ 1000000) : ASpec Tryz.prog 52 [.s 1 (intsA a), .s 1 (intsA b)] (fun r Ms => r = B (decide (a = b)) ∧ Ms = []) := by
  refine aspec_of (own := []) Tryz.func52 rfl ok52 ?_
  simp only [wB, awp, binC, cmpC, asB, asI, asN, lenA, St.ev, St.step, setS, killS, AV.kill, AV.killL, Mem.kill, Nat.reduceAdd, Nat.reduceSub, Int.reduceAdd, Int.reduceSub, lenK, Tryz.ntmps52]
  by_cases hl : (a.length : Int) = b.length
  · simp only [wB, awp, asN, St.ev, St.step, setS, killS, AV.kill, AV.killL, Mem.kill, Nat.reduceAdd, Int.reduceAdd, decide_eq_true hl]
    refine swp_loop' (fun k : Nat => ⟨[.s 1 (intsA a), .s 1 (intsA b), .bot, .bot, .bot, I k, .bot, .bot, .bot, .bot, .bot, .bot, .bot, .bot, .bot, .bot, .bot, .bot, .bot, .bot, .bot, .bot, .bot, .bot, .bot, .bot], []⟩) (fun k => k ≤ a.length ∧ ∀ j (h : j < a.length) (h' : j < b.length), j < k → a[j] = b[j]) (fun k => a.length - k) 0 (le_sl (by simp [leSl, intsA_len, prsA_len])) ⟨Nat.zero_le _, by omega⟩ ?_
    rintro k ⟨hk, hno⟩
    refine awp_sound (own := []) _ _ _ _ _ ?_
    simp only [wB, awp, binC, cmpC, asB, asI, lenA, St.ev, St.step, setS, killS, AV.kill, AV.killL, Mem.kill, Nat.reduceAdd, Int.reduceAdd, lenK]
    by_cases h : k < a.length
    · have h' : (k : Int) < (a.length : Int) := by omega
      have h2 : k < b.length := by omega
      simp only [awp, ACond_true, decide_eq_true h']
      refine swp_draw (own := []) (.take 0 .plain [] (.take 1 .plain [] (.take 2 .reads [] (.take 3 .reads [] (.take 4 .plain [] (.take 5 .plain [] (.take 6 .reads [] (.take 7 .reads [] (.take 8 .plain [] (.done)))))))))) [⟨18, 1, 0, 0, true⟩, ⟨19, 32, 0, 0, true⟩, ⟨20, 393216, 3, 0, true⟩, ⟨21, 524288, 4, 0, true⟩, ⟨22, 2, 0, 0, true⟩, ⟨23, 32, 0, 0, true⟩, ⟨24, 6291456, 48, 0, true⟩, ⟨25, 8388608, 64, 0, true⟩, ⟨26, 17825792, 136, 0, true⟩] mo (by kernel_rfl) ?_
      simp only [wB, awp, binC, idxC, cmpC, asP, asS, asB, asI, loadA, St.ev, setS, AV.cells, AV.flat, AV.single, ASch, St.put, Md.mem, Md.need, aget_ints h, aget_ints h2, Int.toNat_natCast]
      refine ⟨by omega, by omega, ?_⟩
      by_cases hx : a[k] = b[k]
      · simp only [wB, awp, binC, arithC, cmpC, asI, asN, St.ev, St.step, setS, killS, AV.kill, AV.killL, Mem.kill, Nat.reduceAdd, Int.reduceAdd, St.put, isU, decide_eq_true hx]
        refine ⟨by unfold lim; omega, k + 1, le_sl (by simp [leSl, intsA_len, prsA_len]), ⟨h, fun j hj hj' hlt => ?_⟩, by omega⟩
        rcases Nat.lt_or_ge j k with h1 | h1
        · exact hno j hj hj' h1
        · obtain rfl : j = k := by omega
          exact hx
      · simp only [wB, awp, asN, St.ev, St.step, setS, killS, AV.kill, AV.killL, Mem.kill, Nat.reduceAdd, Int.reduceAdd, St.put, decide_eq_false hx]
        refine aend_frz rfl ⟨?_, rfl⟩
        rw [decide_eq_false (fun e => hx (by subst e; rfl))]
        rfl
    · have h' : ¬ (k : Int) < (a.length : Int) := by omega
      simp only [wB, awp, asN, St.ev, St.step, setS, killS, AV.kill, AV.killL, Mem.kill, Nat.reduceAdd, Int.reduceAdd, decide_eq_false h']
      refine aend_frz rfl ⟨?_, rfl⟩
      rw [decide_eq_true (List.ext_getElem (by omega) fun j h1 h2 => hno j h1 h2 (by omega))]
      rfl
  · simp only [wB, awp, asN, St.ev, St.step, setS, killS, AV.kill, AV.killL, Mem.kill, Nat.reduceAdd, Int.reduceAdd, decide_eq_false hl]
    refine aend_frz rfl ⟨?_, rfl⟩
    rw [decide_eq_false (fun e => hl (by rw [e]))]
    rfl

end Go.Proofs.YtndniceeibflcaaGreatDoor

namespace Go.Proofs.YtndniceeibflcaaGreatDoor
open Aw Mp Go.RowKit
set_option linter.unusedSimpArgs false
set_option maxRecDepth 8000

theorem ok45 : okFn Tryz.prog 45 = true := by kernel_rfl
theorem m45 (m : Mch) (hs : Sml m) : MSpec Tryz.prog 45 [.q 0 13 0 0] (memD m) (fun r N => r = .s 1 (intsA m.st.heats) ∧ N = memD m) := by
  refine mspec_of2 (own := [3, 1001]) Tryz.func45 rfl ok45 ?_
  intro vs
  obtain ⟨gh, hgh⟩ : ∃ gh, gh = some (ghost vs [AV.q 0 13 0 0]) := ⟨_, rfl⟩
  simp only [wB, awp, asN, St.ev, St.step, setS, killS, AV.kill, AV.killL, Mem.kill, Nat.reduceAdd, Nat.reduceEqDiff, Nat.reduceSub, Int.reduceAdd, Int.reduceSub, Tryz.ntmps45, ← hgh, memD]
  refine swp_fm (own := [3]) 1 rfl rfl rfl ?_
  simp only [wB, St.ev, St.step, setS, killS, AV.kill, AV.killL, Mem.kill, AV.cells, Mch.ob, Mch.od, Mch.cells, List.take_succ_cons, List.take_zero]
  refine acall_f (fspec_of (m67f m hs.mu hs.p hs.h hs.c) [1, 3] rfl (by exact ⟨rfl, rfl, trivial⟩) rfl rfl (by simp [freeM, memD, Mch.ob, Mch.od, Mch.cells, AV.freeL, AV.free, strsA_free]) (N := [some m.ob, none, some m.od, gh]) (by rw [hgh]; rfl)) ?_
  simp only [wB, awp, asP, asQ, asT, asN, obA, loadA, storeA, putsA, mkA, Aw.newRow, St.ev, St.step, setS, killS, AV.kill, AV.killL, Mem.kill, AV.cells, AV.flat, AV.single, AV.cellular, Nat.reduceAdd, Nat.reduceEqDiff, Nat.reduceLeDiff, Int.reduceAdd, Mch.ob, Mch.od, Mch.cells, List.drop_succ_cons, List.drop_zero, AV.sub, keepG, liveI, AV.isQ, List.any_cons, List.any_nil, List.take_succ_cons, List.take_zero, stA]
  exact ⟨_, _, memD m, _, Le.refl _, rfl, by rw [hgh]; rfl, rfl, rfl, free_D _ m, rfl, rfl⟩

end Go.Proofs.YtndniceeibflcaaGreatDoor

namespace Go.Proofs.YtndniceeibflcaaGreatDoor
open Aw Mp Go.RowKit
set_option linter.unusedSimpArgs false
set_option maxRecDepth 8000

theorem doO_no {n lm : Int} {ls : List (Int × Int)} {l : List By} {o : By} (h : erO n lm ls l o ≠ 0) : doO n lm ls l o = l := by unfold doO; rw [if_neg h]

end Go.Proofs.YtndniceeibflcaaGreatDoor
