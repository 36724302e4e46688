/-
  Parts of several texts in one: Aw7, MzA, MzB, MqB, MqD, MqE, MwM, MwN, MwO, MwP, MwQ, MwR.
-/
import Derived.Test.YtndniceeibflcaaGreatDoorProg
import Derived.WalkKit
import Derived.Lib.ConvBytes
import Derived.LaidEql
import Derived.Lib.ItoaNum
import Derived.Lib.LaidTab
import Derived.KernelRfl
import GoSem.Claims
import GoSem.ClaimJoined
import Derived.Orders
import Derived.Laws.StructEq
import Derived.Maps.Keyed
import Derived.Lib.Strings
import Derived.Maps.AppendAt
import Derived.Laws.Concat
import Derived.MapKept
import Derived.Laws.MakeOwn
import Derived.Scope
import Derived.Laws.BitsLemmas
import Derived.Maps.RangeRun
import Derived.StillTail
import Derived.OrdersIn
import Derived.TacticsIn
import Derived.RangeFuncRecord
import Derived.RangeFuncCalls
import Derived.RangeFuncSeq
import Derived.Lib.Split
import Derived.Lib.AtoiAll
import Derived.Shelf.LaysM
import Derived.Shelf.LaysC
import Derived.Shelf.Strconv.Itoa3
import Derived.Shelf.Strconv.AtoiAll
import Derived.Shelf.Strings.Search3
import Derived.Shelf.Strings.Cut
import Derived.Shelf.Strings.Prefix
import Derived.Shelf.Strings.Split
import Derived.Lib.AppendIntMem
import Derived.Stop.Asserts
import Derived.RowKitTokens
import Derived.Conc.MuLone
import Derived.Test.YtndniceeibflcaaGreatDoorKaa
import Derived.Test.YtndniceeibflcaaGreatDoorKab
import Derived.Test.YtndniceeibflcaaGreatDoorKac
import Derived.Test.YtndniceeibflcaaGreatDoorKad
import Derived.Test.YtndniceeibflcaaGreatDoorKae
import Derived.Test.YtndniceeibflcaaGreatDoorKag
import Derived.Test.YtndniceeibflcaaGreatDoorKah
import Derived.Test.YtndniceeibflcaaGreatDoorKai
import Derived.Test.YtndniceeibflcaaGreatDoorKaj
import Derived.Test.YtndniceeibflcaaGreatDoorKak
set_option linter.unusedSimpArgs false
set_option linter.unusedVariables false
namespace Go.Proofs.YtndniceeibflcaaGreatDoor
namespace Aw
end Aw
namespace Mp
end Mp
end Go.Proofs.YtndniceeibflcaaGreatDoor
namespace Go.Proofs.YtndniceeibflcaaGreatDoor
namespace Aw
open Go.RowKit

section
variable {A : Nat → Prop} {P : Program} {w : World} {hv : Nat → Option Value} {M : Mem} {T : Nat → Prop}

theorem getD_at {l : List AV} {i : Nat} (h : i < l.length) : l.getD i .bot = l[i] := by rw [List.getD_eq_getElem?_getD, List.getElem?_eq_getElem h]; rfl

end

end Aw
end Go.Proofs.YtndniceeibflcaaGreatDoor

namespace Go.Proofs.YtndniceeibflcaaGreatDoor
open Aw Mp Go.RowKit
set_option linter.unusedSimpArgs false

theorem ok149 : okFn Tryz.prog 149 = true := by kernel_rfl
theorem s149 (n : Int) (ls : List (Int × Int)) (a b : Int) (hl : ls.length ≤ 1000000) : ASpec Tryz.prog 149 [trapA n ls, I a, I b] (fun r Ms => r = B (lnk ls a b) ∧ Ms = []) := by
  refine aspec_of (own := []) Tryz.func149 rfl ok149 ?_
  simp only [wB, awp, asN, St.ev, St.step, setS, killS, AV.kill, AV.killL, Mem.kill, AV.cellular, AV.pure, AV.pureL, Nat.reduceAdd, Nat.reduceSub, Int.reduceAdd, Int.reduceSub, Tryz.ntmps149, trapA]
  refine swp_loop' (fun k : Nat => ⟨[.bot, I a, I b, .p (.g [I n, .s 2 (prsA ls)]) 0, .bot, .bot, .bot, I k, .bot, .bot, .bot, .bot, .bot, .bot, .bot, .bot, .bot, .bot, .bot, .bot, .bot, .bot, .bot, .bot, .bot, .bot, .bot, .bot, .bot, .bot, .bot, .bot, .bot, .bot, .bot, .bot, .bot], []⟩) (fun k => k ≤ ls.length ∧ ∀ j, j < k → ∀ h : j < ls.length, ls[j] ≠ (min a b, max a b)) (fun k => ls.length - k) 0 (le_sl (by simp [leSl, intsA_len, prsA_len])) ⟨Nat.zero_le _, by omega⟩ ?_
  rintro k ⟨hk, hno⟩
  refine awp_sound (own := []) _ _ _ _ _ ?_
  simp only [wB, awp, binC, cmpC, asP, asB, asI, lenA, loadA, St.ev, St.step, setS, killS, AV.kill, AV.killL, Mem.kill, AV.cells, AV.flat, AV.single, Nat.reduceAdd, Nat.reduceEqDiff, Nat.reduceLeDiff, Int.reduceAdd, lenK, prsA_len]
  by_cases h : k < ls.length
  · have h' : (k : Int) < (ls.length : Int) := by omega
    simp only [wB, awp, binC, idxC, cmpC, asP, asS, asI, minmaxA, loadA, St.ev, St.step, setS, killS, AV.kill, AV.killL, Mem.kill, AV.cells, AV.flat, AV.single, Nat.reduceAdd, Nat.reduceEqDiff, Nat.reduceLeDiff, Int.reduceAdd, decide_eq_true h', aget_prs h, Int.toNat_natCast]
    refine ⟨by omega, ?_⟩
    by_cases h1 : ls[k].1 = min a b
    · simp only [wB, awp, binC, idxC, cmpC, asP, asS, asB, asI, minmaxA, loadA, St.ev, St.step, setS, killS, AV.kill, AV.killL, Mem.kill, AV.cells, AV.flat, AV.single, Nat.reduceAdd, Nat.reduceEqDiff, Nat.reduceLeDiff, Int.reduceAdd, decide_eq_true h1, aget_prs h, Int.toNat_natCast]
      refine ⟨by omega, ?_⟩
      by_cases h2 : ls[k].2 = max a b
      · simp only [wB, awp, asN, St.ev, St.step, setS, killS, AV.kill, AV.killL, Mem.kill, Nat.reduceAdd, Int.reduceAdd, decide_eq_true h2]
        exact aend_frz rfl ⟨by rw [lnk, memL_true h (Prod.ext h1 h2)]; rfl, rfl⟩
      · simp only [wB, awp, binC, arithC, cmpC, asI, asN, St.ev, St.step, setS, killS, AV.kill, AV.killL, Mem.kill, Nat.reduceAdd, Int.reduceAdd, isU, decide_eq_false h2]
        exact ⟨by unfold lim; omega, k + 1, le_sl (by simp [leSl, intsA_len, prsA_len]), ⟨h, upto hno fun _ e => h2 (by rw [e])⟩, by omega⟩
    · simp only [wB, awp, binC, arithC, cmpC, asB, asI, asN, St.ev, St.step, setS, killS, AV.kill, AV.killL, Mem.kill, Nat.reduceAdd, Int.reduceAdd, isU, decide_eq_false h1]
      exact ⟨by unfold lim; omega, k + 1, le_sl (by simp [leSl, intsA_len, prsA_len]), ⟨h, upto hno fun _ e => h1 (by rw [e])⟩, by omega⟩
  · have h' : ¬ (k : Int) < (ls.length : Int) := by omega
    simp only [wB, awp, asN, St.ev, St.step, setS, killS, AV.kill, AV.killL, Mem.kill, Nat.reduceAdd, Int.reduceAdd, decide_eq_false h']
    exact aend_frz rfl ⟨by rw [lnk, memL_false fun j hj => hno j (by omega) hj]; rfl, rfl⟩

end Go.Proofs.YtndniceeibflcaaGreatDoor

namespace Go.Proofs.YtndniceeibflcaaGreatDoor
open Aw Mp Go.RowKit
set_option linter.unusedSimpArgs false

theorem ok79 : okFn Tryz.prog 79 = true := by kernel_rfl
theorem s79 (x lo hi : Int) : ASpec Tryz.prog 79 [I x, I lo, I hi] (fun r Ms => r = B (decide (lo ≤ x ∧ x ≤ hi)) ∧ Ms = []) := by
  refine aspec_of (own := []) Tryz.func79 rfl ok79 ?_
  simp only [wB, awp, binC, cmpC, asI, asN, St.ev, St.step, setS, killS, AV.kill, AV.killL, Mem.kill, Nat.reduceAdd, Nat.reduceSub, Int.reduceAdd, Int.reduceSub, Tryz.ntmps79]
  by_cases h : lo ≤ x
  · simp only [wB, awp, binC, cmpC, asB, asI, asN, St.ev, St.step, setS, killS, AV.kill, AV.killL, Mem.kill, decide_eq_true h]
    exact aend_frz rfl ⟨by simp [h]; rfl, rfl⟩
  · simp only [wB, awp, asB, asN, St.ev, St.step, setS, killS, AV.kill, AV.killL, Mem.kill, decide_eq_false h]
    exact aend_frz rfl ⟨by simp [h]; rfl, rfl⟩

theorem mem_take_of {α : Type} {l : List α} {j k : Nat} (hk : k < l.length) (hj : j < k) (e : l[j]'(by omega) = l[k]) : l[k] ∈ l.take k := by
  rw [← e]; exact List.mem_take_iff_getElem.2 ⟨j, by omega, rfl⟩
theorem not_mem_take {α : Type} {l : List α} {k : Nat} (hk : k < l.length) (h : ∀ j, j < k → ∀ hj : j < l.length, l[j] ≠ l[k]) : l[k] ∉ l.take k := by
  intro hm
  obtain ⟨j, hj, e⟩ := List.mem_iff_getElem.1 hm
  rw [List.getElem_take] at e
  have hj' : j < k := by simp at hj; omega
  exact h j hj' (by omega) e

theorem ok78 : okFn Tryz.prog 78 = true := by kernel_rfl
theorem s78 (n : Int) (ls : List (Int × Int)) (hl : ls.length ≤ 1000000) : ASpec Tryz.prog 78 [trapA n ls] (fun r Ms => r = I (vT n ls) ∧ Ms = []) := by
  refine aspec_of (own := []) Tryz.func78 rfl ok78 ?_
  simp only [wB, awp, asP, asN, loadA, St.ev, St.step, setS, killS, AV.kill, AV.killL, Mem.kill, AV.cells, AV.flat, AV.single, AV.cellular, AV.pure, AV.pureL, Nat.reduceAdd, Nat.reduceEqDiff, Nat.reduceSub, Nat.reduceLeDiff, Int.reduceAdd, Int.reduceSub, Tryz.ntmps78, trapA]
  refine acall_v (s79 n 1 6) rfl rfl ?_
  by_cases h0 : ¬ (1 ≤ n ∧ n ≤ 6)
  · simp only [wB, awp, asB, asN, St.ev, St.step, setS, killS, AV.kill, AV.killL, Mem.kill, Nat.reduceAdd, Int.reduceAdd, decide_eq_false h0]
    exact aend_frz rfl ⟨by rw [vT, if_pos (by omega)]; rfl, rfl⟩
  have h1 : 1 ≤ n ∧ n ≤ 6 := Decidable.not_not.1 h0
  simp only [wB, awp, asB, asN, St.ev, St.step, setS, killS, AV.kill, AV.killL, Mem.kill, Nat.reduceAdd, Int.reduceAdd, decide_eq_true h1]
  refine swp_loop' (fun k : Nat => ⟨[.bot, .p (.g [I n, .s 2 (prsA ls)]) 0, .bot, I k, .bot, .bot, .bot, .bot, .bot, .bot, .bot, .bot, .bot, .bot, .bot, .bot, .bot, .bot, .bot, .bot, .bot, .bot, .bot, .bot, .bot, .bot, .bot, .bot, .bot, .bot, .bot, .bot, .bot, .bot, .bot, .bot, .bot, .bot, .bot, .bot, .bot, .bot, .bot, .bot, .bot, .bot, .bot, .bot, .bot, .bot, .bot, .bot, .bot, .bot, .bot, .bot, .bot, .bot, .bot, .bot, .bot, .bot, .bot], []⟩) (fun k => k ≤ ls.length ∧ ∀ j, j < k → ∀ h : j < ls.length, okLn n ls[j]) (fun k => ls.length - k) 0 (le_sl (by simp [leSl, prsA_len])) ⟨Nat.zero_le _, by omega⟩ ?_
  rintro k ⟨hk, hno⟩
  refine awp_sound (own := []) _ _ _ _ _ ?_
  simp only [wB, awp, binC, cmpC, asP, asB, asI, lenA, loadA, St.ev, St.step, setS, killS, AV.kill, AV.killL, Mem.kill, AV.cells, AV.flat, AV.single, Nat.reduceAdd, Nat.reduceEqDiff, Nat.reduceLeDiff, Int.reduceAdd, lenK, prsA_len]
  by_cases h : k < ls.length
  · have h' : (k : Int) < (ls.length : Int) := by omega
    simp only [wB, awp, binC, idxC, cmpC, asP, asQ, asS, asI, obA, loadA, storeA, putsA, mkA, Aw.newRow, St.ev, St.step, setS, killS, AV.kill, AV.killL, Mem.kill, AV.cells, AV.flat, AV.single, AV.cellular, Nat.reduceAdd, Nat.reduceEqDiff, Nat.reduceLeDiff, Int.reduceAdd, decide_eq_true h', aget_prs h, Int.toNat_natCast]
    have bad : ¬ okLn n ls[k] → ¬ ∀ l ∈ ls, okLn n l := fun hb ha => hb (ha _ (List.getElem_mem h))
    have ret : ¬ okLn n ls[k] → vT n ls = 1 := fun hb => by rw [vT, if_neg (by omega), if_neg (bad hb)]
    refine ⟨by omega, ?_⟩
    by_cases c1 : ls[k].1 < 0
    · simp only [wB, awp, asB, asN, St.ev, St.step, setS, killS, AV.kill, AV.killL, Mem.kill, Nat.reduceAdd, Int.reduceAdd, decide_eq_true c1]
      exact aend_frz rfl ⟨by rw [ret (fun hb => by have := hb.1; omega)]; rfl, rfl⟩
    simp only [wB, binC, cmpC, asP, asQ, asB, asI, obA, loadA, St.ev, St.step, setS, killS, AV.kill, AV.killL, Mem.kill, AV.cells, AV.flat, AV.single, Nat.reduceAdd, Nat.reduceEqDiff, Nat.reduceLeDiff, Int.reduceAdd, decide_eq_false c1]
    by_cases c2 : n ≤ ls[k].2
    · simp only [wB, awp, asB, asN, St.ev, St.step, setS, killS, AV.kill, AV.killL, Mem.kill, Nat.reduceAdd, Int.reduceAdd, decide_eq_true c2]
      exact aend_frz rfl ⟨by rw [ret (fun hb => by have := hb.2.1; omega)]; rfl, rfl⟩
    simp only [wB, awp, binC, cmpC, asP, asQ, asB, asI, obA, loadA, St.ev, St.step, setS, killS, AV.kill, AV.killL, Mem.kill, AV.cells, AV.flat, AV.single, Nat.reduceAdd, Nat.reduceEqDiff, Nat.reduceLeDiff, Int.reduceAdd, decide_eq_false c2]
    by_cases c3 : ls[k].2 ≤ ls[k].1
    · simp only [wB, awp, asN, St.ev, St.step, setS, killS, AV.kill, AV.killL, Mem.kill, Nat.reduceAdd, Int.reduceAdd, decide_eq_true c3]
      exact aend_frz rfl ⟨by rw [ret (fun hb => by have := hb.2.2; omega)]; rfl, rfl⟩
    simp only [wB, awp, binC, arithC, cmpC, asI, asN, St.ev, St.step, setS, killS, AV.kill, AV.killL, Mem.kill, Nat.reduceAdd, Int.reduceAdd, isU, decide_eq_false c3]
    exact ⟨by unfold lim; omega, k + 1, le_all (by simp [leSl]) rfl, ⟨h, upto hno fun _ => ⟨by omega, by omega, by omega⟩⟩, by omega⟩
  · have h' : ¬ (k : Int) < (ls.length : Int) := by omega
    have good : ∀ l ∈ ls, okLn n l := fun l hm => by
      obtain ⟨j, hj, rfl⟩ := List.mem_iff_getElem.1 hm
      exact hno j (by omega) hj
    simp only [wB, awp, asN, St.ev, St.step, setS, killS, AV.kill, AV.killL, Mem.kill, Nat.reduceAdd, Int.reduceAdd, decide_eq_false h']
    clear hno h h' hk
    refine swp_loop' (fun k : Nat => ⟨[.bot, .p (.g [I n, .s 2 (prsA ls)]) 0, .bot, .bot, .bot, I k, .bot, .bot, .bot, .bot, .bot, .bot, .bot, .bot, .bot, .bot, .bot, .bot, .bot, .bot, .bot, .bot, .bot, .bot, .bot, .bot, .bot, .bot, .bot, .bot, .bot, .bot, .bot, .bot, .bot, .bot, .bot, .bot, .bot, .bot, .bot, .bot, .bot, .bot, .bot, .bot, .bot, .bot, .bot, .bot, .bot, .bot, .bot, .bot, .bot, .bot, .bot, .bot, .bot, .bot, .bot, .bot, .bot], []⟩) (fun k => k ≤ ls.length ∧ ∀ j, j < k → ∀ h : j < ls.length, ls[j] ∉ ls.take j) (fun k => ls.length - k) 0 (le_sl (by simp [leSl, prsA_len])) ⟨Nat.zero_le _, by omega⟩ ?_
    rintro k ⟨hk, hno⟩
    refine awp_sound (own := []) _ _ _ _ _ ?_
    simp only [wB, awp, binC, cmpC, asP, asB, asI, lenA, loadA, St.ev, St.step, setS, killS, AV.kill, AV.killL, Mem.kill, AV.cells, AV.flat, AV.single, Nat.reduceAdd, Nat.reduceEqDiff, Nat.reduceLeDiff, Int.reduceAdd, lenK, prsA_len]
    by_cases h : k < ls.length
    · have h' : (k : Int) < (ls.length : Int) := by omega
      simp only [wB, awp, asN, St.ev, St.step, setS, killS, AV.kill, AV.killL, Mem.kill, Nat.reduceAdd, Int.reduceAdd, decide_eq_true h']
      refine swp_loop' (fun j : Nat => ⟨[.bot, .p (.g [I n, .s 2 (prsA ls)]) 0, .bot, .bot, .bot, I k, I j, .bot, .bot, .bot, .bot, .bot, .bot, .bot, .bot, .bot, .bot, .bot, .bot, .bot, .bot, .bot, .bot, .bot, .bot, .bot, .bot, .bot, .bot, .bot, .bot, .bot, .bot, .bot, .bot, .bot, .bot, .bot, .bot, .bot, .bot, .bot, .bot, .bot, .bot, .bot, .bot, .bot, .bot, .bot, .bot, .bot, .bot, .bot, .bot, .bot, .bot, .bot, .bot, .bot, .bot, .bot, .bot], []⟩) (fun j => j ≤ k ∧ ∀ i, i < j → ∀ h' : i < ls.length, ls[i] ≠ ls[k]) (fun j => k - j) 0 (le_sl (by simp [leSl, prsA_len])) ⟨Nat.zero_le _, by omega⟩ ?_
      rintro j ⟨hj, hni⟩
      refine awp_sound (own := []) _ _ _ _ _ ?_
      simp only [wB, awp, binC, cmpC, asB, asI, St.ev, St.step, setS, killS, AV.kill, AV.killL, Mem.kill, Nat.reduceAdd, Int.reduceAdd]
      by_cases hjk : j < k
      · have hjk' : (j : Int) < (k : Int) := by omega
        have hjl : j < ls.length := by omega
        simp only [awp, ACond_true, decide_eq_true hjk']
        refine swp_draw (own := []) (.take 0 .plain [] (.take 1 .reads [] (.take 2 .plain [] (.take 3 .reads [] (.take 4 .reads [] (.take 5 .plain [] (.take 6 .reads [] (.take 7 .plain [] (.take 8 .reads [] (.take 9 .reads [] (.take 10 .plain [] (.done)))))))))))) [⟨53, 2, 0, 0, true⟩, ⟨54, 4503599627370496, 1, 0, true⟩, ⟨55, 64, 0, 0, true⟩, ⟨56, 27021597764222976, 6, 0, true⟩, ⟨57, 36028797018963968, 8, 0, true⟩, ⟨58, 2, 0, 0, true⟩, ⟨59, 144115188075855872, 32, 0, true⟩, ⟨60, 32, 0, 0, true⟩, ⟨61, 864691128455135232, 192, 0, true⟩, ⟨62, 1152921504606846976, 256, 0, true⟩, ⟨63, 2377900603251621888, 528, 0, true⟩] mo (by kernel_rfl) ?_
        simp only [wB, awp, binC, idxC, eqC, asP, asS, asG, asB, asI, loadA, St.ev, setS, AV.cells, AV.flat, AV.single, ints, Nat.reduceAdd, Nat.reduceEqDiff, Nat.reduceLeDiff, Int.reduceAdd, ASch, St.put, Md.mem, Md.need, aget_prs h, aget_prs hjl, Int.toNat_natCast]
        refine ⟨by omega, by omega, ?_⟩
        by_cases e : ls[j] = ls[k]
        · have e' : [ls[j].1, ls[j].2] = [ls[k].1, ls[k].2] := by rw [e]
          simp only [wB, awp, asN, St.ev, St.step, setS, killS, AV.kill, AV.killL, Mem.kill, Nat.reduceAdd, Int.reduceAdd, St.put, decide_eq_true e']
          refine aend_frz rfl ⟨?_, rfl⟩
          rw [vT, if_neg (by omega), if_pos good, if_neg (not_nodup h (mem_take_of h hjk e))]
          rfl
        · have e' : ¬ [ls[j].1, ls[j].2] = [ls[k].1, ls[k].2] := fun x => e (by simp at x; exact Prod.ext x.1 x.2)
          simp only [wB, awp, binC, arithC, cmpC, asI, asN, St.ev, St.step, setS, killS, AV.kill, AV.killL, Mem.kill, Nat.reduceAdd, Int.reduceAdd, St.put, isU, decide_eq_false e']
          exact ⟨by unfold lim; omega, j + 1, le_sl (by simp [leSl]), ⟨hjk, upto hni fun _ => e⟩, by omega⟩
      · have hjk' : ¬ (j : Int) < (k : Int) := by omega
        simp only [wB, awp, binC, arithC, cmpC, asI, asN, St.ev, St.step, setS, killS, AV.kill, AV.killL, Mem.kill, Nat.reduceAdd, Nat.reduceEqDiff, Int.reduceAdd, isU, decide_eq_false hjk']
        exact ⟨by unfold lim; omega, k + 1, le_sl (by simp [leSl]), ⟨h, upto hno fun _ => not_mem_take h fun i hi hi' => hni i (by omega) hi'⟩, by omega⟩
    · have h' : ¬ (k : Int) < (ls.length : Int) := by omega
      simp only [wB, awp, asN, St.ev, St.step, setS, killS, AV.kill, AV.killL, Mem.kill, Nat.reduceAdd, Int.reduceAdd, decide_eq_false h']
      refine aend_frz rfl ⟨?_, rfl⟩
      rw [vT, if_neg (by omega), if_pos good, if_pos (nodup_of fun j hj => hno j (by omega) hj)]
      rfl

end Go.Proofs.YtndniceeibflcaaGreatDoor

namespace Go.Proofs.YtndniceeibflcaaGreatDoor
open Aw Mp Go.RowKit
set_option linter.unusedSimpArgs false

theorem splB_take (c : UInt8) (L : By) : ∀ (i k : Nat), i ≤ k → (hk : k < L.length) → (∀ j, i ≤ j → j < k → ∀ h : j < L.length, L[j] ≠ c) → L[k] = c → splB c (L.drop i) = (L.take k).drop i :: splB c (L.drop (k + 1)) := by
  intro i k hik hk hno hc
  have e : L.drop i = (L.take k).drop i ++ c :: L.drop (k + 1) := by
    conv => lhs; rw [← List.take_append_drop k L]
    rw [List.drop_append, List.drop_eq_getElem_cons hk, hc]
    rw [show i - (L.take k).length = 0 by simp; omega]
    rfl
  rw [e, splB_at]
  intro hm
  obtain ⟨j, hj, he⟩ := List.mem_iff_getElem.1 hm
  simp at hj
  rw [List.getElem_drop, List.getElem_take] at he
  exact hno (i + j) (by omega) (by omega) (by omega) he
theorem splB_end (c : UInt8) (L : By) (i : Nat) (hno : ∀ j, i ≤ j → ∀ h : j < L.length, L[j] ≠ c) : splB c (L.drop i) = [L.drop i] := by
  rw [splB_no]
  intro hm
  obtain ⟨j, hj, he⟩ := List.mem_iff_getElem.1 hm
  simp at hj
  rw [List.getElem_drop] at he
  exact hno (i + j) (by omega) (by omega) he

theorem ok110 : okFn Tryz.prog 110 = true := by kernel_rfl
theorem s110 (L : By) (hL : L.length ≤ 1000) : ASpec Tryz.prog 110 [S L] (fun r Ms => r = .s 1 (strsA (splB 32 L)) ∧ Ms = []) := by
  refine aspec_of (own := [3]) Tryz.func110 rfl ok110 ?_
  simp only [wB, awp, asN, Aw.newRow, St.ev, St.step, setS, killS, AV.kill, AV.killL, Mem.kill, Nat.reduceAdd, Nat.reduceEqDiff, Nat.reduceSub, Int.reduceAdd, Int.reduceSub, Tryz.ntmps110]
  refine swp_loop' (fun s : List By × Nat × Nat => ⟨[S L, .bot, .bot, .o 0, I s.2.1, I s.2.2, .bot, .bot, .bot, .bot, .bot, .bot, .bot, .bot, .bot, .bot, .bot, .bot, .bot, .bot, .bot, .bot, .bot, .bot, .bot, .bot, .bot, .bot, .bot, .bot, .bot], [some ⟨none, 9, 1, strsA s.1⟩]⟩) (fun s => s.2.1 ≤ s.2.2 ∧ s.2.2 ≤ L.length ∧ splB 32 L = s.1 ++ splB 32 (L.drop s.2.1) ∧ (∀ j, s.2.1 ≤ j → j < s.2.2 → ∀ h : j < L.length, L[j] ≠ 32) ∧ s.1.length ≤ s.2.1) (fun s => L.length - s.2.2) ([], 0, 0) (le_sl (by simp [leSl])) ⟨Nat.le_refl _, Nat.zero_le _, by simp, fun j _ h => absurd h (Nat.not_lt_zero _), by simp⟩ ?_
  rintro ⟨p, i, k⟩ ⟨hik, hk, hs, hno, hp⟩
  simp only at hik hk hs hno hp
  refine awp_sound (own := [3]) _ _ _ _ _ ?_
  simp only [wB, awp, binC, cmpC, asB, asI, lenA, St.ev, St.step, setS, killS, AV.kill, AV.killL, Mem.kill, Nat.reduceAdd, Nat.reduceEqDiff, Int.reduceAdd, lenK]
  by_cases h : k < L.length
  · have h' : (k : Int) < L.length := by omega
    have hg : L.getD k 0 = L[k] := by rw [List.getD_eq_getElem?_getD, List.getElem?_eq_getElem h]; rfl
    have e32 : (((32 : UInt8).toNat : Nat) : Int) = 32 := rfl
    simp only [wB, awp, binC, cmpC, asB, asI, St.ev, St.step, setS, killS, AV.kill, AV.killL, Mem.kill, Nat.reduceAdd, Nat.reduceEqDiff, Int.reduceAdd, asStr, decide_eq_true h', Int.toNat_natCast, hg]
    refine ⟨⟨by omega, h'⟩, ?_⟩
    by_cases hc : L[k] = 32
    · have hc' : (L[k].toNat : Int) = 32 := by rw [hc]; rfl
      simp only [wB, awp, binC, arithC, cmpC, asO, asS, asI, asN, obA, bndA, St.ev, St.step, setS, killS, AV.kill, AV.killL, Mem.kill, AV.cells, AV.flat, AV.single, AV.cellular, AV.size, AV.pure, AV.pureL, Value.oneCell', Nat.reduceAdd, Nat.reduceEqDiff, Nat.reduceMul, Nat.reduceLeDiff, Int.reduceAdd, Int.reduceMul, isU, asStr, strsA_len, decide_eq_true hc', Int.toNat_natCast, strsA_kill, strsA_app]
      refine ⟨⟨by omega, by omega, by omega⟩, ⟨Nat.zero_lt_one, rfl⟩, ⟨Nat.zero_lt_one, by omega⟩, by unfold lim; omega, by unfold lim; omega, (p ++ [(L.take k).drop i], k + 1, k + 1), le_sl (by simp [leSl]), ⟨Nat.le_refl _, h, ?_, fun j (h1 : k + 1 ≤ j) (h2 : j < k + 1) => by omega, by simp; omega⟩, by simp; omega⟩
      rw [hs, splB_take 32 L i k hik h hno hc]
      simp
    · have hc' : ¬ (L[k].toNat : Int) = 32 := byte_ne hc
      simp only [wB, awp, binC, arithC, cmpC, asI, asN, St.ev, St.step, setS, killS, AV.kill, AV.killL, Mem.kill, Nat.reduceAdd, Nat.reduceEqDiff, Int.reduceAdd, isU, decide_eq_false hc']
      exact ⟨by unfold lim; omega, (p, i, k + 1), le_sl (by simp [leSl]), ⟨by simp only; omega, h, hs, fun j h1 h2 h3 => by
        simp only at h1 h2
        rcases Nat.lt_or_ge j k with h4 | h4
        · exact hno j h1 h4 h3
        · obtain rfl : j = k := by omega
          exact hc, hp⟩, by simp only; omega⟩
  · have h' : ¬ (k : Int) < L.length := by omega
    simp only [wB, awp, asO, asS, asN, obA, bndA, St.ev, St.step, setS, killS, AV.kill, AV.killL, Mem.kill, AV.cells, AV.flat, AV.single, AV.cellular, AV.size, AV.pure, AV.pureL, Value.oneCell', Nat.reduceAdd, Nat.reduceEqDiff, Nat.reduceMul, Nat.reduceLeDiff, Int.reduceAdd, Int.reduceMul, asStr, strsA_len, decide_eq_false h', Int.toNat_natCast]
    refine ⟨⟨by omega, by omega, by omega⟩, ⟨Nat.zero_lt_one, rfl⟩, ⟨Nat.zero_lt_one, by omega⟩, aend_frz rfl ⟨?_, rfl⟩⟩
    rw [hs, splB_end 32 L i fun j h1 h2 => hno j h1 (by omega) h2]
    simp [frz, AV.sub, AV.subL, strsA_pure, strsA_kill, strsA_app]

end Go.Proofs.YtndniceeibflcaaGreatDoor

namespace Go.Proofs.YtndniceeibflcaaGreatDoor
open Aw Mp Go.RowKit
set_option linter.unusedSimpArgs false

theorem getD_at {L : By} {k : Nat} (h : k < L.length) : L.getD k 0 = L[k] := by rw [List.getD_eq_getElem?_getD, List.getElem?_eq_getElem h]; rfl
theorem val_take {w : By} {k : Nat} (h : k < w.length) : valB (w.take (k + 1)) = 10 * valB (w.take k) + ((w[k].toNat : Int) - 48) := by
  rw [List.take_add_one, List.getElem?_eq_getElem h]
  simp only [Option.toList_some]
  unfold valB
  rw [List.foldl_append]
  rfl
theorem ok111 : okFn Tryz.prog 111 = true := by kernel_rfl
theorem s111 (w : By) : ASpec Tryz.prog 111 [S w] (fun r Ms => r = I (numB w) ∧ Ms = []) := by
  refine aspec_of (own := []) Tryz.func111 rfl ok111 ?_
  simp only [wB, awp, binC, cmpC, asI, asN, lenA, St.ev, St.step, setS, killS, AV.kill, AV.killL, Mem.kill, Nat.reduceAdd, Nat.reduceSub, Int.reduceAdd, Int.reduceSub, lenK, Tryz.ntmps111]
  by_cases h1 : (w.length : Int) < 1
  · simp only [wB, awp, asB, asN, St.ev, St.step, setS, killS, AV.kill, AV.killL, Mem.kill, Nat.reduceAdd, Int.reduceAdd, Int.reduceNeg, decide_eq_true h1]
    exact aend_frz rfl ⟨by rw [numB, if_pos (by omega)]; rfl, rfl⟩
  simp only [wB, binC, cmpC, asB, asI, lenA, St.ev, St.step, setS, killS, AV.kill, AV.killL, Mem.kill, lenK, decide_eq_false h1]
  by_cases h2 : (2 : Int) < w.length
  · simp only [wB, awp, asB, asN, St.ev, St.step, setS, killS, AV.kill, AV.killL, Mem.kill, Nat.reduceAdd, Int.reduceAdd, Int.reduceNeg, decide_eq_true h2]
    exact aend_frz rfl ⟨by rw [numB, if_pos (by omega)]; rfl, rfl⟩
  simp only [wB, binC, cmpC, asI, St.ev, St.step, setS, killS, AV.kill, AV.killL, Mem.kill, Int.reduceLE, asStr, decide_eq_false h2]
  refine ⟨by omega, ?_⟩
  have e48 : (((48 : UInt8).toNat : Nat) : Int) = 48 := rfl
  have hh : w.head? = some (w.getD 0 0) := by cases w with | nil => simp at h1 | cons a r => rfl
  by_cases h3 : ((w.getD 0 0).toNat : Int) = 48 ∧ (1 : Int) < w.length
  · simp only [wB, awp, binC, cmpC, asB, asI, asN, lenA, St.ev, St.step, setS, killS, AV.kill, AV.killL, Mem.kill, Nat.reduceAdd, Int.reduceAdd, Int.reduceNeg, lenK, decide_eq_true h3.1, decide_eq_true h3.2]
    refine aend_frz rfl ⟨?_, rfl⟩
    rw [numB, if_neg (by omega), if_pos ⟨by rw [hh, UInt8.toNat_inj.1 (show (w.getD 0 0).toNat = (48 : UInt8).toNat from by have := h3.1; omega)], by omega⟩]
    rfl
  have h3' : ¬ (w.head? = some 48 ∧ 1 < w.length) := fun h => h3 (by rw [hh] at h; simp only [Option.some.injEq] at h; rw [h.1]; exact ⟨rfl, by omega⟩)
  by_cases h4 : ((w.getD 0 0).toNat : Int) = 48
  case' pos => (have h5 : ¬ (1 : Int) < w.length := fun h => h3 ⟨h4, h⟩; simp only [wB, awp, binC, cmpC, asB, asI, asN, lenA, St.ev, St.step, setS, killS, AV.kill, AV.killL, Mem.kill, Nat.reduceAdd, Int.reduceAdd, Int.reduceNeg, lenK, decide_eq_true h4, decide_eq_false h5])
  case' neg => simp only [wB, awp, asB, asN, St.ev, St.step, setS, killS, AV.kill, AV.killL, Mem.kill, Nat.reduceAdd, Int.reduceAdd, Int.reduceNeg, decide_eq_false h4]
  all_goals
    refine swp_loop' (fun k : Nat => ⟨[S w, .bot, .bot, I (valB (w.take k)), I k, .bot, .bot, .bot, .bot, .bot, .bot, .bot, .bot, .bot, .bot, .bot, .bot, .bot, .bot, .bot, .bot, .bot, .bot, .bot, .bot, .bot, .bot, .bot, .bot, .bot, .bot, .bot, .bot, .bot, .bot, .bot, .bot, .bot, .bot, .bot, .bot, .bot, .bot, .bot, .bot, .bot, .bot, .bot], []⟩) (fun k => k ≤ w.length ∧ (∀ j, j < k → ∀ h : j < w.length, dig w[j] = true) ∧ 0 ≤ valB (w.take k) ∧ (k = 0 → valB (w.take k) = 0) ∧ (k = 1 → valB (w.take k) ≤ 9)) (fun k => w.length - k) 0 (le_sl (by simp [leSl, valB])) ⟨Nat.zero_le _, fun j h => absurd h (Nat.not_lt_zero _), by simp [valB], fun _ => by simp [valB], fun h => absurd h (by omega)⟩ ?_
    rintro k ⟨hk, hd, hv0, hv1, hv2⟩
    refine awp_sound (own := []) _ _ _ _ _ ?_
    simp only [wB, awp, binC, cmpC, asB, asI, lenA, St.ev, St.step, setS, killS, AV.kill, AV.killL, Mem.kill, Nat.reduceAdd, Int.reduceAdd, lenK]
    by_cases h : k < w.length
    · have h' : (k : Int) < w.length := by omega
      simp only [wB, awp, binC, cmpC, asI, St.ev, St.step, setS, killS, AV.kill, AV.killL, Mem.kill, Nat.reduceAdd, Int.reduceAdd, asStr, decide_eq_true h', Int.toNat_natCast, getD_at h]
      have bad : dig w[k] = false → numB w = -1 := fun hb => by
        rw [numB, if_neg (by omega), if_neg h3', if_pos]
        exact List.all_eq_false.2 ⟨_, List.getElem_mem h, by rw [hb]; simp⟩
      refine ⟨⟨by omega, h'⟩, ?_⟩
      by_cases c1 : (w[k].toNat : Int) < 48
      · simp only [wB, awp, asB, asN, St.ev, St.step, setS, killS, AV.kill, AV.killL, Mem.kill, Nat.reduceAdd, Int.reduceAdd, Int.reduceNeg, decide_eq_true c1]
        exact aend_frz rfl ⟨by rw [bad (decide_eq_false (by omega))]; rfl, rfl⟩
      simp only [wB, awp, binC, cmpC, asB, asI, St.ev, St.step, setS, killS, AV.kill, AV.killL, Mem.kill, asStr, decide_eq_false c1, Int.toNat_natCast, getD_at h]
      refine ⟨⟨by omega, h'⟩, ?_⟩
      by_cases c2 : (57 : Int) < w[k].toNat
      · simp only [wB, awp, asN, St.ev, St.step, setS, killS, AV.kill, AV.killL, Mem.kill, Nat.reduceAdd, Int.reduceAdd, Int.reduceNeg, decide_eq_true c2]
        exact aend_frz rfl ⟨by rw [bad (decide_eq_false (by omega))]; rfl, rfl⟩
      have hs1 : IntKind.u8.wrap ((w[k].toNat : Int) - 48) = (w[k].toNat : Int) - 48 := IntWalk.u8_in _ (by omega)
      have hs2 : IntKind.i64.wrap ((w[k].toNat : Int) - 48) = (w[k].toNat : Int) - 48 := IntWalk.i64_in _ (by omega)
      have hv3 : valB (w.take k) ≤ 9 := by
        rcases Nat.lt_or_ge k 1 with hk1 | hk1
        · have := hv1 (by omega); omega
        · exact hv2 (by omega)
      simp only [wB, awp, binC, arithC, cmpC, asI, asN, St.ev, St.step, setS, killS, AV.kill, AV.killL, Mem.kill, Nat.reduceAdd, Int.reduceAdd, isU, asStr, arithU, io3, io5, decide_eq_false c2, Int.toNat_natCast, getD_at h, hs1, hs2]
      refine ⟨by unfold lim; omega, ⟨by omega, h'⟩, by unfold lim; omega, by unfold lim; omega, k + 1, ?_, ⟨h, fun j h1 h2 => ?_, ?_, fun h => absurd h (by omega), fun hk1 => ?_⟩, by omega⟩
      · rw [val_take h]
        exact le_sl (by simp [leSl])
      · rcases Nat.lt_or_ge j k with h6 | h6
        · exact hd j h6 h2
        · obtain rfl : j = k := by omega
          exact decide_eq_true (by omega)
      · rw [val_take h]; omega
      · rw [val_take h, hv1 (by omega)]; omega
    · have h' : ¬ (k : Int) < w.length := by omega
      simp only [wB, awp, asN, St.ev, St.step, setS, killS, AV.kill, AV.killL, Mem.kill, Nat.reduceAdd, Int.reduceAdd, decide_eq_false h']
      refine aend_frz rfl ⟨?_, rfl⟩
      have hall : w.all dig = true := List.all_eq_true.2 fun x hx => by
        obtain ⟨j, hj, rfl⟩ := List.mem_iff_getElem.1 hx
        exact hd j (by omega) hj
      rw [numB, if_neg (by omega), if_neg h3', if_neg (by rw [hall]; simp), List.take_of_length_le (by omega)]
      rfl
end Go.Proofs.YtndniceeibflcaaGreatDoor

namespace Go.Proofs.YtndniceeibflcaaGreatDoor
open Aw Mp Go.RowKit
set_option linter.unusedSimpArgs false
set_option maxRecDepth 8000

def cntI : List Int := [1, 2, 1, 1, 2, 2, 3, 0]
theorem cntI_at : ∀ i : Fin 8, cntI.getD i.val 0 = ((cntL.getD i.val 0 : Nat) : Int) := by decide
theorem nameL_ne : ∀ i j : Fin 8, i ≠ j → nameL.getD i.val [] ≠ nameL.getD j.val [] := by decide
theorem kind_at {w : List By} {i : Nat} (hi : i < 8) (h1 : w.headD [] = nameL.getD i []) (h2 : w.length = cntL.getD i 0 + 1) : kindB w = some i := by
  have : nameL.idxOf? (w.headD []) = some i := by
    unfold List.idxOf?
    rw [List.findIdx?_eq_some_iff_getElem]
    refine ⟨hi, by rw [h1, List.getD_eq_getElem?_getD, List.getElem?_eq_getElem hi]; simp, fun j hj => ?_⟩
    have := nameL_ne ⟨j, by omega⟩ ⟨i, hi⟩ (by simp; omega)
    simp only [List.getD_eq_getElem?_getD] at this
    rw [List.getElem?_eq_getElem (show j < nameL.length from Nat.lt_trans hj hi), List.getElem?_eq_getElem (show i < nameL.length from hi)] at this
    rw [h1, List.getD_eq_getElem?_getD, List.getElem?_eq_getElem (show i < nameL.length from hi)]
    simpa using this
  unfold kindB
  rw [this]
  simp [h2]
theorem kind_no {w : List By} (h : ∀ i, i < 8 → ¬ (w.headD [] = nameL.getD i [] ∧ w.length = cntL.getD i 0 + 1)) : kindB w = none := by
  cases hk : kindB w with
  | none => rfl
  | some k =>
    obtain ⟨h1, h2, h3⟩ := kind_some hk
    exact absurd ⟨h2, h3⟩ (h k h1)

/-- what the document's reading answers. -/
def rdP (o : By) (r : AV) : Prop := match prs o with | none => ∃ a b c : Int, r = .t [S [], .g [I a, I b, I c], B false] | some (k, l) => r = .t [S (nameL.getD k []), .g [I (nth l 0), I (nth l 1), I (nth l 2)], B true]

theorem rd_none {o : By} (h : prs o = none) (a b c : Int) : rdP o (.t [S [], .g [I a, I b, I c], B false]) := by unfold rdP; rw [h]; exact ⟨a, b, c, rfl⟩
theorem ok80 : okFn Tryz.prog 80 = true := by kernel_rfl
theorem s80 (o : By) (ho : o.length ≤ 9223372036854775807) : ASpec Tryz.prog 80 [S o] (fun r Ms => rdP o r ∧ Ms = []) := by
  refine aspec_of (own := [3, 5]) Tryz.func80 rfl ok80 ?_
  simp only [wB, awp, binC, cmpC, asI, asN, lenA, mkA, Aw.newRow, St.ev, St.step, setS, killS, AV.kill, AV.killL, Mem.kill, Nat.reduceAdd, Nat.reduceEqDiff, Nat.reduceSub, Int.reduceAdd, Int.reduceSub, lenK, Tryz.ntmps80]
  by_cases h1 : (o.length : Int) < 1
  · simp only [wB, awp, asB, St.ev, St.step, setS, killS, AV.kill, AV.killL, Mem.kill, decide_eq_true h1]
    refine swp_draw (own := [3, 5]) (.take 0 .reads [] (.take 1 .plain [] (.alt 2 (.take 3 .plain [] (.done)) (.nil)))) [⟨20, 32, 0, 0, true⟩, ⟨3, 0, 0, 0, true⟩, ⟨0, 524296, 3, 1, false⟩, ⟨5, 0, 7, 0, true⟩] mo (by kernel_rfl) ?_
    simp only [wB, awp, asP, asQ, asN, obA, loadA, storeA, putsA, St.ev, St.step, setS, killS, AV.kill, AV.killL, Mem.kill, AV.cells, AV.flat, AV.single, AV.cellular, Nat.reduceAdd, Nat.reduceEqDiff, Nat.reduceLeDiff, Int.reduceAdd, ASch, St.put, Md.mem, Md.need]
    exact aend_frz rfl ⟨rd_none (prs_short (by omega)) 0 0 0, rfl⟩
  simp only [wB, awp, binC, cmpC, asB, asI, lenA, St.ev, St.step, setS, killS, AV.kill, AV.killL, Mem.kill, lenK, decide_eq_false h1]
  by_cases h2 : (30 : Int) < o.length
  · simp only [awp, ACond_true, decide_eq_true h2]
    refine swp_draw (own := [3, 5]) (.take 0 .reads [] (.take 1 .plain [] (.alt 2 (.take 3 .plain [] (.done)) (.nil)))) [⟨20, 32, 0, 0, true⟩, ⟨3, 0, 0, 0, true⟩, ⟨0, 524296, 3, 1, false⟩, ⟨5, 0, 7, 0, true⟩] mo (by kernel_rfl) ?_
    simp only [wB, awp, asP, asQ, asN, obA, loadA, storeA, putsA, St.ev, St.step, setS, killS, AV.kill, AV.killL, Mem.kill, AV.cells, AV.flat, AV.single, AV.cellular, Nat.reduceAdd, Nat.reduceEqDiff, Nat.reduceLeDiff, Int.reduceAdd, ASch, St.put, Md.mem, Md.need]
    exact aend_frz rfl ⟨rd_none (prs_short (by omega)) 0 0 0, rfl⟩
  simp only [wB, awp, St.ev, St.step, setS, killS, AV.kill, AV.killL, Mem.kill, Nat.reduceAdd, Nat.reduceEqDiff, Int.reduceAdd, decide_eq_false h2]
  refine acall_v (s110 o (by omega)) rfl rfl ?_
  obtain ⟨W, hW⟩ : ∃ W, W = splB 32 o := ⟨_, rfl⟩
  have hWl := spl_len 32 o
  rw [← hW] at hWl ⊢
  simp only [wB, awp, asN, St.ev, St.step, setS, killS, AV.kill, AV.killL, Mem.kill, AV.cells, AV.flat, AV.single, AV.cellular, AV.size, AV.pure, AV.pureL, Value.oneCell', Nat.reduceAdd, Nat.reduceEqDiff, Nat.reduceMul, Nat.reduceLeDiff, Int.reduceAdd, Int.reduceMul]
  refine ⟨⟨Nat.zero_lt_one, rfl⟩, ⟨Nat.zero_lt_one, rfl⟩, ?_⟩
  refine swp_loop' (fun i : Nat => ⟨[S o, .bot, S [], .q 0 3 0 0, B false, .q 1 3 0 0, .s 1 (strsA W), .s 1 (strsA nameL), .s 1 (intsA cntI), I i, .bot, .bot, .bot, .bot, .bot, .bot, .bot, .bot, .bot, .bot, .bot, .bot, .bot, .bot, .bot, .bot, .bot, .bot, .bot, .bot, .bot, .bot, .bot, .bot, .bot, .bot, .bot, .bot, .bot, .bot, .bot, .bot, .bot, .bot, .bot, .bot, .bot, .bot, .bot, .bot, .bot, .bot, .bot, .bot, .bot, .bot, .bot, .bot, .bot, .bot, .bot, .bot, .bot, .bot, .bot, .bot, .bot, .bot, .bot, .bot, .bot, .bot, .bot, .bot, .bot], [some ⟨none, 126, 3, [.g [I 0, I 0, I 0]]⟩, some ⟨none, 126, 3, [.g [I 0, I 0, I 0]]⟩]⟩) (fun i => i ≤ 8 ∧ ∀ j, j < i → ¬ (W.headD [] = nameL.getD j [] ∧ W.length = cntL.getD j 0 + 1)) (fun i => 8 - i) 0 (le_sl (by simp [leSl, strsA, nameL, intsA, cntI])) ⟨Nat.zero_le _, fun j h => absurd h (Nat.not_lt_zero _)⟩ ?_
  rintro i ⟨hi, hno⟩
  refine awp_sound (own := [3, 5]) _ _ _ _ _ ?_
  simp only [wB, awp, binC, cmpC, asB, asI, lenA, St.ev, St.step, setS, killS, AV.kill, AV.killL, Mem.kill, Nat.reduceAdd, Nat.reduceEqDiff, Int.reduceAdd, lenK, strsA_len]
  have h8 : nameL.length = 8 := rfl
  have h8' : cntI.length = 8 := rfl
  by_cases h : i < 8
  · have h' : (i : Int) < (nameL.length : Int) := by omega
    simp only [awp, ACond_true, decide_eq_true h']
    have hWp : 0 < W.length := by omega
    have hi8 : i < nameL.length := h
    have hi8' : i < cntI.length := h
    refine swp_draw (own := [3, 5]) (.take 0 .plain [] (.take 1 .reads [] (.take 2 .reads [] (.take 3 .plain [] (.take 4 .plain [] (.take 5 .reads [] (.take 6 .reads [] (.take 7 .plain [] (.take 8 .plain [] (.take 9 .plain [] (.take 10 .reads [] (.take 11 .plain [] (.take 12 .plain [] (.take 13 .reads [] (.take 14 .reads [] (.take 15 .plain [] (.take 16 .plain [] (.take 17 .plain [] (.done))))))))))))))))))) [⟨31, 64, 0, 0, true⟩, ⟨32, 1073741824, 1, 0, true⟩, ⟨33, 2147483648, 2, 0, true⟩, ⟨34, 128, 0, 0, true⟩, ⟨35, 512, 0, 0, true⟩, ⟨36, 25769803776, 24, 0, true⟩, ⟨37, 34359738368, 32, 0, true⟩, ⟨38, 73014444032, 68, 0, true⟩, ⟨39, 137438953472, 128, 0, true⟩, ⟨40, 274877907008, 256, 0, true⟩, ⟨41, 824633720832, 768, 0, true⟩, ⟨42, 274877907200, 256, 0, true⟩, ⟨43, 274877907456, 256, 0, true⟩, ⟨44, 6871947673600, 6400, 0, true⟩, ⟨45, 9070970929152, 8448, 0, true⟩, ⟨46, 17867063951360, 16640, 0, true⟩, ⟨47, 36558761623552, 34048, 0, true⟩, ⟨48, 70643622084608, 65792, 0, true⟩] mo (by kernel_rfl) ?_
    simp only [wB, binC, idxC, eqC, asP, asS, asG, asB, asI, loadA, St.ev, setS, AV.cells, AV.flat, AV.single, Int.reduceLE, ASch, St.put, Md.mem, Md.need, asStr, strC, aget_strs hWp, aget_strs hi8, aget_ints hi8', Int.toNat_natCast]
    refine ⟨by omega, ?_⟩
    have hhd : W.headD [] = W[0] := by cases W with | nil => simp at hWp | cons a r => rfl
    have hnm : nameL.getD i [] = nameL[i]'hi8 := by rw [List.getD_eq_getElem?_getD, List.getElem?_eq_getElem hi8]; rfl
    have hct : cntI[i] = ((cntL.getD i 0 : Nat) : Int) := by
      rw [← cntI_at ⟨i, h⟩, List.getD_eq_getElem?_getD, List.getElem?_eq_getElem hi8']; rfl
    have hc3 : cntL.getD i 0 ≤ 3 := by
      have : ∀ i : Fin 8, cntL.getD i.val 0 ≤ 3 := by decide
      exact this ⟨i, h⟩
    rw [hhd] at hno
    have next : ¬ (W[0] = nameL[i]'hi8 ∧ W.length = cntL.getD i 0 + 1) → ∀ j, j < i + 1 → ¬ (W[0] = nameL.getD j [] ∧ W.length = cntL.getD j 0 + 1) := fun hn j hj => by
      rcases Nat.lt_or_ge j i with h1 | h1
      · exact hno j h1
      · obtain rfl : j = i := by omega
        rw [hnm]; exact hn
    by_cases c1 : W[0] = nameL[i]'hi8
    case neg =>
      simp only [wB, awp, binC, arithC, cmpC, asB, asI, asN, St.ev, St.step, setS, killS, AV.kill, AV.killL, Mem.kill, Nat.reduceAdd, Nat.reduceEqDiff, Int.reduceAdd, ASch, St.put, Md.mem, Md.need, isU, decide_eq_false c1]
      exact ⟨by unfold lim; omega, i + 1, le_sl (by simp [leSl]), ⟨h, by rw [hhd]; exact next fun hh => c1 hh.1⟩, by omega⟩
    simp only [wB, awp, binC, idxC, arithC, cmpC, asP, asS, asB, asI, lenA, loadA, St.ev, setS, AV.cells, AV.flat, AV.single, ASch, St.put, Md.mem, Md.need, isU, lenK, strsA_len, decide_eq_true c1, aget_ints hi8', Int.toNat_natCast, hct]
    refine ⟨by omega, by unfold lim; omega, ?_⟩
    by_cases c2 : (W.length : Int) = 1 + ((cntL.getD i 0 : Nat) : Int)
    case neg =>
      simp only [wB, awp, binC, arithC, cmpC, asI, asN, St.ev, St.step, setS, killS, AV.kill, AV.killL, Mem.kill, Nat.reduceAdd, Nat.reduceEqDiff, Int.reduceAdd, St.put, isU, decide_eq_false c2]
      exact ⟨by unfold lim; omega, i + 1, le_sl (by simp [leSl]), ⟨h, by rw [hhd]; exact next fun hh => c2 (by omega)⟩, by omega⟩
    simp only [wB, awp, asN, St.ev, St.step, setS, killS, AV.kill, AV.killL, Mem.kill, Nat.reduceAdd, Nat.reduceEqDiff, Int.reduceAdd, St.put, decide_eq_true c2]
    have hk : kindB W = some i := kind_at h (by rw [hhd, hnm]; exact c1) (by omega)
    refine swp_loop' (fun m : Nat => ⟨[S o, .bot, S [], .q 0 3 0 0, B false, .q 1 3 0 0, .s 1 (strsA W), .s 1 (strsA nameL), .s 1 (intsA cntI), I i, I m, .bot, .bot, .bot, .bot, .bot, .bot, .bot, .bot, .bot, .bot, .bot, .bot, .bot, .bot, .bot, .bot, .bot, .bot, .bot, .bot, .bot, .bot, .bot, .bot, .bot, .bot, .bot, .bot, .bot, .bot, .bot, .bot, .bot, .bot, .bot, .bot, .bot, .bot, .bot, .bot, .bot, .bot, .bot, .bot, .bot, .bot, .bot, .bot, .bot, .bot, .bot, .bot, .bot, .bot, .bot, .bot, .bot, .bot, .bot, .bot, .bot, .bot, .bot, .bot], [some ⟨none, 126, 3, [.g [I 0, I 0, I 0]]⟩, some ⟨none, 126, 3, [.g [I (nth (((W.drop 1).take m).map numB) 0), I (nth (((W.drop 1).take m).map numB) 1), I (nth (((W.drop 1).take m).map numB) 2)]]⟩]⟩) (fun m => m ≤ cntL.getD i 0 ∧ ∀ w ∈ (W.drop 1).take m, 0 ≤ numB w) (fun m => cntL.getD i 0 - m) 0 (le_sl (by simp [leSl, nth])) ⟨Nat.zero_le _, by simp⟩ ?_
    rintro m ⟨hm, hnn⟩
    refine awp_sound (own := [3, 5]) _ _ _ _ _ ?_
    simp only [wB, awp, binC, idxC, cmpC, asP, asS, asB, asI, loadA, St.ev, St.step, setS, killS, AV.kill, AV.killL, Mem.kill, AV.cells, AV.flat, AV.single, Nat.reduceAdd, Nat.reduceEqDiff, Int.reduceAdd, aget_ints hi8', Int.toNat_natCast, hct]
    refine ⟨by omega, ?_⟩
    by_cases d : m < cntL.getD i 0
    · have d' : (m : Int) < ((cntL.getD i 0 : Nat) : Int) := by omega
      have hml : m + 1 < W.length := by omega
      have em : ((1 : Int) + m).toNat = m + 1 := by omega
      have hnl := num_lim W[m + 1]
      have hmm : W[m + 1] ∈ W.drop 1 := List.mem_iff_getElem.2 ⟨m, by simp; omega, by simp [Nat.add_comm]⟩
      have htk : (W.drop 1).take (m + 1) = (W.drop 1).take m ++ [W[m + 1]] := by
        rw [List.take_add_one, List.getElem?_drop, Nat.add_comm 1 m, List.getElem?_eq_getElem hml]; rfl
      have hX : ((W.drop 1).take (m + 1)).map numB = ((W.drop 1).take m).map numB ++ [numB W[m + 1]] := by rw [htk]; simp
      have hXl : (((W.drop 1).take m).map numB).length = m := by simp; omega
      generalize hX0 : ((W.drop 1).take m).map numB = X at *
      have hm3 : m = 0 ∨ m = 1 ∨ m = 2 := by omega
      simp only [wB, awp, binC, idxC, arithC, cmpC, asP, asS, asI, loadA, St.ev, St.step, setS, killS, AV.kill, AV.killL, Mem.kill, AV.cells, AV.flat, AV.single, Nat.reduceAdd, Nat.reduceEqDiff, Int.reduceAdd, isU, decide_eq_true d', aget_strs hml, em]
      refine ⟨by unfold lim; omega, by omega, acall_v (s111 _) rfl rfl ?_⟩
      simp only [wB, idxC, asP, asQ, asI, obA, storeA, putsA, St.ev, St.step, setS, killS, AV.kill, AV.killL, Mem.kill, AV.cells, AV.flat, AV.single, AV.cellular, Value.oneCell', Nat.reduceAdd, Nat.reduceLeDiff, Int.reduceAdd]
      have store : ([I (nth X 0), I (nth X 1), I (nth X 2)].set m (I (numB W[m + 1]))) = [I (nth (X ++ [numB W[m + 1]]) 0), I (nth (X ++ [numB W[m + 1]]) 1), I (nth (X ++ [numB W[m + 1]]) 2)] := by
        match m, X, hXl, hm3 with
        | 0, [], _, _ => rfl
        | 1, [a], _, _ => rfl
        | 2, [a, b], _, _ => rfl
      have hget : ([I (nth (X ++ [numB W[m + 1]]) 0), I (nth (X ++ [numB W[m + 1]]) 1), I (nth (X ++ [numB W[m + 1]]) 2)] : List AV)[m]? = some (I (numB W[m + 1])) := by
        match m, X, hXl, hm3 with
        | 0, [], _, _ => rfl
        | 1, [a], _, _ => rfl
        | 2, [a, b], _, _ => rfl
      refine ⟨⟨by omega, by omega⟩, ?_⟩
      rw [if_pos (by rcases hm3 with rfl | rfl | rfl <;> decide)]
      simp only [wB, awp, idxC, asP, asQ, asI, obA, loadA, St.ev, St.step, setS, killS, AV.kill, AV.killL, Mem.kill, AV.cells, AV.flat, AV.single, Nat.reduceAdd, Nat.reduceEqDiff, Nat.reduceLeDiff, Int.reduceAdd, Int.toNat_natCast, Nat.mul_one, store]
      refine ⟨⟨by omega, by omega⟩, ?_⟩
      simp only [wB, awp, binC, cmpC, asB, asI, St.ev, St.step, setS, killS, AV.kill, AV.killL, Mem.kill, hget]
      by_cases f : numB W[m + 1] < 0
      · simp only [awp, ACond_true, decide_eq_true f]
        refine swp_draw (own := [3, 5]) (.take 0 .reads [] (.take 1 .plain [] (.alt 2 (.take 3 .plain [] (.done)) (.nil)))) [⟨69, 32, 0, 0, true⟩, ⟨3, 0, 0, 0, true⟩, ⟨0, 295147905179352825864, 3, 1, false⟩, ⟨5, 0, 7, 0, true⟩] mo (by kernel_rfl) ?_
        simp only [wB, awp, asP, asQ, asN, obA, loadA, storeA, putsA, St.ev, St.step, setS, killS, AV.kill, AV.killL, Mem.kill, AV.cells, AV.flat, AV.single, AV.cellular, Nat.reduceAdd, Nat.reduceEqDiff, Nat.reduceLeDiff, Int.reduceAdd, ASch, St.put, Md.mem, Md.need]
        exact aend_frz rfl ⟨rd_none (prs_neg (hW ▸ hmm) f) _ _ _, rfl⟩
      · simp only [wB, awp, binC, arithC, cmpC, asI, asN, St.ev, St.step, setS, killS, AV.kill, AV.killL, Mem.kill, Nat.reduceAdd, Nat.reduceEqDiff, Int.reduceAdd, isU, decide_eq_false f]
        refine ⟨by unfold lim; omega, m + 1, le_sl' ?_ (by simp [leSl]), ⟨by omega, fun w hw => ?_⟩, by omega⟩
        · rw [hX]
        · rw [htk] at hw
          rcases List.mem_append.1 hw with hw | hw
          · exact hnn w hw
          · rw [List.mem_singleton.1 hw]; omega
    · have d' : ¬ (m : Int) < ((cntL.getD i 0 : Nat) : Int) := by omega
      simp only [wB, awp, binC, arithC, cmpC, asI, asN, St.ev, St.step, setS, killS, AV.kill, AV.killL, Mem.kill, Nat.reduceAdd, Nat.reduceEqDiff, Int.reduceAdd, isU, decide_eq_false d']
      refine swp_draw (own := [3, 5]) (.take 0 .plain [] (.take 1 .plain [] (.take 2 .reads [] (.take 3 .reads [] (.take 4 .reads [] (.take 5 .plain [] (.alt 6 (.take 7 .plain [] (.done)) (.nil)))))))) [⟨70, 128, 0, 0, true⟩, ⟨71, 512, 0, 0, true⟩, ⟨72, 1770887431076116955136, 3, 0, true⟩, ⟨73, 2361183241434822606848, 4, 0, true⟩, ⟨74, 32, 0, 0, true⟩, ⟨3, 4722366482869645213696, 15, 0, true⟩, ⟨0, 9444732965739290427400, 63, 1, false⟩, ⟨5, 0, 127, 0, true⟩] mo (by kernel_rfl) ?_
      simp only [wB, awp, idxC, asP, asQ, asS, asI, asN, obA, loadA, storeA, putsA, St.ev, St.step, setS, killS, AV.kill, AV.killL, Mem.kill, AV.cells, AV.flat, AV.single, AV.cellular, Nat.reduceAdd, Nat.reduceEqDiff, Nat.reduceLeDiff, Int.reduceAdd, ASch, St.put, Md.mem, Md.need, aget_strs hi8, Int.toNat_natCast]
      have e : (W.drop 1).take m = W.drop 1 := List.take_of_length_le (by simp; omega)
      refine ⟨by omega, aend_frz rfl ⟨?_, rfl⟩⟩
      unfold rdP
      rw [prs_ok (by omega) (hW ▸ hk) (by rw [← hW, ← e]; exact hnn), ← hW, e]
      simp only [hnm]
      rfl
  · have h' : ¬ (i : Int) < (nameL.length : Int) := by omega
    simp only [awp, ACond_false, if_true, decide_eq_false h']
    refine swp_draw (own := [3, 5]) (.take 0 .reads [] (.take 1 .plain [] (.alt 2 (.take 3 .plain [] (.done)) (.nil)))) [⟨75, 32, 0, 0, true⟩, ⟨3, 0, 0, 0, true⟩, ⟨0, 18889465931478580854792, 3, 1, false⟩, ⟨5, 0, 7, 0, true⟩] mo (by kernel_rfl) ?_
    simp only [wB, awp, asP, asQ, asN, obA, loadA, storeA, putsA, St.ev, St.step, setS, killS, AV.kill, AV.killL, Mem.kill, AV.cells, AV.flat, AV.single, AV.cellular, Nat.reduceAdd, Nat.reduceEqDiff, Nat.reduceLeDiff, Int.reduceAdd, ASch, St.put, Md.mem, Md.need]
    refine aend_frz rfl ⟨rd_none (prs_kind (hW ▸ kind_no fun j hj => hno j (by omega))) 0 0 0, rfl⟩
end Go.Proofs.YtndniceeibflcaaGreatDoor

namespace Go.Proofs.YtndniceeibflcaaGreatDoor
open Aw Mp Go.RowKit
set_option linter.unusedSimpArgs false
set_option maxRecDepth 8000

theorem ok114 : okFn Tryz.prog 114 = true := by kernel_rfl
theorem s114 (l : List Int) (i : Int) (hi : 0 ≤ i ∧ i < l.length) (hl : l.length ≤ 1000) (n : Int) (hn : -1000 ≤ n ∧ n ≤ 1000) (hh : ∀ h ∈ l, 0 ≤ h ∧ h ≤ 1000) : ASpec Tryz.prog 114 [.s 1 (intsA l), I i, I n] (fun r Ms => r = .s 1 (intsA (bump l i.toNat n)) ∧ Ms = []) := by
  refine aspec_of (own := [8]) Tryz.func114 rfl ok114 ?_
  have hil : i.toNat < l.length := by omega
  have hb := hh _ (List.getElem_mem hil)
  have hg : l.getD i.toNat 0 = l[i.toNat] := by rw [List.getD_eq_getElem?_getD, List.getElem?_eq_getElem hil]; rfl
  simp only [wB, awp, binC, idxC, arithC, cmpC, asP, asQ, asO, asS, asI, asN, obA, minmaxA, loadA, storeA, putsA, Aw.newRow, St.ev, St.step, setS, killS, AV.kill, AV.killL, Mem.kill, AV.cells, AV.flat, AV.single, AV.cellular, Value.oneCell', Nat.reduceAdd, Nat.reduceEqDiff, Nat.reduceMul, Nat.reduceSub, Nat.reduceLeDiff, Int.reduceAdd, Int.reduceSub, Int.reduceMul, isU, Tryz.ntmps114, aget_ints hil, intsA_set']
  refine ⟨⟨by decide, rfl⟩, ⟨by decide, by omega⟩, hi, by unfold lim; omega, hi, aend_frz rfl ⟨?_, rfl⟩⟩
  unfold bump
  rw [hg, Int.min_comm]
  simp [frz, AV.sub, AV.subL, intsA_pure]

/-- the document's machine. -/
def rfA (n lim : Int) (ls : List (Int × Int)) (l : List By) : AV := .g [I n, .s 2 (prsA ls), I lim, .s 1 (strsA l)]
theorem ok112 : okFn Tryz.prog 112 = true := by kernel_rfl
theorem s112 (n lim : Int) (ls : List (Int × Int)) (l : List By) (t : MS) {c : Nat} (hI : InvS n c t) (x : Int) : ASpec Tryz.prog 112 [rfA n lim ls l, stA t, I x] (fun r Ms => r = .t [stA (if erS n lim ls t 0 x 0 0 = 0 then nxS t 0 x 0 0 else t), I (erS n lim ls t 0 x 0 0)] ∧ Ms = []) := by
  refine aspec_of (own := [3, 4, 6, 24, 32]) Tryz.func112 rfl ok112 ?_
  have hp4 := hI.p4
  have hhl := hI.hl
  simp only [wB, awp, binC, cmpC, asP, asQ, asB, asI, asN, obA, loadA, mkA, Aw.newRow, St.ev, St.step, setS, killS, AV.kill, AV.killL, Mem.kill, AV.cells, AV.flat, AV.single, AV.cellular, AV.size, AV.sizeL, Nat.reduceAdd, Nat.reduceEqDiff, Nat.reduceSub, Nat.reduceLeDiff, Int.reduceAdd, Int.reduceSub, Tryz.ntmps112, rfA, stA]
  by_cases c1 : n ≤ x
  · simp only [wB, awp, asP, asQ, asN, obA, loadA, storeA, putsA, St.ev, St.step, setS, killS, AV.kill, AV.killL, Mem.kill, AV.cells, AV.flat, AV.single, AV.cellular, Nat.reduceAdd, Nat.reduceEqDiff, Nat.reduceLeDiff, Int.reduceAdd, decide_eq_true c1]
    have he : erS n lim ls t 0 x 0 0 = 4 := by simp only [erS]; rw [if_pos c1]
    refine aend_frz rfl ⟨?_, rfl⟩
    rw [he]
    rfl
  simp only [wB, awp, binC, cmpC, asP, asQ, asB, asI, obA, lenA, loadA, St.ev, St.step, setS, killS, AV.kill, AV.killL, Mem.kill, AV.cells, AV.flat, AV.single, Nat.reduceAdd, Nat.reduceEqDiff, Nat.reduceLeDiff, Int.reduceAdd, lenK, decide_eq_false c1]
  by_cases c2 : (4 : Int) ≤ t.place.length
  · simp only [wB, awp, asP, asQ, asN, obA, loadA, storeA, putsA, St.ev, St.step, setS, killS, AV.kill, AV.killL, Mem.kill, AV.cells, AV.flat, AV.single, AV.cellular, Nat.reduceAdd, Nat.reduceEqDiff, Nat.reduceLeDiff, Int.reduceAdd, decide_eq_true c2]
    have he : erS n lim ls t 0 x 0 0 = 3 := by simp only [erS]; rw [if_neg c1, if_pos (by omega)]
    refine aend_frz rfl ⟨?_, rfl⟩
    rw [he]
    rfl
  simp only [wB, awp, asP, asQ, obA, loadA, St.ev, St.step, setS, killS, AV.kill, AV.killL, Mem.kill, AV.cells, AV.flat, AV.single, Nat.reduceAdd, Nat.reduceEqDiff, Nat.reduceLeDiff, Int.reduceAdd, decide_eq_false c2]
  refine acall_v (s50 t.place x (by omega)) (by simp [AV.pureL, AV.pure, intsA_pure]) rfl ?_
  have he : erS n lim ls t 0 x 0 0 = if memL t.place x = true then 6 else 0 := by
    simp only [erS, memL_eq]; rw [if_neg c1, if_neg (by omega)]
  cases c3 : memL t.place x with
  | true =>
    simp only [wB, awp, asP, asQ, asB, asN, obA, loadA, storeA, putsA, St.ev, St.step, setS, killS, AV.kill, AV.killL, Mem.kill, AV.cells, AV.flat, AV.single, AV.cellular, Nat.reduceAdd, Nat.reduceEqDiff, Nat.reduceLeDiff, Int.reduceAdd]
    refine aend_frz rfl ⟨?_, rfl⟩
    rw [he, c3]
    rfl
  | false =>
    simp only [wB, awp, asP, asQ, asO, asS, asB, asN, obA, loadA, storeA, putsA, Aw.newRow, St.ev, St.step, setS, killS, AV.kill, AV.killL, Mem.kill, AV.cells, AV.flat, AV.single, AV.cellular, AV.size, AV.pure, AV.pureL, Value.oneCell', Nat.reduceAdd, Nat.reduceEqDiff, Nat.reduceMul, Nat.reduceLeDiff, Int.reduceAdd, Int.reduceMul]
    refine ⟨⟨by decide, rfl⟩, ⟨by decide, by omega⟩, ⟨by decide, rfl⟩, ⟨by decide, by omega⟩, ⟨by decide, rfl⟩, ⟨by decide, by omega⟩, ⟨by decide, rfl⟩, ⟨by decide, by omega⟩, ?_⟩
    simp only [intsA_kill, intsA_app]
    refine aend_frz rfl ⟨?_, rfl⟩
    rw [he, c3]
    simp [frz, AV.sub, AV.subL, intsA_pure, stA, nxS]
end Go.Proofs.YtndniceeibflcaaGreatDoor

namespace Go.Proofs.YtndniceeibflcaaGreatDoor
open Aw Mp Go.RowKit
set_option linter.unusedSimpArgs false
set_option maxRecDepth 8000

theorem ok113 : okFn Tryz.prog 113 = true := by kernel_rfl
theorem s113 (n lim : Int) (ls : List (Int × Int)) (l : List By) (t : MS) {c : Nat} (hI : InvS n c t) (hc : c ≤ 1000) (hls : ls.length ≤ 1000000) (x y : Int) (hx : 0 ≤ x) : ASpec Tryz.prog 113 [rfA n lim ls l, stA t, I x, I y] (fun r Ms => r = .t [stA (if erS n lim ls t 1 x y 0 = 0 then nxS t 1 x y 0 else t), I (erS n lim ls t 1 x y 0)] ∧ Ms = []) := by
  refine aspec_of (own := [4, 5, 8, 40]) Tryz.func113 rfl ok113 ?_
  have hp4 := hI.p4
  have hhl := hI.hl
  have hmv := hI.mv
  simp only [wB, awp, binC, cmpC, asP, asQ, asI, asN, obA, lenA, loadA, mkA, Aw.newRow, St.ev, St.step, setS, killS, AV.kill, AV.killL, Mem.kill, AV.cells, AV.flat, AV.single, AV.cellular, AV.size, AV.sizeL, Nat.reduceAdd, Nat.reduceEqDiff, Nat.reduceSub, Nat.reduceLeDiff, Int.reduceAdd, Int.reduceSub, lenK, Tryz.ntmps113, rfA, stA]
  by_cases c1 : (t.place.length : Int) ≤ x
  · simp only [wB, awp, asP, asQ, asB, asN, obA, loadA, storeA, putsA, St.ev, St.step, setS, killS, AV.kill, AV.killL, Mem.kill, AV.cells, AV.flat, AV.single, AV.cellular, Nat.reduceAdd, Nat.reduceEqDiff, Nat.reduceLeDiff, Int.reduceAdd, decide_eq_true c1]
    have he : erS n lim ls t 1 x y 0 = 4 := by simp only [erS]; rw [if_pos c1]
    refine aend_frz rfl ⟨?_, rfl⟩
    rw [he]
    rfl
  simp only [wB, awp, binC, cmpC, asP, asQ, asB, asI, obA, loadA, St.ev, St.step, setS, killS, AV.kill, AV.killL, Mem.kill, AV.cells, AV.flat, AV.single, Nat.reduceAdd, Nat.reduceEqDiff, Nat.reduceLeDiff, Int.reduceAdd, decide_eq_false c1]
  by_cases c2 : n ≤ y
  · simp only [wB, awp, asP, asQ, asN, obA, loadA, storeA, putsA, St.ev, St.step, setS, killS, AV.kill, AV.killL, Mem.kill, AV.cells, AV.flat, AV.single, AV.cellular, Nat.reduceAdd, Nat.reduceEqDiff, Nat.reduceLeDiff, Int.reduceAdd, decide_eq_true c2]
    have he : erS n lim ls t 1 x y 0 = 4 := by simp only [erS]; rw [if_neg c1, if_pos c2]
    refine aend_frz rfl ⟨?_, rfl⟩
    rw [he]
    rfl
  simp only [awp, ACond_false, decide_eq_false c2]
  have hxp : x.toNat < t.place.length := by omega
  have hxl : x.toNat < t.heats.length := by omega
  refine swp_draw (own := [4, 5, 8, 40]) (.take 0 .plain [] (.take 1 .reads [] (.take 2 .plain [] (.take 3 .reads [] (.take 4 .plain [] (.take 5 .reads [] (.take 6 .reads [] (.take 7 .plain [] (.alt 8 (.take 9 .plain [] (.done)) (.nil)))))))))) [⟨25, 16, 0, 0, true⟩, ⟨26, 16777216, 1, 0, true⟩, ⟨27, 32, 0, 0, true⟩, ⟨28, 67108864, 4, 0, true⟩, ⟨29, 4, 0, 0, true⟩, ⟨30, 402653184, 24, 0, true⟩, ⟨31, 536870912, 32, 0, true⟩, ⟨32, 8, 0, 0, true⟩, ⟨33, 3254779904, 194, 0, false⟩, ⟨34, 4294967296, 256, 0, true⟩] mo (by kernel_rfl) ?_
  simp only [wB, idxC, asP, asQ, asS, asI, obA, loadA, St.ev, setS, AV.cells, AV.flat, AV.single, Nat.reduceAdd, Nat.reduceEqDiff, Nat.reduceLeDiff, Int.reduceAdd, ASch, St.put, Md.mem, Md.need, aget_ints hxp]
  refine ⟨by omega, acall_v (s149 n ls t.place[x.toNat] y hls) (by simp [AV.pureL, AV.pure, prsA_pure]) rfl ?_⟩
  have he : erS n lim ls t 1 x y 0 = if lnk ls t.place[x.toNat] y = false then 8 else if memL t.place y = true then 6 else 0 := by
    simp only [erS, memL_eq]; rw [if_neg c1, if_neg c2, getD_eq hxp]
  cases c3 : lnk ls t.place[x.toNat] y with
  | false =>
    simp only [wB, awp, asP, asQ, asB, asN, obA, loadA, storeA, putsA, St.ev, St.step, setS, killS, AV.kill, AV.killL, Mem.kill, AV.cells, AV.flat, AV.single, AV.cellular, Nat.reduceAdd, Nat.reduceEqDiff, Nat.reduceLeDiff, Int.reduceAdd, ASch, St.put, Md.mem, Md.need]
    refine aend_frz rfl ⟨?_, rfl⟩
    rw [he, c3]
    rfl
  | true =>
  simp only [wB, awp, asP, asQ, asB, obA, loadA, St.ev, St.step, setS, killS, AV.kill, AV.killL, Mem.kill, AV.cells, AV.flat, AV.single, Nat.reduceAdd, Nat.reduceEqDiff, Nat.reduceLeDiff, Int.reduceAdd, ASch, St.put, Md.mem, Md.need]
  refine acall_v (s50 t.place y (by omega)) (by simp [AV.pureL, AV.pure, intsA_pure]) rfl ?_
  cases c4 : memL t.place y with
  | true =>
    simp only [wB, awp, asP, asQ, asB, asN, obA, loadA, storeA, putsA, St.ev, St.step, setS, killS, AV.kill, AV.killL, Mem.kill, AV.cells, AV.flat, AV.single, AV.cellular, Nat.reduceAdd, Nat.reduceEqDiff, Nat.reduceLeDiff, Int.reduceAdd]
    refine aend_frz rfl ⟨?_, rfl⟩
    rw [he, c3, c4]
    rfl
  | false =>
  have hst : (intsA t.place)[x.toNat]? = some (I t.place[x.toNat]) := by simp [intsA, hxp]
  simp only [wB, awp, idxC, asP, asQ, asO, asS, asB, asI, asN, obA, loadA, storeA, putsA, Aw.newRow, St.ev, St.step, setS, killS, AV.kill, AV.killL, Mem.kill, AV.cells, AV.flat, AV.single, AV.cellular, Value.oneCell', Nat.reduceAdd, Nat.reduceEqDiff, Nat.reduceMul, Nat.reduceLeDiff, Int.reduceAdd, Int.reduceMul, intsA_set', aget_ints hxp]
  refine ⟨⟨by decide, rfl⟩, ⟨by decide, by omega⟩, by omega, acall_v (s114 t.heats x ⟨hx, by omega⟩ (by omega) 3 (by omega) hI.hin) (by simp [AV.pureL, AV.pure, intsA_pure]) (by simp [AV.pure, intsA_pure]) ?_⟩
  simp only [wB, awp, binC, arithC, cmpC, asP, asQ, asI, asN, obA, loadA, storeA, putsA, St.ev, St.step, setS, killS, AV.kill, AV.killL, Mem.kill, AV.cells, AV.flat, AV.single, AV.cellular, Value.oneCell', Nat.reduceAdd, Nat.reduceEqDiff, Nat.reduceLeDiff, Int.reduceAdd, isU]
  refine ⟨by unfold Aw.lim; omega, aend_frz rfl ⟨?_, rfl⟩⟩
  rw [he, c3, c4]
  simp [frz, AV.sub, AV.subL, intsA_pure, stA, nxS]
end Go.Proofs.YtndniceeibflcaaGreatDoor

namespace Go.Proofs.YtndniceeibflcaaGreatDoor
open Aw Mp Go.RowKit
set_option linter.unusedSimpArgs false
set_option maxRecDepth 8000

theorem ok115 : okFn Tryz.prog 115 = true := by kernel_rfl
theorem s115_4 (n lm : Int) (ls : List (Int × Int)) (l : List By) (t : MS) {c : Nat} (hI : InvS n c t) (hc : c ≤ 1000) (hls : ls.length ≤ 1000000) (x y z : Int) (hx : 0 ≤ x) : ASpec Tryz.prog 115 [rfA n lm ls l, stA t, S [116, 117, 114, 110], .g [I x, I y, I z]] (fun r Ms => r = .t [stA (if erS n lm ls t 4 x y z = 0 then nxS t 4 x y z else t), I (erS n lm ls t 4 x y z)] ∧ Ms = []) := by
  refine aspec_of (own := [4, 5, 7, 8, 13, 130]) Tryz.func115 rfl ok115 ?_
  have hp4 := hI.p4
  have hhl := hI.hl
  have hdn := hI.dn
  have hc10 := hI.c10
  simp only [wB, awp, asN, mkA, Aw.newRow, St.ev, St.step, setS, killS, AV.kill, AV.killL, Mem.kill, AV.cellular, AV.size, AV.sizeL, Nat.reduceAdd, Nat.reduceEqDiff, Nat.reduceSub, Int.reduceAdd, Int.reduceSub, Int.reduceNeg, Tryz.ntmps115, rfA, stA]
  refine swp_draw (own := [4, 5, 7, 8, 13, 130]) (.take 0 .reads [] (.take 1 .reads [] (.take 2 .reads [] (.take 3 .reads [] (.take 4 .plain [] (.take 5 .plain [] (.take 6 .plain [] (.done)))))))) [⟨15, 128, 0, 0, true⟩, ⟨16, 16384, 1, 0, true⟩, ⟨17, 128, 0, 0, true⟩, ⟨18, 65536, 4, 0, true⟩, ⟨11, 32768, 3, 0, true⟩, ⟨12, 0, 19, 0, true⟩, ⟨13, 131072, 63, 0, true⟩] mo (by kernel_rfl) ?_
  have nj : ¬ ([116, 117, 114, 110] : List UInt8) = [106, 111, 105, 110] := by decide
  have e3 : ((3 : Nat) : Int) = 3 := rfl
  have ret : ∀ e : Int, e ≠ 0 → erS n lm ls t 4 x y z = e → AV.t [stA t, I e] = .t [stA (if erS n lm ls t 4 x y z = 0 then nxS t 4 x y z else t), I (erS n lm ls t 4 x y z)] := fun e h0 h1 => by rw [h1, if_neg h0]
  simp only [wB, awp, binC, idxC, cmpC, eqC, asP, asQ, asG, asB, asI, asN, obA, lenA, loadA, St.ev, St.step, setS, killS, AV.kill, AV.killL, Mem.kill, AV.cells, AV.flat, AV.single, Nat.reduceAdd, Nat.reduceEqDiff, Nat.reduceMul, Nat.reduceLeDiff, Int.reduceAdd, Int.reduceMul, Int.reduceNeg, Int.reduceLE, Int.reduceLT, ASch, St.put, Md.mem, Md.need, asStr, strC, lenK, decide_eq_false nj, e3]
  by_cases c1 : (t.place.length : Int) ≤ x
  · simp only [wB, awp, asP, asQ, asB, asN, obA, loadA, storeA, putsA, St.ev, St.step, setS, killS, AV.kill, AV.killL, Mem.kill, AV.cells, AV.flat, AV.single, AV.cellular, Nat.reduceAdd, Nat.reduceEqDiff, Nat.reduceLeDiff, Int.reduceAdd, Int.reduceNeg, decide_eq_true c1]
    refine aend_frz rfl ⟨?_, rfl⟩
    rw [← ret 4 (by decide) (by simp only [erS]; rw [if_pos c1])]
    rfl
  have c1' : ¬ (t.place.length : Int) ≤ -1 := by omega
  simp only [wB, awp, binC, cmpC, asP, asQ, asB, asI, obA, lenA, loadA, St.ev, St.step, setS, killS, AV.kill, AV.killL, Mem.kill, AV.cells, AV.flat, AV.single, Nat.reduceAdd, Nat.reduceEqDiff, Nat.reduceLeDiff, Int.reduceAdd, Int.reduceNeg, lenK, decide_eq_false c1, decide_eq_false c1']
  by_cases c2 : y < 1
  · simp only [wB, awp, asP, asQ, asB, asN, obA, loadA, storeA, putsA, St.ev, St.step, setS, killS, AV.kill, AV.killL, Mem.kill, AV.cells, AV.flat, AV.single, AV.cellular, Nat.reduceAdd, Nat.reduceEqDiff, Nat.reduceLeDiff, Int.reduceAdd, Int.reduceNeg, decide_eq_true c2]
    refine aend_frz rfl ⟨?_, rfl⟩
    rw [← ret 1 (by decide) (by simp only [erS, er1]; rw [if_neg c1, if_pos (.inl c2)])]
    rfl
  simp only [wB, binC, cmpC, asB, asI, St.ev, St.step, setS, killS, AV.kill, AV.killL, Mem.kill, Int.reduceNeg, decide_eq_false c2]
  by_cases c3 : 15 < y
  · simp only [wB, awp, asP, asQ, asB, asN, obA, loadA, storeA, putsA, St.ev, St.step, setS, killS, AV.kill, AV.killL, Mem.kill, AV.cells, AV.flat, AV.single, AV.cellular, Nat.reduceAdd, Nat.reduceEqDiff, Nat.reduceLeDiff, Int.reduceAdd, Int.reduceNeg, decide_eq_true c3]
    refine aend_frz rfl ⟨?_, rfl⟩
    rw [← ret 1 (by decide) (by simp only [erS, er1]; rw [if_neg c1, if_pos (.inr (by omega))])]
    rfl
  have c4 : ¬ x = -1 := by omega
  simp only [wB, awp, binC, cmpC, asB, asI, St.ev, St.step, setS, killS, AV.kill, AV.killL, Mem.kill, Int.reduceNeg, decide_eq_false c3, decide_eq_false c4]
  have hxl : x.toNat < t.heats.length := by omega
  refine swp_draw (own := [4, 5, 7, 8, 13, 130]) (.take 0 .plain [] (.take 1 .plain [] (.take 2 .plain [] (.take 3 .plain [] (.take 4 .reads [] (.take 5 .plain [] (.take 6 .reads [] (.take 7 .plain [] (.take 8 .reads [] (.take 9 .reads [] (.take 10 .plain [] (.take 11 .reads [] (.take 12 .plain [] (.take 13 .reads [] (.take 14 .reads [] (.alt 15 (.take 16 .plain [] (.take 17 .plain [] (.done))) (.nil))))))))))))))))) [⟨50, 2048, 0, 0, true⟩, ⟨51, 562949953421312, 1, 0, true⟩, ⟨52, 1125899906842624, 2, 0, true⟩, ⟨53, 2251799813685264, 4, 0, true⟩, ⟨54, 6755399441055744, 12, 0, true⟩, ⟨55, 2251799813685280, 4, 0, true⟩, ⟨56, 20266198323167232, 36, 0, true⟩, ⟨57, 2251799813686272, 4, 0, true⟩, ⟨58, 110338190870577152, 196, 0, true⟩, ⟨59, 146366987889541120, 260, 0, true⟩, ⟨60, 2251799813685280, 4, 0, true⟩, ⟨61, 578712552117108736, 1028, 0, true⟩, ⟨62, 2251799813687296, 4, 0, true⟩, ⟨63, 3461016313634226176, 6148, 0, true⟩, ⟨64, 4613937818241073152, 8196, 0, true⟩, ⟨65, 9522861412074913792, 16916, 0, false⟩, ⟨66, 18448995873523236864, 32772, 0, true⟩, ⟨67, 36895739947232788480, 65540, 0, true⟩] mo (by kernel_rfl) ?_
  simp only [wB, awp, binC, cmpC, asB, asI, St.ev, St.step, setS, killS, AV.kill, AV.killL, Mem.kill, Int.reduceNeg, Int.reduceLE, ASch, St.put, Md.mem, Md.need]
  refine swp_draw (own := [4, 5, 7, 8, 13, 130]) (.take 0 .plain [] (.take 1 .reads [] (.take 2 .plain [] (.take 3 .reads [] (.take 4 .reads [] (.take 5 .plain [] (.take 6 .reads [] (.take 7 .plain [] (.take 8 .plain [] (.take 9 .plain [] (.take 10 .plain [] (.take 11 .plain [] (.take 12 .plain [] (.take 13 .reads [] (.take 14 .plain [] (.take 15 .reads [] (.take 16 .reads [] (.take 17 .plain [] (.take 18 .reads [] (.take 19 .plain [] (.take 20 .plain [] (.take 21 .plain [] (.done))))))))))))))))))))))) [⟨69, 32, 0, 0, true⟩, ⟨70, 295147905179352825856, 1, 0, true⟩, ⟨71, 1024, 0, 0, true⟩, ⟨72, 1770887431076116955136, 6, 0, true⟩, ⟨73, 2361183241434822606848, 8, 0, true⟩, ⟨74, 16, 0, 0, true⟩, ⟨75, 9444732965739290427392, 32, 0, true⟩, ⟨76, 23611832414348226068480, 80, 0, true⟩, ⟨77, 37778931862957161709568, 128, 0, true⟩, ⟨78, 75557863725914323421184, 256, 0, true⟩, ⟨79, 226673591177742970257408, 768, 0, true⟩, ⟨80, 377789318629571617095680, 1280, 0, true⟩, ⟨81, 604462909807314587353120, 2048, 0, true⟩, ⟨82, 1813388729421943762059264, 6144, 0, true⟩, ⟨83, 604462909807314587355136, 2048, 0, true⟩, ⟨84, 7858017827495089635590144, 26624, 0, true⟩, ⟨85, 10275869466724347985002496, 34816, 0, true⟩, ⟨86, 604462909807314587353104, 2048, 0, true⟩, ⟨87, 39290089137475448177950720, 133120, 0, true⟩, ⟨88, 97318528478977648563847168, 329728, 0, true⟩, ⟨89, 155422525684205763273162752, 526592, 0, true⟩, ⟨90, 309560567685070983048200192, 1048832, 0, true⟩] mo (by kernel_rfl) ?_
  simp only [wB, binC, idxC, cmpC, asP, asQ, asS, asI, obA, loadA, St.ev, setS, AV.cells, AV.flat, AV.single, Nat.reduceAdd, Nat.reduceEqDiff, Nat.reduceLeDiff, Int.reduceAdd, Int.reduceNeg, ASch, St.put, Md.mem, Md.need, aget_ints hxl]
  refine ⟨by omega, ?_⟩
  have hgx : t.heats.getD x.toNat 0 = t.heats[x.toNat] := getD_eq hxl
  by_cases c5 : lm < t.heats[x.toNat]
  · simp only [wB, awp, asP, asQ, asB, asN, obA, loadA, storeA, putsA, St.ev, St.step, setS, killS, AV.kill, AV.killL, Mem.kill, AV.cells, AV.flat, AV.single, AV.cellular, Nat.reduceAdd, Nat.reduceEqDiff, Nat.reduceLeDiff, Int.reduceAdd, Int.reduceNeg, ASch, St.put, Md.mem, Md.need, decide_eq_true c5]
    refine aend_frz rfl ⟨?_, rfl⟩
    rw [← ret 8 (by decide) (by simp only [erS, er1]; rw [if_neg c1, if_neg (by omega), if_pos (by rw [hgx]; exact c5)])]
    rfl
  simp only [wB, awp, binC, cmpC, asP, asQ, asB, asI, obA, lenA, loadA, St.ev, St.step, setS, killS, AV.kill, AV.killL, Mem.kill, AV.cells, AV.flat, AV.single, Nat.reduceAdd, Nat.reduceEqDiff, Nat.reduceLeDiff, Int.reduceAdd, Int.reduceNeg, Int.reduceLE, ASch, St.put, Md.mem, Md.need, lenK, decide_eq_false c5, gtsA_len]
  by_cases c6 : (10 : Int) ≤ t.circ.length
  · simp only [wB, awp, asP, asQ, asN, obA, loadA, storeA, putsA, St.ev, St.step, setS, killS, AV.kill, AV.killL, Mem.kill, AV.cells, AV.flat, AV.single, AV.cellular, Nat.reduceAdd, Nat.reduceEqDiff, Nat.reduceLeDiff, Int.reduceAdd, Int.reduceNeg, decide_eq_true c6]
    refine aend_frz rfl ⟨?_, rfl⟩
    rw [← ret 3 (by decide) (by simp only [erS, er1]; rw [if_neg c1, if_neg (by omega), if_neg (by rw [hgx]; exact c5), if_pos (by omega)])]
    rfl
  have he : erS n lm ls t 4 x y z = 0 := by simp only [erS, er1]; rw [if_neg c1, if_neg (by omega), if_neg (by rw [hgx]; exact c5), if_neg (by omega)]
  simp only [wB, awp, binC, eqC, asP, asQ, asG, asB, asI, asN, obA, loadA, storeA, fillA, putsA, mkA, Aw.newRow, St.ev, St.step, setS, killS, AV.kill, AV.killL, Mem.kill, AV.cells, AV.flat, AV.single, AV.cellular, Value.oneCell', Nat.reduceAdd, Nat.reduceEqDiff, Nat.reduceLeDiff, Int.reduceAdd, Int.reduceNeg, asStr, strC, decide_eq_false c6]
  refine acall_v (s114 t.heats x ⟨hx, by omega⟩ (by omega) 1 (by omega) hI.hin) (by simp [AV.pureL, AV.pure, intsA_pure]) (by simp [AV.pure, intsA_pure]) ?_
  simp only [wB, awp, asP, asQ, obA, storeA, putsA, St.ev, St.step, setS, killS, AV.kill, AV.killL, Mem.kill, AV.cells, AV.flat, AV.single, AV.cellular, Nat.reduceAdd, Nat.reduceEqDiff, Nat.reduceLeDiff, Int.reduceAdd, Int.reduceNeg]
  refine swp_draw (own := [4, 5, 7, 8, 13, 130]) (.take 1 .plain [] (.take 2 .reads [] (.alt 0 (.alt 3 (.take 4 .reads [] (.take 5 .plain [] (.alt 6 (.take 7 .plain [] (.alt 8 (.done) (.nil))) (.nil)))) (.alt 4 (.take 5 .over [134] (.alt 3 (.alt 6 (.take 7 .plain [] (.alt 8 (.done) (.nil))) (.nil)) (.nil))) (.nil))) (.alt 4 (.take 5 .over [134] (.alt 0 (.alt 3 (.alt 6 (.take 7 .plain [] (.alt 8 (.done) (.nil))) (.nil)) (.nil)) (.nil))) (.nil))))) [⟨131, 0, 0, 0, false⟩, ⟨132, 32, 0, 0, true⟩, ⟨133, 2722258935367507707706996859454145691648, 2, 0, true⟩, ⟨134, 6805647338418769269267492148635364229120, 5, 2, false⟩, ⟨135, 8192, 0, 0, true⟩, ⟨136, 21778071482940061661655974875633165533184, 16, 0, true⟩, ⟨137, 54445178707350154154139937189082913832960, 40, 2, false⟩, ⟨138, 32, 127, 0, true⟩, ⟨0, 261336857795280739939871698507597986398208, 255, 1, false⟩] mo (by kernel_rfl) ?_
  have hga : gtsA t.circ ++ [AV.g [AV.v (.int .i64 0), I x, AV.v (.int .i64 (-1)), I y]] = gtsA (t.circ ++ [⟨0, x, -1, y⟩]) := by simp [gtsA, gA]
  simp only [wB, awp, binC, arithC, cmpC, asP, asQ, asO, asS, asI, asN, obA, loadA, storeA, putsA, Aw.newRow, St.ev, St.step, setS, killS, AV.kill, AV.killL, Mem.kill, AV.cells, AV.flat, AV.single, AV.cellular, AV.size, AV.sizeL, AV.pure, AV.pureL, Value.oneCell', Nat.reduceAdd, Nat.reduceEqDiff, Nat.reduceMul, Nat.reduceLeDiff, Int.reduceAdd, Int.reduceMul, Int.reduceNeg, ASch, St.put, Md.mem, Md.need, isU, gtsA_len, gtsA_kill, hga]
  repeat' (first | exact ⟨by decide, rfl⟩ | exact ⟨by decide, by omega⟩ | (unfold lim; omega) | refine And.intro ?_ ?_)
  all_goals
    refine aend_frz rfl ⟨?_, rfl⟩
    rw [he]
    simp [frz, AV.sub, AV.subL, gtsA_pure, stA, nxS]
end Go.Proofs.YtndniceeibflcaaGreatDoor

namespace Go.Proofs.YtndniceeibflcaaGreatDoor
open Aw Mp Go.RowKit
set_option linter.unusedSimpArgs false
set_option maxRecDepth 8000

theorem s115_5 (n lm : Int) (ls : List (Int × Int)) (l : List By) (t : MS) {c : Nat} (hI : InvS n c t) (hc : c ≤ 1000) (hls : ls.length ≤ 1000000) (x y z : Int) (hx : 0 ≤ x) : ASpec Tryz.prog 115 [rfA n lm ls l, stA t, S [115, 112, 105, 110], .g [I x, I y, I z]] (fun r Ms => r = .t [stA (if erS n lm ls t 5 x y z = 0 then nxS t 5 x y z else t), I (erS n lm ls t 5 x y z)] ∧ Ms = []) := by
  refine aspec_of (own := [4, 5, 7, 8, 13, 130]) Tryz.func115 rfl ok115 ?_
  have hp4 := hI.p4
  have hhl := hI.hl
  have hdn := hI.dn
  have hc10 := hI.c10
  simp only [wB, awp, asN, mkA, Aw.newRow, St.ev, St.step, setS, killS, AV.kill, AV.killL, Mem.kill, AV.cellular, AV.size, AV.sizeL, Nat.reduceAdd, Nat.reduceEqDiff, Nat.reduceSub, Int.reduceAdd, Int.reduceSub, Int.reduceNeg, Tryz.ntmps115, rfA, stA]
  refine swp_draw (own := [4, 5, 7, 8, 13, 130]) (.take 0 .reads [] (.take 1 .reads [] (.take 2 .reads [] (.take 3 .reads [] (.take 4 .plain [] (.take 5 .plain [] (.take 6 .plain [] (.done)))))))) [⟨15, 128, 0, 0, true⟩, ⟨16, 16384, 1, 0, true⟩, ⟨17, 128, 0, 0, true⟩, ⟨18, 65536, 4, 0, true⟩, ⟨11, 32768, 3, 0, true⟩, ⟨12, 0, 19, 0, true⟩, ⟨13, 131072, 63, 0, true⟩] mo (by kernel_rfl) ?_
  have nj : ¬ ([115, 112, 105, 110] : List UInt8) = [106, 111, 105, 110] := by decide
  have nt : ¬ ([115, 112, 105, 110] : List UInt8) = [116, 117, 114, 110] := by decide
  have e3 : ((3 : Nat) : Int) = 3 := rfl
  have ret : ∀ e : Int, e ≠ 0 → erS n lm ls t 5 x y z = e → AV.t [stA t, I e] = .t [stA (if erS n lm ls t 5 x y z = 0 then nxS t 5 x y z else t), I (erS n lm ls t 5 x y z)] := fun e h0 h1 => by rw [h1, if_neg h0]
  simp only [wB, awp, binC, idxC, cmpC, eqC, asP, asQ, asG, asB, asI, asN, obA, lenA, loadA, St.ev, St.step, setS, killS, AV.kill, AV.killL, Mem.kill, AV.cells, AV.flat, AV.single, Nat.reduceAdd, Nat.reduceEqDiff, Nat.reduceMul, Nat.reduceLeDiff, Int.reduceAdd, Int.reduceMul, Int.reduceNeg, Int.reduceLE, Int.reduceLT, ASch, St.put, Md.mem, Md.need, asStr, strC, lenK, decide_eq_false nj, e3]
  by_cases c1 : (t.place.length : Int) ≤ x
  · simp only [wB, awp, asP, asQ, asB, asN, obA, loadA, storeA, putsA, St.ev, St.step, setS, killS, AV.kill, AV.killL, Mem.kill, AV.cells, AV.flat, AV.single, AV.cellular, Nat.reduceAdd, Nat.reduceEqDiff, Nat.reduceLeDiff, Int.reduceAdd, Int.reduceNeg, decide_eq_true c1]
    refine aend_frz rfl ⟨?_, rfl⟩
    rw [← ret 4 (by decide) (by simp only [erS]; rw [if_pos c1])]
    rfl
  have c1' : ¬ (t.place.length : Int) ≤ -1 := by omega
  simp only [wB, awp, binC, cmpC, asP, asQ, asB, asI, obA, lenA, loadA, St.ev, St.step, setS, killS, AV.kill, AV.killL, Mem.kill, AV.cells, AV.flat, AV.single, Nat.reduceAdd, Nat.reduceEqDiff, Nat.reduceLeDiff, Int.reduceAdd, Int.reduceNeg, lenK, decide_eq_false c1, decide_eq_false c1']
  by_cases c2 : y < 1
  · simp only [wB, awp, asP, asQ, asB, asN, obA, loadA, storeA, putsA, St.ev, St.step, setS, killS, AV.kill, AV.killL, Mem.kill, AV.cells, AV.flat, AV.single, AV.cellular, Nat.reduceAdd, Nat.reduceEqDiff, Nat.reduceLeDiff, Int.reduceAdd, Int.reduceNeg, decide_eq_true c2]
    refine aend_frz rfl ⟨?_, rfl⟩
    rw [← ret 1 (by decide) (by simp only [erS, er1]; rw [if_neg c1, if_pos (.inl c2)])]
    rfl
  simp only [wB, binC, cmpC, asB, asI, St.ev, St.step, setS, killS, AV.kill, AV.killL, Mem.kill, Int.reduceNeg, decide_eq_false c2]
  by_cases c3 : 15 < y
  · simp only [wB, awp, asP, asQ, asB, asN, obA, loadA, storeA, putsA, St.ev, St.step, setS, killS, AV.kill, AV.killL, Mem.kill, AV.cells, AV.flat, AV.single, AV.cellular, Nat.reduceAdd, Nat.reduceEqDiff, Nat.reduceLeDiff, Int.reduceAdd, Int.reduceNeg, decide_eq_true c3]
    refine aend_frz rfl ⟨?_, rfl⟩
    rw [← ret 1 (by decide) (by simp only [erS, er1]; rw [if_neg c1, if_pos (.inr (by omega))])]
    rfl
  have c4 : ¬ x = -1 := by omega
  simp only [wB, awp, binC, cmpC, asB, asI, St.ev, St.step, setS, killS, AV.kill, AV.killL, Mem.kill, Int.reduceNeg, decide_eq_false c3, decide_eq_false c4]
  have hxl : x.toNat < t.heats.length := by omega
  refine swp_draw (own := [4, 5, 7, 8, 13, 130]) (.take 0 .plain [] (.take 1 .plain [] (.take 2 .plain [] (.take 3 .plain [] (.take 4 .reads [] (.take 5 .plain [] (.take 6 .reads [] (.take 7 .plain [] (.take 8 .reads [] (.take 9 .reads [] (.take 10 .plain [] (.take 11 .reads [] (.take 12 .plain [] (.take 13 .reads [] (.take 14 .reads [] (.alt 15 (.take 16 .plain [] (.take 17 .plain [] (.done))) (.nil))))))))))))))))) [⟨50, 2048, 0, 0, true⟩, ⟨51, 562949953421312, 1, 0, true⟩, ⟨52, 1125899906842624, 2, 0, true⟩, ⟨53, 2251799813685264, 4, 0, true⟩, ⟨54, 6755399441055744, 12, 0, true⟩, ⟨55, 2251799813685280, 4, 0, true⟩, ⟨56, 20266198323167232, 36, 0, true⟩, ⟨57, 2251799813686272, 4, 0, true⟩, ⟨58, 110338190870577152, 196, 0, true⟩, ⟨59, 146366987889541120, 260, 0, true⟩, ⟨60, 2251799813685280, 4, 0, true⟩, ⟨61, 578712552117108736, 1028, 0, true⟩, ⟨62, 2251799813687296, 4, 0, true⟩, ⟨63, 3461016313634226176, 6148, 0, true⟩, ⟨64, 4613937818241073152, 8196, 0, true⟩, ⟨65, 9522861412074913792, 16916, 0, false⟩, ⟨66, 18448995873523236864, 32772, 0, true⟩, ⟨67, 36895739947232788480, 65540, 0, true⟩] mo (by kernel_rfl) ?_
  simp only [wB, awp, binC, cmpC, asB, asI, St.ev, St.step, setS, killS, AV.kill, AV.killL, Mem.kill, Int.reduceNeg, Int.reduceLE, ASch, St.put, Md.mem, Md.need]
  refine swp_draw (own := [4, 5, 7, 8, 13, 130]) (.take 0 .plain [] (.take 1 .reads [] (.take 2 .plain [] (.take 3 .reads [] (.take 4 .reads [] (.take 5 .plain [] (.take 6 .reads [] (.take 7 .plain [] (.take 8 .plain [] (.take 9 .plain [] (.take 10 .plain [] (.take 11 .plain [] (.take 12 .plain [] (.take 13 .reads [] (.take 14 .plain [] (.take 15 .reads [] (.take 16 .reads [] (.take 17 .plain [] (.take 18 .reads [] (.take 19 .plain [] (.take 20 .plain [] (.take 21 .plain [] (.done))))))))))))))))))))))) [⟨69, 32, 0, 0, true⟩, ⟨70, 295147905179352825856, 1, 0, true⟩, ⟨71, 1024, 0, 0, true⟩, ⟨72, 1770887431076116955136, 6, 0, true⟩, ⟨73, 2361183241434822606848, 8, 0, true⟩, ⟨74, 16, 0, 0, true⟩, ⟨75, 9444732965739290427392, 32, 0, true⟩, ⟨76, 23611832414348226068480, 80, 0, true⟩, ⟨77, 37778931862957161709568, 128, 0, true⟩, ⟨78, 75557863725914323421184, 256, 0, true⟩, ⟨79, 226673591177742970257408, 768, 0, true⟩, ⟨80, 377789318629571617095680, 1280, 0, true⟩, ⟨81, 604462909807314587353120, 2048, 0, true⟩, ⟨82, 1813388729421943762059264, 6144, 0, true⟩, ⟨83, 604462909807314587355136, 2048, 0, true⟩, ⟨84, 7858017827495089635590144, 26624, 0, true⟩, ⟨85, 10275869466724347985002496, 34816, 0, true⟩, ⟨86, 604462909807314587353104, 2048, 0, true⟩, ⟨87, 39290089137475448177950720, 133120, 0, true⟩, ⟨88, 97318528478977648563847168, 329728, 0, true⟩, ⟨89, 155422525684205763273162752, 526592, 0, true⟩, ⟨90, 309560567685070983048200192, 1048832, 0, true⟩] mo (by kernel_rfl) ?_
  simp only [wB, binC, idxC, cmpC, asP, asQ, asS, asI, obA, loadA, St.ev, setS, AV.cells, AV.flat, AV.single, Nat.reduceAdd, Nat.reduceEqDiff, Nat.reduceLeDiff, Int.reduceAdd, Int.reduceNeg, ASch, St.put, Md.mem, Md.need, aget_ints hxl]
  refine ⟨by omega, ?_⟩
  have hgx : t.heats.getD x.toNat 0 = t.heats[x.toNat] := getD_eq hxl
  by_cases c5 : lm < t.heats[x.toNat]
  · simp only [wB, awp, asP, asQ, asB, asN, obA, loadA, storeA, putsA, St.ev, St.step, setS, killS, AV.kill, AV.killL, Mem.kill, AV.cells, AV.flat, AV.single, AV.cellular, Nat.reduceAdd, Nat.reduceEqDiff, Nat.reduceLeDiff, Int.reduceAdd, Int.reduceNeg, ASch, St.put, Md.mem, Md.need, decide_eq_true c5]
    refine aend_frz rfl ⟨?_, rfl⟩
    rw [← ret 8 (by decide) (by simp only [erS, er1]; rw [if_neg c1, if_neg (by omega), if_pos (by rw [hgx]; exact c5)])]
    rfl
  simp only [wB, awp, binC, cmpC, asP, asQ, asB, asI, obA, lenA, loadA, St.ev, St.step, setS, killS, AV.kill, AV.killL, Mem.kill, AV.cells, AV.flat, AV.single, Nat.reduceAdd, Nat.reduceEqDiff, Nat.reduceLeDiff, Int.reduceAdd, Int.reduceNeg, Int.reduceLE, ASch, St.put, Md.mem, Md.need, lenK, decide_eq_false c5, gtsA_len]
  by_cases c6 : (10 : Int) ≤ t.circ.length
  · simp only [wB, awp, asP, asQ, asN, obA, loadA, storeA, putsA, St.ev, St.step, setS, killS, AV.kill, AV.killL, Mem.kill, AV.cells, AV.flat, AV.single, AV.cellular, Nat.reduceAdd, Nat.reduceEqDiff, Nat.reduceLeDiff, Int.reduceAdd, Int.reduceNeg, decide_eq_true c6]
    refine aend_frz rfl ⟨?_, rfl⟩
    rw [← ret 3 (by decide) (by simp only [erS, er1]; rw [if_neg c1, if_neg (by omega), if_neg (by rw [hgx]; exact c5), if_pos (by omega)])]
    rfl
  have he : erS n lm ls t 5 x y z = 0 := by simp only [erS, er1]; rw [if_neg c1, if_neg (by omega), if_neg (by rw [hgx]; exact c5), if_neg (by omega)]
  simp only [wB, awp, binC, eqC, asP, asQ, asG, asB, asI, asN, obA, loadA, storeA, fillA, putsA, mkA, Aw.newRow, St.ev, St.step, setS, killS, AV.kill, AV.killL, Mem.kill, AV.cells, AV.flat, AV.single, AV.cellular, Value.oneCell', Nat.reduceAdd, Nat.reduceEqDiff, Nat.reduceLeDiff, Int.reduceAdd, Int.reduceNeg, asStr, strC, decide_eq_false c6, decide_eq_false nt]
  refine acall_v (s114 t.heats x ⟨hx, by omega⟩ (by omega) 1 (by omega) hI.hin) (by simp [AV.pureL, AV.pure, intsA_pure]) (by simp [AV.pure, intsA_pure]) ?_
  simp only [wB, awp, asP, asQ, obA, storeA, putsA, St.ev, St.step, setS, killS, AV.kill, AV.killL, Mem.kill, AV.cells, AV.flat, AV.single, AV.cellular, Nat.reduceAdd, Nat.reduceEqDiff, Nat.reduceLeDiff, Int.reduceAdd, Int.reduceNeg]
  refine swp_draw (own := [4, 5, 7, 8, 13, 130]) (.take 1 .plain [] (.take 2 .reads [] (.alt 0 (.alt 3 (.take 4 .reads [] (.take 5 .plain [] (.alt 6 (.take 7 .plain [] (.alt 8 (.done) (.nil))) (.nil)))) (.alt 4 (.take 5 .over [134] (.alt 3 (.alt 6 (.take 7 .plain [] (.alt 8 (.done) (.nil))) (.nil)) (.nil))) (.nil))) (.alt 4 (.take 5 .over [134] (.alt 0 (.alt 3 (.alt 6 (.take 7 .plain [] (.alt 8 (.done) (.nil))) (.nil)) (.nil)) (.nil))) (.nil))))) [⟨131, 0, 0, 0, false⟩, ⟨132, 32, 0, 0, true⟩, ⟨133, 2722258935367507707706996859454145691648, 2, 0, true⟩, ⟨134, 6805647338418769269267492148635364229120, 5, 2, false⟩, ⟨135, 8192, 0, 0, true⟩, ⟨136, 21778071482940061661655974875633165533184, 16, 0, true⟩, ⟨137, 54445178707350154154139937189082913832960, 40, 2, false⟩, ⟨138, 32, 127, 0, true⟩, ⟨0, 261336857795280739939871698507597986398208, 255, 1, false⟩] mo (by kernel_rfl) ?_
  have hga : gtsA t.circ ++ [AV.g [AV.v (.int .i64 1), I x, AV.v (.int .i64 (-1)), I y]] = gtsA (t.circ ++ [⟨1, x, -1, y⟩]) := by simp [gtsA, gA]
  simp only [wB, awp, binC, arithC, cmpC, asP, asQ, asO, asS, asI, asN, obA, loadA, storeA, putsA, Aw.newRow, St.ev, St.step, setS, killS, AV.kill, AV.killL, Mem.kill, AV.cells, AV.flat, AV.single, AV.cellular, AV.size, AV.sizeL, AV.pure, AV.pureL, Value.oneCell', Nat.reduceAdd, Nat.reduceEqDiff, Nat.reduceMul, Nat.reduceLeDiff, Int.reduceAdd, Int.reduceMul, Int.reduceNeg, ASch, St.put, Md.mem, Md.need, isU, gtsA_len, gtsA_kill, hga]
  repeat' (first | exact ⟨by decide, rfl⟩ | exact ⟨by decide, by omega⟩ | (unfold lim; omega) | refine And.intro ?_ ?_)
  all_goals
    refine aend_frz rfl ⟨?_, rfl⟩
    rw [he]
    simp [frz, AV.sub, AV.subL, gtsA_pure, stA, nxS]
end Go.Proofs.YtndniceeibflcaaGreatDoor

namespace Go.Proofs.YtndniceeibflcaaGreatDoor
open Aw Mp Go.RowKit
set_option linter.unusedSimpArgs false
set_option maxRecDepth 8000

theorem s115_6 (n lm : Int) (ls : List (Int × Int)) (l : List By) (t : MS) {c : Nat} (hI : InvS n c t) (hc : c ≤ 1000) (hls : ls.length ≤ 1000000) (x y z : Int) (hx : 0 ≤ x) (hy : 0 ≤ y) : ASpec Tryz.prog 115 [rfA n lm ls l, stA t, S [106, 111, 105, 110], .g [I x, I y, I z]] (fun r Ms => r = .t [stA (if erS n lm ls t 6 x y z = 0 then nxS t 6 x y z else t), I (erS n lm ls t 6 x y z)] ∧ Ms = []) := by
  refine aspec_of (own := [4, 5, 7, 8, 13, 130]) Tryz.func115 rfl ok115 ?_
  have hp4 := hI.p4
  have hhl := hI.hl
  have hdn := hI.dn
  have hc10 := hI.c10
  simp only [wB, awp, asN, mkA, Aw.newRow, St.ev, St.step, setS, killS, AV.kill, AV.killL, Mem.kill, AV.cellular, AV.size, AV.sizeL, Nat.reduceAdd, Nat.reduceEqDiff, Nat.reduceSub, Int.reduceAdd, Int.reduceSub, Int.reduceNeg, Tryz.ntmps115, rfA, stA]
  refine swp_draw (own := [4, 5, 7, 8, 13, 130]) (.take 0 .reads [] (.take 1 .reads [] (.take 2 .reads [] (.take 3 .reads [] (.take 4 .plain [] (.take 5 .plain [] (.take 6 .plain [] (.done)))))))) [⟨15, 128, 0, 0, true⟩, ⟨16, 16384, 1, 0, true⟩, ⟨17, 128, 0, 0, true⟩, ⟨18, 65536, 4, 0, true⟩, ⟨11, 32768, 3, 0, true⟩, ⟨12, 0, 19, 0, true⟩, ⟨13, 131072, 63, 0, true⟩] mo (by kernel_rfl) ?_
  have nt : ¬ ([106, 111, 105, 110] : List UInt8) = [116, 117, 114, 110] := by decide
  have ns : ¬ ([106, 111, 105, 110] : List UInt8) = [115, 112, 105, 110] := by decide
  have e3 : ((3 : Nat) : Int) = 3 := rfl
  have ret : ∀ e : Int, e ≠ 0 → erS n lm ls t 6 x y z = e → AV.t [stA t, I e] = .t [stA (if erS n lm ls t 6 x y z = 0 then nxS t 6 x y z else t), I (erS n lm ls t 6 x y z)] := fun e h0 h1 => by rw [h1, if_neg h0]
  simp only [wB, awp, binC, idxC, eqC, asP, asQ, asG, asB, asI, asN, obA, loadA, St.ev, St.step, setS, killS, AV.kill, AV.killL, Mem.kill, AV.cells, AV.flat, AV.single, Nat.reduceAdd, Nat.reduceEqDiff, Nat.reduceMul, Nat.reduceLeDiff, Int.reduceAdd, Int.reduceMul, Int.reduceNeg, Int.reduceLE, Int.reduceLT, ASch, St.put, Md.mem, Md.need, asStr, strC, e3]
  refine swp_draw (own := [4, 5, 7, 8, 13, 130]) (.take 0 .reads [] (.take 1 .reads [] (.take 2 .reads [] (.take 3 .reads [] (.take 4 .plain [] (.take 5 .plain [] (.done))))))) [⟨21, 128, 0, 0, true⟩, ⟨22, 1048576, 1, 0, true⟩, ⟨23, 128, 0, 0, true⟩, ⟨24, 4194304, 4, 0, true⟩, ⟨12, 2097152, 3, 0, true⟩, ⟨13, 8388608, 31, 0, true⟩] mo (by kernel_rfl) ?_
  simp only [wB, awp, binC, idxC, cmpC, asP, asQ, asI, asN, obA, lenA, loadA, St.ev, St.step, setS, killS, AV.kill, AV.killL, Mem.kill, AV.cells, AV.flat, AV.single, Nat.reduceAdd, Nat.reduceEqDiff, Nat.reduceMul, Nat.reduceLeDiff, Int.reduceAdd, Int.reduceMul, Int.reduceNeg, Int.reduceToNat, Int.reduceLE, Int.reduceLT, ASch, St.put, Md.mem, Md.need, lenK, e3]
  by_cases c1 : (t.place.length : Int) ≤ x
  · simp only [wB, awp, asP, asQ, asB, asN, obA, loadA, storeA, putsA, St.ev, St.step, setS, killS, AV.kill, AV.killL, Mem.kill, AV.cells, AV.flat, AV.single, AV.cellular, Nat.reduceAdd, Nat.reduceEqDiff, Nat.reduceLeDiff, Int.reduceAdd, decide_eq_true c1]
    refine aend_frz rfl ⟨?_, rfl⟩
    rw [← ret 4 (by decide) (by simp only [erS]; rw [if_pos (.inl c1)])]
    rfl
  simp only [wB, awp, binC, cmpC, asP, asQ, asB, asI, obA, lenA, loadA, St.ev, St.step, setS, killS, AV.kill, AV.killL, Mem.kill, AV.cells, AV.flat, AV.single, Nat.reduceAdd, Nat.reduceEqDiff, Nat.reduceLeDiff, Int.reduceAdd, lenK, decide_eq_false c1]
  by_cases c1' : (t.place.length : Int) ≤ y
  · simp only [wB, awp, asP, asQ, asN, obA, loadA, storeA, putsA, St.ev, St.step, setS, killS, AV.kill, AV.killL, Mem.kill, AV.cells, AV.flat, AV.single, AV.cellular, Nat.reduceAdd, Nat.reduceEqDiff, Nat.reduceLeDiff, Int.reduceAdd, decide_eq_true c1']
    refine aend_frz rfl ⟨?_, rfl⟩
    rw [← ret 4 (by decide) (by simp only [erS]; rw [if_pos (.inr c1')])]
    rfl
  have c11 : ¬ ((t.place.length : Int) ≤ x ∨ (t.place.length : Int) ≤ y) := by omega
  simp only [wB, awp, binC, cmpC, asI, St.ev, St.step, setS, killS, AV.kill, AV.killL, Mem.kill, Nat.reduceAdd, Nat.reduceEqDiff, Int.reduceAdd, decide_eq_false c1']
  by_cases c2 : z < 1
  · simp only [wB, awp, asP, asQ, asB, asN, obA, loadA, storeA, putsA, St.ev, St.step, setS, killS, AV.kill, AV.killL, Mem.kill, AV.cells, AV.flat, AV.single, AV.cellular, Nat.reduceAdd, Nat.reduceEqDiff, Nat.reduceLeDiff, Int.reduceAdd, decide_eq_true c2]
    refine aend_frz rfl ⟨?_, rfl⟩
    rw [← ret 1 (by decide) (by simp only [erS, er2]; rw [if_neg c11, if_pos (.inl (.inl c2))])]
    rfl
  simp only [wB, binC, cmpC, asB, asI, St.ev, St.step, setS, killS, AV.kill, AV.killL, Mem.kill, decide_eq_false c2]
  by_cases c3 : 15 < z
  · simp only [wB, awp, asP, asQ, asB, asN, obA, loadA, storeA, putsA, St.ev, St.step, setS, killS, AV.kill, AV.killL, Mem.kill, AV.cells, AV.flat, AV.single, AV.cellular, Nat.reduceAdd, Nat.reduceEqDiff, Nat.reduceLeDiff, Int.reduceAdd, decide_eq_true c3]
    refine aend_frz rfl ⟨?_, rfl⟩
    rw [← ret 1 (by decide) (by simp only [erS, er2]; rw [if_neg c11, if_pos (.inl (.inr (by omega)))])]
    rfl
  simp only [wB, awp, binC, cmpC, asB, asI, St.ev, St.step, setS, killS, AV.kill, AV.killL, Mem.kill, decide_eq_false c3]
  by_cases c4 : x = y
  · simp only [wB, awp, asP, asQ, asN, obA, loadA, storeA, putsA, St.ev, St.step, setS, killS, AV.kill, AV.killL, Mem.kill, AV.cells, AV.flat, AV.single, AV.cellular, Nat.reduceAdd, Nat.reduceEqDiff, Nat.reduceLeDiff, Int.reduceAdd, decide_eq_true c4]
    refine aend_frz rfl ⟨?_, rfl⟩
    rw [← ret 1 (by decide) (by simp only [erS, er2]; rw [if_neg c11, if_pos (.inr c4)])]
    rfl
  have hxl : x.toNat < t.heats.length := by omega
  have hyl : y.toNat < t.heats.length := by omega
  have hxp : x.toNat < t.place.length := by omega
  have hyp : y.toNat < t.place.length := by omega
  have hy0 : (0 : Int) ≤ y := hy
  simp only [awp, ACond_false, decide_eq_false c4]
  refine swp_draw (own := [4, 5, 7, 8, 13, 130]) (.take 0 .plain [] (.take 1 .plain [] (.take 2 .plain [] (.take 3 .plain [] (.take 4 .reads [] (.take 5 .plain [] (.take 6 .reads [] (.take 7 .plain [] (.take 8 .reads [] (.take 9 .reads [] (.take 10 .plain [] (.take 11 .reads [] (.take 12 .plain [] (.take 13 .reads [] (.take 14 .reads [] (.alt 15 (.take 16 .plain [] (.take 17 .plain [] (.done))) (.nil))))))))))))))))) [⟨50, 2048, 0, 0, true⟩, ⟨51, 562949953421312, 1, 0, true⟩, ⟨52, 1125899906842624, 2, 0, true⟩, ⟨53, 2251799813685264, 4, 0, true⟩, ⟨54, 6755399441055744, 12, 0, true⟩, ⟨55, 2251799813685280, 4, 0, true⟩, ⟨56, 20266198323167232, 36, 0, true⟩, ⟨57, 2251799813686272, 4, 0, true⟩, ⟨58, 110338190870577152, 196, 0, true⟩, ⟨59, 146366987889541120, 260, 0, true⟩, ⟨60, 2251799813685280, 4, 0, true⟩, ⟨61, 578712552117108736, 1028, 0, true⟩, ⟨62, 2251799813687296, 4, 0, true⟩, ⟨63, 3461016313634226176, 6148, 0, true⟩, ⟨64, 4613937818241073152, 8196, 0, true⟩, ⟨65, 9522861412074913792, 16916, 0, false⟩, ⟨66, 18448995873523236864, 32772, 0, true⟩, ⟨67, 36895739947232788480, 65540, 0, true⟩] mo (by kernel_rfl) ?_
  simp only [wB, binC, idxC, cmpC, asP, asQ, asS, asI, obA, loadA, St.ev, setS, AV.cells, AV.flat, AV.single, Nat.reduceAdd, Nat.reduceEqDiff, Nat.reduceLeDiff, Int.reduceAdd, ASch, St.put, Md.mem, Md.need, decide_eq_true hy0, aget_ints hxp, aget_ints hyp, List.drop_zero, List.take_succ_cons, List.take_zero]
  refine ⟨hx, hy, acall_v (s149 n ls t.place[x.toNat] t.place[y.toNat] hls) (by simp [AV.pureL, AV.pure, prsA_pure]) rfl ?_⟩
  have hgx : t.heats.getD x.toNat 0 = t.heats[x.toNat] := getD_eq hxl
  have hgy : t.heats.getD y.toNat 0 = t.heats[y.toNat] := getD_eq hyl
  have hz : ¬ ((z < 1 ∨ 16 ≤ z) ∨ x = y) := by omega
  have her : erS n lm ls t 6 x y z = if lnk ls t.place[x.toNat] t.place[y.toNat] = false then 9 else if lm < t.heats[x.toNat] ∨ lm < t.heats[y.toNat] then 8 else if t.circ.length = 10 then 3 else 0 := by
    simp only [erS, er2]
    rw [if_neg c11, if_neg hz, getD_eq hxp, getD_eq hyp, hgx, hgy]
  cases c5 : lnk ls t.place[x.toNat] t.place[y.toNat] with
  | false =>
    simp only [wB, awp, asP, asQ, asB, asN, obA, loadA, storeA, putsA, St.ev, St.step, setS, killS, AV.kill, AV.killL, Mem.kill, AV.cells, AV.flat, AV.single, AV.cellular, Nat.reduceAdd, Nat.reduceEqDiff, Nat.reduceLeDiff, Int.reduceAdd, ASch, St.put, Md.mem, Md.need]
    refine aend_frz rfl ⟨?_, rfl⟩
    rw [← ret 9 (by decide) (by rw [her, if_pos c5])]
    rfl
  | true =>
  rw [c5, if_neg (by simp)] at her
  simp only [wB, awp, asB, St.ev, St.step, setS, killS, AV.kill, AV.killL, Mem.kill, ASch, St.put, Md.mem, Md.need]
  refine swp_draw (own := [4, 5, 7, 8, 13, 130]) (.take 0 .plain [] (.take 1 .reads [] (.take 2 .plain [] (.take 3 .reads [] (.take 4 .reads [] (.take 5 .plain [] (.take 6 .reads [] (.take 7 .plain [] (.take 8 .plain [] (.take 9 .plain [] (.take 10 .plain [] (.take 11 .plain [] (.take 12 .plain [] (.take 13 .reads [] (.take 14 .plain [] (.take 15 .reads [] (.take 16 .reads [] (.take 17 .plain [] (.take 18 .reads [] (.take 19 .plain [] (.take 20 .plain [] (.take 21 .plain [] (.done))))))))))))))))))))))) [⟨69, 32, 0, 0, true⟩, ⟨70, 295147905179352825856, 1, 0, true⟩, ⟨71, 1024, 0, 0, true⟩, ⟨72, 1770887431076116955136, 6, 0, true⟩, ⟨73, 2361183241434822606848, 8, 0, true⟩, ⟨74, 16, 0, 0, true⟩, ⟨75, 9444732965739290427392, 32, 0, true⟩, ⟨76, 23611832414348226068480, 80, 0, true⟩, ⟨77, 37778931862957161709568, 128, 0, true⟩, ⟨78, 75557863725914323421184, 256, 0, true⟩, ⟨79, 226673591177742970257408, 768, 0, true⟩, ⟨80, 377789318629571617095680, 1280, 0, true⟩, ⟨81, 604462909807314587353120, 2048, 0, true⟩, ⟨82, 1813388729421943762059264, 6144, 0, true⟩, ⟨83, 604462909807314587355136, 2048, 0, true⟩, ⟨84, 7858017827495089635590144, 26624, 0, true⟩, ⟨85, 10275869466724347985002496, 34816, 0, true⟩, ⟨86, 604462909807314587353104, 2048, 0, true⟩, ⟨87, 39290089137475448177950720, 133120, 0, true⟩, ⟨88, 97318528478977648563847168, 329728, 0, true⟩, ⟨89, 155422525684205763273162752, 526592, 0, true⟩, ⟨90, 309560567685070983048200192, 1048832, 0, true⟩] mo (by kernel_rfl) ?_
  simp only [wB, binC, idxC, cmpC, asP, asQ, asS, asI, obA, loadA, St.ev, setS, AV.cells, AV.flat, AV.single, Nat.reduceAdd, Nat.reduceEqDiff, Nat.reduceLeDiff, Int.reduceAdd, ASch, St.put, Md.mem, Md.need, aget_ints hxl]
  refine ⟨by omega, ?_⟩
  by_cases c6 : lm < t.heats[x.toNat]
  · simp only [wB, awp, asP, asQ, asB, asN, obA, loadA, storeA, putsA, St.ev, St.step, setS, killS, AV.kill, AV.killL, Mem.kill, AV.cells, AV.flat, AV.single, AV.cellular, Nat.reduceAdd, Nat.reduceEqDiff, Nat.reduceLeDiff, Int.reduceAdd, ASch, St.put, Md.mem, Md.need, decide_eq_true c6]
    refine aend_frz rfl ⟨?_, rfl⟩
    rw [← ret 8 (by decide) (by rw [her, if_pos (.inl c6)])]
    rfl
  simp only [wB, awp, binC, idxC, cmpC, asP, asQ, asS, asB, asI, obA, loadA, St.ev, setS, AV.cells, AV.flat, AV.single, Nat.reduceAdd, Nat.reduceEqDiff, Nat.reduceLeDiff, Int.reduceAdd, ASch, St.put, Md.mem, Md.need, decide_eq_false c6, decide_eq_true hy0, aget_ints hyl]
  refine ⟨by omega, ?_⟩
  by_cases c7 : lm < t.heats[y.toNat]
  · simp only [wB, awp, asP, asQ, asN, obA, loadA, storeA, putsA, St.ev, St.step, setS, killS, AV.kill, AV.killL, Mem.kill, AV.cells, AV.flat, AV.single, AV.cellular, Nat.reduceAdd, Nat.reduceEqDiff, Nat.reduceLeDiff, Int.reduceAdd, St.put, decide_eq_true c7]
    refine aend_frz rfl ⟨?_, rfl⟩
    rw [← ret 8 (by decide) (by rw [her, if_pos (.inr c7)])]
    rfl
  rw [if_neg (show ¬ (lm < t.heats[x.toNat] ∨ lm < t.heats[y.toNat]) by omega)] at her
  simp only [wB, awp, binC, cmpC, asP, asQ, asB, asI, obA, lenA, loadA, St.ev, St.step, setS, killS, AV.kill, AV.killL, Mem.kill, AV.cells, AV.flat, AV.single, Nat.reduceAdd, Nat.reduceEqDiff, Nat.reduceLeDiff, Int.reduceAdd, St.put, lenK, decide_eq_false c7, gtsA_len]
  by_cases c8 : (10 : Int) ≤ t.circ.length
  · simp only [wB, awp, asP, asQ, asN, obA, loadA, storeA, putsA, St.ev, St.step, setS, killS, AV.kill, AV.killL, Mem.kill, AV.cells, AV.flat, AV.single, AV.cellular, Nat.reduceAdd, Nat.reduceEqDiff, Nat.reduceLeDiff, Int.reduceAdd, decide_eq_true c8]
    refine aend_frz rfl ⟨?_, rfl⟩
    rw [← ret 3 (by decide) (by rw [her, if_pos (by omega)])]
    rfl
  have he : erS n lm ls t 6 x y z = 0 := by rw [her, if_neg (by omega)]
  simp only [wB, awp, binC, eqC, asP, asQ, asG, asB, asI, asN, obA, minmaxA, loadA, storeA, fillA, putsA, mkA, Aw.newRow, St.ev, St.step, setS, killS, AV.kill, AV.killL, Mem.kill, AV.cells, AV.flat, AV.single, AV.cellular, Value.oneCell', Nat.reduceAdd, Nat.reduceEqDiff, Nat.reduceLeDiff, Int.reduceAdd, Int.reduceNeg, asStr, strC, decide_eq_false c8, decide_eq_false nt, decide_eq_false ns]
  refine acall_v (s114 t.heats x ⟨hx, by omega⟩ (by omega) 2 (by omega) hI.hin) (by simp [AV.pureL, AV.pure, intsA_pure]) (by simp [AV.pure, intsA_pure]) ?_
  simp only [wB, St.ev, St.step, setS, killS, AV.kill, AV.killL, Mem.kill, Int.reduceNeg]
  refine acall_v (s114 (bump t.heats x.toNat 2) y ⟨hy, by rw [bump_len]; omega⟩ (by rw [bump_len]; omega) 2 (by omega) (bump_in hI.hin _ (by omega))) (by simp [AV.pureL, AV.pure, intsA_pure]) (by simp [AV.pure, intsA_pure]) ?_
  simp only [wB, awp, asP, asQ, obA, storeA, putsA, St.ev, St.step, setS, killS, AV.kill, AV.killL, Mem.kill, AV.cells, AV.flat, AV.single, AV.cellular, Nat.reduceAdd, Nat.reduceEqDiff, Nat.reduceLeDiff, Int.reduceAdd, Int.reduceNeg]
  refine swp_draw (own := [4, 5, 7, 8, 13, 130]) (.take 1 .plain [] (.take 2 .reads [] (.alt 0 (.alt 3 (.take 4 .reads [] (.take 5 .plain [] (.alt 6 (.take 7 .plain [] (.alt 8 (.done) (.nil))) (.nil)))) (.alt 4 (.take 5 .over [134] (.alt 3 (.alt 6 (.take 7 .plain [] (.alt 8 (.done) (.nil))) (.nil)) (.nil))) (.nil))) (.alt 4 (.take 5 .over [134] (.alt 0 (.alt 3 (.alt 6 (.take 7 .plain [] (.alt 8 (.done) (.nil))) (.nil)) (.nil)) (.nil))) (.nil))))) [⟨131, 0, 0, 0, false⟩, ⟨132, 32, 0, 0, true⟩, ⟨133, 2722258935367507707706996859454145691648, 2, 0, true⟩, ⟨134, 6805647338418769269267492148635364229120, 5, 2, false⟩, ⟨135, 8192, 0, 0, true⟩, ⟨136, 21778071482940061661655974875633165533184, 16, 0, true⟩, ⟨137, 54445178707350154154139937189082913832960, 40, 2, false⟩, ⟨138, 32, 127, 0, true⟩, ⟨0, 261336857795280739939871698507597986398208, 255, 1, false⟩] mo (by kernel_rfl) ?_
  have hga : gtsA t.circ ++ [AV.g [AV.v (.int .i64 2), I (min x y), I (max x y), I z]] = gtsA (t.circ ++ [⟨2, min x y, max x y, z⟩]) := by simp [gtsA, gA]
  simp only [wB, awp, binC, arithC, cmpC, asP, asQ, asO, asS, asI, asN, obA, loadA, storeA, putsA, Aw.newRow, St.ev, St.step, setS, killS, AV.kill, AV.killL, Mem.kill, AV.cells, AV.flat, AV.single, AV.cellular, AV.size, AV.sizeL, AV.pure, AV.pureL, Value.oneCell', Nat.reduceAdd, Nat.reduceEqDiff, Nat.reduceMul, Nat.reduceLeDiff, Int.reduceAdd, Int.reduceMul, Int.reduceNeg, ASch, St.put, Md.mem, Md.need, isU, gtsA_len, gtsA_kill, hga]
  repeat' (first | exact ⟨by decide, rfl⟩ | exact ⟨by decide, by omega⟩ | (unfold lim; omega) | refine And.intro ?_ ?_)
  all_goals
    refine aend_frz rfl ⟨?_, rfl⟩
    rw [he]
    simp [frz, AV.sub, AV.subL, gtsA_pure, stA, nxS]
end Go.Proofs.YtndniceeibflcaaGreatDoor

namespace Go.Proofs.YtndniceeibflcaaGreatDoor
open Aw Mp Go.RowKit
set_option linter.unusedSimpArgs false
set_option maxRecDepth 8000

theorem ok81 : okFn Tryz.prog 81 = true := by kernel_rfl
theorem s81_0 (n lm : Int) (ls : List (Int × Int)) (l : List By) (t : MS) {c : Nat} (hI : InvS n c t) (x y z : Int) : ASpec Tryz.prog 81 [rfA n lm ls l, stA t, S [108, 111, 97, 100], .g [I x, I y, I z]] (fun r Ms => r = .t [stA (if erS n lm ls t 0 x y z = 0 then nxS t 0 x y z else t), I (erS n lm ls t 0 x y z)] ∧ Ms = []) := by
  refine aspec_of (own := [4, 5, 7, 8]) Tryz.func81 rfl ok81 ?_
  have e3 : ((3 : Nat) : Int) = 3 := rfl
  have hs := s112 n lm ls l t hI x
  have e1 : erS n lm ls t 0 x y z = erS n lm ls t 0 x 0 0 := rfl
  have e2 : nxS t 0 x y z = nxS t 0 x 0 0 := rfl
  rw [e1, e2]
  generalize (if erS n lm ls t 0 x 0 0 = 0 then nxS t 0 x 0 0 else t) = t' at *
  simp only [rfA, stA] at hs
  simp only [wB, awp, binC, idxC, eqC, asP, asQ, asG, asB, asI, asN, obA, loadA, mkA, Aw.newRow, St.ev, St.step, setS, killS, AV.kill, AV.killL, Mem.kill, AV.cells, AV.flat, AV.single, AV.cellular, AV.size, AV.sizeL, Nat.reduceAdd, Nat.reduceEqDiff, Nat.reduceMul, Nat.reduceSub, Nat.reduceLeDiff, Int.reduceAdd, Int.reduceSub, Int.reduceMul, Int.reduceLE, Int.reduceLT, asStr, strC, Tryz.ntmps81, rfA, stA, e3]
  refine acall_v hs (by simp [AV.pureL, AV.pure, prsA_pure, strsA_pure, intsA_pure, gtsA_pure]) (by simp [AV.pureL, AV.pure, intsA_pure, gtsA_pure]) ?_
  simp only [wB, awp, asQ, asT, asN, obA, storeA, putsA, St.ev, St.step, setS, killS, AV.kill, AV.killL, Mem.kill, AV.cells, AV.flat, AV.single, AV.cellular, Nat.reduceAdd, Nat.reduceEqDiff, Nat.reduceLeDiff, Int.reduceAdd]
  exact aend_frz rfl ⟨rfl, rfl⟩
theorem s81_1 (n lm : Int) (ls : List (Int × Int)) (l : List By) (t : MS) {c : Nat} (hI : InvS n c t) (hc : c ≤ 1000) (hls : ls.length ≤ 1000000) (x y z : Int) (hx : 0 ≤ x) : ASpec Tryz.prog 81 [rfA n lm ls l, stA t, S [109, 111, 118, 101], .g [I x, I y, I z]] (fun r Ms => r = .t [stA (if erS n lm ls t 1 x y z = 0 then nxS t 1 x y z else t), I (erS n lm ls t 1 x y z)] ∧ Ms = []) := by
  refine aspec_of (own := [4, 5, 7, 8]) Tryz.func81 rfl ok81 ?_
  have e3 : ((3 : Nat) : Int) = 3 := rfl
  have n0 : ¬ ([109, 111, 118, 101] : List UInt8) = [108, 111, 97, 100] := by decide
  have hs := s113 n lm ls l t hI hc hls x y hx
  have e1 : erS n lm ls t 1 x y z = erS n lm ls t 1 x y 0 := rfl
  have e2 : nxS t 1 x y z = nxS t 1 x y 0 := rfl
  rw [e1, e2]
  generalize (if erS n lm ls t 1 x y 0 = 0 then nxS t 1 x y 0 else t) = t' at *
  simp only [rfA, stA] at hs
  simp only [wB, awp, binC, idxC, eqC, asP, asQ, asG, asB, asI, asN, obA, loadA, mkA, Aw.newRow, St.ev, St.step, setS, killS, AV.kill, AV.killL, Mem.kill, AV.cells, AV.flat, AV.single, AV.cellular, AV.size, AV.sizeL, Nat.reduceAdd, Nat.reduceEqDiff, Nat.reduceMul, Nat.reduceSub, Nat.reduceLeDiff, Int.reduceAdd, Int.reduceSub, Int.reduceMul, Int.reduceLE, Int.reduceLT, asStr, strC, Tryz.ntmps81, rfA, stA, e3, decide_eq_false n0]
  refine acall_v hs (by simp [AV.pureL, AV.pure, prsA_pure, strsA_pure, intsA_pure, gtsA_pure]) (by simp [AV.pureL, AV.pure, intsA_pure, gtsA_pure]) ?_
  simp only [wB, awp, asQ, asT, asN, obA, storeA, putsA, St.ev, St.step, setS, killS, AV.kill, AV.killL, Mem.kill, AV.cells, AV.flat, AV.single, AV.cellular, Nat.reduceAdd, Nat.reduceEqDiff, Nat.reduceLeDiff, Int.reduceAdd]
  exact aend_frz rfl ⟨rfl, rfl⟩
theorem s81_4 (n lm : Int) (ls : List (Int × Int)) (l : List By) (t : MS) {c : Nat} (hI : InvS n c t) (hc : c ≤ 1000) (hls : ls.length ≤ 1000000) (x y z : Int) (hx : 0 ≤ x) : ASpec Tryz.prog 81 [rfA n lm ls l, stA t, S [116, 117, 114, 110], .g [I x, I y, I z]] (fun r Ms => r = .t [stA (if erS n lm ls t 4 x y z = 0 then nxS t 4 x y z else t), I (erS n lm ls t 4 x y z)] ∧ Ms = []) := by
  refine aspec_of (own := [4, 5, 7, 8]) Tryz.func81 rfl ok81 ?_
  have e3 : ((3 : Nat) : Int) = 3 := rfl
  have n0 : ¬ ([116, 117, 114, 110] : List UInt8) = [108, 111, 97, 100] := by decide
  have n1 : ¬ ([116, 117, 114, 110] : List UInt8) = [109, 111, 118, 101] := by decide
  have n2 : ¬ ([116, 117, 114, 110] : List UInt8) = [99, 111, 111, 108] := by decide
  have n3 : ¬ ([116, 117, 114, 110] : List UInt8) = [119, 97, 105, 116] := by decide
  have n4 : ¬ ([116, 117, 114, 110] : List UInt8) = [100, 114, 111, 112] := by decide
  have hs := s115_4 n lm ls l t hI hc hls x y z hx
  generalize (if erS n lm ls t 4 x y z = 0 then nxS t 4 x y z else t) = t' at *
  simp only [rfA, stA] at hs
  simp only [wB, awp, binC, eqC, asP, asQ, asG, asB, asI, asN, obA, loadA, mkA, Aw.newRow, St.ev, St.step, setS, killS, AV.kill, AV.killL, Mem.kill, AV.cells, AV.flat, AV.single, AV.cellular, AV.size, AV.sizeL, Nat.reduceAdd, Nat.reduceEqDiff, Nat.reduceSub, Nat.reduceLeDiff, Int.reduceAdd, Int.reduceSub, asStr, strC, Tryz.ntmps81, rfA, stA, decide_eq_false n0, decide_eq_false n1, decide_eq_false n2, decide_eq_false n3, decide_eq_false n4]
  refine acall_v hs (by simp [AV.pureL, AV.pure, prsA_pure, strsA_pure, intsA_pure, gtsA_pure]) (by simp [AV.pureL, AV.pure, intsA_pure, gtsA_pure]) ?_
  simp only [wB, awp, asQ, asT, asN, obA, storeA, putsA, St.ev, St.step, setS, killS, AV.kill, AV.killL, Mem.kill, AV.cells, AV.flat, AV.single, AV.cellular, Nat.reduceAdd, Nat.reduceEqDiff, Nat.reduceLeDiff, Int.reduceAdd]
  exact aend_frz rfl ⟨rfl, rfl⟩
end Go.Proofs.YtndniceeibflcaaGreatDoor
