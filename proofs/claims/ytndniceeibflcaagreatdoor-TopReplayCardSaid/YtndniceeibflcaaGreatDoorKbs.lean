/-
  Parts of several texts in one: MtE.
-/
import Derived.Test.YtndniceeibflcaaGreatDoorProg
import Derived.WalkKit
import Derived.Lib.ConvBytes
import Derived.LaidEql
import Derived.Lib.ItoaNum
import Derived.Lib.LaidTab
import Derived.KernelRfl
import GoSem.Claims
import GoSem.ClaimJoined
import Derived.Orders
import Derived.Laws.StructEq
import Derived.Maps.Keyed
import Derived.Lib.Strings
import Derived.Maps.AppendAt
import Derived.Laws.Concat
import Derived.MapKept
import Derived.Laws.MakeOwn
import Derived.Scope
import Derived.Laws.BitsLemmas
import Derived.Maps.RangeRun
import Derived.StillTail
import Derived.OrdersIn
import Derived.TacticsIn
import Derived.RangeFuncRecord
import Derived.RangeFuncCalls
import Derived.RangeFuncSeq
import Derived.Lib.Split
import Derived.Lib.AtoiAll
import Derived.Shelf.LaysM
import Derived.Shelf.LaysC
import Derived.Shelf.Strconv.Itoa3
import Derived.Shelf.Strconv.AtoiAll
import Derived.Shelf.Strings.Search3
import Derived.Shelf.Strings.Cut
import Derived.Shelf.Strings.Prefix
import Derived.Shelf.Strings.Split
import Derived.Lib.AppendIntMem
import Derived.Test.YtndniceeibflcaaGreatDoorKaa
import Derived.Test.YtndniceeibflcaaGreatDoorKab
import Derived.Test.YtndniceeibflcaaGreatDoorKac
import Derived.Test.YtndniceeibflcaaGreatDoorKad
import Derived.Test.YtndniceeibflcaaGreatDoorKae
import Derived.Test.YtndniceeibflcaaGreatDoorKag
import Derived.Test.YtndniceeibflcaaGreatDoorKav
import Derived.Test.YtndniceeibflcaaGreatDoorKai
set_option linter.unusedSimpArgs false
set_option linter.unusedVariables false
namespace Go.Proofs.YtndniceeibflcaaGreatDoor
namespace Aw
end Aw
namespace Mp
end Mp
end Go.Proofs.YtndniceeibflcaaGreatDoor
namespace Go.Proofs.YtndniceeibflcaaGreatDoor
open Aw Mp Go.RowKit
set_option linter.unusedSimpArgs false

/-- what 'Write' answers. -/
def wrB (l : List By) : By × Int := if 100 < l.length then ([], 3) else if l.all ordB = true then (lg 0 l, 0) else ([], 1)
theorem wr_all {l : List By} (h : l.length ≤ 100) (ho : ∀ o ∈ l, ordB o = true) : wrB l = (lg 0 l, 0) := by
  unfold wrB
  rw [if_neg (by omega), if_pos (by simpa [List.all_eq_true] using ho)]
theorem wr_bad {l : List By} (h : l.length ≤ 100) {o : By} (ho : o ∈ l) (hb : ordB o = false) : wrB l = ([], 1) := by
  unfold wrB
  rw [if_neg (by omega), if_neg]
  rw [List.all_eq_true]
  intro h
  have := h o ho
  rw [hb] at this
  cases this

theorem ok26 : okFn Tryz.prog 26 = true := by kernel_rfl
theorem s26 (l : List By) : ASpec Tryz.prog 26 [.s 1 (strsA l)] (fun r Ms => r = .t [S (wrB l).1, I (wrB l).2] ∧ Ms = []) := by
  refine aspec_of (own := []) Tryz.func26 rfl ok26 ?_
  by_cases hl : (100 : Int) < l.length
  · simp only [wB, awp, binC, cmpC, asB, asI, asN, lenA, St.ev, St.step, setS, killS, AV.kill, AV.killL, Mem.kill, Nat.reduceAdd, Nat.reduceSub, Int.reduceAdd, Int.reduceSub, lenK, strsA_len, Tryz.ntmps26, decide_eq_true hl]
    exact aend_frz rfl ⟨by unfold wrB; rw [if_pos (by omega)]; rfl, rfl⟩
  simp only [wB, awp, binC, cmpC, asB, asI, asN, lenA, St.ev, St.step, setS, killS, AV.kill, AV.killL, Mem.kill, Nat.reduceAdd, Nat.reduceSub, Int.reduceAdd, Int.reduceSub, lenK, strsA_len, Tryz.ntmps26, decide_eq_false hl]
  refine swp_loop' (fun k : Nat => ⟨[.s 1 (strsA l), .bot, .bot, .bot, S (lg 0 (l.take k)), .bot, .bot, .bot, .bot, .bot, .s 1 (strsA l), I l.length, I k, .bot, .bot, .bot, .bot, .bot, .bot, .bot, .bot, .bot, .bot, .bot], []⟩) (fun k => k ≤ l.length ∧ ∀ o ∈ l.take k, ordB o = true) (fun k => l.length - k) 0 (le_sl (by simp [leSl, lg])) ⟨Nat.zero_le _, by simp⟩ ?_
  rintro k ⟨hk, hall⟩
  refine awp_sound (own := []) _ _ _ _ _ ?_
  simp only [wB, awp, binC, cmpC, asB, asI, St.ev, St.step, setS, killS, AV.kill, AV.killL, Mem.kill, Nat.reduceAdd, Int.reduceAdd]
  by_cases h : k < l.length
  · have h' : (k : Int) < l.length := by omega
    simp only [wB, awp, idxC, asP, asS, asI, asN, loadA, St.ev, St.step, setS, killS, AV.kill, AV.killL, Mem.kill, AV.cells, AV.flat, AV.single, Nat.reduceAdd, Int.reduceAdd, decide_eq_true h', Int.toNat_natCast, aget_strs h]
    refine ⟨by omega, acall_v (s63 _) rfl rfl ?_⟩
    cases ho : ordB l[k] with
    | false =>
      simp only [wB, awp, asB, asN, St.ev, St.step, setS, killS, AV.kill, AV.killL, Mem.kill, Nat.reduceAdd, Int.reduceAdd]
      exact aend_frz rfl ⟨by rw [wr_bad (by omega) (List.getElem_mem h) ho]; rfl, rfl⟩
    | true =>
      obtain ⟨_, h30, _⟩ := (ordB_iff _).1 ho
      simp only [wB, awp, asB, St.ev, St.step, setS, killS, AV.kill, AV.killL, Mem.kill, Nat.reduceAdd, Int.reduceAdd]
      refine acall_v (s74 (l.take k) l[k] (by rw [List.length_take]; omega) hall h30) rfl rfl ?_
      simp only [wB, awp, binC, arithC, cmpC, asI, asN, St.ev, St.step, setS, killS, AV.kill, AV.killL, Mem.kill, Nat.reduceAdd, Int.reduceAdd, isU]
      have e : l.take k ++ [l[k]] = l.take (k + 1) := by rw [List.take_add_one, List.getElem?_eq_getElem h]; rfl
      rw [e]
      refine ⟨by unfold lim; omega, k + 1, le_sl (by simp [leSl]), ⟨by omega, fun o ho' => ?_⟩, by omega⟩
      rw [← e] at ho'
      rcases List.mem_append.1 ho' with ho' | ho'
      · exact hall o ho'
      · simp only [List.mem_singleton] at ho'; rw [ho']; exact ho
  · have h' : ¬ (k : Int) < l.length := by omega
    simp only [wB, awp, asN, St.ev, St.step, setS, killS, AV.kill, AV.killL, Mem.kill, Nat.reduceAdd, Int.reduceAdd, decide_eq_false h']
    rw [List.take_of_length_le (by omega)] at hall
    refine aend_frz rfl ⟨?_, rfl⟩
    rw [wr_all (by omega) hall, List.take_of_length_le (by omega)]
    rfl

end Go.Proofs.YtndniceeibflcaaGreatDoor
