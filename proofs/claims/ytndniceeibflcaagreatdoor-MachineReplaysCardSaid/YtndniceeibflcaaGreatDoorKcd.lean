/-
  Parts of several texts in one: MwJ, MxC.
-/
import Derived.Test.YtndniceeibflcaaGreatDoorProg
import Derived.WalkKit
import Derived.Lib.ConvBytes
import Derived.LaidEql
import Derived.Lib.ItoaNum
import Derived.Lib.LaidTab
import Derived.KernelRfl
import GoSem.Claims
import GoSem.ClaimJoined
import Derived.Orders
import Derived.Laws.StructEq
import Derived.Maps.Keyed
import Derived.Lib.Strings
import Derived.Maps.AppendAt
import Derived.Laws.Concat
import Derived.MapKept
import Derived.Laws.MakeOwn
import Derived.Scope
import Derived.Laws.BitsLemmas
import Derived.Maps.RangeRun
import Derived.StillTail
import Derived.OrdersIn
import Derived.TacticsIn
import Derived.RangeFuncRecord
import Derived.RangeFuncCalls
import Derived.RangeFuncSeq
import Derived.Lib.Split
import Derived.Lib.AtoiAll
import Derived.Shelf.LaysM
import Derived.Shelf.LaysC
import Derived.Shelf.Strconv.Itoa3
import Derived.Shelf.Strconv.AtoiAll
import Derived.Shelf.Strings.Search3
import Derived.Shelf.Strings.Cut
import Derived.Shelf.Strings.Prefix
import Derived.Shelf.Strings.Split
import Derived.Lib.AppendIntMem
import Derived.Stop.Asserts
import Derived.RowKitTokens
import Derived.Conc.MuLone
import Derived.Test.YtndniceeibflcaaGreatDoorKaa
import Derived.Test.YtndniceeibflcaaGreatDoorKac
import Derived.Test.YtndniceeibflcaaGreatDoorKad
import Derived.Test.YtndniceeibflcaaGreatDoorKae
import Derived.Test.YtndniceeibflcaaGreatDoorKag
import Derived.Test.YtndniceeibflcaaGreatDoorKai
import Derived.Test.YtndniceeibflcaaGreatDoorKap
set_option linter.unusedSimpArgs false
set_option linter.unusedVariables false
namespace Go.Proofs.YtndniceeibflcaaGreatDoor
namespace Aw
end Aw
namespace Mp
end Mp
end Go.Proofs.YtndniceeibflcaaGreatDoor
namespace Go.Proofs.YtndniceeibflcaaGreatDoor
open Aw Mp Go.RowKit
set_option linter.unusedSimpArgs false
set_option maxRecDepth 8000

/-- the ions that are warm. -/
def wrmL (lim : Int) (l : List Int) : List Int := upL l.length fun i => decide (lim < l.getD i.toNat 0)
theorem ok46 : okFn Tryz.prog 46 = true := by kernel_rfl
theorem m46 (m : Mch) (hs : Sml m) : MSpec Tryz.prog 46 [.q 0 13 0 0] (memD m) (fun r N => r = .s 1 (intsA (wrmL m.lim m.st.heats)) ∧ N = memD m) := by
  refine mspec_of2 (own := [3, 5, 1001]) Tryz.func46 rfl ok46 ?_
  intro vs
  obtain ⟨gh, hgh⟩ : ∃ gh, gh = some (ghost vs [AV.q 0 13 0 0]) := ⟨_, rfl⟩
  obtain ⟨p, hpd⟩ : ∃ p : Int → Bool, p = fun i => decide (m.lim < m.st.heats.getD i.toNat 0) := ⟨_, rfl⟩
  have hh := hs.h
  simp only [wB, awp, asN, St.ev, St.step, setS, killS, AV.kill, AV.killL, Mem.kill, Nat.reduceAdd, Nat.reduceEqDiff, Nat.reduceSub, Int.reduceAdd, Int.reduceSub, Tryz.ntmps46, ← hgh, memD]
  refine swp_fm (own := [3, 5]) 1 rfl rfl rfl ?_
  simp only [wB, St.ev, St.step, setS, killS, AV.kill, AV.killL, Mem.kill, AV.cells, Mch.ob, Mch.od, Mch.cells, List.take_succ_cons, List.take_zero]
  refine acall_f (fspec_of (m67f m hs.mu hs.p hs.h hs.c) [1, 3] rfl (by exact ⟨rfl, rfl, trivial⟩) rfl rfl (by simp [freeM, memD, Mch.ob, Mch.od, Mch.cells, AV.freeL, AV.free, strsA_free]) (N := [some m.ob, none, some m.od, gh]) (by rw [hgh]; rfl)) ?_
  simp only [wB, awp, asP, asQ, asT, asN, obA, lenA, loadA, storeA, putsA, mkA, Aw.newRow, St.ev, St.step, setS, killS, AV.kill, AV.killL, Mem.kill, AV.cells, AV.flat, AV.single, AV.cellular, Nat.reduceAdd, Nat.reduceEqDiff, Nat.reduceLeDiff, Int.reduceAdd, lenK, Mch.ob, Mch.od, Mch.cells, List.drop_succ_cons, List.drop_zero, AV.sub, keepG, liveI, AV.isQ, List.any_cons, List.any_nil, List.take_succ_cons, List.take_zero, stA]
  refine swp_loop' (fun k : Nat => ⟨[.q 0 13 0 0, .bot, .bot, .bot, .bot, .o 5, .bot, .bot, .bot, .bot, .bot, .bot, .bot, .bot, .s 1 (intsA m.st.heats), I m.st.heats.length, I k, .bot, .bot, .bot, .bot, .bot, .bot, .bot, .bot, .bot, .bot, .bot, .bot, .bot, .bot, .bot, .bot], [some m.ob, none, some m.od, gh, some ⟨none, 105, 6, [stA m.st]⟩, some ⟨none, 3, 1, intsA (upL k p)⟩]⟩) (fun k => k ≤ m.st.heats.length) (fun k => m.st.heats.length - k) 0 (le_sl' ?_ (by simp [leSl])) (Nat.zero_le _) ?_
  · simp only [memG, memS, Mch.ob, Mch.od, Mch.cells, rowP, rowC, rowS, stO', combR, List.cons_append, List.nil_append, Option.map_some, Option.map_none, List.drop_succ_cons, List.drop_zero, prsA_sub, strsA_sub, intsA_sub, gtsA_sub, AV.sub, AV.subL, keepF, keepG, liveI, List.getElem?_cons_succ, List.getElem?_cons_zero, List.getElem?_nil, AV.isO, AV.isQ, List.any_cons, List.any_nil, ghost, gA, List.take_succ_cons, List.take_zero, List.drop_nil, stA, upL, List.range_zero, List.map_nil, List.filter_nil, intsA]
  intro k hk
  refine awp_sound (own := [3, 5]) _ _ _ _ _ ?_
  simp only [wB, awp, binC, cmpC, asB, asI, St.ev, St.step, setS, killS, AV.kill, AV.killL, Mem.kill, AV.cells, Nat.reduceAdd, Nat.reduceEqDiff, Int.reduceAdd, Mch.ob, Mch.od, Mch.cells, stA]
  have hul := upL_len k p
  by_cases h : k < m.st.heats.length
  case neg =>
    have h' : ¬ (k : Int) < m.st.heats.length := by omega
    simp only [wB, awp, asN, St.ev, St.step, setS, killS, AV.kill, AV.killL, Mem.kill, Nat.reduceAdd, Nat.reduceEqDiff, Int.reduceAdd, decide_eq_false h']
    obtain rfl : k = m.st.heats.length := by omega
    refine ⟨_, .s 1 (intsA (upL m.st.heats.length p)), memD m, [some ⟨none, 105, 6, [stA m.st]⟩, none], le_frz 5 rfl (intsA_pure _), rfl, ?_, rfl, rfl, free_D _ m, by rw [hpd]; rfl, rfl⟩
    rw [hgh]
    simp [frzM, memD, Mch.ob, Mch.od, Mch.cells, AV.sub, AV.subL, intsA_sub, gtsA_sub, prsA_sub, strsA_sub, stA, ghost]
  have h' : (k : Int) < m.st.heats.length := by omega
  have hg : m.st.heats.getD k 0 = m.st.heats[k] := by rw [List.getD_eq_getElem?_getD, List.getElem?_eq_getElem h]; rfl
  simp only [wB, awp, binC, idxC, cmpC, asP, asQ, asS, asB, asI, asN, obA, loadA, St.ev, St.step, setS, killS, AV.kill, AV.killL, Mem.kill, AV.cells, AV.flat, AV.single, Nat.reduceAdd, Nat.reduceEqDiff, Nat.reduceLeDiff, Int.reduceAdd, Mch.cells, List.drop_succ_cons, List.drop_zero, List.take_succ_cons, List.take_zero, decide_eq_true h', aget_ints h, Int.toNat_natCast]
  refine ⟨by omega, ?_⟩
  by_cases c : m.lim < m.st.heats[k]
  · have hpk : p k = true := by rw [hpd]; simp only [Int.toNat_natCast, hg]; exact decide_eq_true c
    simp only [wB, awp, binC, arithC, cmpC, asO, asS, asI, asN, obA, St.ev, St.step, setS, killS, AV.kill, AV.killL, Mem.kill, AV.cells, AV.flat, AV.single, AV.cellular, AV.size, AV.pure, AV.pureL, Value.oneCell', Nat.reduceAdd, Nat.reduceEqDiff, Nat.reduceMul, Nat.reduceLeDiff, Int.reduceAdd, Int.reduceMul, isU, Mch.ob, Mch.od, Mch.cells, decide_eq_true c]
    refine ⟨⟨by decide, rfl⟩, ⟨by decide, by omega⟩, by unfold lim; omega, k + 1, le_sl' ?_ (by simp [leSl]), h, by omega⟩
    rw [upL_true hpk, hgh]
    simp [Mch.ob, Mch.od, Mch.cells, stA, ghost, AV.killL, AV.kill, strsA_kill, intsA_kill, intsA_app]
  · have hpk : p k = false := by rw [hpd]; simp only [Int.toNat_natCast, hg]; exact decide_eq_false c
    simp only [wB, awp, binC, arithC, cmpC, asI, St.ev, St.step, setS, killS, AV.kill, AV.killL, Mem.kill, AV.cells, Nat.reduceAdd, Nat.reduceEqDiff, Int.reduceAdd, isU, Mch.ob, Mch.od, Mch.cells, decide_eq_false c]
    refine ⟨by unfold lim; omega, k + 1, le_sl' ?_ (by simp [leSl]), h, by omega⟩
    rw [upL_false hpk]
    simp only [memG, memS, Mch.ob, Mch.od, Mch.cells, rowP, rowC, rowS, stO', combR, List.cons_append, List.nil_append, Option.map_some, Option.map_none, List.drop_succ_cons, List.drop_zero, prsA_sub, strsA_sub, intsA_sub, gtsA_sub, AV.sub, AV.subL, keepF, keepG, liveI, List.getElem?_cons_succ, List.getElem?_cons_zero, List.getElem?_nil, AV.isO, AV.isQ, List.any_cons, List.any_nil, ghost, gA, List.take_succ_cons, List.take_zero, List.drop_nil, stA]
end Go.Proofs.YtndniceeibflcaaGreatDoor

namespace Go.Proofs.YtndniceeibflcaaGreatDoor
open Aw Mp Go.RowKit
set_option linter.unusedSimpArgs false
set_option maxRecDepth 8000

theorem wrm_len (lm : Int) (l : List Int) : (wrmL lm l).length ≤ l.length := by
  unfold wrmL upL
  refine Nat.le_trans (List.length_filter_le _ _) ?_
  simp
end Go.Proofs.YtndniceeibflcaaGreatDoor
