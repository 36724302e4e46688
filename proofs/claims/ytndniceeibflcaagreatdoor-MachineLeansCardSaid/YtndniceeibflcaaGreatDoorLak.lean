/-
  Parts of several texts in one: MrK, MrL, MrM, MrN, MrO, MrP, MrQ, MrR, MwA.
-/
import Derived.Test.YtndniceeibflcaaGreatDoorProg
import Derived.WalkKit
import Derived.Lib.ConvBytes
import Derived.LaidEql
import Derived.Lib.ItoaNum
import Derived.Lib.LaidTab
import Derived.KernelRfl
import GoSem.Claims
import GoSem.ClaimJoined
import Derived.Orders
import Derived.Laws.StructEq
import Derived.Maps.Keyed
import Derived.Lib.Strings
import Derived.Maps.AppendAt
import Derived.Laws.Concat
import Derived.MapKept
import Derived.Laws.MakeOwn
import Derived.Scope
import Derived.Laws.BitsLemmas
import Derived.Maps.RangeRun
import Derived.StillTail
import Derived.OrdersIn
import Derived.TacticsIn
import Derived.RangeFuncRecord
import Derived.RangeFuncCalls
import Derived.RangeFuncSeq
import Derived.Lib.Split
import Derived.Lib.AtoiAll
import Derived.Shelf.LaysM
import Derived.Shelf.LaysC
import Derived.Shelf.Strconv.Itoa3
import Derived.Shelf.Strconv.AtoiAll
import Derived.Shelf.Strings.Search3
import Derived.Shelf.Strings.Cut
import Derived.Shelf.Strings.Prefix
import Derived.Shelf.Strings.Split
import Derived.Lib.AppendIntMem
import Derived.Stop.Asserts
import Derived.RowKitTokens
import Derived.Test.YtndniceeibflcaaGreatDoorLaa
import Derived.Test.YtndniceeibflcaaGreatDoorLab
import Derived.Test.YtndniceeibflcaaGreatDoorLac
import Derived.Test.YtndniceeibflcaaGreatDoorLad
import Derived.Test.YtndniceeibflcaaGreatDoorLae
import Derived.Test.YtndniceeibflcaaGreatDoorLag
import Derived.Test.YtndniceeibflcaaGreatDoorLah
import Derived.Test.YtndniceeibflcaaGreatDoorLai
import Derived.Test.YtndniceeibflcaaGreatDoorLaj
set_option linter.unusedSimpArgs false
set_option linter.unusedVariables false
namespace Go.Proofs.YtndniceeibflcaaGreatDoor
namespace Aw
end Aw
namespace Mp
end Mp
end Go.Proofs.YtndniceeibflcaaGreatDoor
namespace Go.Proofs.YtndniceeibflcaaGreatDoor
open Aw Mp Go.RowKit
set_option linter.unusedSimpArgs false
set_option maxRecDepth 8000

theorem m73_3 (m : Mch) (t : MS) {c : Nat} (hI : InvS m.n c t) (hc : c ≤ 1000) (hT : vT m.n m.ls = 0) (hls : m.ls.length ≤ 1000000) (x : Int) (hx : 0 ≤ x ∧ x ≤ 99) :
    MSpec Tryz.prog 73 [.q 7 6 0 0, .q 0 13 0 0, frmA (3, 1, 0, -1), .s 1 (intsA [x])] (memG m t) (fun r N => r = erV (erS m.n m.lim m.ls t 3 x 0 0) ∧ N = memG m (if erS m.n m.lim m.ls t 3 x 0 0 = 0 then nxS t 3 x 0 0 else t)) := by
  refine mspec_of2 (own := [6, 1022, 1033]) Tryz.func73 rfl ok73 ?_
  intro vs
  have hp4 := hI.p4
  have hhl := hI.hl
  have e0 : ((0 : Nat) : Int) = 0 := rfl
  have e1 : ((1 : Nat) : Int) = 1 := rfl
  have e2 : ((2 : Nat) : Int) = 2 := rfl
  have e3 : ((3 : Nat) : Int) = 3 := rfl
  have g0 : 0 < [x].length := by simp
  obtain ⟨gh, hgh⟩ : ∃ gh, gh = some (ghost vs [AV.q 7 6 0 0, AV.q 0 13 0 0, frmA (3, 1, 0, -1), AV.s 1 (intsA [x])]) := ⟨_, rfl⟩
  simp only [wB, awp, asP, asQ, asS, asN, obA, bndA, lenA, loadA, Aw.newRow, St.ev, St.step, setS, killS, AV.kill, AV.killL, Mem.kill, AV.cells, AV.flat, AV.single, AV.cellular, AV.size, AV.sizeL, Nat.reduceAdd, Nat.reduceEqDiff, Nat.reduceSub, Nat.reduceLeDiff, Int.reduceAdd, Int.reduceSub, Int.reduceNeg, Int.reduceLE, lenK, Tryz.ntmps73, memG, Mch.ob, Mch.od, Mch.cells, rowP, rowC, rowS, stO', List.drop_succ_cons, List.drop_zero, ghost, List.take_succ_cons, List.take_zero, List.drop_nil, e0, e1, frmA, ← hgh]
  refine swp_loop' (fun j : Nat => ⟨[.q 7 6 0 0, .q 0 13 0 0, .bot, .s 1 (intsA [x]), .bot, .bot, .q 9 4 0 0, .bot, .v .nilIface, .bot, .bot, .bot, .bot, .bot, .bot, .bot, .bot, .bot, .bot, .s 1 (intsA []), I 0, I j, .bot, .bot, .bot, .bot, .bot, .bot, .bot, .bot, .bot, .bot, .bot, .bot, .bot, .bot, .bot, .bot, .bot, .bot, .bot, .bot, .bot, .bot, .bot, .bot, .bot, .bot, .bot, .bot, .bot, .bot, .bot, .bot, .bot, .bot, .bot, .bot, .bot, .bot, .bot, .bot, .bot, .bot, .bot, .bot, .bot, .bot, .bot, .bot, .bot, .bot, .bot, .bot, .bot, .bot, .bot, .bot, .bot, .bot, .bot, .bot, .bot, .bot, .bot, .bot, .bot, .bot, .bot, .bot, .bot, .bot, .bot, .bot, .bot, .bot, .bot, .bot, .bot, .bot, .bot, .bot, .bot, .bot, .bot, .bot, .bot, .bot, .bot, .bot, .bot, .bot, .bot, .bot, .bot, .bot, .bot, .bot, .bot, .bot, .bot, .bot, .bot, .bot, .bot, .bot, .bot, .bot, .bot, .bot, .bot, .bot, .bot, .bot, .bot, .bot, .bot, .bot, .bot, .bot, .bot, .bot, .bot, .bot, .bot, .bot, .bot, .bot, .bot, .bot, .bot, .bot, .bot, .bot, .bot, .bot, .bot, .bot, .bot, .bot, .bot, .bot, .bot, .bot, .bot, .bot, .bot, .bot, .bot, .bot, .bot, .bot, .bot, .bot, .bot, .bot, .bot, .bot, .bot, .bot, .bot, .bot, .bot, .bot, .bot, .bot, .bot, .bot, .bot, .bot, .bot, .bot, .bot, .bot, .bot, .bot, .bot, .bot, .bot, .bot, .bot, .bot, .bot, .bot, .bot, .bot, .bot, .bot, .bot, .bot, .bot, .bot, .bot, .bot, .bot, .bot, .bot, .bot, .bot, .bot, .bot, .bot, .bot, .bot, .bot, .bot, .bot, .bot, .bot, .bot, .bot, .bot, .bot, .bot, .bot, .bot, .bot, .bot, .bot, .bot, .bot, .bot, .bot, .bot, .bot, .bot, .bot, .bot, .bot, .bot, .bot, .bot, .bot, .bot], memG m t ++ [gh, some ⟨none, 112, 4, [frmA (3, 1, 0, -1)]⟩]⟩) (fun j => j ≤ 0 ∧ ∀ i, i < j → ∀ h : i < ([] : List Int).length, ([] : List Int)[i] < t.place.length) (fun j => 0 - j) 0 (le_sl' ?_ ?_) ⟨Nat.zero_le _, fun i h => absurd h (Nat.not_lt_zero _)⟩ ?_
  · simp only [memG, memS, Mch.ob, Mch.od, Mch.cells, rowP, rowC, rowS, stO', combR, List.cons_append, List.nil_append, Option.map_some, Option.map_none, List.drop_succ_cons, List.drop_zero, prsA_sub, strsA_sub, intsA_sub, gtsA_sub, AV.sub, AV.subL, keepF, keepG, liveI, List.getElem?_cons_succ, List.getElem?_cons_zero, List.getElem?_nil, AV.isO, AV.isQ, List.any_cons, List.any_nil, ghost, gA, List.take_succ_cons, List.take_zero, List.drop_nil, hgh, frmA]
  · simp [leSl, intsA]
  rintro j ⟨hj, hno⟩
  refine awp_sound (own := [6, 1022, 1033]) _ _ _ _ _ ?_
  simp only [wB, awp, binC, cmpC, asB, asI, St.ev, St.step, setS, killS, AV.kill, AV.killL, Mem.kill, AV.cells, Nat.reduceAdd, Nat.reduceEqDiff, Int.reduceAdd, Int.reduceNeg, memG, Mch.ob, Mch.od, Mch.cells, rowP, rowC, rowS, stO', ghost, hgh, frmA]
  by_cases h : (j : Int) < 0
  case pos =>
    omega
  obtain rfl : j = 0 := by omega
  clear hno
  simp only [awp, ACond_false, if_true, decide_false, Int.reduceNeg, Int.reduceLT, e0]
  refine swp_draw (own := [6]) (.take 0 .plain [] (.take 1 .reads [] (.take 2 .plain [] (.take 3 .plain [] (.take 4 .plain [] (.take 5 .plain [] (.take 6 .reads [] (.take 7 .reads [] (.take 8 .reads [] (.take 9 .plain [] (.take 10 .plain [] (.take 11 .plain [] (.take 12 .plain [] (.take 13 .reads [] (.take 14 .plain [] (.take 15 .plain [] (.done))))))))))))))))) [⟨36, 64, 0, 0, true⟩, ⟨37, 34359738368, 1, 0, true⟩, ⟨38, 68719476736, 2, 0, true⟩, ⟨39, 137438953472, 4, 0, true⟩, ⟨40, 274877906952, 8, 0, true⟩, ⟨41, 274877907008, 8, 0, true⟩, ⟨42, 1374389534720, 40, 0, true⟩, ⟨43, 3023656976384, 88, 0, true⟩, ⟨44, 4672924418048, 136, 0, true⟩, ⟨45, 274877906946, 8, 0, true⟩, ⟨46, 17867063951360, 520, 0, true⟩, ⟨47, 35459249995776, 1032, 0, true⟩, ⟨48, 70643622084608, 2056, 0, true⟩, ⟨49, 141012366262272, 4104, 0, true⟩, ⟨50, 290545947639808, 8456, 0, true⟩, ⟨51, 563224831328256, 16392, 0, true⟩] mo (by kernel_rfl) ?_
  simp only [wB, awp, binC, idxC, cmpC, asP, asQ, asS, asB, asI, asN, obA, loadA, St.ev, St.step, setS, killS, AV.kill, AV.killL, Mem.kill, AV.cells, AV.flat, AV.single, Nat.reduceAdd, Nat.reduceEqDiff, Nat.reduceLeDiff, Int.reduceAdd, Int.reduceNeg, Int.reduceLE, Int.reduceEq, ASch, St.put, Md.mem, Md.need, Mch.cells, List.drop_succ_cons, List.drop_zero, List.take_succ_cons, List.take_zero, List.getElem_cons_zero, aget_ints g0]
  by_cases hx0 : x = 0
  · simp only [wB, awp, asN, fillA, putsA, St.ev, St.step, setS, killS, AV.kill, AV.killL, Mem.kill, AV.cells, AV.flat, AV.single, AV.cellular, Value.oneCell', Nat.reduceAdd, Nat.reduceEqDiff, Nat.reduceLeDiff, Int.reduceAdd, Int.reduceNeg, Aw.valOf, Aw.valsOf, cc139, memG, Mch.ob, Mch.od, Mch.cells, rowP, rowC, rowS, stO', aget_ints g0, decide_eq_true hx0]
    have he : erS m.n m.lim m.ls t 3 x 0 0 = 1 := by simp only [erS]; rw [if_pos hx0]
    exact ⟨_, _, memG m t, _, Le.refl _, rfl, rfl, rfl, rfl, free_G _ m t, by simp [he, erV, errV], by first | (simp [he]; done) | (simp [he]; rfl)⟩
  simp only [wB, awp, asP, asQ, obA, lenA, loadA, St.ev, St.step, setS, killS, AV.kill, AV.killL, Mem.kill, AV.cells, AV.flat, AV.single, Nat.reduceAdd, Nat.reduceEqDiff, Nat.reduceLeDiff, Int.reduceAdd, Int.reduceNeg, lenK, Mch.cells, List.drop_succ_cons, List.drop_zero, List.take_succ_cons, List.take_zero, aget_ints g0, decide_eq_false hx0]
  have he : erS m.n m.lim m.ls t 3 x 0 0 = 0 := by simp only [erS]; rw [if_neg hx0]
  refine swp_loop' (fun j : Nat => ⟨[.q 7 6 0 0, .bot, .bot, .s 1 (intsA [x]), .bot, .bot, .bot, .bot, .v .nilIface, .bot, .bot, .bot, .bot, .bot, .bot, .bot, .bot, .bot, .bot, .bot, .bot, .bot, .bot, .bot, .bot, .bot, .bot, .bot, .bot, .bot, .bot, .bot, .bot, .bot, .bot, .bot, .bot, .bot, .bot, .bot, .bot, .bot, .bot, .bot, .bot, .bot, .bot, .bot, .bot, .bot, .bot, .bot, .bot, .bot, .bot, .bot, .bot, .bot, .bot, .bot, .bot, .bot, .bot, .bot, .bot, .bot, .bot, .bot, .bot, .bot, .bot, .bot, .bot, .bot, .bot, .bot, .bot, .bot, .bot, .bot, .bot, .bot, .bot, .bot, .bot, .bot, .bot, .bot, .bot, .bot, .bot, .bot, .bot, .bot, .bot, .bot, .bot, .bot, .bot, .bot, .bot, .bot, .bot, .bot, .bot, .bot, .bot, .bot, .bot, .bot, .bot, .bot, .bot, .bot, .bot, .bot, .bot, .bot, .bot, .bot, .bot, .bot, .bot, .bot, .bot, .bot, .bot, .bot, .bot, .bot, .bot, .bot, .bot, .bot, .bot, .bot, .bot, .bot, .bot, .bot, .bot, .bot, .bot, .bot, .bot, .bot, .bot, .bot, .bot, .bot, .bot, .bot, .bot, .bot, .bot, .bot, .bot, .bot, .bot, .bot, .bot, .bot, .bot, .bot, .bot, .bot, .bot, .bot, .bot, .bot, .bot, .bot, .bot, .bot, .bot, .bot, .bot, .bot, .bot, .bot, .bot, .bot, .bot, .bot, .bot, .bot, .bot, .bot, .bot, .bot, .bot, I t.heats.length, I j, .bot, .bot, .bot, .bot, .bot, .bot, .bot, .bot, .bot, .bot, .bot, .bot, .bot, .bot, .bot, .bot, .bot, .bot, .bot, .bot, .bot, .bot, .bot, .bot, .bot, .bot, .bot, .bot, .bot, .bot, .bot, .bot, .bot, .bot, .bot, .bot, .bot, .bot, .bot, .bot, .bot, .bot, .bot, .bot, .bot, .bot, .bot, .bot, .bot, .bot, .bot, .bot, .bot, .bot, .bot, .bot, .bot, .bot, .bot, .bot, .bot], memG m ({ t with heats := warmL t.heats x j }) ++ [gh, some ⟨none, 112, 4, [frmA (3, 1, 0, -1)]⟩]⟩) (fun j => j ≤ t.heats.length) (fun j => t.heats.length - j) 0 (le_sl' ?_ ?_) (Nat.zero_le _) ?_
  · simp only [memG, memS, Mch.ob, Mch.od, Mch.cells, rowP, rowC, rowS, stO', combR, List.cons_append, List.nil_append, Option.map_some, Option.map_none, List.drop_succ_cons, List.drop_zero, prsA_sub, strsA_sub, intsA_sub, gtsA_sub, AV.sub, AV.subL, keepF, keepG, liveI, List.getElem?_cons_succ, List.getElem?_cons_zero, List.getElem?_nil, AV.isO, AV.isQ, List.any_cons, List.any_nil, ghost, gA, List.take_succ_cons, List.take_zero, List.drop_nil, hgh, frmA, warmL, List.take_zero, List.map_nil, List.nil_append, List.drop_zero]
  · simp [leSl]
  intro j hj
  refine awp_sound (own := [6, 1022, 1033]) _ _ _ _ _ ?_
  simp only [wB, awp, binC, cmpC, asB, asI, St.ev, St.step, setS, killS, AV.kill, AV.killL, Mem.kill, AV.cells, Nat.reduceAdd, Nat.reduceEqDiff, Int.reduceAdd, Int.reduceNeg, memG, Mch.ob, Mch.od, Mch.cells, rowP, rowC, rowS, stO', ghost, hgh, frmA]
  by_cases h : j < t.heats.length
  case neg =>
    have h' : ¬ (j : Int) < (t.heats.length : Int) := by omega
    simp only [wB, awp, asN, St.ev, St.step, setS, killS, AV.kill, AV.killL, Mem.kill, AV.cells, Nat.reduceAdd, Nat.reduceEqDiff, Int.reduceAdd, Int.reduceNeg, memG, Mch.ob, Mch.od, Mch.cells, rowP, rowC, rowS, stO', decide_eq_false h']
    have hw : warmL t.heats x j = t.heats.map fun h => min (h + x) 1000 := by
      unfold warmL
      rw [List.take_of_length_le (by omega), List.drop_eq_nil_of_le (by omega), List.append_nil]
    rw [hw]
    exact ⟨_, _, memG m (nxS t 3 x 0 0), _, Le.refl _, rfl, rfl, rfl, rfl, free_G _ m _, by simp [he, erV], by rw [if_pos he]; rfl⟩
  have h' : (j : Int) < (t.heats.length : Int) := by omega
  simp only [wB, awp, asN, St.ev, St.step, setS, killS, AV.kill, AV.killL, Mem.kill, Nat.reduceAdd, Nat.reduceEqDiff, Int.reduceAdd, Int.reduceNeg, decide_eq_true h']
  refine swp_fm (own := [6]) 5 rfl rfl rfl ?_
  simp only [wB, idxC, asP, asS, asI, loadA, St.ev, St.step, setS, killS, AV.kill, AV.killL, Mem.kill, AV.cells, AV.flat, AV.single, Int.reduceNeg, Int.reduceLE, Mch.cells, List.take_succ_cons, List.take_zero, List.getElem_cons_zero, aget_ints g0]
  refine acall_f (fspec_of (m104 { t with heats := warmL t.heats x j } j (by simp only [warmL_len]; exact h) x (by omega) (warmL_in hI.hin hx.1 j)) [0, 1, 2, 3, 8, 9] rfl (by exact ⟨rfl, rfl, rfl, rfl, trivial⟩) rfl rfl (free_S _ _ (by decide)) (N := memG m ({ t with heats := warmL t.heats x (j + 1) }) ++ [gh, some ⟨none, 112, 4, [frmA (3, 1, 0, -1)]⟩]) ?_) ?_
  · simp only [memG, memS, Mch.ob, Mch.od, Mch.cells, rowP, rowC, rowS, stO', combR, List.cons_append, List.nil_append, Option.map_some, Option.map_none, List.drop_succ_cons, List.drop_zero, prsA_sub, strsA_sub, intsA_sub, gtsA_sub, AV.sub, AV.subL, keepF, keepG, liveI, List.getElem?_cons_succ, List.getElem?_cons_zero, List.getElem?_nil, AV.isO, AV.isQ, List.any_cons, List.any_nil, ghost, gA, List.take_succ_cons, List.take_zero, List.drop_nil, hgh, frmA, warmL_bump h]
    rfl
  · simp only [wB, awp, binC, arithC, cmpC, asI, St.ev, St.step, setS, killS, AV.kill, AV.killL, Mem.kill, AV.cells, Nat.reduceAdd, Nat.reduceEqDiff, Int.reduceAdd, Int.reduceNeg, isU, memG, memS, Mch.ob, Mch.od, Mch.cells, rowP, rowC, rowS, stO', List.drop_succ_cons, AV.sub, keepG, liveI, AV.isQ, List.any_cons, List.any_nil, ghost, List.drop_nil, hgh, frmA]
    refine ⟨by unfold lim; omega, j + 1, le_sl' ?_ (by simp [leSl]), h, by omega⟩
    simp only [memG, memS, Mch.ob, Mch.od, Mch.cells, rowP, rowC, rowS, stO', combR, List.cons_append, List.nil_append, Option.map_some, Option.map_none, List.drop_succ_cons, List.drop_zero, prsA_sub, strsA_sub, intsA_sub, gtsA_sub, AV.sub, AV.subL, keepF, keepG, liveI, List.getElem?_cons_succ, List.getElem?_cons_zero, List.getElem?_nil, AV.isO, AV.isQ, List.any_cons, List.any_nil, ghost, gA, List.take_succ_cons, List.take_zero, List.drop_nil, hgh, frmA]
end Go.Proofs.YtndniceeibflcaaGreatDoor

namespace Go.Proofs.YtndniceeibflcaaGreatDoor
open Aw Mp Go.RowKit
set_option linter.unusedSimpArgs false
set_option maxRecDepth 8000

theorem m73_0 (m : Mch) (t : MS) {c : Nat} (hI : InvS m.n c t) (hc : c ≤ 1000) (hT : vT m.n m.ls = 0) (hls : m.ls.length ≤ 1000000) (x : Int) (hx : 0 ≤ x ∧ x ≤ 99) :
    MSpec Tryz.prog 73 [.q 7 6 0 0, .q 0 13 0 0, frmA (0, 1, 0, 0), .s 1 (intsA [x])] (memG m t) (fun r N => r = erV (erS m.n m.lim m.ls t 0 x 0 0) ∧ N = memG m (if erS m.n m.lim m.ls t 0 x 0 0 = 0 then nxS t 0 x 0 0 else t)) := by
  refine mspec_of2 (own := [6, 1022, 1033]) Tryz.func73 rfl ok73 ?_
  intro vs
  have hp4 := hI.p4
  have hhl := hI.hl
  have e0 : ((0 : Nat) : Int) = 0 := rfl
  have e1 : ((1 : Nat) : Int) = 1 := rfl
  have e2 : ((2 : Nat) : Int) = 2 := rfl
  have e3 : ((3 : Nat) : Int) = 3 := rfl
  have g0 : 0 < [x].length := by simp
  obtain ⟨gh, hgh⟩ : ∃ gh, gh = some (ghost vs [AV.q 7 6 0 0, AV.q 0 13 0 0, frmA (0, 1, 0, 0), AV.s 1 (intsA [x])]) := ⟨_, rfl⟩
  simp only [wB, awp, asP, asQ, asS, asN, obA, bndA, lenA, loadA, Aw.newRow, St.ev, St.step, setS, killS, AV.kill, AV.killL, Mem.kill, AV.cells, AV.flat, AV.single, AV.cellular, AV.size, AV.sizeL, Nat.reduceAdd, Nat.reduceEqDiff, Nat.reduceSub, Nat.reduceLeDiff, Int.reduceAdd, Int.reduceSub, Int.reduceLE, lenK, Tryz.ntmps73, memG, Mch.ob, Mch.od, Mch.cells, rowP, rowC, rowS, stO', List.drop_succ_cons, List.drop_zero, ghost, List.take_succ_cons, List.take_zero, List.drop_nil, e0, e1, frmA, ← hgh]
  refine swp_loop' (fun j : Nat => ⟨[.q 7 6 0 0, .q 0 13 0 0, .bot, .s 1 (intsA [x]), .bot, .bot, .q 9 4 0 0, .bot, .v .nilIface, .bot, .bot, .bot, .bot, .bot, .bot, .bot, .bot, .bot, .bot, .s 1 (intsA []), I 0, I j, .bot, .bot, .bot, .bot, .bot, .bot, .bot, .bot, .bot, .bot, .bot, .bot, .bot, .bot, .bot, .bot, .bot, .bot, .bot, .bot, .bot, .bot, .bot, .bot, .bot, .bot, .bot, .bot, .bot, .bot, .bot, .bot, .bot, .bot, .bot, .bot, .bot, .bot, .bot, .bot, .bot, .bot, .bot, .bot, .bot, .bot, .bot, .bot, .bot, .bot, .bot, .bot, .bot, .bot, .bot, .bot, .bot, .bot, .bot, .bot, .bot, .bot, .bot, .bot, .bot, .bot, .bot, .bot, .bot, .bot, .bot, .bot, .bot, .bot, .bot, .bot, .bot, .bot, .bot, .bot, .bot, .bot, .bot, .bot, .bot, .bot, .bot, .bot, .bot, .bot, .bot, .bot, .bot, .bot, .bot, .bot, .bot, .bot, .bot, .bot, .bot, .bot, .bot, .bot, .bot, .bot, .bot, .bot, .bot, .bot, .bot, .bot, .bot, .bot, .bot, .bot, .bot, .bot, .bot, .bot, .bot, .bot, .bot, .bot, .bot, .bot, .bot, .bot, .bot, .bot, .bot, .bot, .bot, .bot, .bot, .bot, .bot, .bot, .bot, .bot, .bot, .bot, .bot, .bot, .bot, .bot, .bot, .bot, .bot, .bot, .bot, .bot, .bot, .bot, .bot, .bot, .bot, .bot, .bot, .bot, .bot, .bot, .bot, .bot, .bot, .bot, .bot, .bot, .bot, .bot, .bot, .bot, .bot, .bot, .bot, .bot, .bot, .bot, .bot, .bot, .bot, .bot, .bot, .bot, .bot, .bot, .bot, .bot, .bot, .bot, .bot, .bot, .bot, .bot, .bot, .bot, .bot, .bot, .bot, .bot, .bot, .bot, .bot, .bot, .bot, .bot, .bot, .bot, .bot, .bot, .bot, .bot, .bot, .bot, .bot, .bot, .bot, .bot, .bot, .bot, .bot, .bot, .bot, .bot, .bot, .bot, .bot, .bot, .bot, .bot, .bot, .bot], memG m t ++ [gh, some ⟨none, 112, 4, [frmA (0, 1, 0, 0)]⟩]⟩) (fun j => j ≤ 0 ∧ ∀ i, i < j → ∀ h : i < ([] : List Int).length, ([] : List Int)[i] < t.place.length) (fun j => 0 - j) 0 (le_sl' ?_ ?_) ⟨Nat.zero_le _, fun i h => absurd h (Nat.not_lt_zero _)⟩ ?_
  · simp only [memG, memS, Mch.ob, Mch.od, Mch.cells, rowP, rowC, rowS, stO', combR, List.cons_append, List.nil_append, Option.map_some, Option.map_none, List.drop_succ_cons, List.drop_zero, prsA_sub, strsA_sub, intsA_sub, gtsA_sub, AV.sub, AV.subL, keepF, keepG, liveI, List.getElem?_cons_succ, List.getElem?_cons_zero, List.getElem?_nil, AV.isO, AV.isQ, List.any_cons, List.any_nil, ghost, gA, List.take_succ_cons, List.take_zero, List.drop_nil, hgh, frmA]
  · simp [leSl, intsA]
  rintro j ⟨hj, hno⟩
  refine awp_sound (own := [6, 1022, 1033]) _ _ _ _ _ ?_
  simp only [wB, awp, binC, cmpC, asB, asI, St.ev, St.step, setS, killS, AV.kill, AV.killL, Mem.kill, AV.cells, Nat.reduceAdd, Nat.reduceEqDiff, Int.reduceAdd, memG, Mch.ob, Mch.od, Mch.cells, rowP, rowC, rowS, stO', ghost, hgh, frmA]
  by_cases h : (j : Int) < 0
  case pos =>
    omega
  obtain rfl : j = 0 := by omega
  clear hno
  simp only [awp, ACond_false, if_true, decide_false, Int.reduceLT, e0]
  refine swp_draw (own := [6]) (.take 0 .plain [] (.take 1 .reads [] (.take 2 .plain [] (.take 3 .plain [] (.take 4 .plain [] (.take 5 .plain [] (.take 6 .reads [] (.take 7 .reads [] (.take 8 .reads [] (.take 9 .plain [] (.take 10 .plain [] (.take 11 .plain [] (.take 12 .plain [] (.take 13 .reads [] (.take 14 .plain [] (.take 15 .plain [] (.done))))))))))))))))) [⟨36, 64, 0, 0, true⟩, ⟨37, 34359738368, 1, 0, true⟩, ⟨38, 68719476736, 2, 0, true⟩, ⟨39, 137438953472, 4, 0, true⟩, ⟨40, 274877906952, 8, 0, true⟩, ⟨41, 274877907008, 8, 0, true⟩, ⟨42, 1374389534720, 40, 0, true⟩, ⟨43, 3023656976384, 88, 0, true⟩, ⟨44, 4672924418048, 136, 0, true⟩, ⟨45, 274877906946, 8, 0, true⟩, ⟨46, 17867063951360, 520, 0, true⟩, ⟨47, 35459249995776, 1032, 0, true⟩, ⟨48, 70643622084608, 2056, 0, true⟩, ⟨49, 141012366262272, 4104, 0, true⟩, ⟨50, 290545947639808, 8456, 0, true⟩, ⟨51, 563224831328256, 16392, 0, true⟩] mo (by kernel_rfl) ?_
  simp only [wB, awp, binC, idxC, cmpC, asP, asQ, asS, asB, asI, obA, loadA, St.ev, setS, AV.cells, AV.flat, AV.single, Nat.reduceAdd, Nat.reduceEqDiff, Nat.reduceLeDiff, Int.reduceAdd, Int.reduceLE, ASch, St.put, Md.mem, Md.need, Mch.cells, List.drop_succ_cons, List.drop_zero, List.take_succ_cons, List.take_zero, List.getElem_cons_zero, aget_ints g0]
  by_cases hz : m.n ≤ x
  · simp only [wB, awp, asN, fillA, putsA, St.ev, St.step, setS, killS, AV.kill, AV.killL, Mem.kill, AV.cells, AV.flat, AV.single, AV.cellular, Value.oneCell', Nat.reduceAdd, Nat.reduceEqDiff, Nat.reduceLeDiff, Int.reduceAdd, St.put, Aw.valOf, Aw.valsOf, cc139, memG, Mch.ob, Mch.od, Mch.cells, rowP, rowC, rowS, stO', decide_eq_true hz]
    have he : erS m.n m.lim m.ls t 0 x 0 0 = 4 := by simp only [erS]; rw [if_pos hz]
    exact ⟨_, _, memG m t, _, Le.refl _, rfl, rfl, rfl, rfl, free_G _ m t, by simp [he, erV, errV], by first | (simp [he]; done) | (simp [he]; rfl)⟩
  simp only [wB, awp, binC, cmpC, asP, asQ, asB, asI, asN, obA, loadA, St.ev, St.step, setS, killS, AV.kill, AV.killL, Mem.kill, AV.cells, AV.flat, AV.single, Nat.reduceAdd, Nat.reduceEqDiff, Nat.reduceLeDiff, Int.reduceAdd, St.put, Mch.cells, List.drop_zero, List.take_succ_cons, List.take_zero, decide_eq_false hz]
  refine swp_draw (own := [6]) (.take 0 .plain [] (.take 1 .plain [] (.take 2 .plain [] (.take 3 .reads [] (.take 4 .reads [] (.take 5 .plain [] (.take 6 .plain [] (.take 7 .plain [] (.take 8 .plain [] (.take 9 .plain [] (.take 10 .reads [] (.take 11 .plain [] (.take 12 .reads [] (.take 13 .reads [] (.alt 14 (.take 15 .plain [] (.take 16 .plain [] (.alt 17 (.take 18 .plain [] (.done)) (.nil)))) (.nil)))))))))))))))) [⟨58, 1, 0, 0, true⟩, ⟨59, 144115188075855872, 1, 0, true⟩, ⟨60, 288230376151711744, 2, 0, true⟩, ⟨61, 576460752303423488, 4, 0, true⟩, ⟨62, 1152921504606846976, 8, 0, true⟩, ⟨63, 2305843009213693952, 16, 0, true⟩, ⟨64, 4611686018427387904, 32, 0, true⟩, ⟨65, 1, 0, 0, true⟩, ⟨66, 18446744073709551616, 128, 0, true⟩, ⟨67, 36893488147419103232, 256, 0, true⟩, ⟨68, 73786976294838206464, 512, 0, true⟩, ⟨69, 8, 0, 0, true⟩, ⟨70, 295147905179352825856, 2048, 0, true⟩, ⟨71, 590295810358705651712, 4096, 0, true⟩, ⟨72, 1328165573307087716352, 9216, 0, false⟩, ⟨73, 2361183241434822606848, 16384, 0, true⟩, ⟨74, 4731589854906499989504, 32832, 0, true⟩, ⟨75, 9444732965739290427392, 81920, 0, false⟩, ⟨12, 18889465931478580854784, 262143, 0, true⟩] mo (by kernel_rfl) ?_
  simp only [wB, binC, idxC, cmpC, asP, asQ, asS, asI, obA, lenA, loadA, fillA, putsA, St.ev, setS, AV.cells, AV.flat, AV.single, AV.cellular, Value.oneCell', Nat.reduceAdd, Nat.reduceEqDiff, Nat.reduceLeDiff, Int.reduceAdd, Int.reduceLE, ASch, St.put, Md.mem, Md.need, lenK, Mch.cells, List.drop_zero, List.take_succ_cons, List.take_zero, List.getElem_cons_zero, aget_ints g0]
  refine acall_ln 0 (s102 t.place x (by omega)) (by simp [frzN, frz, AV.sub, intsA_pure]) rfl rfl ?_
  simp only [wB, fillA, putsA, St.ev, St.step, setS, killS, AV.kill, AV.killL, Mem.kill, AV.cells, AV.flat, AV.single, AV.cellular, AV.size, AV.sizeL, AV.pure, AV.pureL, Value.oneCell', Nat.reduceAdd, Nat.reduceEqDiff, Nat.reduceMul, Nat.reduceLeDiff, Int.reduceAdd, Int.reduceMul, ASch, St.put, Md.mem, Md.need, Mch.cells, aget_ints g0]
  refine ⟨⟨by decide, rfl⟩, acall_v (s101 [(decide ((t.place.length : Int) = 4), 3), (memL t.place x, 6)] (Nat.le_of_ble_eq_true rfl)) rfl (fstE_pure _) ?_⟩
  have he : erS m.n m.lim m.ls t 0 x 0 0 = if decide ((t.place.length : Int) = 4) = true then 3 else if memL t.place x = true then 6 else 0 := by
    have h4 : (t.place.length = 4) = ((t.place.length : Int) = 4) := propext ⟨fun h => by omega, fun h => by omega⟩
    simp only [erS, decide_eq_true_eq, memL_eq]
    rw [if_neg hz]
    simp only [h4]
  rw [fst2 _ _ 3 6 (by decide) (by decide), ← he]
  by_cases c5 : erS m.n m.lim m.ls t 0 x 0 0 = 0
  case neg =>
    simp only [wB, awp, binC, eqC, asG, asB, asI, asN, St.ev, St.step, setS, killS, AV.kill, AV.killL, Mem.kill, AV.cells, Nat.reduceAdd, Nat.reduceEqDiff, Int.reduceAdd, ASch, St.put, Md.mem, Md.need, isNI, ptrN, ifcN, asStr, nt114, memG, Mch.ob, Mch.od, Mch.cells, rowP, rowC, rowS, stO', erV, if_neg c5, errV]
    exact ⟨_, _, memG m t, _, Le.refl _, rfl, rfl, rfl, rfl, free_G _ m t, by first | rfl | simp [c5], by first | rfl | simp [c5]⟩
  have hlt : t.place.length < 4 := by
    rcases Nat.lt_or_ge t.place.length 4 with h2 | h2
    · exact h2
    · rw [he, decide_eq_true (by omega)] at c5; cases c5
  simp only [wB, awp, binC, eqC, asG, asB, asI, asN, St.ev, St.step, setS, killS, AV.kill, AV.killL, Mem.kill, Nat.reduceAdd, Nat.reduceEqDiff, Int.reduceAdd, ASch, St.put, Md.mem, Md.need, isNI, ptrN, ifcN, asStr, nt114, erV, if_pos c5, errV]
  refine swp_to ⟨[.q 7 6 0 0, .bot, .bot, .bot, .bot, .bot, .bot, .bot, .v .nilIface, .bot, .bot, .bot, .bot, .bot, .bot, .bot, .bot, .bot, .bot, .bot, .bot, .bot, .bot, .bot, .bot, .bot, .bot, .bot, .bot, .bot, .bot, .bot, .bot, .bot, .bot, .bot, .bot, .bot, .bot, .bot, .bot, .bot, .bot, .bot, .bot, .bot, .bot, .bot, .bot, .bot, .bot, .bot, .bot, .bot, I 0, .bot, .bot, .bot, .bot, .bot, .bot, .bot, .bot, .bot, .bot, .bot, .bot, .bot, .bot, .bot, .bot, .bot, .bot, .bot, .bot, .bot, .bot, .bot, .bot, .bot, .bot, .bot, .bot, .bot, .bot, .bot, .bot, .bot, .bot, .bot, .bot, .bot, .bot, .bot, .bot, .bot, .bot, .bot, .bot, .bot, .bot, .bot, .bot, .bot, .bot, .bot, .bot, .bot, .bot, .bot, .bot, .bot, .bot, .bot, .bot, .bot, .bot, .bot, .bot, .bot, .bot, .bot, .bot, .bot, .bot, .bot, .bot, .bot, .bot, .bot, .bot, .bot, .bot, .bot, .bot, .bot, .bot, .bot, .bot, .bot, .bot, .bot, .bot, .bot, .bot, .bot, .bot, .bot, .bot, .bot, .bot, .bot, .bot, .bot, .bot, .bot, .bot, .bot, .bot, .bot, .bot, .bot, .bot, .bot, .bot, .bot, .bot, .bot, .bot, .bot, .bot, .bot, .bot, .bot, .bot, .bot, .bot, .bot, .bot, .bot, .bot, .bot, .bot, .bot, .bot, .bot, .bot, .bot, .bot, .bot, .bot, .bot, .bot, .bot, .bot, .bot, .bot, .bot, .bot, .bot, .bot, .bot, .bot, .bot, .bot, .bot, .bot, .bot, .bot, .bot, .bot, .bot, .bot, .bot, .bot, .bot, .bot, .bot, .bot, .bot, .bot, .bot, .bot, .bot, .bot, .bot, .bot, .bot, .bot, .bot, .bot, .bot, .bot, .bot, .bot, .bot, .bot, .bot, .bot, .bot, .bot, .bot, .bot, .bot, .bot, .bot, .bot, .bot, .bot, .bot, .bot, .bot, .bot, .bot], memG m ({ t with place := t.place ++ [x] }) ++ [gh, some ⟨none, 112, 4, [frmA (0, 1, 0, 0)]⟩]⟩ (swp_draw (own := [6]) (.take 1 .plain [] (.take 2 .plain [] (.take 3 .plain [] (.take 4 .reads [] (.take 5 .plain [] (.take 6 .reads [] (.take 7 .reads [] (.take 8 .plain [] (.alt 0 (.alt 9 (.take 10 .plain [] (.take 11 .plain [] (.alt 12 (.done) (.nil)))) (.nil)) (.alt 9 (.alt 0 (.take 10 .plain [] (.take 11 .plain [] (.alt 12 (.done) (.nil)))) (.nil)) (.nil))))))))))) [⟨79, 1, 0, 0, true⟩, ⟨80, 1, 0, 0, true⟩, ⟨81, 604462909807314587353088, 2, 0, true⟩, ⟨82, 1208925819614629174706176, 4, 0, true⟩, ⟨83, 2417851639229258349412352, 8, 0, true⟩, ⟨84, 8, 0, 0, true⟩, ⟨85, 9671406556917033397649408, 32, 0, true⟩, ⟨86, 19342813113834066795298816, 64, 0, true⟩, ⟨87, 38685626227668133590597632, 128, 0, true⟩, ⟨88, 82206955733794783880019968, 272, 2, false⟩, ⟨89, 302231454903657293676544, 1023, 0, true⟩, ⟨90, 309485009821345068724781056, 2047, 0, true⟩, ⟨0, 773712524553362671811952640, 3071, 1, false⟩] mo (by kernel_rfl) ?_) ?_
  · simp only [wB, idxC, asP, asQ, asO, asS, asI, obA, loadA, storeA, putsA, St.ev, St.step, setS, killS, AV.kill, AV.killL, Mem.kill, AV.cells, AV.flat, AV.single, AV.cellular, AV.size, AV.pure, AV.pureL, Value.oneCell', Nat.reduceAdd, Nat.reduceEqDiff, Nat.reduceMul, Nat.reduceLeDiff, Int.reduceAdd, Int.reduceMul, Int.reduceLE, ASch, St.put, Md.mem, Md.need, memG, Mch.ob, Mch.od, Mch.cells, rowP, rowC, rowS, stO', List.drop_zero, List.take_succ_cons, List.take_zero, List.getElem_cons_zero, aget_ints g0]
    have hle : (0 : Nat) < 1 := by decide
    have hcl : t.place.length ≤ 999999 := by omega
    refine ⟨⟨hle, rfl⟩, ⟨⟨hle, hcl⟩, le_sl' ?_ (by simp [leSl])⟩, ⟨hle, hcl⟩, le_sl' ?_ (by simp [leSl])⟩ <;>
    simp only [memG, memS, Mch.ob, Mch.od, Mch.cells, rowP, rowC, rowS, stO', combR, List.cons_append, List.nil_append, Option.map_some, Option.map_none, List.drop_succ_cons, List.drop_zero, prsA_sub, strsA_sub, intsA_sub, gtsA_sub, AV.sub, AV.subL, keepF, keepG, liveI, List.getElem?_cons_succ, List.getElem?_cons_zero, List.getElem?_nil, AV.isO, AV.isQ, List.any_cons, List.any_nil, ghost, gA, List.take_succ_cons, List.take_zero, List.drop_nil, hgh, frmA, prsA_kill, strsA_kill, intsA_kill, gtsA_kill, intsA_app]
  simp only [wB, awp, asP, asQ, asO, asS, asN, obA, loadA, storeA, putsA, St.ev, St.step, setS, killS, AV.kill, AV.killL, Mem.kill, AV.cells, AV.flat, AV.single, AV.cellular, AV.size, AV.pure, AV.pureL, Value.oneCell', Nat.reduceAdd, Nat.reduceEqDiff, Nat.reduceMul, Nat.reduceLeDiff, Int.reduceAdd, Int.reduceMul, memG, Mch.ob, Mch.od, Mch.cells, rowP, rowC, rowS, stO', List.drop_succ_cons, List.drop_zero, ghost, List.take_succ_cons, List.take_zero, hgh, frmA]
  refine ⟨⟨by decide, rfl⟩, ⟨by decide, by omega⟩, ?_⟩
  simp only [prsA_kill, strsA_kill, intsA_kill, gtsA_kill, intsA_app]
  have he : erS m.n m.lim m.ls t 0 x 0 0 = 0 := c5
  exact ⟨_, _, memG m (nxS t 0 x 0 0), _, Le.refl _, rfl, rfl, rfl, rfl, free_G _ m _, by simp [he, erV], by rw [if_pos he]; rfl⟩
end Go.Proofs.YtndniceeibflcaaGreatDoor

namespace Go.Proofs.YtndniceeibflcaaGreatDoor
open Aw Mp Go.RowKit
set_option linter.unusedSimpArgs false
set_option maxRecDepth 8000

theorem m73_4 (m : Mch) (t : MS) {c : Nat} (hI : InvS m.n c t) (hc : c ≤ 1000) (hT : vT m.n m.ls = 0) (hls : m.ls.length ≤ 1000000) (x : Int) (hx : 0 ≤ x ∧ x ≤ 99) (y : Int) (hy : 0 ≤ y ∧ y ≤ 99) :
    MSpec Tryz.prog 73 [.q 7 6 0 0, .q 0 13 0 0, frmA (4, 2, 1, -1), .s 1 (intsA [x, y])] (memG m t) (fun r N => r = erV (erS m.n m.lim m.ls t 4 x y 0) ∧ N = memG m (if erS m.n m.lim m.ls t 4 x y 0 = 0 then nxS t 4 x y 0 else t)) := by
  refine mspec_of2 (own := [6, 1022, 1033]) Tryz.func73 rfl ok73 ?_
  intro vs
  have hp4 := hI.p4
  have hhl := hI.hl
  have e0 : ((0 : Nat) : Int) = 0 := rfl
  have e1 : ((1 : Nat) : Int) = 1 := rfl
  have e2 : ((2 : Nat) : Int) = 2 := rfl
  have e3 : ((3 : Nat) : Int) = 3 := rfl
  have g0 : 0 < [x, y].length := by simp
  have g1 : 1 < [x, y].length := by simp
  obtain ⟨gh, hgh⟩ : ∃ gh, gh = some (ghost vs [AV.q 7 6 0 0, AV.q 0 13 0 0, frmA (4, 2, 1, -1), AV.s 1 (intsA [x, y])]) := ⟨_, rfl⟩
  simp only [wB, awp, asP, asQ, asS, asN, obA, bndA, lenA, loadA, Aw.newRow, St.ev, St.step, setS, killS, AV.kill, AV.killL, Mem.kill, AV.cells, AV.flat, AV.single, AV.cellular, AV.size, AV.sizeL, Nat.reduceAdd, Nat.reduceEqDiff, Nat.reduceSub, Nat.reduceLeDiff, Int.reduceAdd, Int.reduceSub, Int.reduceNeg, Int.reduceLE, lenK, Tryz.ntmps73, memG, Mch.ob, Mch.od, Mch.cells, rowP, rowC, rowS, stO', List.drop_succ_cons, List.drop_zero, ghost, List.take_succ_cons, List.take_zero, e2, frmA, ← hgh]
  refine swp_loop' (fun j : Nat => ⟨[.q 7 6 0 0, .q 0 13 0 0, .bot, .s 1 (intsA [x, y]), .bot, .bot, .q 9 4 0 0, .bot, .v .nilIface, .bot, .bot, .bot, .bot, .bot, .bot, .bot, .bot, .bot, .bot, .s 1 (intsA [x]), I 1, I j, .bot, .bot, .bot, .bot, .bot, .bot, .bot, .bot, .bot, .bot, .bot, .bot, .bot, .bot, .bot, .bot, .bot, .bot, .bot, .bot, .bot, .bot, .bot, .bot, .bot, .bot, .bot, .bot, .bot, .bot, .bot, .bot, .bot, .bot, .bot, .bot, .bot, .bot, .bot, .bot, .bot, .bot, .bot, .bot, .bot, .bot, .bot, .bot, .bot, .bot, .bot, .bot, .bot, .bot, .bot, .bot, .bot, .bot, .bot, .bot, .bot, .bot, .bot, .bot, .bot, .bot, .bot, .bot, .bot, .bot, .bot, .bot, .bot, .bot, .bot, .bot, .bot, .bot, .bot, .bot, .bot, .bot, .bot, .bot, .bot, .bot, .bot, .bot, .bot, .bot, .bot, .bot, .bot, .bot, .bot, .bot, .bot, .bot, .bot, .bot, .bot, .bot, .bot, .bot, .bot, .bot, .bot, .bot, .bot, .bot, .bot, .bot, .bot, .bot, .bot, .bot, .bot, .bot, .bot, .bot, .bot, .bot, .bot, .bot, .bot, .bot, .bot, .bot, .bot, .bot, .bot, .bot, .bot, .bot, .bot, .bot, .bot, .bot, .bot, .bot, .bot, .bot, .bot, .bot, .bot, .bot, .bot, .bot, .bot, .bot, .bot, .bot, .bot, .bot, .bot, .bot, .bot, .bot, .bot, .bot, .bot, .bot, .bot, .bot, .bot, .bot, .bot, .bot, .bot, .bot, .bot, .bot, .bot, .bot, .bot, .bot, .bot, .bot, .bot, .bot, .bot, .bot, .bot, .bot, .bot, .bot, .bot, .bot, .bot, .bot, .bot, .bot, .bot, .bot, .bot, .bot, .bot, .bot, .bot, .bot, .bot, .bot, .bot, .bot, .bot, .bot, .bot, .bot, .bot, .bot, .bot, .bot, .bot, .bot, .bot, .bot, .bot, .bot, .bot, .bot, .bot, .bot, .bot, .bot, .bot, .bot, .bot, .bot, .bot, .bot, .bot, .bot], memG m t ++ [gh, some ⟨none, 112, 4, [frmA (4, 2, 1, -1)]⟩]⟩) (fun j => j ≤ 1 ∧ ∀ i, i < j → ∀ h : i < ([x] : List Int).length, ([x] : List Int)[i] < t.place.length) (fun j => 1 - j) 0 (le_sl' ?_ ?_) ⟨Nat.zero_le _, fun i h => absurd h (Nat.not_lt_zero _)⟩ ?_
  · simp only [memG, memS, Mch.ob, Mch.od, Mch.cells, rowP, rowC, rowS, stO', combR, List.cons_append, List.nil_append, Option.map_some, Option.map_none, List.drop_succ_cons, List.drop_zero, prsA_sub, strsA_sub, intsA_sub, gtsA_sub, AV.sub, AV.subL, keepF, keepG, liveI, List.getElem?_cons_succ, List.getElem?_cons_zero, List.getElem?_nil, AV.isO, AV.isQ, List.any_cons, List.any_nil, ghost, gA, List.take_succ_cons, List.take_zero, List.drop_nil, hgh, frmA]
  · simp [leSl, intsA]
  rintro j ⟨hj, hno⟩
  refine awp_sound (own := [6, 1022, 1033]) _ _ _ _ _ ?_
  simp only [wB, awp, binC, cmpC, asB, asI, St.ev, St.step, setS, killS, AV.kill, AV.killL, Mem.kill, AV.cells, Nat.reduceAdd, Nat.reduceEqDiff, Int.reduceAdd, Int.reduceNeg, memG, Mch.ob, Mch.od, Mch.cells, rowP, rowC, rowS, stO', ghost, hgh, frmA]
  by_cases h : (j : Int) < 1
  case pos =>
    have hjl : j < ([x] : List Int).length := by simp; omega
    simp only [wB, awp, binC, idxC, cmpC, asP, asQ, asS, asB, asI, asN, obA, lenA, loadA, St.ev, St.step, setS, killS, AV.kill, AV.killL, Mem.kill, AV.cells, AV.flat, AV.single, Nat.reduceAdd, Nat.reduceEqDiff, Nat.reduceLeDiff, Int.reduceAdd, Int.reduceNeg, lenK, Mch.cells, List.drop_zero, List.take_succ_cons, List.take_zero, decide_eq_true h, aget_ints hjl, Int.toNat_natCast]
    refine ⟨by omega, ?_⟩
    obtain ⟨q, hq⟩ : ∃ q, q = ([x] : List Int)[j] := ⟨_, rfl⟩
    rw [← hq]
    by_cases hp : (t.place.length : Int) ≤ q
    · simp only [wB, awp, asN, fillA, putsA, St.ev, St.step, setS, killS, AV.kill, AV.killL, Mem.kill, AV.cells, AV.flat, AV.single, AV.cellular, Value.oneCell', Nat.reduceAdd, Nat.reduceEqDiff, Nat.reduceLeDiff, Int.reduceAdd, Int.reduceNeg, Aw.valOf, Aw.valsOf, cc139, memG, Mch.ob, Mch.od, Mch.cells, rowP, rowC, rowS, stO', decide_eq_true hp]
      have he : erS m.n m.lim m.ls t 4 x y 0 = 4 := by
        obtain rfl : j = 0 := by omega
        simp only [List.getElem_cons_zero] at hq
        subst hq
        simp only [erS]
        rw [if_pos hp]
      exact ⟨_, _, memG m t, _, Le.refl _, rfl, rfl, rfl, rfl, free_G _ m t, by simp [he, erV, errV], by first | (simp [he]; done) | (simp [he]; rfl)⟩
    · simp only [wB, awp, binC, arithC, cmpC, asI, St.ev, St.step, setS, killS, AV.kill, AV.killL, Mem.kill, AV.cells, Nat.reduceAdd, Nat.reduceEqDiff, Int.reduceAdd, Int.reduceNeg, isU, memG, Mch.ob, Mch.od, Mch.cells, rowP, rowC, rowS, stO', decide_eq_false hp]
      refine ⟨by unfold lim; omega, j + 1, le_sl' ?_ (by simp [leSl]), ⟨by omega, fun i hi hl => ?_⟩, by omega⟩
      · simp only [memG, memS, Mch.ob, Mch.od, Mch.cells, rowP, rowC, rowS, stO', combR, List.cons_append, List.nil_append, Option.map_some, Option.map_none, List.drop_succ_cons, List.drop_zero, prsA_sub, strsA_sub, intsA_sub, gtsA_sub, AV.sub, AV.subL, keepF, keepG, liveI, List.getElem?_cons_succ, List.getElem?_cons_zero, List.getElem?_nil, AV.isO, AV.isQ, List.any_cons, List.any_nil, ghost, gA, List.take_succ_cons, List.take_zero, List.drop_nil, hgh, frmA]
      · rcases Nat.lt_or_ge i j with h1 | h1
        · exact hno i h1 hl
        · obtain rfl : i = j := by omega
          rw [← hq]; omega
  obtain rfl : j = 1 := by omega
  have px : x < t.place.length := by have := hno 0 (by omega) (by simp); simpa using this
  clear hno
  simp only [awp, ACond_false, if_true, decide_false, Int.reduceNeg, Int.reduceLT, e1]
  refine swp_draw (own := [6]) (.take 0 .plain [] (.take 1 .reads [] (.take 2 .plain [] (.take 3 .plain [] (.take 4 .plain [] (.take 5 .plain [] (.take 6 .reads [] (.take 7 .reads [] (.take 8 .reads [] (.take 9 .plain [] (.take 10 .plain [] (.take 11 .plain [] (.take 12 .plain [] (.take 13 .reads [] (.take 14 .plain [] (.take 15 .plain [] (.done))))))))))))))))) [⟨36, 64, 0, 0, true⟩, ⟨37, 34359738368, 1, 0, true⟩, ⟨38, 68719476736, 2, 0, true⟩, ⟨39, 137438953472, 4, 0, true⟩, ⟨40, 274877906952, 8, 0, true⟩, ⟨41, 274877907008, 8, 0, true⟩, ⟨42, 1374389534720, 40, 0, true⟩, ⟨43, 3023656976384, 88, 0, true⟩, ⟨44, 4672924418048, 136, 0, true⟩, ⟨45, 274877906946, 8, 0, true⟩, ⟨46, 17867063951360, 520, 0, true⟩, ⟨47, 35459249995776, 1032, 0, true⟩, ⟨48, 70643622084608, 2056, 0, true⟩, ⟨49, 141012366262272, 4104, 0, true⟩, ⟨50, 290545947639808, 8456, 0, true⟩, ⟨51, 563224831328256, 16392, 0, true⟩] mo (by kernel_rfl) ?_
  simp only [wB, awp, binC, cmpC, asP, asQ, asB, asI, asN, obA, loadA, St.ev, St.step, setS, killS, AV.kill, AV.killL, Mem.kill, AV.cells, AV.flat, AV.single, Nat.reduceAdd, Nat.reduceEqDiff, Nat.reduceLeDiff, Int.reduceAdd, Int.reduceNeg, Int.reduceLE, Int.reduceEq, ASch, St.put, Md.mem, Md.need, Mch.cells, List.drop_succ_cons, List.drop_zero, List.take_succ_cons, List.take_zero, aget_ints g0, aget_ints g1]
  refine swp_splitF (own := [6]) (pre := #[_, _, _, _, _, _, _, _, _]) _ [_] rfl (.take 0 .plain [] (.take 1 .plain [] (.take 2 .plain [] (.take 3 .reads [] (.take 4 .reads [] (.take 5 .plain [] (.take 6 .reads [] (.take 7 .reads [] (.take 8 .plain [] (.done)))))))))) [⟨205, 1, 0, 0, true⟩, ⟨206, 2, 0, 0, true⟩, ⟨207, 8, 0, 0, true⟩, ⟨208, 102844034832575377634685573909834406561420991602098741459288064, 4, 0, true⟩, ⟨209, 205688069665150755269371147819668813122841983204197482918576128, 8, 0, true⟩, ⟨210, 8, 0, 0, true⟩, ⟨211, 822752278660603021077484591278675252491367932816789931674304512, 32, 0, true⟩, ⟨212, 1645504557321206042154969182557350504982735865633579863348609024, 64, 0, true⟩, ⟨213, 3291009114642412084309938365114701009965471731267159726697218048, 128, 0, true⟩] mo (by kernel_rfl) (by kernel_rfl) ?_
  simp only [wB, idxC, asP, asS, asI, loadA, St.ev, setS, AV.cells, AV.flat, AV.single, AV.cellular, AV.size, AV.pure, AV.pureL, Value.oneCell', Nat.reduceEqDiff, Nat.reduceMul, Nat.reduceLeDiff, Int.reduceMul, Int.reduceNeg, Int.reduceLE, ASch, St.put, Md.mem, Md.need, Mch.cells, List.getElem_cons_zero, List.getElem_cons_succ, aget_ints g0, aget_ints g1]
  have he : erS m.n m.lim m.ls t 4 x y 0 = er1 m.lim t x y := by simp only [erS]; rw [if_neg (by omega)]
  refine ⟨⟨by decide, rfl⟩, ⟨[.bot, .bot, .bot, .bot, .bot, .bot, .bot, .bot, .bot, .bot, .bot, .bot, .bot, .bot, .bot, .bot, .bot, .bot, .bot, .bot, .bot, .bot, .bot, .bot, .bot, .bot, .bot, .bot, .bot, .bot, .bot, .bot, .bot, .bot, .bot, .bot, .bot, .bot, .bot, .bot, .bot, .bot, .bot, .bot, .bot, .bot, .bot, .bot, .bot, .bot, .bot, .bot, .bot, .bot, .bot, .bot, .bot, .bot, .bot, .bot, .bot, .bot, .bot, .bot, .bot, .bot, .bot, .bot, .bot, .bot, .bot, .bot, .bot, .bot, .bot, .bot, .bot, .bot, .bot, .bot, .bot, .bot, .bot, .bot, .bot, .bot, .bot, .bot, .bot, .bot, .bot, .bot, .bot, .bot, .bot, .bot, .bot, .bot, .bot, .bot, .bot, .bot, .bot, .bot, .bot, .bot, .bot, .bot, .bot, .bot, .bot, .bot, .bot, .bot, .bot, .bot, .bot, .bot, .bot, .bot, .bot, .bot, .bot, .bot, .bot, .bot, .bot, .bot, .bot, .bot, .bot, .bot, .bot, .bot, .bot, .bot, .bot, .bot, .bot, .bot, .bot, .bot, .bot, .bot, .bot, .bot, .bot, .bot, .bot, .bot, .bot, .bot, .bot, .bot, .bot, .bot, .bot, .bot, .bot, .bot, .bot, .bot, .bot, .bot, .bot, .bot, .bot, .bot, .bot, .bot, .bot, .bot, .bot, .bot, .bot, .bot, .bot, .bot, .bot, .bot, .bot, .bot, .bot, .bot, .bot, .bot, .bot, .bot, .bot, .bot, .bot, .bot, .bot, .bot, .bot, .bot, .bot, .bot, .bot, .bot, .bot, .bot, .bot, .bot, .q 7 6 0 0, .q 0 13 0 0, .bot, .bot, I y, .bot, .bot, .bot, .s 1 (intsA [x]), .bot, .bot, .bot, .bot, .bot, .bot, .bot, .bot, .bot, .bot, .bot, .bot, .bot, .bot, .bot, .bot, .bot, .bot, .bot, .bot, .bot, .bot, .bot, .bot, .bot, .bot, .bot, .bot, .bot, .bot, .bot, .bot, .bot, .bot, .bot, .bot, .bot, .bot, .bot, .bot, .bot], memG m (t) ++ [gh, some ⟨none, 112, 4, [frmA (4, 2, 1, -1)]⟩]⟩, le_sl' ?_ (by simp [leSl, intsA]), ?_⟩
  · simp only [memG, memS, Mch.ob, Mch.od, Mch.cells, rowP, rowC, rowS, stO', combR, List.cons_append, List.nil_append, Option.map_some, Option.map_none, List.drop_succ_cons, List.drop_zero, prsA_sub, strsA_sub, intsA_sub, gtsA_sub, AV.sub, AV.subL, keepF, keepG, liveI, List.getElem?_cons_succ, List.getElem?_cons_zero, List.getElem?_nil, AV.isO, AV.isQ, List.any_cons, List.any_nil, ghost, gA, List.take_succ_cons, List.take_zero, List.drop_nil, hgh, frmA]
  simp only [St.ev, AV.cells, List.getD_cons_succ, List.getD_cons_zero, List.cons_append, List.nil_append, List.map_cons, List.map_nil, Int.reduceNeg, memG, Mch.ob, Mch.od, Mch.cells, rowP, rowC, rowS, stO', List.cons_append, List.nil_append, ghost, afc, hgh, frmA]
  refine acall_f (fspec_of (m105a m t hI hc 0 x y ⟨hx.1, px⟩) [1, 3, 8, 9] rfl (by exact ⟨rfl, rfl, rfl, rfl, rfl, rfl, trivial⟩) rfl rfl (free_GZ _ _ _ (by decide)) (N := memG m ((if er1 m.lim t x y = 0 then nx1 t 0 x y else t)) ++ [gh, some ⟨none, 112, 4, [frmA (4, 2, 1, -1)]⟩]) ?_) ?_
  · simp only [memG, memS, Mch.ob, Mch.od, Mch.cells, rowP, rowC, rowS, stO', combR, List.cons_append, List.nil_append, Option.map_some, Option.map_none, List.drop_succ_cons, List.drop_zero, prsA_sub, strsA_sub, intsA_sub, gtsA_sub, AV.sub, AV.subL, keepF, keepG, liveI, List.getElem?_cons_succ, List.getElem?_cons_zero, List.getElem?_nil, AV.isO, AV.isQ, List.any_cons, List.any_nil, ghost, gA, List.take_succ_cons, List.take_zero, List.drop_nil, hgh, frmA]
    rfl
  rw [he]
  obtain ⟨t', ht'⟩ : ∃ t', t' = if er1 m.lim t x y = 0 then nx1 t 0 x y else t := ⟨_, rfl⟩
  have hn : (if er1 m.lim t x y = 0 then nxS t 4 x y 0 else t) = t' := ht'.symm
  rw [← ht']
  simp only [wB, awp, asN, St.ev, St.step, setS, killS, AV.kill, AV.killL, Mem.kill, AV.cells, Nat.reduceEqDiff, Int.reduceNeg, memG, Mch.ob, Mch.od, Mch.cells, rowP, rowC, rowS, stO', AV.sub, keepG, liveI, AV.isQ, List.any_cons, List.any_nil, ghost, hgh, frmA, hn]
  exact ⟨_, _, memG m t', _, Le.refl _, rfl, rfl, erV_free _ _, rfl, free_G _ m _, rfl, rfl⟩
end Go.Proofs.YtndniceeibflcaaGreatDoor

namespace Go.Proofs.YtndniceeibflcaaGreatDoor
open Aw Mp Go.RowKit
set_option linter.unusedSimpArgs false
set_option maxRecDepth 8000

theorem m73_5 (m : Mch) (t : MS) {c : Nat} (hI : InvS m.n c t) (hc : c ≤ 1000) (hT : vT m.n m.ls = 0) (hls : m.ls.length ≤ 1000000) (x : Int) (hx : 0 ≤ x ∧ x ≤ 99) (y : Int) (hy : 0 ≤ y ∧ y ≤ 99) :
    MSpec Tryz.prog 73 [.q 7 6 0 0, .q 0 13 0 0, frmA (5, 2, 1, -1), .s 1 (intsA [x, y])] (memG m t) (fun r N => r = erV (erS m.n m.lim m.ls t 5 x y 0) ∧ N = memG m (if erS m.n m.lim m.ls t 5 x y 0 = 0 then nxS t 5 x y 0 else t)) := by
  refine mspec_of2 (own := [6, 1022, 1033]) Tryz.func73 rfl ok73 ?_
  intro vs
  have hp4 := hI.p4
  have hhl := hI.hl
  have e0 : ((0 : Nat) : Int) = 0 := rfl
  have e1 : ((1 : Nat) : Int) = 1 := rfl
  have e2 : ((2 : Nat) : Int) = 2 := rfl
  have e3 : ((3 : Nat) : Int) = 3 := rfl
  have g0 : 0 < [x, y].length := by simp
  have g1 : 1 < [x, y].length := by simp
  obtain ⟨gh, hgh⟩ : ∃ gh, gh = some (ghost vs [AV.q 7 6 0 0, AV.q 0 13 0 0, frmA (5, 2, 1, -1), AV.s 1 (intsA [x, y])]) := ⟨_, rfl⟩
  simp only [wB, awp, asP, asQ, asS, asN, obA, bndA, lenA, loadA, Aw.newRow, St.ev, St.step, setS, killS, AV.kill, AV.killL, Mem.kill, AV.cells, AV.flat, AV.single, AV.cellular, AV.size, AV.sizeL, Nat.reduceAdd, Nat.reduceEqDiff, Nat.reduceSub, Nat.reduceLeDiff, Int.reduceAdd, Int.reduceSub, Int.reduceNeg, Int.reduceLE, lenK, Tryz.ntmps73, memG, Mch.ob, Mch.od, Mch.cells, rowP, rowC, rowS, stO', List.drop_succ_cons, List.drop_zero, ghost, List.take_succ_cons, List.take_zero, e2, frmA, ← hgh]
  refine swp_loop' (fun j : Nat => ⟨[.q 7 6 0 0, .q 0 13 0 0, .bot, .s 1 (intsA [x, y]), .bot, .bot, .q 9 4 0 0, .bot, .v .nilIface, .bot, .bot, .bot, .bot, .bot, .bot, .bot, .bot, .bot, .bot, .s 1 (intsA [x]), I 1, I j, .bot, .bot, .bot, .bot, .bot, .bot, .bot, .bot, .bot, .bot, .bot, .bot, .bot, .bot, .bot, .bot, .bot, .bot, .bot, .bot, .bot, .bot, .bot, .bot, .bot, .bot, .bot, .bot, .bot, .bot, .bot, .bot, .bot, .bot, .bot, .bot, .bot, .bot, .bot, .bot, .bot, .bot, .bot, .bot, .bot, .bot, .bot, .bot, .bot, .bot, .bot, .bot, .bot, .bot, .bot, .bot, .bot, .bot, .bot, .bot, .bot, .bot, .bot, .bot, .bot, .bot, .bot, .bot, .bot, .bot, .bot, .bot, .bot, .bot, .bot, .bot, .bot, .bot, .bot, .bot, .bot, .bot, .bot, .bot, .bot, .bot, .bot, .bot, .bot, .bot, .bot, .bot, .bot, .bot, .bot, .bot, .bot, .bot, .bot, .bot, .bot, .bot, .bot, .bot, .bot, .bot, .bot, .bot, .bot, .bot, .bot, .bot, .bot, .bot, .bot, .bot, .bot, .bot, .bot, .bot, .bot, .bot, .bot, .bot, .bot, .bot, .bot, .bot, .bot, .bot, .bot, .bot, .bot, .bot, .bot, .bot, .bot, .bot, .bot, .bot, .bot, .bot, .bot, .bot, .bot, .bot, .bot, .bot, .bot, .bot, .bot, .bot, .bot, .bot, .bot, .bot, .bot, .bot, .bot, .bot, .bot, .bot, .bot, .bot, .bot, .bot, .bot, .bot, .bot, .bot, .bot, .bot, .bot, .bot, .bot, .bot, .bot, .bot, .bot, .bot, .bot, .bot, .bot, .bot, .bot, .bot, .bot, .bot, .bot, .bot, .bot, .bot, .bot, .bot, .bot, .bot, .bot, .bot, .bot, .bot, .bot, .bot, .bot, .bot, .bot, .bot, .bot, .bot, .bot, .bot, .bot, .bot, .bot, .bot, .bot, .bot, .bot, .bot, .bot, .bot, .bot, .bot, .bot, .bot, .bot, .bot, .bot, .bot, .bot, .bot, .bot, .bot], memG m t ++ [gh, some ⟨none, 112, 4, [frmA (5, 2, 1, -1)]⟩]⟩) (fun j => j ≤ 1 ∧ ∀ i, i < j → ∀ h : i < ([x] : List Int).length, ([x] : List Int)[i] < t.place.length) (fun j => 1 - j) 0 (le_sl' ?_ ?_) ⟨Nat.zero_le _, fun i h => absurd h (Nat.not_lt_zero _)⟩ ?_
  · simp only [memG, memS, Mch.ob, Mch.od, Mch.cells, rowP, rowC, rowS, stO', combR, List.cons_append, List.nil_append, Option.map_some, Option.map_none, List.drop_succ_cons, List.drop_zero, prsA_sub, strsA_sub, intsA_sub, gtsA_sub, AV.sub, AV.subL, keepF, keepG, liveI, List.getElem?_cons_succ, List.getElem?_cons_zero, List.getElem?_nil, AV.isO, AV.isQ, List.any_cons, List.any_nil, ghost, gA, List.take_succ_cons, List.take_zero, List.drop_nil, hgh, frmA]
  · simp [leSl, intsA]
  rintro j ⟨hj, hno⟩
  refine awp_sound (own := [6, 1022, 1033]) _ _ _ _ _ ?_
  simp only [wB, awp, binC, cmpC, asB, asI, St.ev, St.step, setS, killS, AV.kill, AV.killL, Mem.kill, AV.cells, Nat.reduceAdd, Nat.reduceEqDiff, Int.reduceAdd, Int.reduceNeg, memG, Mch.ob, Mch.od, Mch.cells, rowP, rowC, rowS, stO', ghost, hgh, frmA]
  by_cases h : (j : Int) < 1
  case pos =>
    have hjl : j < ([x] : List Int).length := by simp; omega
    simp only [wB, awp, binC, idxC, cmpC, asP, asQ, asS, asB, asI, asN, obA, lenA, loadA, St.ev, St.step, setS, killS, AV.kill, AV.killL, Mem.kill, AV.cells, AV.flat, AV.single, Nat.reduceAdd, Nat.reduceEqDiff, Nat.reduceLeDiff, Int.reduceAdd, Int.reduceNeg, lenK, Mch.cells, List.drop_zero, List.take_succ_cons, List.take_zero, decide_eq_true h, aget_ints hjl, Int.toNat_natCast]
    refine ⟨by omega, ?_⟩
    obtain ⟨q, hq⟩ : ∃ q, q = ([x] : List Int)[j] := ⟨_, rfl⟩
    rw [← hq]
    by_cases hp : (t.place.length : Int) ≤ q
    · simp only [wB, awp, asN, fillA, putsA, St.ev, St.step, setS, killS, AV.kill, AV.killL, Mem.kill, AV.cells, AV.flat, AV.single, AV.cellular, Value.oneCell', Nat.reduceAdd, Nat.reduceEqDiff, Nat.reduceLeDiff, Int.reduceAdd, Int.reduceNeg, Aw.valOf, Aw.valsOf, cc139, memG, Mch.ob, Mch.od, Mch.cells, rowP, rowC, rowS, stO', decide_eq_true hp]
      have he : erS m.n m.lim m.ls t 5 x y 0 = 4 := by
        obtain rfl : j = 0 := by omega
        simp only [List.getElem_cons_zero] at hq
        subst hq
        simp only [erS]
        rw [if_pos hp]
      exact ⟨_, _, memG m t, _, Le.refl _, rfl, rfl, rfl, rfl, free_G _ m t, by simp [he, erV, errV], by first | (simp [he]; done) | (simp [he]; rfl)⟩
    · simp only [wB, awp, binC, arithC, cmpC, asI, St.ev, St.step, setS, killS, AV.kill, AV.killL, Mem.kill, AV.cells, Nat.reduceAdd, Nat.reduceEqDiff, Int.reduceAdd, Int.reduceNeg, isU, memG, Mch.ob, Mch.od, Mch.cells, rowP, rowC, rowS, stO', decide_eq_false hp]
      refine ⟨by unfold lim; omega, j + 1, le_sl' ?_ (by simp [leSl]), ⟨by omega, fun i hi hl => ?_⟩, by omega⟩
      · simp only [memG, memS, Mch.ob, Mch.od, Mch.cells, rowP, rowC, rowS, stO', combR, List.cons_append, List.nil_append, Option.map_some, Option.map_none, List.drop_succ_cons, List.drop_zero, prsA_sub, strsA_sub, intsA_sub, gtsA_sub, AV.sub, AV.subL, keepF, keepG, liveI, List.getElem?_cons_succ, List.getElem?_cons_zero, List.getElem?_nil, AV.isO, AV.isQ, List.any_cons, List.any_nil, ghost, gA, List.take_succ_cons, List.take_zero, List.drop_nil, hgh, frmA]
      · rcases Nat.lt_or_ge i j with h1 | h1
        · exact hno i h1 hl
        · obtain rfl : i = j := by omega
          rw [← hq]; omega
  obtain rfl : j = 1 := by omega
  have px : x < t.place.length := by have := hno 0 (by omega) (by simp); simpa using this
  clear hno
  simp only [awp, ACond_false, if_true, decide_false, Int.reduceNeg, Int.reduceLT, e1]
  refine swp_draw (own := [6]) (.take 0 .plain [] (.take 1 .reads [] (.take 2 .plain [] (.take 3 .plain [] (.take 4 .plain [] (.take 5 .plain [] (.take 6 .reads [] (.take 7 .reads [] (.take 8 .reads [] (.take 9 .plain [] (.take 10 .plain [] (.take 11 .plain [] (.take 12 .plain [] (.take 13 .reads [] (.take 14 .plain [] (.take 15 .plain [] (.done))))))))))))))))) [⟨36, 64, 0, 0, true⟩, ⟨37, 34359738368, 1, 0, true⟩, ⟨38, 68719476736, 2, 0, true⟩, ⟨39, 137438953472, 4, 0, true⟩, ⟨40, 274877906952, 8, 0, true⟩, ⟨41, 274877907008, 8, 0, true⟩, ⟨42, 1374389534720, 40, 0, true⟩, ⟨43, 3023656976384, 88, 0, true⟩, ⟨44, 4672924418048, 136, 0, true⟩, ⟨45, 274877906946, 8, 0, true⟩, ⟨46, 17867063951360, 520, 0, true⟩, ⟨47, 35459249995776, 1032, 0, true⟩, ⟨48, 70643622084608, 2056, 0, true⟩, ⟨49, 141012366262272, 4104, 0, true⟩, ⟨50, 290545947639808, 8456, 0, true⟩, ⟨51, 563224831328256, 16392, 0, true⟩] mo (by kernel_rfl) ?_
  simp only [wB, awp, binC, cmpC, asP, asQ, asB, asI, asN, obA, loadA, St.ev, St.step, setS, killS, AV.kill, AV.killL, Mem.kill, AV.cells, AV.flat, AV.single, Nat.reduceAdd, Nat.reduceEqDiff, Nat.reduceLeDiff, Int.reduceAdd, Int.reduceNeg, Int.reduceLE, Int.reduceEq, ASch, St.put, Md.mem, Md.need, Mch.cells, List.drop_succ_cons, List.drop_zero, List.take_succ_cons, List.take_zero, aget_ints g0, aget_ints g1]
  refine swp_splitF (own := [6]) (pre := #[_, _, _, _, _, _, _, _, _]) _ [_] rfl (.take 0 .plain [] (.take 1 .plain [] (.take 2 .plain [] (.take 3 .reads [] (.take 4 .reads [] (.take 5 .plain [] (.take 6 .reads [] (.take 7 .reads [] (.take 8 .plain [] (.done)))))))))) [⟨217, 1, 0, 0, true⟩, ⟨218, 2, 0, 0, true⟩, ⟨219, 8, 0, 0, true⟩, ⟨220, 421249166674228746791672110734681729275580381602196445017243910144, 4, 0, true⟩, ⟨221, 842498333348457493583344221469363458551160763204392890034487820288, 8, 0, true⟩, ⟨222, 8, 0, 0, true⟩, ⟨223, 3369993333393829974333376885877453834204643052817571560137951281152, 32, 0, true⟩, ⟨224, 6739986666787659948666753771754907668409286105635143120275902562304, 64, 0, true⟩, ⟨225, 13479973333575319897333507543509815336818572211270286240551805124608, 128, 0, true⟩] mo (by kernel_rfl) (by kernel_rfl) ?_
  simp only [wB, idxC, asP, asS, asI, loadA, St.ev, setS, AV.cells, AV.flat, AV.single, AV.cellular, AV.size, AV.pure, AV.pureL, Value.oneCell', Nat.reduceEqDiff, Nat.reduceMul, Nat.reduceLeDiff, Int.reduceMul, Int.reduceNeg, Int.reduceLE, ASch, St.put, Md.mem, Md.need, Mch.cells, List.getElem_cons_zero, List.getElem_cons_succ, aget_ints g0, aget_ints g1]
  have he : erS m.n m.lim m.ls t 5 x y 0 = er1 m.lim t x y := by simp only [erS]; rw [if_neg (by omega)]
  refine ⟨⟨by decide, rfl⟩, ⟨[.bot, .bot, .bot, .bot, .bot, .bot, .bot, .bot, .bot, .bot, .bot, .bot, .bot, .bot, .bot, .bot, .bot, .bot, .bot, .bot, .bot, .bot, .bot, .bot, .bot, .bot, .bot, .bot, .bot, .bot, .bot, .bot, .bot, .bot, .bot, .bot, .bot, .bot, .bot, .bot, .bot, .bot, .bot, .bot, .bot, .bot, .bot, .bot, .bot, .bot, .bot, .bot, .bot, .bot, .bot, .bot, .bot, .bot, .bot, .bot, .bot, .bot, .bot, .bot, .bot, .bot, .bot, .bot, .bot, .bot, .bot, .bot, .bot, .bot, .bot, .bot, .bot, .bot, .bot, .bot, .bot, .bot, .bot, .bot, .bot, .bot, .bot, .bot, .bot, .bot, .bot, .bot, .bot, .bot, .bot, .bot, .bot, .bot, .bot, .bot, .bot, .bot, .bot, .bot, .bot, .bot, .bot, .bot, .bot, .bot, .bot, .bot, .bot, .bot, .bot, .bot, .bot, .bot, .bot, .bot, .bot, .bot, .bot, .bot, .bot, .bot, .bot, .bot, .bot, .bot, .bot, .bot, .bot, .bot, .bot, .bot, .bot, .bot, .bot, .bot, .bot, .bot, .bot, .bot, .bot, .bot, .bot, .bot, .bot, .bot, .bot, .bot, .bot, .bot, .bot, .bot, .bot, .bot, .bot, .bot, .bot, .bot, .bot, .bot, .bot, .bot, .bot, .bot, .bot, .bot, .bot, .bot, .bot, .bot, .bot, .bot, .bot, .bot, .bot, .bot, .bot, .bot, .bot, .bot, .bot, .bot, .bot, .bot, .bot, .bot, .bot, .bot, .bot, .bot, .bot, .bot, .bot, .bot, .bot, .bot, .bot, .bot, .bot, .bot, .bot, .bot, .bot, .bot, .bot, .bot, .bot, .bot, .bot, .bot, .bot, .bot, .q 7 6 0 0, .q 0 13 0 0, .bot, .bot, I y, .bot, .bot, .bot, .s 1 (intsA [x]), .bot, .bot, .bot, .bot, .bot, .bot, .bot, .bot, .bot, .bot, .bot, .bot, .bot, .bot, .bot, .bot, .bot, .bot, .bot, .bot, .bot, .bot, .bot, .bot, .bot, .bot, .bot, .bot, .bot], memG m (t) ++ [gh, some ⟨none, 112, 4, [frmA (5, 2, 1, -1)]⟩]⟩, le_sl' ?_ (by simp [leSl, intsA]), ?_⟩
  · simp only [memG, memS, Mch.ob, Mch.od, Mch.cells, rowP, rowC, rowS, stO', combR, List.cons_append, List.nil_append, Option.map_some, Option.map_none, List.drop_succ_cons, List.drop_zero, prsA_sub, strsA_sub, intsA_sub, gtsA_sub, AV.sub, AV.subL, keepF, keepG, liveI, List.getElem?_cons_succ, List.getElem?_cons_zero, List.getElem?_nil, AV.isO, AV.isQ, List.any_cons, List.any_nil, ghost, gA, List.take_succ_cons, List.take_zero, List.drop_nil, hgh, frmA]
  simp only [St.ev, AV.cells, List.getD_cons_succ, List.getD_cons_zero, List.cons_append, List.nil_append, List.map_cons, List.map_nil, Int.reduceNeg, memG, Mch.ob, Mch.od, Mch.cells, rowP, rowC, rowS, stO', List.cons_append, List.nil_append, ghost, afc, hgh, frmA]
  refine acall_f (fspec_of (m105a m t hI hc 1 x y ⟨hx.1, px⟩) [1, 3, 8, 9] rfl (by exact ⟨rfl, rfl, rfl, rfl, rfl, rfl, trivial⟩) rfl rfl (free_GZ _ _ _ (by decide)) (N := memG m ((if er1 m.lim t x y = 0 then nx1 t 1 x y else t)) ++ [gh, some ⟨none, 112, 4, [frmA (5, 2, 1, -1)]⟩]) ?_) ?_
  · simp only [memG, memS, Mch.ob, Mch.od, Mch.cells, rowP, rowC, rowS, stO', combR, List.cons_append, List.nil_append, Option.map_some, Option.map_none, List.drop_succ_cons, List.drop_zero, prsA_sub, strsA_sub, intsA_sub, gtsA_sub, AV.sub, AV.subL, keepF, keepG, liveI, List.getElem?_cons_succ, List.getElem?_cons_zero, List.getElem?_nil, AV.isO, AV.isQ, List.any_cons, List.any_nil, ghost, gA, List.take_succ_cons, List.take_zero, List.drop_nil, hgh, frmA]
    rfl
  rw [he]
  obtain ⟨t', ht'⟩ : ∃ t', t' = if er1 m.lim t x y = 0 then nx1 t 1 x y else t := ⟨_, rfl⟩
  have hn : (if er1 m.lim t x y = 0 then nxS t 5 x y 0 else t) = t' := ht'.symm
  rw [← ht']
  simp only [wB, awp, asN, St.ev, St.step, setS, killS, AV.kill, AV.killL, Mem.kill, AV.cells, Nat.reduceEqDiff, Int.reduceNeg, memG, Mch.ob, Mch.od, Mch.cells, rowP, rowC, rowS, stO', AV.sub, keepG, liveI, AV.isQ, List.any_cons, List.any_nil, ghost, hgh, frmA, hn]
  exact ⟨_, _, memG m t', _, Le.refl _, rfl, rfl, erV_free _ _, rfl, free_G _ m _, rfl, rfl⟩
end Go.Proofs.YtndniceeibflcaaGreatDoor

namespace Go.Proofs.YtndniceeibflcaaGreatDoor
open Aw Mp Go.RowKit
set_option linter.unusedSimpArgs false
set_option maxRecDepth 8000

theorem m73_6 (m : Mch) (t : MS) {c : Nat} (hI : InvS m.n c t) (hc : c ≤ 1000) (hT : vT m.n m.ls = 0) (hls : m.ls.length ≤ 1000000) (x : Int) (hx : 0 ≤ x ∧ x ≤ 99) (y : Int) (hy : 0 ≤ y ∧ y ≤ 99) (z : Int) (hz : 0 ≤ z ∧ z ≤ 99) :
    MSpec Tryz.prog 73 [.q 7 6 0 0, .q 0 13 0 0, frmA (6, 3, 2, -1), .s 1 (intsA [x, y, z])] (memG m t) (fun r N => r = erV (erS m.n m.lim m.ls t 6 x y z) ∧ N = memG m (if erS m.n m.lim m.ls t 6 x y z = 0 then nxS t 6 x y z else t)) := by
  refine mspec_of2 (own := [6, 1022, 1033]) Tryz.func73 rfl ok73 ?_
  intro vs
  have hp4 := hI.p4
  have hhl := hI.hl
  have e0 : ((0 : Nat) : Int) = 0 := rfl
  have e1 : ((1 : Nat) : Int) = 1 := rfl
  have e2 : ((2 : Nat) : Int) = 2 := rfl
  have e3 : ((3 : Nat) : Int) = 3 := rfl
  have g0 : 0 < [x, y, z].length := by simp
  have g1 : 1 < [x, y, z].length := by simp
  have g2 : 2 < [x, y, z].length := by simp
  obtain ⟨gh, hgh⟩ : ∃ gh, gh = some (ghost vs [AV.q 7 6 0 0, AV.q 0 13 0 0, frmA (6, 3, 2, -1), AV.s 1 (intsA [x, y, z])]) := ⟨_, rfl⟩
  simp only [wB, awp, asP, asQ, asS, asN, obA, bndA, lenA, loadA, Aw.newRow, St.ev, St.step, setS, killS, AV.kill, AV.killL, Mem.kill, AV.cells, AV.flat, AV.single, AV.cellular, AV.size, AV.sizeL, Nat.reduceAdd, Nat.reduceEqDiff, Nat.reduceSub, Nat.reduceLeDiff, Int.reduceAdd, Int.reduceSub, Int.reduceNeg, Int.reduceToNat, Int.reduceLE, lenK, Tryz.ntmps73, memG, Mch.ob, Mch.od, Mch.cells, rowP, rowC, rowS, stO', List.drop_succ_cons, List.drop_zero, ghost, List.take_succ_cons, List.take_zero, e3, frmA, ← hgh]
  refine swp_loop' (fun j : Nat => ⟨[.q 7 6 0 0, .q 0 13 0 0, .bot, .s 1 (intsA [x, y, z]), .bot, .bot, .q 9 4 0 0, .bot, .v .nilIface, .bot, .bot, .bot, .bot, .bot, .bot, .bot, .bot, .bot, .bot, .s 1 (intsA [x, y]), I 2, I j, .bot, .bot, .bot, .bot, .bot, .bot, .bot, .bot, .bot, .bot, .bot, .bot, .bot, .bot, .bot, .bot, .bot, .bot, .bot, .bot, .bot, .bot, .bot, .bot, .bot, .bot, .bot, .bot, .bot, .bot, .bot, .bot, .bot, .bot, .bot, .bot, .bot, .bot, .bot, .bot, .bot, .bot, .bot, .bot, .bot, .bot, .bot, .bot, .bot, .bot, .bot, .bot, .bot, .bot, .bot, .bot, .bot, .bot, .bot, .bot, .bot, .bot, .bot, .bot, .bot, .bot, .bot, .bot, .bot, .bot, .bot, .bot, .bot, .bot, .bot, .bot, .bot, .bot, .bot, .bot, .bot, .bot, .bot, .bot, .bot, .bot, .bot, .bot, .bot, .bot, .bot, .bot, .bot, .bot, .bot, .bot, .bot, .bot, .bot, .bot, .bot, .bot, .bot, .bot, .bot, .bot, .bot, .bot, .bot, .bot, .bot, .bot, .bot, .bot, .bot, .bot, .bot, .bot, .bot, .bot, .bot, .bot, .bot, .bot, .bot, .bot, .bot, .bot, .bot, .bot, .bot, .bot, .bot, .bot, .bot, .bot, .bot, .bot, .bot, .bot, .bot, .bot, .bot, .bot, .bot, .bot, .bot, .bot, .bot, .bot, .bot, .bot, .bot, .bot, .bot, .bot, .bot, .bot, .bot, .bot, .bot, .bot, .bot, .bot, .bot, .bot, .bot, .bot, .bot, .bot, .bot, .bot, .bot, .bot, .bot, .bot, .bot, .bot, .bot, .bot, .bot, .bot, .bot, .bot, .bot, .bot, .bot, .bot, .bot, .bot, .bot, .bot, .bot, .bot, .bot, .bot, .bot, .bot, .bot, .bot, .bot, .bot, .bot, .bot, .bot, .bot, .bot, .bot, .bot, .bot, .bot, .bot, .bot, .bot, .bot, .bot, .bot, .bot, .bot, .bot, .bot, .bot, .bot, .bot, .bot, .bot, .bot, .bot, .bot, .bot, .bot, .bot], memG m t ++ [gh, some ⟨none, 112, 4, [frmA (6, 3, 2, -1)]⟩]⟩) (fun j => j ≤ 2 ∧ ∀ i, i < j → ∀ h : i < ([x, y] : List Int).length, ([x, y] : List Int)[i] < t.place.length) (fun j => 2 - j) 0 (le_sl' ?_ ?_) ⟨Nat.zero_le _, fun i h => absurd h (Nat.not_lt_zero _)⟩ ?_
  · simp only [memG, memS, Mch.ob, Mch.od, Mch.cells, rowP, rowC, rowS, stO', combR, List.cons_append, List.nil_append, Option.map_some, Option.map_none, List.drop_succ_cons, List.drop_zero, prsA_sub, strsA_sub, intsA_sub, gtsA_sub, AV.sub, AV.subL, keepF, keepG, liveI, List.getElem?_cons_succ, List.getElem?_cons_zero, List.getElem?_nil, AV.isO, AV.isQ, List.any_cons, List.any_nil, ghost, gA, List.take_succ_cons, List.take_zero, List.drop_nil, hgh, frmA]
  · simp [leSl, intsA]
  rintro j ⟨hj, hno⟩
  refine awp_sound (own := [6, 1022, 1033]) _ _ _ _ _ ?_
  simp only [wB, awp, binC, cmpC, asB, asI, St.ev, St.step, setS, killS, AV.kill, AV.killL, Mem.kill, AV.cells, Nat.reduceAdd, Nat.reduceEqDiff, Int.reduceAdd, Int.reduceNeg, memG, Mch.ob, Mch.od, Mch.cells, rowP, rowC, rowS, stO', ghost, hgh, frmA]
  by_cases h : (j : Int) < 2
  case pos =>
    have hjl : j < ([x, y] : List Int).length := by simp; omega
    simp only [wB, awp, binC, idxC, cmpC, asP, asQ, asS, asB, asI, asN, obA, lenA, loadA, St.ev, St.step, setS, killS, AV.kill, AV.killL, Mem.kill, AV.cells, AV.flat, AV.single, Nat.reduceAdd, Nat.reduceEqDiff, Nat.reduceLeDiff, Int.reduceAdd, Int.reduceNeg, lenK, Mch.cells, List.drop_zero, List.take_succ_cons, List.take_zero, decide_eq_true h, aget_ints hjl, Int.toNat_natCast]
    refine ⟨by omega, ?_⟩
    obtain ⟨q, hq⟩ : ∃ q, q = ([x, y] : List Int)[j] := ⟨_, rfl⟩
    rw [← hq]
    by_cases hp : (t.place.length : Int) ≤ q
    · simp only [wB, awp, asN, fillA, putsA, St.ev, St.step, setS, killS, AV.kill, AV.killL, Mem.kill, AV.cells, AV.flat, AV.single, AV.cellular, Value.oneCell', Nat.reduceAdd, Nat.reduceEqDiff, Nat.reduceLeDiff, Int.reduceAdd, Int.reduceNeg, Aw.valOf, Aw.valsOf, cc139, memG, Mch.ob, Mch.od, Mch.cells, rowP, rowC, rowS, stO', decide_eq_true hp]
      have he : erS m.n m.lim m.ls t 6 x y z = 4 := by
        have hor : (t.place.length : Int) ≤ x ∨ (t.place.length : Int) ≤ y := by
          rcases (show j = 0 ∨ j = 1 by omega) with rfl | rfl
          · simp only [List.getElem_cons_zero] at hq; left; omega
          · simp only [List.getElem_cons_succ, List.getElem_cons_zero] at hq; right; omega
        simp only [erS]
        rw [if_pos hor]
      exact ⟨_, _, memG m t, _, Le.refl _, rfl, rfl, rfl, rfl, free_G _ m t, by simp [he, erV, errV], by first | (simp [he]; done) | (simp [he]; rfl)⟩
    · simp only [wB, awp, binC, arithC, cmpC, asI, St.ev, St.step, setS, killS, AV.kill, AV.killL, Mem.kill, AV.cells, Nat.reduceAdd, Nat.reduceEqDiff, Int.reduceAdd, Int.reduceNeg, isU, memG, Mch.ob, Mch.od, Mch.cells, rowP, rowC, rowS, stO', decide_eq_false hp]
      refine ⟨by unfold lim; omega, j + 1, le_sl' ?_ (by simp [leSl]), ⟨by omega, fun i hi hl => ?_⟩, by omega⟩
      · simp only [memG, memS, Mch.ob, Mch.od, Mch.cells, rowP, rowC, rowS, stO', combR, List.cons_append, List.nil_append, Option.map_some, Option.map_none, List.drop_succ_cons, List.drop_zero, prsA_sub, strsA_sub, intsA_sub, gtsA_sub, AV.sub, AV.subL, keepF, keepG, liveI, List.getElem?_cons_succ, List.getElem?_cons_zero, List.getElem?_nil, AV.isO, AV.isQ, List.any_cons, List.any_nil, ghost, gA, List.take_succ_cons, List.take_zero, List.drop_nil, hgh, frmA]
      · rcases Nat.lt_or_ge i j with h1 | h1
        · exact hno i h1 hl
        · obtain rfl : i = j := by omega
          rw [← hq]; omega
  obtain rfl : j = 2 := by omega
  have px : x < t.place.length := by have := hno 0 (by omega) (by simp); simpa using this
  have py : y < t.place.length := by have := hno 1 (by omega) (by simp); simpa using this
  clear hno
  simp only [awp, ACond_false, if_true, decide_false, Int.reduceNeg, Int.reduceLT, e2]
  refine swp_draw (own := [6]) (.take 0 .plain [] (.take 1 .reads [] (.take 2 .plain [] (.take 3 .plain [] (.take 4 .plain [] (.take 5 .plain [] (.take 6 .reads [] (.take 7 .reads [] (.take 8 .reads [] (.take 9 .plain [] (.take 10 .plain [] (.take 11 .plain [] (.take 12 .plain [] (.take 13 .reads [] (.take 14 .plain [] (.take 15 .plain [] (.done))))))))))))))))) [⟨36, 64, 0, 0, true⟩, ⟨37, 34359738368, 1, 0, true⟩, ⟨38, 68719476736, 2, 0, true⟩, ⟨39, 137438953472, 4, 0, true⟩, ⟨40, 274877906952, 8, 0, true⟩, ⟨41, 274877907008, 8, 0, true⟩, ⟨42, 1374389534720, 40, 0, true⟩, ⟨43, 3023656976384, 88, 0, true⟩, ⟨44, 4672924418048, 136, 0, true⟩, ⟨45, 274877906946, 8, 0, true⟩, ⟨46, 17867063951360, 520, 0, true⟩, ⟨47, 35459249995776, 1032, 0, true⟩, ⟨48, 70643622084608, 2056, 0, true⟩, ⟨49, 141012366262272, 4104, 0, true⟩, ⟨50, 290545947639808, 8456, 0, true⟩, ⟨51, 563224831328256, 16392, 0, true⟩] mo (by kernel_rfl) ?_
  simp only [wB, awp, binC, cmpC, asP, asQ, asB, asI, asN, obA, loadA, St.ev, St.step, setS, killS, AV.kill, AV.killL, Mem.kill, AV.cells, AV.flat, AV.single, Nat.reduceAdd, Nat.reduceEqDiff, Nat.reduceLeDiff, Int.reduceAdd, Int.reduceNeg, Int.reduceLE, Int.reduceEq, ASch, St.put, Md.mem, Md.need, Mch.cells, List.drop_succ_cons, List.drop_zero, List.take_succ_cons, List.take_zero, aget_ints g0, aget_ints g1, aget_ints g2]
  refine swp_splitF (own := [6]) (pre := #[_, _, _, _, _, _, _, _, _, _, _, _]) _ [_] rfl (.take 0 .plain [] (.take 1 .plain [] (.take 2 .plain [] (.take 3 .reads [] (.take 4 .reads [] (.take 5 .plain [] (.take 6 .reads [] (.take 7 .reads [] (.take 8 .plain [] (.take 9 .reads [] (.take 10 .reads [] (.take 11 .plain [] (.done))))))))))))) [⟨229, 1, 0, 0, true⟩, ⟨230, 2, 0, 0, true⟩, ⟨231, 8, 0, 0, true⟩, ⟨232, 1725436586697640946858688965569256363112777243042596638790631055949824, 4, 0, true⟩, ⟨233, 3450873173395281893717377931138512726225554486085193277581262111899648, 8, 0, true⟩, ⟨234, 8, 0, 0, true⟩, ⟨235, 13803492693581127574869511724554050904902217944340773110325048447598592, 32, 0, true⟩, ⟨236, 27606985387162255149739023449108101809804435888681546220650096895197184, 64, 0, true⟩, ⟨237, 8, 0, 0, true⟩, ⟨238, 110427941548649020598956093796432407239217743554726184882600387580788736, 256, 0, true⟩, ⟨239, 220855883097298041197912187592864814478435487109452369765200775161577472, 512, 0, true⟩, ⟨240, 496925736968920592695302422083945832576479845996267831971701744113549312, 1152, 0, true⟩] mo (by kernel_rfl) (by kernel_rfl) ?_
  simp only [wB, idxC, asP, asS, asI, loadA, St.ev, setS, AV.cells, AV.flat, AV.single, AV.cellular, AV.size, AV.pure, AV.pureL, Value.oneCell', Nat.reduceEqDiff, Nat.reduceMul, Nat.reduceLeDiff, Int.reduceMul, Int.reduceNeg, Int.reduceToNat, Int.reduceLE, ASch, St.put, Md.mem, Md.need, Mch.cells, List.getElem_cons_zero, List.getElem_cons_succ, aget_ints g0, aget_ints g1, aget_ints g2]
  have he : erS m.n m.lim m.ls t 6 x y z = er2 m.lim m.ls t x y z := by simp only [erS]; rw [if_neg (by omega)]
  refine ⟨⟨by decide, rfl⟩, ⟨[.bot, .bot, .bot, .bot, .bot, .bot, .bot, .bot, .bot, .bot, .bot, .bot, .bot, .bot, .bot, .bot, .bot, .bot, .bot, .bot, .bot, .bot, .bot, .bot, .bot, .bot, .bot, .bot, .bot, .bot, .bot, .bot, .bot, .bot, .bot, .bot, .bot, .bot, .bot, .bot, .bot, .bot, .bot, .bot, .bot, .bot, .bot, .bot, .bot, .bot, .bot, .bot, .bot, .bot, .bot, .bot, .bot, .bot, .bot, .bot, .bot, .bot, .bot, .bot, .bot, .bot, .bot, .bot, .bot, .bot, .bot, .bot, .bot, .bot, .bot, .bot, .bot, .bot, .bot, .bot, .bot, .bot, .bot, .bot, .bot, .bot, .bot, .bot, .bot, .bot, .bot, .bot, .bot, .bot, .bot, .bot, .bot, .bot, .bot, .bot, .bot, .bot, .bot, .bot, .bot, .bot, .bot, .bot, .bot, .bot, .bot, .bot, .bot, .bot, .bot, .bot, .bot, .bot, .bot, .bot, .bot, .bot, .bot, .bot, .bot, .bot, .bot, .bot, .bot, .bot, .bot, .bot, .bot, .bot, .bot, .bot, .bot, .bot, .bot, .bot, .bot, .bot, .bot, .bot, .bot, .bot, .bot, .bot, .bot, .bot, .bot, .bot, .bot, .bot, .bot, .bot, .bot, .bot, .bot, .bot, .bot, .bot, .bot, .bot, .bot, .bot, .bot, .bot, .bot, .bot, .bot, .bot, .bot, .bot, .bot, .bot, .bot, .bot, .bot, .bot, .bot, .bot, .bot, .bot, .bot, .bot, .bot, .bot, .bot, .bot, .bot, .bot, .bot, .bot, .bot, .bot, .bot, .bot, .bot, .bot, .bot, .bot, .bot, .bot, .bot, .bot, .bot, .bot, .bot, .bot, .bot, .bot, .bot, .bot, .bot, .bot, .bot, .bot, .bot, .bot, .bot, .bot, .bot, .bot, .bot, .bot, .bot, .bot, .q 7 6 0 0, .q 0 13 0 0, .bot, .bot, I z, .bot, .bot, .bot, .bot, .bot, .bot, .s 1 (intsA [x, y]), .bot, .bot, .bot, .bot, .bot, .bot, .bot, .bot, .bot, .bot, .bot, .bot, .bot, .bot], memG m (t) ++ [gh, some ⟨none, 112, 4, [frmA (6, 3, 2, -1)]⟩]⟩, le_sl' ?_ (by simp [leSl, intsA]), ?_⟩
  · simp only [memG, memS, Mch.ob, Mch.od, Mch.cells, rowP, rowC, rowS, stO', combR, List.cons_append, List.nil_append, Option.map_some, Option.map_none, List.drop_succ_cons, List.drop_zero, prsA_sub, strsA_sub, intsA_sub, gtsA_sub, AV.sub, AV.subL, keepF, keepG, liveI, List.getElem?_cons_succ, List.getElem?_cons_zero, List.getElem?_nil, AV.isO, AV.isQ, List.any_cons, List.any_nil, ghost, gA, List.take_succ_cons, List.take_zero, List.drop_nil, hgh, frmA]
  simp only [St.ev, AV.cells, List.getD_cons_succ, List.getD_cons_zero, List.cons_append, List.nil_append, List.map_cons, List.map_nil, Int.reduceNeg, memG, Mch.ob, Mch.od, Mch.cells, rowP, rowC, rowS, stO', List.cons_append, List.nil_append, ghost, afc, hgh, frmA]
  refine acall_f (fspec_of (m105b m t hI hc hT hls x y z ⟨hx.1, px⟩ ⟨hy.1, py⟩) [1, 3, 8, 9] rfl (by exact ⟨rfl, rfl, rfl, rfl, rfl, rfl, trivial⟩) rfl rfl (free_GZ _ _ _ (by decide)) (N := memG m ((if er2 m.lim m.ls t x y z = 0 then nx2 t x y z else t)) ++ [gh, some ⟨none, 112, 4, [frmA (6, 3, 2, -1)]⟩]) ?_) ?_
  · simp only [memG, memS, Mch.ob, Mch.od, Mch.cells, rowP, rowC, rowS, stO', combR, List.cons_append, List.nil_append, Option.map_some, Option.map_none, List.drop_succ_cons, List.drop_zero, prsA_sub, strsA_sub, intsA_sub, gtsA_sub, AV.sub, AV.subL, keepF, keepG, liveI, List.getElem?_cons_succ, List.getElem?_cons_zero, List.getElem?_nil, AV.isO, AV.isQ, List.any_cons, List.any_nil, ghost, gA, List.take_succ_cons, List.take_zero, List.drop_nil, hgh, frmA]
    rfl
  rw [he]
  obtain ⟨t', ht'⟩ : ∃ t', t' = if er2 m.lim m.ls t x y z = 0 then nx2 t x y z else t := ⟨_, rfl⟩
  have hn : (if er2 m.lim m.ls t x y z = 0 then nxS t 6 x y z else t) = t' := ht'.symm
  rw [← ht']
  simp only [wB, awp, asN, St.ev, St.step, setS, killS, AV.kill, AV.killL, Mem.kill, AV.cells, Nat.reduceEqDiff, Int.reduceNeg, memG, Mch.ob, Mch.od, Mch.cells, rowP, rowC, rowS, stO', AV.sub, keepG, liveI, AV.isQ, List.any_cons, List.any_nil, ghost, hgh, frmA, hn]
  exact ⟨_, _, memG m t', _, Le.refl _, rfl, rfl, erV_free _ _, rfl, free_G _ m _, rfl, rfl⟩
end Go.Proofs.YtndniceeibflcaaGreatDoor

namespace Go.Proofs.YtndniceeibflcaaGreatDoor
open Aw Mp Go.RowKit
set_option linter.unusedSimpArgs false
set_option maxRecDepth 8000

theorem m73_1 (m : Mch) (t : MS) {c : Nat} (hI : InvS m.n c t) (hc : c ≤ 1000) (hT : vT m.n m.ls = 0) (hls : m.ls.length ≤ 1000000) (x : Int) (hx : 0 ≤ x ∧ x ≤ 99) (y : Int) (hy : 0 ≤ y ∧ y ≤ 99) :
    MSpec Tryz.prog 73 [.q 7 6 0 0, .q 0 13 0 0, frmA (1, 2, 1, 1), .s 1 (intsA [x, y])] (memG m t) (fun r N => r = erV (erS m.n m.lim m.ls t 1 x y 0) ∧ N = memG m (if erS m.n m.lim m.ls t 1 x y 0 = 0 then nxS t 1 x y 0 else t)) := by
  refine mspec_of2 (own := [6, 1022, 1033]) Tryz.func73 rfl ok73 ?_
  intro vs
  have hp4 := hI.p4
  have hhl := hI.hl
  have e0 : ((0 : Nat) : Int) = 0 := rfl
  have e1 : ((1 : Nat) : Int) = 1 := rfl
  have e2 : ((2 : Nat) : Int) = 2 := rfl
  have e3 : ((3 : Nat) : Int) = 3 := rfl
  have g0 : 0 < [x, y].length := by simp
  have g1 : 1 < [x, y].length := by simp
  obtain ⟨gh, hgh⟩ : ∃ gh, gh = some (ghost vs [AV.q 7 6 0 0, AV.q 0 13 0 0, frmA (1, 2, 1, 1), AV.s 1 (intsA [x, y])]) := ⟨_, rfl⟩
  simp only [wB, awp, asP, asQ, asS, asN, obA, bndA, lenA, loadA, Aw.newRow, St.ev, St.step, setS, killS, AV.kill, AV.killL, Mem.kill, AV.cells, AV.flat, AV.single, AV.cellular, AV.size, AV.sizeL, Nat.reduceAdd, Nat.reduceEqDiff, Nat.reduceSub, Nat.reduceLeDiff, Int.reduceAdd, Int.reduceSub, Int.reduceLE, lenK, Tryz.ntmps73, memG, Mch.ob, Mch.od, Mch.cells, rowP, rowC, rowS, stO', List.drop_succ_cons, List.drop_zero, ghost, List.take_succ_cons, List.take_zero, e2, frmA, ← hgh]
  refine swp_loop' (fun j : Nat => ⟨[.q 7 6 0 0, .q 0 13 0 0, .bot, .s 1 (intsA [x, y]), .bot, .bot, .q 9 4 0 0, .bot, .v .nilIface, .bot, .bot, .bot, .bot, .bot, .bot, .bot, .bot, .bot, .bot, .s 1 (intsA [x]), I 1, I j, .bot, .bot, .bot, .bot, .bot, .bot, .bot, .bot, .bot, .bot, .bot, .bot, .bot, .bot, .bot, .bot, .bot, .bot, .bot, .bot, .bot, .bot, .bot, .bot, .bot, .bot, .bot, .bot, .bot, .bot, .bot, .bot, .bot, .bot, .bot, .bot, .bot, .bot, .bot, .bot, .bot, .bot, .bot, .bot, .bot, .bot, .bot, .bot, .bot, .bot, .bot, .bot, .bot, .bot, .bot, .bot, .bot, .bot, .bot, .bot, .bot, .bot, .bot, .bot, .bot, .bot, .bot, .bot, .bot, .bot, .bot, .bot, .bot, .bot, .bot, .bot, .bot, .bot, .bot, .bot, .bot, .bot, .bot, .bot, .bot, .bot, .bot, .bot, .bot, .bot, .bot, .bot, .bot, .bot, .bot, .bot, .bot, .bot, .bot, .bot, .bot, .bot, .bot, .bot, .bot, .bot, .bot, .bot, .bot, .bot, .bot, .bot, .bot, .bot, .bot, .bot, .bot, .bot, .bot, .bot, .bot, .bot, .bot, .bot, .bot, .bot, .bot, .bot, .bot, .bot, .bot, .bot, .bot, .bot, .bot, .bot, .bot, .bot, .bot, .bot, .bot, .bot, .bot, .bot, .bot, .bot, .bot, .bot, .bot, .bot, .bot, .bot, .bot, .bot, .bot, .bot, .bot, .bot, .bot, .bot, .bot, .bot, .bot, .bot, .bot, .bot, .bot, .bot, .bot, .bot, .bot, .bot, .bot, .bot, .bot, .bot, .bot, .bot, .bot, .bot, .bot, .bot, .bot, .bot, .bot, .bot, .bot, .bot, .bot, .bot, .bot, .bot, .bot, .bot, .bot, .bot, .bot, .bot, .bot, .bot, .bot, .bot, .bot, .bot, .bot, .bot, .bot, .bot, .bot, .bot, .bot, .bot, .bot, .bot, .bot, .bot, .bot, .bot, .bot, .bot, .bot, .bot, .bot, .bot, .bot, .bot, .bot, .bot, .bot, .bot, .bot, .bot], memG m t ++ [gh, some ⟨none, 112, 4, [frmA (1, 2, 1, 1)]⟩]⟩) (fun j => j ≤ 1 ∧ ∀ i, i < j → ∀ h : i < ([x] : List Int).length, ([x] : List Int)[i] < t.place.length) (fun j => 1 - j) 0 (le_sl' ?_ ?_) ⟨Nat.zero_le _, fun i h => absurd h (Nat.not_lt_zero _)⟩ ?_
  · simp only [memG, memS, Mch.ob, Mch.od, Mch.cells, rowP, rowC, rowS, stO', combR, List.cons_append, List.nil_append, Option.map_some, Option.map_none, List.drop_succ_cons, List.drop_zero, prsA_sub, strsA_sub, intsA_sub, gtsA_sub, AV.sub, AV.subL, keepF, keepG, liveI, List.getElem?_cons_succ, List.getElem?_cons_zero, List.getElem?_nil, AV.isO, AV.isQ, List.any_cons, List.any_nil, ghost, gA, List.take_succ_cons, List.take_zero, List.drop_nil, hgh, frmA]
  · simp [leSl, intsA]
  rintro j ⟨hj, hno⟩
  refine awp_sound (own := [6, 1022, 1033]) _ _ _ _ _ ?_
  simp only [wB, awp, binC, cmpC, asB, asI, St.ev, St.step, setS, killS, AV.kill, AV.killL, Mem.kill, AV.cells, Nat.reduceAdd, Nat.reduceEqDiff, Int.reduceAdd, memG, Mch.ob, Mch.od, Mch.cells, rowP, rowC, rowS, stO', ghost, hgh, frmA]
  by_cases h : (j : Int) < 1
  case pos =>
    have hjl : j < ([x] : List Int).length := by simp; omega
    simp only [wB, awp, binC, idxC, cmpC, asP, asQ, asS, asB, asI, asN, obA, lenA, loadA, St.ev, St.step, setS, killS, AV.kill, AV.killL, Mem.kill, AV.cells, AV.flat, AV.single, Nat.reduceAdd, Nat.reduceEqDiff, Nat.reduceLeDiff, Int.reduceAdd, lenK, Mch.cells, List.drop_zero, List.take_succ_cons, List.take_zero, decide_eq_true h, aget_ints hjl, Int.toNat_natCast]
    refine ⟨by omega, ?_⟩
    obtain ⟨q, hq⟩ : ∃ q, q = ([x] : List Int)[j] := ⟨_, rfl⟩
    rw [← hq]
    by_cases hp : (t.place.length : Int) ≤ q
    · simp only [wB, awp, asN, fillA, putsA, St.ev, St.step, setS, killS, AV.kill, AV.killL, Mem.kill, AV.cells, AV.flat, AV.single, AV.cellular, Value.oneCell', Nat.reduceAdd, Nat.reduceEqDiff, Nat.reduceLeDiff, Int.reduceAdd, Aw.valOf, Aw.valsOf, cc139, memG, Mch.ob, Mch.od, Mch.cells, rowP, rowC, rowS, stO', decide_eq_true hp]
      have he : erS m.n m.lim m.ls t 1 x y 0 = 4 := by
        obtain rfl : j = 0 := by omega
        simp only [List.getElem_cons_zero] at hq
        subst hq
        simp only [erS]
        rw [if_pos hp]
      exact ⟨_, _, memG m t, _, Le.refl _, rfl, rfl, rfl, rfl, free_G _ m t, by simp [he, erV, errV], by first | (simp [he]; done) | (simp [he]; rfl)⟩
    · simp only [wB, awp, binC, arithC, cmpC, asI, St.ev, St.step, setS, killS, AV.kill, AV.killL, Mem.kill, AV.cells, Nat.reduceAdd, Nat.reduceEqDiff, Int.reduceAdd, isU, memG, Mch.ob, Mch.od, Mch.cells, rowP, rowC, rowS, stO', decide_eq_false hp]
      refine ⟨by unfold lim; omega, j + 1, le_sl' ?_ (by simp [leSl]), ⟨by omega, fun i hi hl => ?_⟩, by omega⟩
      · simp only [memG, memS, Mch.ob, Mch.od, Mch.cells, rowP, rowC, rowS, stO', combR, List.cons_append, List.nil_append, Option.map_some, Option.map_none, List.drop_succ_cons, List.drop_zero, prsA_sub, strsA_sub, intsA_sub, gtsA_sub, AV.sub, AV.subL, keepF, keepG, liveI, List.getElem?_cons_succ, List.getElem?_cons_zero, List.getElem?_nil, AV.isO, AV.isQ, List.any_cons, List.any_nil, ghost, gA, List.take_succ_cons, List.take_zero, List.drop_nil, hgh, frmA]
      · rcases Nat.lt_or_ge i j with h1 | h1
        · exact hno i h1 hl
        · obtain rfl : i = j := by omega
          rw [← hq]; omega
  obtain rfl : j = 1 := by omega
  have px : x < t.place.length := by have := hno 0 (by omega) (by simp); simpa using this
  clear hno
  simp only [awp, ACond_false, if_true, decide_false, Int.reduceLT, e1]
  refine swp_draw (own := [6]) (.take 0 .plain [] (.take 1 .reads [] (.take 2 .plain [] (.take 3 .plain [] (.take 4 .plain [] (.take 5 .plain [] (.take 6 .reads [] (.take 7 .reads [] (.take 8 .reads [] (.take 9 .plain [] (.take 10 .plain [] (.take 11 .plain [] (.take 12 .plain [] (.take 13 .reads [] (.take 14 .plain [] (.take 15 .plain [] (.done))))))))))))))))) [⟨36, 64, 0, 0, true⟩, ⟨37, 34359738368, 1, 0, true⟩, ⟨38, 68719476736, 2, 0, true⟩, ⟨39, 137438953472, 4, 0, true⟩, ⟨40, 274877906952, 8, 0, true⟩, ⟨41, 274877907008, 8, 0, true⟩, ⟨42, 1374389534720, 40, 0, true⟩, ⟨43, 3023656976384, 88, 0, true⟩, ⟨44, 4672924418048, 136, 0, true⟩, ⟨45, 274877906946, 8, 0, true⟩, ⟨46, 17867063951360, 520, 0, true⟩, ⟨47, 35459249995776, 1032, 0, true⟩, ⟨48, 70643622084608, 2056, 0, true⟩, ⟨49, 141012366262272, 4104, 0, true⟩, ⟨50, 290545947639808, 8456, 0, true⟩, ⟨51, 563224831328256, 16392, 0, true⟩] mo (by kernel_rfl) ?_
  simp only [wB, awp, binC, idxC, cmpC, asP, asQ, asS, asB, asI, obA, loadA, St.ev, setS, AV.cells, AV.flat, AV.single, Nat.reduceAdd, Nat.reduceEqDiff, Nat.reduceLeDiff, Int.reduceAdd, Int.reduceLE, ASch, St.put, Md.mem, Md.need, Mch.cells, List.drop_succ_cons, List.drop_zero, List.take_succ_cons, List.take_zero, List.getElem_cons_zero, List.getElem_cons_succ, aget_ints g0, aget_ints g1]
  by_cases hz : m.n ≤ y
  · simp only [wB, awp, asN, fillA, putsA, St.ev, St.step, setS, killS, AV.kill, AV.killL, Mem.kill, AV.cells, AV.flat, AV.single, AV.cellular, Value.oneCell', Nat.reduceAdd, Nat.reduceEqDiff, Nat.reduceLeDiff, Int.reduceAdd, St.put, Aw.valOf, Aw.valsOf, cc139, memG, Mch.ob, Mch.od, Mch.cells, rowP, rowC, rowS, stO', decide_eq_true hz]
    have he : erS m.n m.lim m.ls t 1 x y 0 = 4 := by simp only [erS]; rw [if_neg (by omega), if_pos hz]
    exact ⟨_, _, memG m t, _, Le.refl _, rfl, rfl, rfl, rfl, free_G _ m t, by simp [he, erV, errV], by first | (simp [he]; done) | (simp [he]; rfl)⟩
  simp only [wB, awp, binC, cmpC, asP, asQ, asB, asI, asN, obA, loadA, St.ev, St.step, setS, killS, AV.kill, AV.killL, Mem.kill, AV.cells, AV.flat, AV.single, Nat.reduceAdd, Nat.reduceEqDiff, Nat.reduceLeDiff, Int.reduceAdd, Int.reduceEq, St.put, Mch.cells, List.drop_zero, List.take_succ_cons, List.take_zero, decide_eq_false hz]
  have hxp : x.toNat < t.place.length := by omega
  have hxl : x.toNat < t.heats.length := by omega
  refine swp_draw (own := [6]) (.take 0 .plain [] (.take 1 .plain [] (.take 2 .plain [] (.take 3 .reads [] (.take 4 .plain [] (.take 5 .plain [] (.take 6 .plain [] (.take 7 .reads [] (.take 8 .plain [] (.take 9 .reads [] (.take 10 .reads [] (.take 11 .reads [] (.take 12 .reads [] (.alt 13 (.take 14 .plain [] (.take 15 .plain [] (.take 16 .plain [] (.take 17 .plain [] (.take 18 .plain [] (.done)))))) (.nil))))))))))))))) [⟨103, 2, 0, 0, true⟩, ⟨104, 5070602400912917605986812821504, 1, 0, true⟩, ⟨105, 10141204801825835211973625643008, 2, 0, true⟩, ⟨106, 20282409603651670423947251286016, 4, 0, true⟩, ⟨107, 1, 0, 0, true⟩, ⟨108, 81129638414606681695789005144064, 16, 0, true⟩, ⟨109, 162259276829213363391578010288128, 32, 0, true⟩, ⟨110, 324518553658426726783156020576256, 64, 0, true⟩, ⟨111, 8, 0, 0, true⟩, ⟨112, 1298074214633706907132624082305024, 256, 0, true⟩, ⟨113, 2596148429267413814265248164610048, 512, 0, true⟩, ⟨114, 5841333965851681082096808370372608, 1152, 0, true⟩, ⟨115, 10384593717069655257060992658440192, 2048, 0, true⟩, ⟨116, 20809752253346613854969879819452416, 4104, 0, false⟩, ⟨102, 41538374868278621028243970633760768, 8192, 0, true⟩, ⟨117, 2535301200456458802993406410752, 16384, 0, true⟩, ⟨118, 2535301200456458802993406410752, 16384, 0, true⟩, ⟨13, 83076749736557242056487941267521536, 65535, 0, true⟩, ⟨14, 166153499473114484112975882535043072, 262143, 0, true⟩] mo (by kernel_rfl) ?_
  simp only [wB, idxC, asP, asQ, asO, asS, asI, obA, loadA, St.ev, setS, AV.cells, AV.flat, AV.single, Nat.reduceAdd, Nat.reduceEqDiff, Nat.reduceLeDiff, Int.reduceAdd, Int.reduceLE, ASch, St.put, Md.mem, Md.need, Mch.cells, List.drop_succ_cons, List.drop_zero, List.take_succ_cons, List.take_zero, List.getElem_cons_zero, aget_ints g0, aget_ints g1, aget_ints hxp]
  have hpx := hI.pin _ (List.getElem_mem hxp)
  have n3 := s103 m.n m.ls t.place[x.toNat] hls
  rw [if_neg (by rw [hT]; simp), if_pos hpx] at n3
  refine ⟨⟨hx.1, by omega⟩, acall_v n3 (by simp [AV.pureL, AV.pure, prsA_pure]) (by simp [AV.pure, AV.pureL, intsA_pure]) ?_⟩
  simp only [wB, awp, asT, asN, St.ev, St.step, setS, killS, AV.kill, AV.killL, Mem.kill, Nat.reduceEqDiff, ASch, St.put, Md.mem, Md.need]
  have hul := upL_len m.n.toNat (lnk m.ls t.place[x.toNat])
  have hn6 : m.n ≤ 6 := by
    unfold vT at hT
    split at hT
    · cases hT
    · omega
  refine swp_draw (own := [6]) (.take 0 .plain [] (.take 1 .plain [] (.take 2 .reads [] (.take 3 .reads [] (.take 7 .plain [] (.take 8 .plain [] (.take 9 .plain [] (.take 10 .reads [] (.take 11 .plain [] (.take 12 .reads [] (.take 13 .reads [] (.alt 4 (.take 5 .plain [] (.take 6 .plain [] (.alt 14 (.take 15 .plain [] (.take 16 .plain [] (.alt 17 (.take 18 .plain [] (.done)) (.nil)))) (.nil)))) (.nil))))))))))))) [⟨119, 4096, 0, 0, true⟩, ⟨120, 8, 0, 0, true⟩, ⟨121, 664613997892457936451903530140172288, 2, 0, true⟩, ⟨122, 1329227995784915872903807060280344576, 4, 0, true⟩, ⟨123, 2990762990516060714033565885630775296, 9, 0, false⟩, ⟨124, 5316911983139663491615228241121378304, 16, 0, true⟩, ⟨125, 10633823966279326983230456482242756608, 32, 0, true⟩, ⟨126, 1, 0, 0, true⟩, ⟨127, 42535295865117307932921825928971026432, 128, 0, true⟩, ⟨128, 85070591730234615865843651857942052864, 256, 0, true⟩, ⟨129, 170141183460469231731687303715884105728, 512, 0, true⟩, ⟨130, 8, 0, 0, true⟩, ⟨131, 680564733841876926926749214863536422912, 2048, 0, true⟩, ⟨132, 1361129467683753853853498429727072845824, 4096, 0, true⟩, ⟨133, 3062541302288446171170371466885913903104, 9232, 0, false⟩, ⟨134, 5444517870735015415413993718908291383296, 16384, 0, true⟩, ⟨135, 10910303389402589484794448350781068279808, 32832, 0, true⟩, ⟨136, 21778071482940061661655974875633165533184, 81920, 0, false⟩, ⟨15, 43556142965880123323311949751266331066368, 262143, 0, true⟩] mo (by kernel_rfl) ?_
  simp only [wB, idxC, asP, asQ, asS, asI, obA, loadA, St.ev, setS, AV.cells, AV.flat, AV.single, Nat.reduceAdd, Nat.reduceEqDiff, Nat.reduceLeDiff, Int.reduceAdd, Int.reduceLE, ASch, St.put, Md.mem, Md.need, Mch.cells, List.drop_zero, List.take_succ_cons, List.take_zero, List.getElem_cons_zero, List.getElem_cons_succ, aget_ints g0, aget_ints g1]
  refine acall_v (s102 _ y (by omega)) (by simp [AV.pureL, AV.pure, intsA_pure]) rfl ?_
  rw [mem_up hy.1 (by omega)]
  simp only [wB, asB, fillA, putsA, St.ev, St.step, setS, killS, AV.kill, AV.killL, Mem.kill, AV.cells, AV.flat, AV.single, AV.cellular, Value.oneCell', Nat.reduceAdd, Nat.reduceLeDiff, Int.reduceAdd, ASch, St.put, Md.mem, Md.need, Mch.cells, aget_ints g0, aget_ints g1]
  refine acall_ln 0 (s102 t.place y (by omega)) (by simp [frzN, frz, AV.sub, intsA_pure]) rfl rfl ?_
  simp only [wB, fillA, putsA, St.ev, St.step, setS, killS, AV.kill, AV.killL, Mem.kill, AV.cells, AV.flat, AV.single, AV.cellular, AV.size, AV.sizeL, AV.pure, AV.pureL, Value.oneCell', Nat.reduceAdd, Nat.reduceEqDiff, Nat.reduceMul, Nat.reduceLeDiff, Int.reduceAdd, Int.reduceMul, ASch, St.put, Md.mem, Md.need, Mch.cells, aget_ints g0, aget_ints g1]
  refine ⟨⟨by decide, rfl⟩, acall_v (s101 [(!lnk m.ls t.place[x.toNat] y, 8), (memL t.place y, 6)] (Nat.le_of_ble_eq_true rfl)) rfl (fstE_pure _) ?_⟩
  have he : erS m.n m.lim m.ls t 1 x y 0 = if (!lnk m.ls t.place[x.toNat] y) = true then 8 else if memL t.place y = true then 6 else 0 := by
    simp only [erS, memL_eq]
    rw [if_neg (by omega), if_neg hz, getD_eq hxp]
    simp only [Bool.not_eq_true']
  rw [fst2 _ _ 8 6 (by decide) (by decide), ← he]
  by_cases c5 : erS m.n m.lim m.ls t 1 x y 0 = 0
  case neg =>
    simp only [wB, awp, binC, eqC, asG, asB, asI, asN, St.ev, St.step, setS, killS, AV.kill, AV.killL, Mem.kill, AV.cells, Nat.reduceAdd, Nat.reduceEqDiff, Int.reduceAdd, ASch, St.put, Md.mem, Md.need, isNI, ptrN, ifcN, asStr, nt114, memG, Mch.ob, Mch.od, Mch.cells, rowP, rowC, rowS, stO', erV, if_neg c5, errV]
    exact ⟨_, _, memG m t, _, Le.refl _, rfl, rfl, rfl, rfl, free_G _ m t, by first | rfl | simp [c5], by first | rfl | simp [c5]⟩
  simp only [wB, awp, binC, eqC, asG, asB, asI, asN, St.ev, St.step, setS, killS, AV.kill, AV.killL, Mem.kill, Nat.reduceAdd, Nat.reduceEqDiff, Int.reduceAdd, ASch, St.put, Md.mem, Md.need, isNI, ptrN, ifcN, asStr, nt114, erV, if_pos c5, errV]
  have hst : (intsA t.place)[x.toNat]? = some (I t.place[x.toNat]) := by simp [intsA, hxp]
  refine swp_draw (own := [6]) (.take 0 .plain [] (.take 1 .plain [] (.take 2 .plain [] (.take 3 .reads [] (.take 4 .plain [] (.take 5 .reads [] (.take 6 .reads [] (.take 7 .plain [] (.take 8 .reads [] (.take 9 .reads [] (.take 10 .reads [] (.alt 11 (.done) (.nil))))))))))))) [⟨140, 1, 0, 0, true⟩, ⟨141, 696898287454081973172991196020261297061888, 1, 0, true⟩, ⟨142, 1393796574908163946345982392040522594123776, 2, 0, true⟩, ⟨143, 2787593149816327892691964784081045188247552, 4, 0, true⟩, ⟨144, 8, 0, 0, true⟩, ⟨145, 11150372599265311570767859136324180752990208, 16, 0, true⟩, ⟨146, 22300745198530623141535718272648361505980416, 32, 0, true⟩, ⟨147, 8, 0, 0, true⟩, ⟨148, 89202980794122492566142873090593446023921664, 128, 0, true⟩, ⟨149, 178405961588244985132285746181186892047843328, 256, 0, true⟩, ⟨150, 50176676696693902068455366113458813388455936, 1023, 0, true⟩, ⟨0, 1070435769529469910793714477087121352287059968, 2047, 1, false⟩] mo (by kernel_rfl) ?_
  simp only [wB, awp, idxC, asP, asQ, asO, asS, asI, obA, loadA, storeA, putsA, St.ev, St.step, setS, killS, AV.kill, AV.killL, Mem.kill, AV.cells, AV.flat, AV.single, AV.cellular, Value.oneCell', Nat.reduceAdd, Nat.reduceEqDiff, Nat.reduceLeDiff, Int.reduceAdd, Int.reduceLE, ASch, St.put, Md.mem, Md.need, Mch.cells, List.drop_zero, List.take_succ_cons, List.take_zero, List.getElem_cons_zero, List.getElem_cons_succ, aget_ints g0, aget_ints g1, intsA_set', aget_ints hxp]
  refine ⟨⟨hx.1, by omega⟩, ?_⟩
  refine swp_fm (own := [6]) 4 rfl rfl rfl ?_
  simp only [wB, idxC, asP, asS, asI, loadA, St.ev, St.step, setS, killS, AV.kill, AV.killL, Mem.kill, AV.cells, AV.flat, AV.single, Int.reduceLE, Mch.cells, List.take_succ_cons, List.take_zero, List.getElem_cons_zero, aget_ints g0, aget_ints g1]
  have hmv := hI.mv
  refine acall_f (fspec_of (m104i { t with place := t.place.set x.toNat y } x ⟨hx.1, by simp only; rw [hhl]; exact px⟩ 3 (by omega) hI.hin) [0, 1, 2, 3, 8, 9] rfl (by exact ⟨rfl, rfl, rfl, rfl, trivial⟩) rfl rfl (free_S _ _ (by decide)) (N := memG m ({ t with place := t.place.set x.toNat y, heats := bump t.heats x.toNat 3 }) ++ [gh, some ⟨none, 112, 4, [frmA (1, 2, 1, 1)]⟩]) ?_) ?_
  · simp only [memG, memS, Mch.ob, Mch.od, Mch.cells, rowP, rowC, rowS, stO', combR, List.cons_append, List.nil_append, Option.map_some, Option.map_none, List.drop_succ_cons, List.drop_zero, prsA_sub, strsA_sub, intsA_sub, gtsA_sub, AV.sub, AV.subL, keepF, keepG, liveI, List.getElem?_cons_succ, List.getElem?_cons_zero, List.getElem?_nil, AV.isO, AV.isQ, List.any_cons, List.any_nil, ghost, gA, List.take_succ_cons, List.take_zero, List.drop_nil, hgh, frmA]
    rfl
  simp only [wB, awp, binC, arithC, cmpC, asP, asQ, asI, asN, obA, loadA, storeA, putsA, St.ev, St.step, setS, killS, AV.kill, AV.killL, Mem.kill, AV.cells, AV.flat, AV.single, AV.cellular, Value.oneCell', Nat.reduceAdd, Nat.reduceEqDiff, Nat.reduceLeDiff, Int.reduceAdd, isU, memG, memS, Mch.ob, Mch.od, Mch.cells, rowP, rowC, rowS, stO', List.drop_succ_cons, List.drop_zero, AV.sub, AV.subL, keepF, keepG, liveI, AV.isO, AV.isQ, List.any_cons, List.any_nil, ghost, List.take_succ_cons, List.take_zero, List.drop_nil, hgh, frmA]
  have he : erS m.n m.lim m.ls t 1 x y 0 = 0 := c5
  refine ⟨by unfold lim; omega, ?_⟩
  exact ⟨_, _, memG m (nxS t 1 x y 0), _, Le.refl _, rfl, rfl, rfl, rfl, free_G _ m _, by simp [he, erV], by rw [if_pos he]; rfl⟩
end Go.Proofs.YtndniceeibflcaaGreatDoor

namespace Go.Proofs.YtndniceeibflcaaGreatDoor
open Aw Mp Go.RowKit
set_option linter.unusedSimpArgs false

theorem m73 (m : Mch) (t : MS) {c : Nat} (hI : InvS m.n c t) (hc : c ≤ 1000) (hT : vT m.n m.ls = 0) (hls : m.ls.length ≤ 1000000) {o : By} {k : Nat} {a : List Int} (hp : prs o = some (k, a)) :
    MSpec Tryz.prog 73 [.q 7 6 0 0, .q 0 13 0 0, frmA (frmL.getD k (0, 0, 0, 0)), .s 1 (intsA a)] (memG m t) (fun r N => r = erV (erS m.n m.lim m.ls t k (nth a 0) (nth a 1) (nth a 2)) ∧ N = memG m (if erS m.n m.lim m.ls t k (nth a 0) (nth a 1) (nth a 2) = 0 then nxS t k (nth a 0) (nth a 1) (nth a 2) else t)) := by
  obtain ⟨hk, hl, hb⟩ := prs_len hp
  clear hp
  match k, hk, a, hl, hb with
  | 0, _, [x], _, hb => exact m73_0 m t hI hc hT hls x (hb x (by simp))
  | 1, _, [x, y], _, hb => exact m73_1 m t hI hc hT hls x (hb x (by simp)) y (hb y (by simp))
  | 2, _, [x], _, hb => exact m73_2 m t hI hc hT hls x (hb x (by simp))
  | 3, _, [x], _, hb => exact m73_3 m t hI hc hT hls x (hb x (by simp))
  | 4, _, [x, y], _, hb => exact m73_4 m t hI hc hT hls x (hb x (by simp)) y (hb y (by simp))
  | 5, _, [x, y], _, hb => exact m73_5 m t hI hc hT hls x (hb x (by simp)) y (hb y (by simp))
  | 6, _, [x, y, z], _, hb => exact m73_6 m t hI hc hT hls x (hb x (by simp)) y (hb y (by simp)) z (hb z (by simp))
  | 7, _, [], _, hb => exact m73_7 m t hI hc hT hls
theorem intsA_smap (F : Nat → AV) (G : Nat → Nat → Nat → Nat → AV) (l : List Int) : List.map (AV.sub F G) (intsA l) = intsA l := by rw [← AV.subL_map]; exact intsA_sub F G l
theorem gtsA_smap (F : Nat → AV) (G : Nat → Nat → Nat → Nat → AV) (l : List G4) : List.map (AV.sub F G) (gtsA l) = gtsA l := by rw [← AV.subL_map]; exact gtsA_sub F G l
end Go.Proofs.YtndniceeibflcaaGreatDoor

namespace Go.Proofs.YtndniceeibflcaaGreatDoor
open Aw Mp Go.RowKit
set_option linter.unusedSimpArgs false

theorem spl_mem (d : UInt8) : ∀ (l : By) (c : UInt8), c ∈ l → c ≠ d → ∃ w ∈ splB d l, c ∈ w
  | b :: l, c, hm, hc => by
    unfold splB
    rcases List.mem_cons.1 hm with rfl | hm
    · rw [if_neg hc]
      split
      · exact ⟨_, List.mem_cons_self .., List.mem_cons_self ..⟩
      · exact ⟨_, List.mem_cons_self .., List.mem_cons_self ..⟩
    · obtain ⟨w, hw, hcw⟩ := spl_mem d l c hm hc
      split
      · exact ⟨w, by simp [hw], hcw⟩
      · split
        · rename_i x r hx
          rw [hx] at hw
          rcases List.mem_cons.1 hw with rfl | hw
          · exact ⟨_, List.mem_cons_self .., List.mem_cons_of_mem _ hcw⟩
          · exact ⟨w, by simp [hw], hcw⟩
        · rename_i hx
          rw [hx] at hw
          cases hw
theorem nameL_no : ∀ w ∈ nameL, (10 : UInt8) ∉ w := by decide
theorem prs_ord {o : By} {k : Nat} {a : List Int} (h : prs o = some (k, a)) : ordB o = true := by
  obtain ⟨h1, h2, h3, _⟩ := prs_some h
  obtain ⟨h4, h5, _⟩ := kind_some h2
  rw [ordB_iff]
  refine ⟨h1.1, h1.2, fun hm => ?_⟩
  obtain ⟨w, hw, hc⟩ := spl_mem 32 o 10 hm (by decide)
  cases hs : splB 32 o with
  | nil => exact absurd hs (splB_ne 32 o)
  | cons x r =>
    rw [hs] at hw h5 h3
    rcases List.mem_cons.1 hw with rfl | hw
    · simp only [List.headD_cons] at h5
      have h8 : k < nameL.length := h4
      rw [List.getD_eq_getElem?_getD, List.getElem?_eq_getElem h8] at h5
      exact nameL_no _ (List.getElem_mem h8) (by rw [Option.getD_some] at h5; rw [← h5]; exact hc)
    · have := h3 w (by simpa using hw)
      rcases num_some w with h6 | ⟨n, h6, h7, h8⟩
      · omega
      · rw [← h8] at hc
        have := (itoa_digit (by omega) _ hc).1
        simp at this
theorem Acc.ords {n lim : Int} {ls : List (Int × Int)} {l : List By} (h : Acc n lim ls l) : ∀ o ∈ l, ordB o = true := by
  induction h with
  | nil => simp
  | snoc h he ih =>
    rename_i l o
    intro q hq
    rcases List.mem_append.1 hq with hq | hq
    · exact ih q hq
    · rw [List.mem_singleton.1 hq]
      unfold erO at he
      cases hp : prs o with
      | none => rw [hp] at he; cases he
      | some ka => exact prs_ord hp
end Go.Proofs.YtndniceeibflcaaGreatDoor

namespace Go.Proofs.YtndniceeibflcaaGreatDoor
open Go.RowKit Go.Extern.Stop Go.Stop Go.Extern
set_option linter.unusedSimpArgs false

theorem aw_valueOf27 (t : Addr) (w : World) : (ReflectliteValue.unpack (.iface 147 (.pointer (some t)))).run Tryz.prog w
    = .ok (.agg #[.pointer (some ⟨9, 147, none⟩), .pointer (some ⟨w.heap.size, 0, none⟩), .int .u64 150]) (w.alloc (.cells #[.pointer (some t)] 147)) := by kernel_rfl
theorem aw_type27 (a : Addr) (w : World) : (ReflectliteValue.methodAny (ReflectliteValue.valueError "reflectlite.Value.Type" 0) (fun t _ _ _ => ReflectliteType.toType t) #[.agg #[.pointer (some ⟨9, 147, none⟩), .pointer (some a), .int .u64 150]]).run Tryz.prog w
    = .ok (.iface 226 (.agg #[.pointer (some ⟨9, 147, none⟩)])) w := by kernel_rfl
theorem aw_methodKind (k : Nat) (h : Value) (w : World) : (Go.method (k + 1) 226 (.agg #[h]) "Kind").run Tryz.prog w = .ok (226, h) w := by kernel_rfl
theorem aw_kind27 (w : World) : ((ReflectliteType.abiMethod fun t => (fun a : Nat => Value.int IntKind.u8 (a : Int)) <$> Rtype.kind t) #[.pointer (some ⟨9, 147, none⟩)]).run Tryz.prog w = .ok (.int .u8 22) w := by kernel_rfl
theorem aw_kind25 (w : World) : ((ReflectliteType.abiMethod fun t => (fun a : Nat => Value.int IntKind.u8 (a : Int)) <$> Rtype.kind t) #[.pointer (some ⟨9, 139, none⟩)]).run Tryz.prog w = .ok (.int .u8 25) w := by kernel_rfl


theorem rlm (z : Sem Value) (f : TypeId → Addr → Nat → Nat → Sem Value) (v : Value) :
    ReflectliteValue.method z f #[v] = (do match ← ReflectliteValue.parts v with | none => z | some (t, a, fl) => f t a fl (fl % 32)) := rfl
theorem aw_parts27 (a : Addr) (w : World) : (ReflectliteValue.parts (.agg #[.pointer (some ⟨9, 147, none⟩), .pointer (some a), .int .u64 150])).run Tryz.prog w = .ok (some (147, a, 150)) w := by kernel_rfl
theorem aw_isNil27 (a p : Addr) (W : World) (ha : W.cell? a = some (.pointer (some p))) :
    (ReflectliteValue.method (ReflectliteValue.valueError "reflectlite.Value.IsNil" 0) ReflectliteValue.isNil #[.agg #[.pointer (some ⟨9, 147, none⟩), .pointer (some a), .int .u64 150]]).run Tryz.prog W = .ok (.bool false) W := by
  rw [rlm]
  simp only [Sem.run_bind, aw_parts27, Result.andThen]
  simp [ReflectliteValue.isNil, loadVar, isAgg, underlying, Tryz.underlying147, ha, Result.andThen]

theorem aw_methodElem (k : Nat) (h : Value) (w : World) : (Go.method (k + 1) 226 (.agg #[h]) "Elem").run Tryz.prog w = .ok (239, .agg #[h]) w := by kernel_rfl
theorem aw_methodImplements (k : Nat) (h : Value) (w : World) : (Go.method (k + 1) 226 (.agg #[h]) "Implements").run Tryz.prog w = .ok (240, .agg #[h]) w := by kernel_rfl
theorem aw_methodAssignableTo (k : Nat) (h : Value) (w : World) : (Go.method (k + 1) 226 (.agg #[h]) "AssignableTo").run Tryz.prog w = .ok (237, .agg #[h]) w := by kernel_rfl
theorem aw_elem27 (w : World) : (ReflectliteType.method ReflectliteType.elem #[.agg #[.pointer (some ⟨9, 147, none⟩)]]).run Tryz.prog w = .ok (.iface 226 (.agg #[.pointer (some ⟨9, 139, none⟩)])) w := by kernel_rfl
theorem aw_implements25 (w : World) : (ReflectliteType.relation "Implements" ReflectliteType.implements_ #[.agg #[.pointer (some ⟨9, 139, none⟩)], .iface 226 (.agg #[.pointer (some ⟨9, 114, none⟩)])]).run Tryz.prog w = .ok (.bool true) w := by kernel_rfl
theorem aw_typeOf25 (v : Value) (w : World) : (ReflectliteType.typeOf #[.iface 139 v]).run Tryz.prog w = .ok (.iface 226 (.agg #[.pointer (some ⟨9, 139, none⟩)])) w := by kernel_rfl
theorem aw_assignable25 (w : World) : (ReflectliteType.relation "AssignableTo" ReflectliteType.assignableTo #[.agg #[.pointer (some ⟨9, 139, none⟩)], .iface 226 (.agg #[.pointer (some ⟨9, 139, none⟩)])]).run Tryz.prog w = .ok (.bool true) w := by kernel_rfl
theorem aw_valueOf25 (n : Int) (w : World) : (ReflectliteValue.unpack (.iface 139 (.agg #[.int .i64 n]))).run Tryz.prog w
    = .ok (.agg #[.pointer (some ⟨9, 139, none⟩), .pointer (some ⟨w.heap.size, 0, none⟩), .int .u64 153]) (w.alloc (.cells #[.int .i64 n] 139)) := by kernel_rfl

theorem aw_elemOf27 (w : World) : (Rtype.elem? 147).run Tryz.prog w = .ok (some 139) w := by kernel_rfl
theorem aw_mk25 (p : Addr) (w : World) : (ReflectliteValue.mk 139 p ReflectliteValue.flagAddr).run Tryz.prog w = .ok (.agg #[.pointer (some ⟨9, 139, none⟩), .pointer (some p), .int .u64 409]) w := by kernel_rfl
theorem aw_elemV27 (a p : Addr) (W : World) (ha : W.cell? a = some (.pointer (some p))) :
    (ReflectliteValue.method (ReflectliteValue.valueError "reflectlite.Value.Elem" 0) ReflectliteValue.elem #[.agg #[.pointer (some ⟨9, 147, none⟩), .pointer (some a), .int .u64 150]]).run Tryz.prog W
      = .ok (.agg #[.pointer (some ⟨9, 139, none⟩), .pointer (some p), .int .u64 409]) W := by
  rw [rlm]
  simp only [Sem.run_bind, aw_parts27, Result.andThen]
  simp [ReflectliteValue.elem, loadVar, isAgg, underlying, Tryz.underlying147, ha, Result.andThen, aw_elemOf27, aw_mk25]
theorem rls (v x : Value) : ReflectliteValue.set #[v, x] = (do
    let (some (dst, a, fl), some (src, b, _)) := (← ReflectliteValue.parts v, ← ReflectliteValue.parts x)
      | unsupported (.noEntry "extern/(internal/reflectlite.Value).Set.zeroValue")
    if fl / ReflectliteValue.flagAddr % 2 == 0 then unsupported (.noEntry "extern/(internal/reflectlite.Value).Set.unaddressable")
    let val ← loadVar src b
    if ← Rtype.directlyAssignable dst src then storeVar dst a val
    else if ← Rtype.implements dst src then
      if (← Rtype.kind src) == 20 then
        match val with
        | .nilIface => unsupported (.noEntry "extern/reflectlite: a nil value of one interface type handed on as a value of another")
        | _ => storeVar dst a val
      else storeVar dst a (.iface src val)
    else panicString ("reflectlite.Set: value of type " ++ (← Rtype.spelt src) ++ " is not assignable to type " ++ (← Rtype.spelt dst))
    pure (.tuple #[])) := rfl
theorem aw_parts25a (a : Addr) (w : World) : (ReflectliteValue.parts (.agg #[.pointer (some ⟨9, 139, none⟩), .pointer (some a), .int .u64 409])).run Tryz.prog w = .ok (some (139, a, 409)) w := by kernel_rfl
theorem aw_parts25 (a : Addr) (w : World) : (ReflectliteValue.parts (.agg #[.pointer (some ⟨9, 139, none⟩), .pointer (some a), .int .u64 153])).run Tryz.prog w = .ok (some (139, a, 153)) w := by kernel_rfl
theorem aw_direct25 (w : World) : (Rtype.directlyAssignable 139 139).run Tryz.prog w = .ok true w := by kernel_rfl
theorem aw_size25 (w : World) : (sizeOf 139).run Tryz.prog w = .ok 1 w := by kernel_rfl
end Go.Proofs.YtndniceeibflcaaGreatDoor
