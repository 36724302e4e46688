/-
  Parts of several texts in one: MrN, MrO, MrP, MrQ, MrR, MwA, MwB, MwC, MwD, MwE, MwF, MwG, MwH.
-/
import Derived.Test.YtndniceeibflcaaGreatDoorProg
import Derived.WalkKit
import Derived.Lib.ConvBytes
import Derived.LaidEql
import Derived.Lib.ItoaNum
import Derived.Lib.LaidTab
import Derived.KernelRfl
import GoSem.Claims
import GoSem.ClaimJoined
import Derived.Orders
import Derived.Laws.StructEq
import Derived.Maps.Keyed
import Derived.Lib.Strings
import Derived.Maps.AppendAt
import Derived.Laws.Concat
import Derived.MapKept
import Derived.Laws.MakeOwn
import Derived.Scope
import Derived.Laws.BitsLemmas
import Derived.Maps.RangeRun
import Derived.StillTail
import Derived.OrdersIn
import Derived.TacticsIn
import Derived.RangeFuncRecord
import Derived.RangeFuncCalls
import Derived.RangeFuncSeq
import Derived.Lib.Split
import Derived.Lib.AtoiAll
import Derived.Shelf.LaysM
import Derived.Shelf.LaysC
import Derived.Shelf.Strconv.Itoa3
import Derived.Shelf.Strconv.AtoiAll
import Derived.Shelf.Strings.Search3
import Derived.Shelf.Strings.Cut
import Derived.Shelf.Strings.Prefix
import Derived.Shelf.Strings.Split
import Derived.Lib.AppendIntMem
import Derived.Stop.Asserts
import Derived.RowKitTokens
import Derived.Conc.MuLone
import Derived.Test.YtndniceeibflcaaGreatDoorTaa
import Derived.Test.YtndniceeibflcaaGreatDoorTab
import Derived.Test.YtndniceeibflcaaGreatDoorTac
import Derived.Test.YtndniceeibflcaaGreatDoorTad
import Derived.Test.YtndniceeibflcaaGreatDoorTae
import Derived.Test.YtndniceeibflcaaGreatDoorTag
import Derived.Test.YtndniceeibflcaaGreatDoorTah
import Derived.Test.YtndniceeibflcaaGreatDoorTai
import Derived.Test.YtndniceeibflcaaGreatDoorTaj
set_option linter.unusedSimpArgs false
set_option linter.unusedVariables false
namespace Go.Proofs.YtndniceeibflcaaGreatDoor
namespace Aw
end Aw
namespace Mp
end Mp
end Go.Proofs.YtndniceeibflcaaGreatDoor
namespace Go.Proofs.YtndniceeibflcaaGreatDoor
open Aw Mp Go.RowKit
set_option linter.unusedSimpArgs false
set_option maxRecDepth 8000

theorem m73_5 (m : Mch) (t : MS) {c : Nat} (hI : InvS m.n c t) (hc : c ≤ 1000) (hT : vT m.n m.ls = 0) (hls : m.ls.length ≤ 1000000) (x : Int) (hx : 0 ≤ x ∧ x ≤ 99) (y : Int) (hy : 0 ≤ y ∧ y ≤ 99) :
    MSpec Tryz.prog 73 [.q 7 6 0 0, .q 0 13 0 0, frmA (5, 2, 1, -1), .s 1 (intsA [x, y])] (memG m t) (fun r N => r = erV (erS m.n m.lim m.ls t 5 x y 0) ∧ N = memG m (if erS m.n m.lim m.ls t 5 x y 0 = 0 then nxS t 5 x y 0 else t)) := by
  refine mspec_of2 (own := [6, 1022, 1033]) Tryz.func73 rfl ok73 ?_
  intro vs
  have hp4 := hI.p4
  have hhl := hI.hl
  have e0 : ((0 : Nat) : Int) = 0 := rfl
  have e1 : ((1 : Nat) : Int) = 1 := rfl
  have e2 : ((2 : Nat) : Int) = 2 := rfl
  have e3 : ((3 : Nat) : Int) = 3 := rfl
  have g0 : 0 < [x, y].length := by simp
  have g1 : 1 < [x, y].length := by simp
  obtain ⟨gh, hgh⟩ : ∃ gh, gh = some (ghost vs [AV.q 7 6 0 0, AV.q 0 13 0 0, frmA (5, 2, 1, -1), AV.s 1 (intsA [x, y])]) := ⟨_, rfl⟩
  simp only [wB, awp, asP, asQ, asS, asN, obA, bndA, lenA, loadA, Aw.newRow, St.ev, St.step, setS, killS, AV.kill, AV.killL, Mem.kill, AV.cells, AV.flat, AV.single, AV.cellular, AV.size, AV.sizeL, Nat.reduceAdd, Nat.reduceEqDiff, Nat.reduceSub, Nat.reduceLeDiff, Int.reduceAdd, Int.reduceSub, Int.reduceNeg, Int.reduceLE, lenK, Tryz.ntmps73, memG, Mch.ob, Mch.od, Mch.cells, rowP, rowC, rowS, stO', List.drop_succ_cons, List.drop_zero, ghost, List.take_succ_cons, List.take_zero, e2, frmA, ← hgh]
  refine swp_loop' (fun j : Nat => ⟨[.q 7 6 0 0, .q 0 13 0 0, .bot, .s 1 (intsA [x, y]), .bot, .bot, .q 9 4 0 0, .bot, .v .nilIface, .bot, .bot, .bot, .bot, .bot, .bot, .bot, .bot, .bot, .bot, .s 1 (intsA [x]), I 1, I j, .bot, .bot, .bot, .bot, .bot, .bot, .bot, .bot, .bot, .bot, .bot, .bot, .bot, .bot, .bot, .bot, .bot, .bot, .bot, .bot, .bot, .bot, .bot, .bot, .bot, .bot, .bot, .bot, .bot, .bot, .bot, .bot, .bot, .bot, .bot, .bot, .bot, .bot, .bot, .bot, .bot, .bot, .bot, .bot, .bot, .bot, .bot, .bot, .bot, .bot, .bot, .bot, .bot, .bot, .bot, .bot, .bot, .bot, .bot, .bot, .bot, .bot, .bot, .bot, .bot, .bot, .bot, .bot, .bot, .bot, .bot, .bot, .bot, .bot, .bot, .bot, .bot, .bot, .bot, .bot, .bot, .bot, .bot, .bot, .bot, .bot, .bot, .bot, .bot, .bot, .bot, .bot, .bot, .bot, .bot, .bot, .bot, .bot, .bot, .bot, .bot, .bot, .bot, .bot, .bot, .bot, .bot, .bot, .bot, .bot, .bot, .bot, .bot, .bot, .bot, .bot, .bot, .bot, .bot, .bot, .bot, .bot, .bot, .bot, .bot, .bot, .bot, .bot, .bot, .bot, .bot, .bot, .bot, .bot, .bot, .bot, .bot, .bot, .bot, .bot, .bot, .bot, .bot, .bot, .bot, .bot, .bot, .bot, .bot, .bot, .bot, .bot, .bot, .bot, .bot, .bot, .bot, .bot, .bot, .bot, .bot, .bot, .bot, .bot, .bot, .bot, .bot, .bot, .bot, .bot, .bot, .bot, .bot, .bot, .bot, .bot, .bot, .bot, .bot, .bot, .bot, .bot, .bot, .bot, .bot, .bot, .bot, .bot, .bot, .bot, .bot, .bot, .bot, .bot, .bot, .bot, .bot, .bot, .bot, .bot, .bot, .bot, .bot, .bot, .bot, .bot, .bot, .bot, .bot, .bot, .bot, .bot, .bot, .bot, .bot, .bot, .bot, .bot, .bot, .bot, .bot, .bot, .bot, .bot, .bot, .bot, .bot, .bot, .bot, .bot, .bot, .bot], memG m t ++ [gh, some ⟨none, 112, 4, [frmA (5, 2, 1, -1)]⟩]⟩) (fun j => j ≤ 1 ∧ ∀ i, i < j → ∀ h : i < ([x] : List Int).length, ([x] : List Int)[i] < t.place.length) (fun j => 1 - j) 0 (le_sl' ?_ ?_) ⟨Nat.zero_le _, fun i h => absurd h (Nat.not_lt_zero _)⟩ ?_
  · simp only [memG, memS, Mch.ob, Mch.od, Mch.cells, rowP, rowC, rowS, stO', combR, List.cons_append, List.nil_append, Option.map_some, Option.map_none, List.drop_succ_cons, List.drop_zero, prsA_sub, strsA_sub, intsA_sub, gtsA_sub, AV.sub, AV.subL, keepF, keepG, liveI, List.getElem?_cons_succ, List.getElem?_cons_zero, List.getElem?_nil, AV.isO, AV.isQ, List.any_cons, List.any_nil, ghost, gA, List.take_succ_cons, List.take_zero, List.drop_nil, hgh, frmA]
  · simp [leSl, intsA]
  rintro j ⟨hj, hno⟩
  refine awp_sound (own := [6, 1022, 1033]) _ _ _ _ _ ?_
  simp only [wB, awp, binC, cmpC, asB, asI, St.ev, St.step, setS, killS, AV.kill, AV.killL, Mem.kill, AV.cells, Nat.reduceAdd, Nat.reduceEqDiff, Int.reduceAdd, Int.reduceNeg, memG, Mch.ob, Mch.od, Mch.cells, rowP, rowC, rowS, stO', ghost, hgh, frmA]
  by_cases h : (j : Int) < 1
  case pos =>
    have hjl : j < ([x] : List Int).length := by simp; omega
    simp only [wB, awp, binC, idxC, cmpC, asP, asQ, asS, asB, asI, asN, obA, lenA, loadA, St.ev, St.step, setS, killS, AV.kill, AV.killL, Mem.kill, AV.cells, AV.flat, AV.single, Nat.reduceAdd, Nat.reduceEqDiff, Nat.reduceLeDiff, Int.reduceAdd, Int.reduceNeg, lenK, Mch.cells, List.drop_zero, List.take_succ_cons, List.take_zero, decide_eq_true h, aget_ints hjl, Int.toNat_natCast]
    refine ⟨by omega, ?_⟩
    obtain ⟨q, hq⟩ : ∃ q, q = ([x] : List Int)[j] := ⟨_, rfl⟩
    rw [← hq]
    by_cases hp : (t.place.length : Int) ≤ q
    · simp only [wB, awp, asN, fillA, putsA, St.ev, St.step, setS, killS, AV.kill, AV.killL, Mem.kill, AV.cells, AV.flat, AV.single, AV.cellular, Value.oneCell', Nat.reduceAdd, Nat.reduceEqDiff, Nat.reduceLeDiff, Int.reduceAdd, Int.reduceNeg, Aw.valOf, Aw.valsOf, cc139, memG, Mch.ob, Mch.od, Mch.cells, rowP, rowC, rowS, stO', decide_eq_true hp]
      have he : erS m.n m.lim m.ls t 5 x y 0 = 4 := by
        obtain rfl : j = 0 := by omega
        simp only [List.getElem_cons_zero] at hq
        subst hq
        simp only [erS]
        rw [if_pos hp]
      exact ⟨_, _, memG m t, _, Le.refl _, rfl, rfl, rfl, rfl, free_G _ m t, by simp [he, erV, errV], by first | (simp [he]; done) | (simp [he]; rfl)⟩
    · simp only [wB, awp, binC, arithC, cmpC, asI, St.ev, St.step, setS, killS, AV.kill, AV.killL, Mem.kill, AV.cells, Nat.reduceAdd, Nat.reduceEqDiff, Int.reduceAdd, Int.reduceNeg, isU, memG, Mch.ob, Mch.od, Mch.cells, rowP, rowC, rowS, stO', decide_eq_false hp]
      refine ⟨by unfold lim; omega, j + 1, le_sl' ?_ (by simp [leSl]), ⟨by omega, fun i hi hl => ?_⟩, by omega⟩
      · simp only [memG, memS, Mch.ob, Mch.od, Mch.cells, rowP, rowC, rowS, stO', combR, List.cons_append, List.nil_append, Option.map_some, Option.map_none, List.drop_succ_cons, List.drop_zero, prsA_sub, strsA_sub, intsA_sub, gtsA_sub, AV.sub, AV.subL, keepF, keepG, liveI, List.getElem?_cons_succ, List.getElem?_cons_zero, List.getElem?_nil, AV.isO, AV.isQ, List.any_cons, List.any_nil, ghost, gA, List.take_succ_cons, List.take_zero, List.drop_nil, hgh, frmA]
      · rcases Nat.lt_or_ge i j with h1 | h1
        · exact hno i h1 hl
        · obtain rfl : i = j := by omega
          rw [← hq]; omega
  obtain rfl : j = 1 := by omega
  have px : x < t.place.length := by have := hno 0 (by omega) (by simp); simpa using this
  clear hno
  simp only [awp, ACond_false, if_true, decide_false, Int.reduceNeg, Int.reduceLT, e1]
  refine swp_draw (own := [6]) (.take 0 .plain [] (.take 1 .reads [] (.take 2 .plain [] (.take 3 .plain [] (.take 4 .plain [] (.take 5 .plain [] (.take 6 .reads [] (.take 7 .reads [] (.take 8 .reads [] (.take 9 .plain [] (.take 10 .plain [] (.take 11 .plain [] (.take 12 .plain [] (.take 13 .reads [] (.take 14 .plain [] (.take 15 .plain [] (.done))))))))))))))))) [⟨36, 64, 0, 0, true⟩, ⟨37, 34359738368, 1, 0, true⟩, ⟨38, 68719476736, 2, 0, true⟩, ⟨39, 137438953472, 4, 0, true⟩, ⟨40, 274877906952, 8, 0, true⟩, ⟨41, 274877907008, 8, 0, true⟩, ⟨42, 1374389534720, 40, 0, true⟩, ⟨43, 3023656976384, 88, 0, true⟩, ⟨44, 4672924418048, 136, 0, true⟩, ⟨45, 274877906946, 8, 0, true⟩, ⟨46, 17867063951360, 520, 0, true⟩, ⟨47, 35459249995776, 1032, 0, true⟩, ⟨48, 70643622084608, 2056, 0, true⟩, ⟨49, 141012366262272, 4104, 0, true⟩, ⟨50, 290545947639808, 8456, 0, true⟩, ⟨51, 563224831328256, 16392, 0, true⟩] mo (by kernel_rfl) ?_
  simp only [wB, awp, binC, cmpC, asP, asQ, asB, asI, asN, obA, loadA, St.ev, St.step, setS, killS, AV.kill, AV.killL, Mem.kill, AV.cells, AV.flat, AV.single, Nat.reduceAdd, Nat.reduceEqDiff, Nat.reduceLeDiff, Int.reduceAdd, Int.reduceNeg, Int.reduceLE, Int.reduceEq, ASch, St.put, Md.mem, Md.need, Mch.cells, List.drop_succ_cons, List.drop_zero, List.take_succ_cons, List.take_zero, aget_ints g0, aget_ints g1]
  refine swp_splitF (own := [6]) (pre := #[_, _, _, _, _, _, _, _, _]) _ [_] rfl (.take 0 .plain [] (.take 1 .plain [] (.take 2 .plain [] (.take 3 .reads [] (.take 4 .reads [] (.take 5 .plain [] (.take 6 .reads [] (.take 7 .reads [] (.take 8 .plain [] (.done)))))))))) [⟨217, 1, 0, 0, true⟩, ⟨218, 2, 0, 0, true⟩, ⟨219, 8, 0, 0, true⟩, ⟨220, 421249166674228746791672110734681729275580381602196445017243910144, 4, 0, true⟩, ⟨221, 842498333348457493583344221469363458551160763204392890034487820288, 8, 0, true⟩, ⟨222, 8, 0, 0, true⟩, ⟨223, 3369993333393829974333376885877453834204643052817571560137951281152, 32, 0, true⟩, ⟨224, 6739986666787659948666753771754907668409286105635143120275902562304, 64, 0, true⟩, ⟨225, 13479973333575319897333507543509815336818572211270286240551805124608, 128, 0, true⟩] mo (by kernel_rfl) (by kernel_rfl) ?_
  simp only [wB, idxC, asP, asS, asI, loadA, St.ev, setS, AV.cells, AV.flat, AV.single, AV.cellular, AV.size, AV.pure, AV.pureL, Value.oneCell', Nat.reduceEqDiff, Nat.reduceMul, Nat.reduceLeDiff, Int.reduceMul, Int.reduceNeg, Int.reduceLE, ASch, St.put, Md.mem, Md.need, Mch.cells, List.getElem_cons_zero, List.getElem_cons_succ, aget_ints g0, aget_ints g1]
  have he : erS m.n m.lim m.ls t 5 x y 0 = er1 m.lim t x y := by simp only [erS]; rw [if_neg (by omega)]
  refine ⟨⟨by decide, rfl⟩, ⟨[.bot, .bot, .bot, .bot, .bot, .bot, .bot, .bot, .bot, .bot, .bot, .bot, .bot, .bot, .bot, .bot, .bot, .bot, .bot, .bot, .bot, .bot, .bot, .bot, .bot, .bot, .bot, .bot, .bot, .bot, .bot, .bot, .bot, .bot, .bot, .bot, .bot, .bot, .bot, .bot, .bot, .bot, .bot, .bot, .bot, .bot, .bot, .bot, .bot, .bot, .bot, .bot, .bot, .bot, .bot, .bot, .bot, .bot, .bot, .bot, .bot, .bot, .bot, .bot, .bot, .bot, .bot, .bot, .bot, .bot, .bot, .bot, .bot, .bot, .bot, .bot, .bot, .bot, .bot, .bot, .bot, .bot, .bot, .bot, .bot, .bot, .bot, .bot, .bot, .bot, .bot, .bot, .bot, .bot, .bot, .bot, .bot, .bot, .bot, .bot, .bot, .bot, .bot, .bot, .bot, .bot, .bot, .bot, .bot, .bot, .bot, .bot, .bot, .bot, .bot, .bot, .bot, .bot, .bot, .bot, .bot, .bot, .bot, .bot, .bot, .bot, .bot, .bot, .bot, .bot, .bot, .bot, .bot, .bot, .bot, .bot, .bot, .bot, .bot, .bot, .bot, .bot, .bot, .bot, .bot, .bot, .bot, .bot, .bot, .bot, .bot, .bot, .bot, .bot, .bot, .bot, .bot, .bot, .bot, .bot, .bot, .bot, .bot, .bot, .bot, .bot, .bot, .bot, .bot, .bot, .bot, .bot, .bot, .bot, .bot, .bot, .bot, .bot, .bot, .bot, .bot, .bot, .bot, .bot, .bot, .bot, .bot, .bot, .bot, .bot, .bot, .bot, .bot, .bot, .bot, .bot, .bot, .bot, .bot, .bot, .bot, .bot, .bot, .bot, .bot, .bot, .bot, .bot, .bot, .bot, .bot, .bot, .bot, .bot, .bot, .bot, .q 7 6 0 0, .q 0 13 0 0, .bot, .bot, I y, .bot, .bot, .bot, .s 1 (intsA [x]), .bot, .bot, .bot, .bot, .bot, .bot, .bot, .bot, .bot, .bot, .bot, .bot, .bot, .bot, .bot, .bot, .bot, .bot, .bot, .bot, .bot, .bot, .bot, .bot, .bot, .bot, .bot, .bot, .bot], memG m (t) ++ [gh, some ⟨none, 112, 4, [frmA (5, 2, 1, -1)]⟩]⟩, le_sl' ?_ (by simp [leSl, intsA]), ?_⟩
  · simp only [memG, memS, Mch.ob, Mch.od, Mch.cells, rowP, rowC, rowS, stO', combR, List.cons_append, List.nil_append, Option.map_some, Option.map_none, List.drop_succ_cons, List.drop_zero, prsA_sub, strsA_sub, intsA_sub, gtsA_sub, AV.sub, AV.subL, keepF, keepG, liveI, List.getElem?_cons_succ, List.getElem?_cons_zero, List.getElem?_nil, AV.isO, AV.isQ, List.any_cons, List.any_nil, ghost, gA, List.take_succ_cons, List.take_zero, List.drop_nil, hgh, frmA]
  simp only [St.ev, AV.cells, List.getD_cons_succ, List.getD_cons_zero, List.cons_append, List.nil_append, List.map_cons, List.map_nil, Int.reduceNeg, memG, Mch.ob, Mch.od, Mch.cells, rowP, rowC, rowS, stO', List.cons_append, List.nil_append, ghost, afc, hgh, frmA]
  refine acall_f (fspec_of (m105a m t hI hc 1 x y ⟨hx.1, px⟩) [1, 3, 8, 9] rfl (by exact ⟨rfl, rfl, rfl, rfl, rfl, rfl, trivial⟩) rfl rfl (free_GZ _ _ _ (by decide)) (N := memG m ((if er1 m.lim t x y = 0 then nx1 t 1 x y else t)) ++ [gh, some ⟨none, 112, 4, [frmA (5, 2, 1, -1)]⟩]) ?_) ?_
  · simp only [memG, memS, Mch.ob, Mch.od, Mch.cells, rowP, rowC, rowS, stO', combR, List.cons_append, List.nil_append, Option.map_some, Option.map_none, List.drop_succ_cons, List.drop_zero, prsA_sub, strsA_sub, intsA_sub, gtsA_sub, AV.sub, AV.subL, keepF, keepG, liveI, List.getElem?_cons_succ, List.getElem?_cons_zero, List.getElem?_nil, AV.isO, AV.isQ, List.any_cons, List.any_nil, ghost, gA, List.take_succ_cons, List.take_zero, List.drop_nil, hgh, frmA]
    rfl
  rw [he]
  obtain ⟨t', ht'⟩ : ∃ t', t' = if er1 m.lim t x y = 0 then nx1 t 1 x y else t := ⟨_, rfl⟩
  have hn : (if er1 m.lim t x y = 0 then nxS t 5 x y 0 else t) = t' := ht'.symm
  rw [← ht']
  simp only [wB, awp, asN, St.ev, St.step, setS, killS, AV.kill, AV.killL, Mem.kill, AV.cells, Nat.reduceEqDiff, Int.reduceNeg, memG, Mch.ob, Mch.od, Mch.cells, rowP, rowC, rowS, stO', AV.sub, keepG, liveI, AV.isQ, List.any_cons, List.any_nil, ghost, hgh, frmA, hn]
  exact ⟨_, _, memG m t', _, Le.refl _, rfl, rfl, erV_free _ _, rfl, free_G _ m _, rfl, rfl⟩
end Go.Proofs.YtndniceeibflcaaGreatDoor

namespace Go.Proofs.YtndniceeibflcaaGreatDoor
open Aw Mp Go.RowKit
set_option linter.unusedSimpArgs false
set_option maxRecDepth 8000

theorem m73_6 (m : Mch) (t : MS) {c : Nat} (hI : InvS m.n c t) (hc : c ≤ 1000) (hT : vT m.n m.ls = 0) (hls : m.ls.length ≤ 1000000) (x : Int) (hx : 0 ≤ x ∧ x ≤ 99) (y : Int) (hy : 0 ≤ y ∧ y ≤ 99) (z : Int) (hz : 0 ≤ z ∧ z ≤ 99) :
    MSpec Tryz.prog 73 [.q 7 6 0 0, .q 0 13 0 0, frmA (6, 3, 2, -1), .s 1 (intsA [x, y, z])] (memG m t) (fun r N => r = erV (erS m.n m.lim m.ls t 6 x y z) ∧ N = memG m (if erS m.n m.lim m.ls t 6 x y z = 0 then nxS t 6 x y z else t)) := by
  refine mspec_of2 (own := [6, 1022, 1033]) Tryz.func73 rfl ok73 ?_
  intro vs
  have hp4 := hI.p4
  have hhl := hI.hl
  have e0 : ((0 : Nat) : Int) = 0 := rfl
  have e1 : ((1 : Nat) : Int) = 1 := rfl
  have e2 : ((2 : Nat) : Int) = 2 := rfl
  have e3 : ((3 : Nat) : Int) = 3 := rfl
  have g0 : 0 < [x, y, z].length := by simp
  have g1 : 1 < [x, y, z].length := by simp
  have g2 : 2 < [x, y, z].length := by simp
  obtain ⟨gh, hgh⟩ : ∃ gh, gh = some (ghost vs [AV.q 7 6 0 0, AV.q 0 13 0 0, frmA (6, 3, 2, -1), AV.s 1 (intsA [x, y, z])]) := ⟨_, rfl⟩
  simp only [wB, awp, asP, asQ, asS, asN, obA, bndA, lenA, loadA, Aw.newRow, St.ev, St.step, setS, killS, AV.kill, AV.killL, Mem.kill, AV.cells, AV.flat, AV.single, AV.cellular, AV.size, AV.sizeL, Nat.reduceAdd, Nat.reduceEqDiff, Nat.reduceSub, Nat.reduceLeDiff, Int.reduceAdd, Int.reduceSub, Int.reduceNeg, Int.reduceToNat, Int.reduceLE, lenK, Tryz.ntmps73, memG, Mch.ob, Mch.od, Mch.cells, rowP, rowC, rowS, stO', List.drop_succ_cons, List.drop_zero, ghost, List.take_succ_cons, List.take_zero, e3, frmA, ← hgh]
  refine swp_loop' (fun j : Nat => ⟨[.q 7 6 0 0, .q 0 13 0 0, .bot, .s 1 (intsA [x, y, z]), .bot, .bot, .q 9 4 0 0, .bot, .v .nilIface, .bot, .bot, .bot, .bot, .bot, .bot, .bot, .bot, .bot, .bot, .s 1 (intsA [x, y]), I 2, I j, .bot, .bot, .bot, .bot, .bot, .bot, .bot, .bot, .bot, .bot, .bot, .bot, .bot, .bot, .bot, .bot, .bot, .bot, .bot, .bot, .bot, .bot, .bot, .bot, .bot, .bot, .bot, .bot, .bot, .bot, .bot, .bot, .bot, .bot, .bot, .bot, .bot, .bot, .bot, .bot, .bot, .bot, .bot, .bot, .bot, .bot, .bot, .bot, .bot, .bot, .bot, .bot, .bot, .bot, .bot, .bot, .bot, .bot, .bot, .bot, .bot, .bot, .bot, .bot, .bot, .bot, .bot, .bot, .bot, .bot, .bot, .bot, .bot, .bot, .bot, .bot, .bot, .bot, .bot, .bot, .bot, .bot, .bot, .bot, .bot, .bot, .bot, .bot, .bot, .bot, .bot, .bot, .bot, .bot, .bot, .bot, .bot, .bot, .bot, .bot, .bot, .bot, .bot, .bot, .bot, .bot, .bot, .bot, .bot, .bot, .bot, .bot, .bot, .bot, .bot, .bot, .bot, .bot, .bot, .bot, .bot, .bot, .bot, .bot, .bot, .bot, .bot, .bot, .bot, .bot, .bot, .bot, .bot, .bot, .bot, .bot, .bot, .bot, .bot, .bot, .bot, .bot, .bot, .bot, .bot, .bot, .bot, .bot, .bot, .bot, .bot, .bot, .bot, .bot, .bot, .bot, .bot, .bot, .bot, .bot, .bot, .bot, .bot, .bot, .bot, .bot, .bot, .bot, .bot, .bot, .bot, .bot, .bot, .bot, .bot, .bot, .bot, .bot, .bot, .bot, .bot, .bot, .bot, .bot, .bot, .bot, .bot, .bot, .bot, .bot, .bot, .bot, .bot, .bot, .bot, .bot, .bot, .bot, .bot, .bot, .bot, .bot, .bot, .bot, .bot, .bot, .bot, .bot, .bot, .bot, .bot, .bot, .bot, .bot, .bot, .bot, .bot, .bot, .bot, .bot, .bot, .bot, .bot, .bot, .bot, .bot, .bot, .bot, .bot, .bot, .bot, .bot], memG m t ++ [gh, some ⟨none, 112, 4, [frmA (6, 3, 2, -1)]⟩]⟩) (fun j => j ≤ 2 ∧ ∀ i, i < j → ∀ h : i < ([x, y] : List Int).length, ([x, y] : List Int)[i] < t.place.length) (fun j => 2 - j) 0 (le_sl' ?_ ?_) ⟨Nat.zero_le _, fun i h => absurd h (Nat.not_lt_zero _)⟩ ?_
  · simp only [memG, memS, Mch.ob, Mch.od, Mch.cells, rowP, rowC, rowS, stO', combR, List.cons_append, List.nil_append, Option.map_some, Option.map_none, List.drop_succ_cons, List.drop_zero, prsA_sub, strsA_sub, intsA_sub, gtsA_sub, AV.sub, AV.subL, keepF, keepG, liveI, List.getElem?_cons_succ, List.getElem?_cons_zero, List.getElem?_nil, AV.isO, AV.isQ, List.any_cons, List.any_nil, ghost, gA, List.take_succ_cons, List.take_zero, List.drop_nil, hgh, frmA]
  · simp [leSl, intsA]
  rintro j ⟨hj, hno⟩
  refine awp_sound (own := [6, 1022, 1033]) _ _ _ _ _ ?_
  simp only [wB, awp, binC, cmpC, asB, asI, St.ev, St.step, setS, killS, AV.kill, AV.killL, Mem.kill, AV.cells, Nat.reduceAdd, Nat.reduceEqDiff, Int.reduceAdd, Int.reduceNeg, memG, Mch.ob, Mch.od, Mch.cells, rowP, rowC, rowS, stO', ghost, hgh, frmA]
  by_cases h : (j : Int) < 2
  case pos =>
    have hjl : j < ([x, y] : List Int).length := by simp; omega
    simp only [wB, awp, binC, idxC, cmpC, asP, asQ, asS, asB, asI, asN, obA, lenA, loadA, St.ev, St.step, setS, killS, AV.kill, AV.killL, Mem.kill, AV.cells, AV.flat, AV.single, Nat.reduceAdd, Nat.reduceEqDiff, Nat.reduceLeDiff, Int.reduceAdd, Int.reduceNeg, lenK, Mch.cells, List.drop_zero, List.take_succ_cons, List.take_zero, decide_eq_true h, aget_ints hjl, Int.toNat_natCast]
    refine ⟨by omega, ?_⟩
    obtain ⟨q, hq⟩ : ∃ q, q = ([x, y] : List Int)[j] := ⟨_, rfl⟩
    rw [← hq]
    by_cases hp : (t.place.length : Int) ≤ q
    · simp only [wB, awp, asN, fillA, putsA, St.ev, St.step, setS, killS, AV.kill, AV.killL, Mem.kill, AV.cells, AV.flat, AV.single, AV.cellular, Value.oneCell', Nat.reduceAdd, Nat.reduceEqDiff, Nat.reduceLeDiff, Int.reduceAdd, Int.reduceNeg, Aw.valOf, Aw.valsOf, cc139, memG, Mch.ob, Mch.od, Mch.cells, rowP, rowC, rowS, stO', decide_eq_true hp]
      have he : erS m.n m.lim m.ls t 6 x y z = 4 := by
        have hor : (t.place.length : Int) ≤ x ∨ (t.place.length : Int) ≤ y := by
          rcases (show j = 0 ∨ j = 1 by omega) with rfl | rfl
          · simp only [List.getElem_cons_zero] at hq; left; omega
          · simp only [List.getElem_cons_succ, List.getElem_cons_zero] at hq; right; omega
        simp only [erS]
        rw [if_pos hor]
      exact ⟨_, _, memG m t, _, Le.refl _, rfl, rfl, rfl, rfl, free_G _ m t, by simp [he, erV, errV], by first | (simp [he]; done) | (simp [he]; rfl)⟩
    · simp only [wB, awp, binC, arithC, cmpC, asI, St.ev, St.step, setS, killS, AV.kill, AV.killL, Mem.kill, AV.cells, Nat.reduceAdd, Nat.reduceEqDiff, Int.reduceAdd, Int.reduceNeg, isU, memG, Mch.ob, Mch.od, Mch.cells, rowP, rowC, rowS, stO', decide_eq_false hp]
      refine ⟨by unfold lim; omega, j + 1, le_sl' ?_ (by simp [leSl]), ⟨by omega, fun i hi hl => ?_⟩, by omega⟩
      · simp only [memG, memS, Mch.ob, Mch.od, Mch.cells, rowP, rowC, rowS, stO', combR, List.cons_append, List.nil_append, Option.map_some, Option.map_none, List.drop_succ_cons, List.drop_zero, prsA_sub, strsA_sub, intsA_sub, gtsA_sub, AV.sub, AV.subL, keepF, keepG, liveI, List.getElem?_cons_succ, List.getElem?_cons_zero, List.getElem?_nil, AV.isO, AV.isQ, List.any_cons, List.any_nil, ghost, gA, List.take_succ_cons, List.take_zero, List.drop_nil, hgh, frmA]
      · rcases Nat.lt_or_ge i j with h1 | h1
        · exact hno i h1 hl
        · obtain rfl : i = j := by omega
          rw [← hq]; omega
  obtain rfl : j = 2 := by omega
  have px : x < t.place.length := by have := hno 0 (by omega) (by simp); simpa using this
  have py : y < t.place.length := by have := hno 1 (by omega) (by simp); simpa using this
  clear hno
  simp only [awp, ACond_false, if_true, decide_false, Int.reduceNeg, Int.reduceLT, e2]
  refine swp_draw (own := [6]) (.take 0 .plain [] (.take 1 .reads [] (.take 2 .plain [] (.take 3 .plain [] (.take 4 .plain [] (.take 5 .plain [] (.take 6 .reads [] (.take 7 .reads [] (.take 8 .reads [] (.take 9 .plain [] (.take 10 .plain [] (.take 11 .plain [] (.take 12 .plain [] (.take 13 .reads [] (.take 14 .plain [] (.take 15 .plain [] (.done))))))))))))))))) [⟨36, 64, 0, 0, true⟩, ⟨37, 34359738368, 1, 0, true⟩, ⟨38, 68719476736, 2, 0, true⟩, ⟨39, 137438953472, 4, 0, true⟩, ⟨40, 274877906952, 8, 0, true⟩, ⟨41, 274877907008, 8, 0, true⟩, ⟨42, 1374389534720, 40, 0, true⟩, ⟨43, 3023656976384, 88, 0, true⟩, ⟨44, 4672924418048, 136, 0, true⟩, ⟨45, 274877906946, 8, 0, true⟩, ⟨46, 17867063951360, 520, 0, true⟩, ⟨47, 35459249995776, 1032, 0, true⟩, ⟨48, 70643622084608, 2056, 0, true⟩, ⟨49, 141012366262272, 4104, 0, true⟩, ⟨50, 290545947639808, 8456, 0, true⟩, ⟨51, 563224831328256, 16392, 0, true⟩] mo (by kernel_rfl) ?_
  simp only [wB, awp, binC, cmpC, asP, asQ, asB, asI, asN, obA, loadA, St.ev, St.step, setS, killS, AV.kill, AV.killL, Mem.kill, AV.cells, AV.flat, AV.single, Nat.reduceAdd, Nat.reduceEqDiff, Nat.reduceLeDiff, Int.reduceAdd, Int.reduceNeg, Int.reduceLE, Int.reduceEq, ASch, St.put, Md.mem, Md.need, Mch.cells, List.drop_succ_cons, List.drop_zero, List.take_succ_cons, List.take_zero, aget_ints g0, aget_ints g1, aget_ints g2]
  refine swp_splitF (own := [6]) (pre := #[_, _, _, _, _, _, _, _, _, _, _, _]) _ [_] rfl (.take 0 .plain [] (.take 1 .plain [] (.take 2 .plain [] (.take 3 .reads [] (.take 4 .reads [] (.take 5 .plain [] (.take 6 .reads [] (.take 7 .reads [] (.take 8 .plain [] (.take 9 .reads [] (.take 10 .reads [] (.take 11 .plain [] (.done))))))))))))) [⟨229, 1, 0, 0, true⟩, ⟨230, 2, 0, 0, true⟩, ⟨231, 8, 0, 0, true⟩, ⟨232, 1725436586697640946858688965569256363112777243042596638790631055949824, 4, 0, true⟩, ⟨233, 3450873173395281893717377931138512726225554486085193277581262111899648, 8, 0, true⟩, ⟨234, 8, 0, 0, true⟩, ⟨235, 13803492693581127574869511724554050904902217944340773110325048447598592, 32, 0, true⟩, ⟨236, 27606985387162255149739023449108101809804435888681546220650096895197184, 64, 0, true⟩, ⟨237, 8, 0, 0, true⟩, ⟨238, 110427941548649020598956093796432407239217743554726184882600387580788736, 256, 0, true⟩, ⟨239, 220855883097298041197912187592864814478435487109452369765200775161577472, 512, 0, true⟩, ⟨240, 496925736968920592695302422083945832576479845996267831971701744113549312, 1152, 0, true⟩] mo (by kernel_rfl) (by kernel_rfl) ?_
  simp only [wB, idxC, asP, asS, asI, loadA, St.ev, setS, AV.cells, AV.flat, AV.single, AV.cellular, AV.size, AV.pure, AV.pureL, Value.oneCell', Nat.reduceEqDiff, Nat.reduceMul, Nat.reduceLeDiff, Int.reduceMul, Int.reduceNeg, Int.reduceToNat, Int.reduceLE, ASch, St.put, Md.mem, Md.need, Mch.cells, List.getElem_cons_zero, List.getElem_cons_succ, aget_ints g0, aget_ints g1, aget_ints g2]
  have he : erS m.n m.lim m.ls t 6 x y z = er2 m.lim m.ls t x y z := by simp only [erS]; rw [if_neg (by omega)]
  refine ⟨⟨by decide, rfl⟩, ⟨[.bot, .bot, .bot, .bot, .bot, .bot, .bot, .bot, .bot, .bot, .bot, .bot, .bot, .bot, .bot, .bot, .bot, .bot, .bot, .bot, .bot, .bot, .bot, .bot, .bot, .bot, .bot, .bot, .bot, .bot, .bot, .bot, .bot, .bot, .bot, .bot, .bot, .bot, .bot, .bot, .bot, .bot, .bot, .bot, .bot, .bot, .bot, .bot, .bot, .bot, .bot, .bot, .bot, .bot, .bot, .bot, .bot, .bot, .bot, .bot, .bot, .bot, .bot, .bot, .bot, .bot, .bot, .bot, .bot, .bot, .bot, .bot, .bot, .bot, .bot, .bot, .bot, .bot, .bot, .bot, .bot, .bot, .bot, .bot, .bot, .bot, .bot, .bot, .bot, .bot, .bot, .bot, .bot, .bot, .bot, .bot, .bot, .bot, .bot, .bot, .bot, .bot, .bot, .bot, .bot, .bot, .bot, .bot, .bot, .bot, .bot, .bot, .bot, .bot, .bot, .bot, .bot, .bot, .bot, .bot, .bot, .bot, .bot, .bot, .bot, .bot, .bot, .bot, .bot, .bot, .bot, .bot, .bot, .bot, .bot, .bot, .bot, .bot, .bot, .bot, .bot, .bot, .bot, .bot, .bot, .bot, .bot, .bot, .bot, .bot, .bot, .bot, .bot, .bot, .bot, .bot, .bot, .bot, .bot, .bot, .bot, .bot, .bot, .bot, .bot, .bot, .bot, .bot, .bot, .bot, .bot, .bot, .bot, .bot, .bot, .bot, .bot, .bot, .bot, .bot, .bot, .bot, .bot, .bot, .bot, .bot, .bot, .bot, .bot, .bot, .bot, .bot, .bot, .bot, .bot, .bot, .bot, .bot, .bot, .bot, .bot, .bot, .bot, .bot, .bot, .bot, .bot, .bot, .bot, .bot, .bot, .bot, .bot, .bot, .bot, .bot, .bot, .bot, .bot, .bot, .bot, .bot, .bot, .bot, .bot, .bot, .bot, .bot, .q 7 6 0 0, .q 0 13 0 0, .bot, .bot, I z, .bot, .bot, .bot, .bot, .bot, .bot, .s 1 (intsA [x, y]), .bot, .bot, .bot, .bot, .bot, .bot, .bot, .bot, .bot, .bot, .bot, .bot, .bot, .bot], memG m (t) ++ [gh, some ⟨none, 112, 4, [frmA (6, 3, 2, -1)]⟩]⟩, le_sl' ?_ (by simp [leSl, intsA]), ?_⟩
  · simp only [memG, memS, Mch.ob, Mch.od, Mch.cells, rowP, rowC, rowS, stO', combR, List.cons_append, List.nil_append, Option.map_some, Option.map_none, List.drop_succ_cons, List.drop_zero, prsA_sub, strsA_sub, intsA_sub, gtsA_sub, AV.sub, AV.subL, keepF, keepG, liveI, List.getElem?_cons_succ, List.getElem?_cons_zero, List.getElem?_nil, AV.isO, AV.isQ, List.any_cons, List.any_nil, ghost, gA, List.take_succ_cons, List.take_zero, List.drop_nil, hgh, frmA]
  simp only [St.ev, AV.cells, List.getD_cons_succ, List.getD_cons_zero, List.cons_append, List.nil_append, List.map_cons, List.map_nil, Int.reduceNeg, memG, Mch.ob, Mch.od, Mch.cells, rowP, rowC, rowS, stO', List.cons_append, List.nil_append, ghost, afc, hgh, frmA]
  refine acall_f (fspec_of (m105b m t hI hc hT hls x y z ⟨hx.1, px⟩ ⟨hy.1, py⟩) [1, 3, 8, 9] rfl (by exact ⟨rfl, rfl, rfl, rfl, rfl, rfl, trivial⟩) rfl rfl (free_GZ _ _ _ (by decide)) (N := memG m ((if er2 m.lim m.ls t x y z = 0 then nx2 t x y z else t)) ++ [gh, some ⟨none, 112, 4, [frmA (6, 3, 2, -1)]⟩]) ?_) ?_
  · simp only [memG, memS, Mch.ob, Mch.od, Mch.cells, rowP, rowC, rowS, stO', combR, List.cons_append, List.nil_append, Option.map_some, Option.map_none, List.drop_succ_cons, List.drop_zero, prsA_sub, strsA_sub, intsA_sub, gtsA_sub, AV.sub, AV.subL, keepF, keepG, liveI, List.getElem?_cons_succ, List.getElem?_cons_zero, List.getElem?_nil, AV.isO, AV.isQ, List.any_cons, List.any_nil, ghost, gA, List.take_succ_cons, List.take_zero, List.drop_nil, hgh, frmA]
    rfl
  rw [he]
  obtain ⟨t', ht'⟩ : ∃ t', t' = if er2 m.lim m.ls t x y z = 0 then nx2 t x y z else t := ⟨_, rfl⟩
  have hn : (if er2 m.lim m.ls t x y z = 0 then nxS t 6 x y z else t) = t' := ht'.symm
  rw [← ht']
  simp only [wB, awp, asN, St.ev, St.step, setS, killS, AV.kill, AV.killL, Mem.kill, AV.cells, Nat.reduceEqDiff, Int.reduceNeg, memG, Mch.ob, Mch.od, Mch.cells, rowP, rowC, rowS, stO', AV.sub, keepG, liveI, AV.isQ, List.any_cons, List.any_nil, ghost, hgh, frmA, hn]
  exact ⟨_, _, memG m t', _, Le.refl _, rfl, rfl, erV_free _ _, rfl, free_G _ m _, rfl, rfl⟩
end Go.Proofs.YtndniceeibflcaaGreatDoor

namespace Go.Proofs.YtndniceeibflcaaGreatDoor
open Aw Mp Go.RowKit
set_option linter.unusedSimpArgs false
set_option maxRecDepth 8000

theorem m73_1 (m : Mch) (t : MS) {c : Nat} (hI : InvS m.n c t) (hc : c ≤ 1000) (hT : vT m.n m.ls = 0) (hls : m.ls.length ≤ 1000000) (x : Int) (hx : 0 ≤ x ∧ x ≤ 99) (y : Int) (hy : 0 ≤ y ∧ y ≤ 99) :
    MSpec Tryz.prog 73 [.q 7 6 0 0, .q 0 13 0 0, frmA (1, 2, 1, 1), .s 1 (intsA [x, y])] (memG m t) (fun r N => r = erV (erS m.n m.lim m.ls t 1 x y 0) ∧ N = memG m (if erS m.n m.lim m.ls t 1 x y 0 = 0 then nxS t 1 x y 0 else t)) := by
  refine mspec_of2 (own := [6, 1022, 1033]) Tryz.func73 rfl ok73 ?_
  intro vs
  have hp4 := hI.p4
  have hhl := hI.hl
  have e0 : ((0 : Nat) : Int) = 0 := rfl
  have e1 : ((1 : Nat) : Int) = 1 := rfl
  have e2 : ((2 : Nat) : Int) = 2 := rfl
  have e3 : ((3 : Nat) : Int) = 3 := rfl
  have g0 : 0 < [x, y].length := by simp
  have g1 : 1 < [x, y].length := by simp
  obtain ⟨gh, hgh⟩ : ∃ gh, gh = some (ghost vs [AV.q 7 6 0 0, AV.q 0 13 0 0, frmA (1, 2, 1, 1), AV.s 1 (intsA [x, y])]) := ⟨_, rfl⟩
  simp only [wB, awp, asP, asQ, asS, asN, obA, bndA, lenA, loadA, Aw.newRow, St.ev, St.step, setS, killS, AV.kill, AV.killL, Mem.kill, AV.cells, AV.flat, AV.single, AV.cellular, AV.size, AV.sizeL, Nat.reduceAdd, Nat.reduceEqDiff, Nat.reduceSub, Nat.reduceLeDiff, Int.reduceAdd, Int.reduceSub, Int.reduceLE, lenK, Tryz.ntmps73, memG, Mch.ob, Mch.od, Mch.cells, rowP, rowC, rowS, stO', List.drop_succ_cons, List.drop_zero, ghost, List.take_succ_cons, List.take_zero, e2, frmA, ← hgh]
  refine swp_loop' (fun j : Nat => ⟨[.q 7 6 0 0, .q 0 13 0 0, .bot, .s 1 (intsA [x, y]), .bot, .bot, .q 9 4 0 0, .bot, .v .nilIface, .bot, .bot, .bot, .bot, .bot, .bot, .bot, .bot, .bot, .bot, .s 1 (intsA [x]), I 1, I j, .bot, .bot, .bot, .bot, .bot, .bot, .bot, .bot, .bot, .bot, .bot, .bot, .bot, .bot, .bot, .bot, .bot, .bot, .bot, .bot, .bot, .bot, .bot, .bot, .bot, .bot, .bot, .bot, .bot, .bot, .bot, .bot, .bot, .bot, .bot, .bot, .bot, .bot, .bot, .bot, .bot, .bot, .bot, .bot, .bot, .bot, .bot, .bot, .bot, .bot, .bot, .bot, .bot, .bot, .bot, .bot, .bot, .bot, .bot, .bot, .bot, .bot, .bot, .bot, .bot, .bot, .bot, .bot, .bot, .bot, .bot, .bot, .bot, .bot, .bot, .bot, .bot, .bot, .bot, .bot, .bot, .bot, .bot, .bot, .bot, .bot, .bot, .bot, .bot, .bot, .bot, .bot, .bot, .bot, .bot, .bot, .bot, .bot, .bot, .bot, .bot, .bot, .bot, .bot, .bot, .bot, .bot, .bot, .bot, .bot, .bot, .bot, .bot, .bot, .bot, .bot, .bot, .bot, .bot, .bot, .bot, .bot, .bot, .bot, .bot, .bot, .bot, .bot, .bot, .bot, .bot, .bot, .bot, .bot, .bot, .bot, .bot, .bot, .bot, .bot, .bot, .bot, .bot, .bot, .bot, .bot, .bot, .bot, .bot, .bot, .bot, .bot, .bot, .bot, .bot, .bot, .bot, .bot, .bot, .bot, .bot, .bot, .bot, .bot, .bot, .bot, .bot, .bot, .bot, .bot, .bot, .bot, .bot, .bot, .bot, .bot, .bot, .bot, .bot, .bot, .bot, .bot, .bot, .bot, .bot, .bot, .bot, .bot, .bot, .bot, .bot, .bot, .bot, .bot, .bot, .bot, .bot, .bot, .bot, .bot, .bot, .bot, .bot, .bot, .bot, .bot, .bot, .bot, .bot, .bot, .bot, .bot, .bot, .bot, .bot, .bot, .bot, .bot, .bot, .bot, .bot, .bot, .bot, .bot, .bot, .bot, .bot, .bot, .bot, .bot, .bot, .bot], memG m t ++ [gh, some ⟨none, 112, 4, [frmA (1, 2, 1, 1)]⟩]⟩) (fun j => j ≤ 1 ∧ ∀ i, i < j → ∀ h : i < ([x] : List Int).length, ([x] : List Int)[i] < t.place.length) (fun j => 1 - j) 0 (le_sl' ?_ ?_) ⟨Nat.zero_le _, fun i h => absurd h (Nat.not_lt_zero _)⟩ ?_
  · simp only [memG, memS, Mch.ob, Mch.od, Mch.cells, rowP, rowC, rowS, stO', combR, List.cons_append, List.nil_append, Option.map_some, Option.map_none, List.drop_succ_cons, List.drop_zero, prsA_sub, strsA_sub, intsA_sub, gtsA_sub, AV.sub, AV.subL, keepF, keepG, liveI, List.getElem?_cons_succ, List.getElem?_cons_zero, List.getElem?_nil, AV.isO, AV.isQ, List.any_cons, List.any_nil, ghost, gA, List.take_succ_cons, List.take_zero, List.drop_nil, hgh, frmA]
  · simp [leSl, intsA]
  rintro j ⟨hj, hno⟩
  refine awp_sound (own := [6, 1022, 1033]) _ _ _ _ _ ?_
  simp only [wB, awp, binC, cmpC, asB, asI, St.ev, St.step, setS, killS, AV.kill, AV.killL, Mem.kill, AV.cells, Nat.reduceAdd, Nat.reduceEqDiff, Int.reduceAdd, memG, Mch.ob, Mch.od, Mch.cells, rowP, rowC, rowS, stO', ghost, hgh, frmA]
  by_cases h : (j : Int) < 1
  case pos =>
    have hjl : j < ([x] : List Int).length := by simp; omega
    simp only [wB, awp, binC, idxC, cmpC, asP, asQ, asS, asB, asI, asN, obA, lenA, loadA, St.ev, St.step, setS, killS, AV.kill, AV.killL, Mem.kill, AV.cells, AV.flat, AV.single, Nat.reduceAdd, Nat.reduceEqDiff, Nat.reduceLeDiff, Int.reduceAdd, lenK, Mch.cells, List.drop_zero, List.take_succ_cons, List.take_zero, decide_eq_true h, aget_ints hjl, Int.toNat_natCast]
    refine ⟨by omega, ?_⟩
    obtain ⟨q, hq⟩ : ∃ q, q = ([x] : List Int)[j] := ⟨_, rfl⟩
    rw [← hq]
    by_cases hp : (t.place.length : Int) ≤ q
    · simp only [wB, awp, asN, fillA, putsA, St.ev, St.step, setS, killS, AV.kill, AV.killL, Mem.kill, AV.cells, AV.flat, AV.single, AV.cellular, Value.oneCell', Nat.reduceAdd, Nat.reduceEqDiff, Nat.reduceLeDiff, Int.reduceAdd, Aw.valOf, Aw.valsOf, cc139, memG, Mch.ob, Mch.od, Mch.cells, rowP, rowC, rowS, stO', decide_eq_true hp]
      have he : erS m.n m.lim m.ls t 1 x y 0 = 4 := by
        obtain rfl : j = 0 := by omega
        simp only [List.getElem_cons_zero] at hq
        subst hq
        simp only [erS]
        rw [if_pos hp]
      exact ⟨_, _, memG m t, _, Le.refl _, rfl, rfl, rfl, rfl, free_G _ m t, by simp [he, erV, errV], by first | (simp [he]; done) | (simp [he]; rfl)⟩
    · simp only [wB, awp, binC, arithC, cmpC, asI, St.ev, St.step, setS, killS, AV.kill, AV.killL, Mem.kill, AV.cells, Nat.reduceAdd, Nat.reduceEqDiff, Int.reduceAdd, isU, memG, Mch.ob, Mch.od, Mch.cells, rowP, rowC, rowS, stO', decide_eq_false hp]
      refine ⟨by unfold lim; omega, j + 1, le_sl' ?_ (by simp [leSl]), ⟨by omega, fun i hi hl => ?_⟩, by omega⟩
      · simp only [memG, memS, Mch.ob, Mch.od, Mch.cells, rowP, rowC, rowS, stO', combR, List.cons_append, List.nil_append, Option.map_some, Option.map_none, List.drop_succ_cons, List.drop_zero, prsA_sub, strsA_sub, intsA_sub, gtsA_sub, AV.sub, AV.subL, keepF, keepG, liveI, List.getElem?_cons_succ, List.getElem?_cons_zero, List.getElem?_nil, AV.isO, AV.isQ, List.any_cons, List.any_nil, ghost, gA, List.take_succ_cons, List.take_zero, List.drop_nil, hgh, frmA]
      · rcases Nat.lt_or_ge i j with h1 | h1
        · exact hno i h1 hl
        · obtain rfl : i = j := by omega
          rw [← hq]; omega
  obtain rfl : j = 1 := by omega
  have px : x < t.place.length := by have := hno 0 (by omega) (by simp); simpa using this
  clear hno
  simp only [awp, ACond_false, if_true, decide_false, Int.reduceLT, e1]
  refine swp_draw (own := [6]) (.take 0 .plain [] (.take 1 .reads [] (.take 2 .plain [] (.take 3 .plain [] (.take 4 .plain [] (.take 5 .plain [] (.take 6 .reads [] (.take 7 .reads [] (.take 8 .reads [] (.take 9 .plain [] (.take 10 .plain [] (.take 11 .plain [] (.take 12 .plain [] (.take 13 .reads [] (.take 14 .plain [] (.take 15 .plain [] (.done))))))))))))))))) [⟨36, 64, 0, 0, true⟩, ⟨37, 34359738368, 1, 0, true⟩, ⟨38, 68719476736, 2, 0, true⟩, ⟨39, 137438953472, 4, 0, true⟩, ⟨40, 274877906952, 8, 0, true⟩, ⟨41, 274877907008, 8, 0, true⟩, ⟨42, 1374389534720, 40, 0, true⟩, ⟨43, 3023656976384, 88, 0, true⟩, ⟨44, 4672924418048, 136, 0, true⟩, ⟨45, 274877906946, 8, 0, true⟩, ⟨46, 17867063951360, 520, 0, true⟩, ⟨47, 35459249995776, 1032, 0, true⟩, ⟨48, 70643622084608, 2056, 0, true⟩, ⟨49, 141012366262272, 4104, 0, true⟩, ⟨50, 290545947639808, 8456, 0, true⟩, ⟨51, 563224831328256, 16392, 0, true⟩] mo (by kernel_rfl) ?_
  simp only [wB, awp, binC, idxC, cmpC, asP, asQ, asS, asB, asI, obA, loadA, St.ev, setS, AV.cells, AV.flat, AV.single, Nat.reduceAdd, Nat.reduceEqDiff, Nat.reduceLeDiff, Int.reduceAdd, Int.reduceLE, ASch, St.put, Md.mem, Md.need, Mch.cells, List.drop_succ_cons, List.drop_zero, List.take_succ_cons, List.take_zero, List.getElem_cons_zero, List.getElem_cons_succ, aget_ints g0, aget_ints g1]
  by_cases hz : m.n ≤ y
  · simp only [wB, awp, asN, fillA, putsA, St.ev, St.step, setS, killS, AV.kill, AV.killL, Mem.kill, AV.cells, AV.flat, AV.single, AV.cellular, Value.oneCell', Nat.reduceAdd, Nat.reduceEqDiff, Nat.reduceLeDiff, Int.reduceAdd, St.put, Aw.valOf, Aw.valsOf, cc139, memG, Mch.ob, Mch.od, Mch.cells, rowP, rowC, rowS, stO', decide_eq_true hz]
    have he : erS m.n m.lim m.ls t 1 x y 0 = 4 := by simp only [erS]; rw [if_neg (by omega), if_pos hz]
    exact ⟨_, _, memG m t, _, Le.refl _, rfl, rfl, rfl, rfl, free_G _ m t, by simp [he, erV, errV], by first | (simp [he]; done) | (simp [he]; rfl)⟩
  simp only [wB, awp, binC, cmpC, asP, asQ, asB, asI, asN, obA, loadA, St.ev, St.step, setS, killS, AV.kill, AV.killL, Mem.kill, AV.cells, AV.flat, AV.single, Nat.reduceAdd, Nat.reduceEqDiff, Nat.reduceLeDiff, Int.reduceAdd, Int.reduceEq, St.put, Mch.cells, List.drop_zero, List.take_succ_cons, List.take_zero, decide_eq_false hz]
  have hxp : x.toNat < t.place.length := by omega
  have hxl : x.toNat < t.heats.length := by omega
  refine swp_draw (own := [6]) (.take 0 .plain [] (.take 1 .plain [] (.take 2 .plain [] (.take 3 .reads [] (.take 4 .plain [] (.take 5 .plain [] (.take 6 .plain [] (.take 7 .reads [] (.take 8 .plain [] (.take 9 .reads [] (.take 10 .reads [] (.take 11 .reads [] (.take 12 .reads [] (.alt 13 (.take 14 .plain [] (.take 15 .plain [] (.take 16 .plain [] (.take 17 .plain [] (.take 18 .plain [] (.done)))))) (.nil))))))))))))))) [⟨103, 2, 0, 0, true⟩, ⟨104, 5070602400912917605986812821504, 1, 0, true⟩, ⟨105, 10141204801825835211973625643008, 2, 0, true⟩, ⟨106, 20282409603651670423947251286016, 4, 0, true⟩, ⟨107, 1, 0, 0, true⟩, ⟨108, 81129638414606681695789005144064, 16, 0, true⟩, ⟨109, 162259276829213363391578010288128, 32, 0, true⟩, ⟨110, 324518553658426726783156020576256, 64, 0, true⟩, ⟨111, 8, 0, 0, true⟩, ⟨112, 1298074214633706907132624082305024, 256, 0, true⟩, ⟨113, 2596148429267413814265248164610048, 512, 0, true⟩, ⟨114, 5841333965851681082096808370372608, 1152, 0, true⟩, ⟨115, 10384593717069655257060992658440192, 2048, 0, true⟩, ⟨116, 20809752253346613854969879819452416, 4104, 0, false⟩, ⟨102, 41538374868278621028243970633760768, 8192, 0, true⟩, ⟨117, 2535301200456458802993406410752, 16384, 0, true⟩, ⟨118, 2535301200456458802993406410752, 16384, 0, true⟩, ⟨13, 83076749736557242056487941267521536, 65535, 0, true⟩, ⟨14, 166153499473114484112975882535043072, 262143, 0, true⟩] mo (by kernel_rfl) ?_
  simp only [wB, idxC, asP, asQ, asO, asS, asI, obA, loadA, St.ev, setS, AV.cells, AV.flat, AV.single, Nat.reduceAdd, Nat.reduceEqDiff, Nat.reduceLeDiff, Int.reduceAdd, Int.reduceLE, ASch, St.put, Md.mem, Md.need, Mch.cells, List.drop_succ_cons, List.drop_zero, List.take_succ_cons, List.take_zero, List.getElem_cons_zero, aget_ints g0, aget_ints g1, aget_ints hxp]
  have hpx := hI.pin _ (List.getElem_mem hxp)
  have n3 := s103 m.n m.ls t.place[x.toNat] hls
  rw [if_neg (by rw [hT]; simp), if_pos hpx] at n3
  refine ⟨⟨hx.1, by omega⟩, acall_v n3 (by simp [AV.pureL, AV.pure, prsA_pure]) (by simp [AV.pure, AV.pureL, intsA_pure]) ?_⟩
  simp only [wB, awp, asT, asN, St.ev, St.step, setS, killS, AV.kill, AV.killL, Mem.kill, Nat.reduceEqDiff, ASch, St.put, Md.mem, Md.need]
  have hul := upL_len m.n.toNat (lnk m.ls t.place[x.toNat])
  have hn6 : m.n ≤ 6 := by
    unfold vT at hT
    split at hT
    · cases hT
    · omega
  refine swp_draw (own := [6]) (.take 0 .plain [] (.take 1 .plain [] (.take 2 .reads [] (.take 3 .reads [] (.take 7 .plain [] (.take 8 .plain [] (.take 9 .plain [] (.take 10 .reads [] (.take 11 .plain [] (.take 12 .reads [] (.take 13 .reads [] (.alt 4 (.take 5 .plain [] (.take 6 .plain [] (.alt 14 (.take 15 .plain [] (.take 16 .plain [] (.alt 17 (.take 18 .plain [] (.done)) (.nil)))) (.nil)))) (.nil))))))))))))) [⟨119, 4096, 0, 0, true⟩, ⟨120, 8, 0, 0, true⟩, ⟨121, 664613997892457936451903530140172288, 2, 0, true⟩, ⟨122, 1329227995784915872903807060280344576, 4, 0, true⟩, ⟨123, 2990762990516060714033565885630775296, 9, 0, false⟩, ⟨124, 5316911983139663491615228241121378304, 16, 0, true⟩, ⟨125, 10633823966279326983230456482242756608, 32, 0, true⟩, ⟨126, 1, 0, 0, true⟩, ⟨127, 42535295865117307932921825928971026432, 128, 0, true⟩, ⟨128, 85070591730234615865843651857942052864, 256, 0, true⟩, ⟨129, 170141183460469231731687303715884105728, 512, 0, true⟩, ⟨130, 8, 0, 0, true⟩, ⟨131, 680564733841876926926749214863536422912, 2048, 0, true⟩, ⟨132, 1361129467683753853853498429727072845824, 4096, 0, true⟩, ⟨133, 3062541302288446171170371466885913903104, 9232, 0, false⟩, ⟨134, 5444517870735015415413993718908291383296, 16384, 0, true⟩, ⟨135, 10910303389402589484794448350781068279808, 32832, 0, true⟩, ⟨136, 21778071482940061661655974875633165533184, 81920, 0, false⟩, ⟨15, 43556142965880123323311949751266331066368, 262143, 0, true⟩] mo (by kernel_rfl) ?_
  simp only [wB, idxC, asP, asQ, asS, asI, obA, loadA, St.ev, setS, AV.cells, AV.flat, AV.single, Nat.reduceAdd, Nat.reduceEqDiff, Nat.reduceLeDiff, Int.reduceAdd, Int.reduceLE, ASch, St.put, Md.mem, Md.need, Mch.cells, List.drop_zero, List.take_succ_cons, List.take_zero, List.getElem_cons_zero, List.getElem_cons_succ, aget_ints g0, aget_ints g1]
  refine acall_v (s102 _ y (by omega)) (by simp [AV.pureL, AV.pure, intsA_pure]) rfl ?_
  rw [mem_up hy.1 (by omega)]
  simp only [wB, asB, fillA, putsA, St.ev, St.step, setS, killS, AV.kill, AV.killL, Mem.kill, AV.cells, AV.flat, AV.single, AV.cellular, Value.oneCell', Nat.reduceAdd, Nat.reduceLeDiff, Int.reduceAdd, ASch, St.put, Md.mem, Md.need, Mch.cells, aget_ints g0, aget_ints g1]
  refine acall_ln 0 (s102 t.place y (by omega)) (by simp [frzN, frz, AV.sub, intsA_pure]) rfl rfl ?_
  simp only [wB, fillA, putsA, St.ev, St.step, setS, killS, AV.kill, AV.killL, Mem.kill, AV.cells, AV.flat, AV.single, AV.cellular, AV.size, AV.sizeL, AV.pure, AV.pureL, Value.oneCell', Nat.reduceAdd, Nat.reduceEqDiff, Nat.reduceMul, Nat.reduceLeDiff, Int.reduceAdd, Int.reduceMul, ASch, St.put, Md.mem, Md.need, Mch.cells, aget_ints g0, aget_ints g1]
  refine ⟨⟨by decide, rfl⟩, acall_v (s101 [(!lnk m.ls t.place[x.toNat] y, 8), (memL t.place y, 6)] (Nat.le_of_ble_eq_true rfl)) rfl (fstE_pure _) ?_⟩
  have he : erS m.n m.lim m.ls t 1 x y 0 = if (!lnk m.ls t.place[x.toNat] y) = true then 8 else if memL t.place y = true then 6 else 0 := by
    simp only [erS, memL_eq]
    rw [if_neg (by omega), if_neg hz, getD_eq hxp]
    simp only [Bool.not_eq_true']
  rw [fst2 _ _ 8 6 (by decide) (by decide), ← he]
  by_cases c5 : erS m.n m.lim m.ls t 1 x y 0 = 0
  case neg =>
    simp only [wB, awp, binC, eqC, asG, asB, asI, asN, St.ev, St.step, setS, killS, AV.kill, AV.killL, Mem.kill, AV.cells, Nat.reduceAdd, Nat.reduceEqDiff, Int.reduceAdd, ASch, St.put, Md.mem, Md.need, isNI, ptrN, ifcN, asStr, nt114, memG, Mch.ob, Mch.od, Mch.cells, rowP, rowC, rowS, stO', erV, if_neg c5, errV]
    exact ⟨_, _, memG m t, _, Le.refl _, rfl, rfl, rfl, rfl, free_G _ m t, by first | rfl | simp [c5], by first | rfl | simp [c5]⟩
  simp only [wB, awp, binC, eqC, asG, asB, asI, asN, St.ev, St.step, setS, killS, AV.kill, AV.killL, Mem.kill, Nat.reduceAdd, Nat.reduceEqDiff, Int.reduceAdd, ASch, St.put, Md.mem, Md.need, isNI, ptrN, ifcN, asStr, nt114, erV, if_pos c5, errV]
  have hst : (intsA t.place)[x.toNat]? = some (I t.place[x.toNat]) := by simp [intsA, hxp]
  refine swp_draw (own := [6]) (.take 0 .plain [] (.take 1 .plain [] (.take 2 .plain [] (.take 3 .reads [] (.take 4 .plain [] (.take 5 .reads [] (.take 6 .reads [] (.take 7 .plain [] (.take 8 .reads [] (.take 9 .reads [] (.take 10 .reads [] (.alt 11 (.done) (.nil))))))))))))) [⟨140, 1, 0, 0, true⟩, ⟨141, 696898287454081973172991196020261297061888, 1, 0, true⟩, ⟨142, 1393796574908163946345982392040522594123776, 2, 0, true⟩, ⟨143, 2787593149816327892691964784081045188247552, 4, 0, true⟩, ⟨144, 8, 0, 0, true⟩, ⟨145, 11150372599265311570767859136324180752990208, 16, 0, true⟩, ⟨146, 22300745198530623141535718272648361505980416, 32, 0, true⟩, ⟨147, 8, 0, 0, true⟩, ⟨148, 89202980794122492566142873090593446023921664, 128, 0, true⟩, ⟨149, 178405961588244985132285746181186892047843328, 256, 0, true⟩, ⟨150, 50176676696693902068455366113458813388455936, 1023, 0, true⟩, ⟨0, 1070435769529469910793714477087121352287059968, 2047, 1, false⟩] mo (by kernel_rfl) ?_
  simp only [wB, awp, idxC, asP, asQ, asO, asS, asI, obA, loadA, storeA, putsA, St.ev, St.step, setS, killS, AV.kill, AV.killL, Mem.kill, AV.cells, AV.flat, AV.single, AV.cellular, Value.oneCell', Nat.reduceAdd, Nat.reduceEqDiff, Nat.reduceLeDiff, Int.reduceAdd, Int.reduceLE, ASch, St.put, Md.mem, Md.need, Mch.cells, List.drop_zero, List.take_succ_cons, List.take_zero, List.getElem_cons_zero, List.getElem_cons_succ, aget_ints g0, aget_ints g1, intsA_set', aget_ints hxp]
  refine ⟨⟨hx.1, by omega⟩, ?_⟩
  refine swp_fm (own := [6]) 4 rfl rfl rfl ?_
  simp only [wB, idxC, asP, asS, asI, loadA, St.ev, St.step, setS, killS, AV.kill, AV.killL, Mem.kill, AV.cells, AV.flat, AV.single, Int.reduceLE, Mch.cells, List.take_succ_cons, List.take_zero, List.getElem_cons_zero, aget_ints g0, aget_ints g1]
  have hmv := hI.mv
  refine acall_f (fspec_of (m104i { t with place := t.place.set x.toNat y } x ⟨hx.1, by simp only; rw [hhl]; exact px⟩ 3 (by omega) hI.hin) [0, 1, 2, 3, 8, 9] rfl (by exact ⟨rfl, rfl, rfl, rfl, trivial⟩) rfl rfl (free_S _ _ (by decide)) (N := memG m ({ t with place := t.place.set x.toNat y, heats := bump t.heats x.toNat 3 }) ++ [gh, some ⟨none, 112, 4, [frmA (1, 2, 1, 1)]⟩]) ?_) ?_
  · simp only [memG, memS, Mch.ob, Mch.od, Mch.cells, rowP, rowC, rowS, stO', combR, List.cons_append, List.nil_append, Option.map_some, Option.map_none, List.drop_succ_cons, List.drop_zero, prsA_sub, strsA_sub, intsA_sub, gtsA_sub, AV.sub, AV.subL, keepF, keepG, liveI, List.getElem?_cons_succ, List.getElem?_cons_zero, List.getElem?_nil, AV.isO, AV.isQ, List.any_cons, List.any_nil, ghost, gA, List.take_succ_cons, List.take_zero, List.drop_nil, hgh, frmA]
    rfl
  simp only [wB, awp, binC, arithC, cmpC, asP, asQ, asI, asN, obA, loadA, storeA, putsA, St.ev, St.step, setS, killS, AV.kill, AV.killL, Mem.kill, AV.cells, AV.flat, AV.single, AV.cellular, Value.oneCell', Nat.reduceAdd, Nat.reduceEqDiff, Nat.reduceLeDiff, Int.reduceAdd, isU, memG, memS, Mch.ob, Mch.od, Mch.cells, rowP, rowC, rowS, stO', List.drop_succ_cons, List.drop_zero, AV.sub, AV.subL, keepF, keepG, liveI, AV.isO, AV.isQ, List.any_cons, List.any_nil, ghost, List.take_succ_cons, List.take_zero, List.drop_nil, hgh, frmA]
  have he : erS m.n m.lim m.ls t 1 x y 0 = 0 := c5
  refine ⟨by unfold lim; omega, ?_⟩
  exact ⟨_, _, memG m (nxS t 1 x y 0), _, Le.refl _, rfl, rfl, rfl, rfl, free_G _ m _, by simp [he, erV], by rw [if_pos he]; rfl⟩
end Go.Proofs.YtndniceeibflcaaGreatDoor

namespace Go.Proofs.YtndniceeibflcaaGreatDoor
open Aw Mp Go.RowKit
set_option linter.unusedSimpArgs false

theorem m73 (m : Mch) (t : MS) {c : Nat} (hI : InvS m.n c t) (hc : c ≤ 1000) (hT : vT m.n m.ls = 0) (hls : m.ls.length ≤ 1000000) {o : By} {k : Nat} {a : List Int} (hp : prs o = some (k, a)) :
    MSpec Tryz.prog 73 [.q 7 6 0 0, .q 0 13 0 0, frmA (frmL.getD k (0, 0, 0, 0)), .s 1 (intsA a)] (memG m t) (fun r N => r = erV (erS m.n m.lim m.ls t k (nth a 0) (nth a 1) (nth a 2)) ∧ N = memG m (if erS m.n m.lim m.ls t k (nth a 0) (nth a 1) (nth a 2) = 0 then nxS t k (nth a 0) (nth a 1) (nth a 2) else t)) := by
  obtain ⟨hk, hl, hb⟩ := prs_len hp
  clear hp
  match k, hk, a, hl, hb with
  | 0, _, [x], _, hb => exact m73_0 m t hI hc hT hls x (hb x (by simp))
  | 1, _, [x, y], _, hb => exact m73_1 m t hI hc hT hls x (hb x (by simp)) y (hb y (by simp))
  | 2, _, [x], _, hb => exact m73_2 m t hI hc hT hls x (hb x (by simp))
  | 3, _, [x], _, hb => exact m73_3 m t hI hc hT hls x (hb x (by simp))
  | 4, _, [x, y], _, hb => exact m73_4 m t hI hc hT hls x (hb x (by simp)) y (hb y (by simp))
  | 5, _, [x, y], _, hb => exact m73_5 m t hI hc hT hls x (hb x (by simp)) y (hb y (by simp))
  | 6, _, [x, y, z], _, hb => exact m73_6 m t hI hc hT hls x (hb x (by simp)) y (hb y (by simp)) z (hb z (by simp))
  | 7, _, [], _, hb => exact m73_7 m t hI hc hT hls
theorem intsA_smap (F : Nat → AV) (G : Nat → Nat → Nat → Nat → AV) (l : List Int) : List.map (AV.sub F G) (intsA l) = intsA l := by rw [← AV.subL_map]; exact intsA_sub F G l
theorem gtsA_smap (F : Nat → AV) (G : Nat → Nat → Nat → Nat → AV) (l : List G4) : List.map (AV.sub F G) (gtsA l) = gtsA l := by rw [← AV.subL_map]; exact gtsA_sub F G l
end Go.Proofs.YtndniceeibflcaaGreatDoor

namespace Go.Proofs.YtndniceeibflcaaGreatDoor
open Aw Mp Go.RowKit
set_option linter.unusedSimpArgs false

theorem spl_mem (d : UInt8) : ∀ (l : By) (c : UInt8), c ∈ l → c ≠ d → ∃ w ∈ splB d l, c ∈ w
  | b :: l, c, hm, hc => by
    unfold splB
    rcases List.mem_cons.1 hm with rfl | hm
    · rw [if_neg hc]
      split
      · exact ⟨_, List.mem_cons_self .., List.mem_cons_self ..⟩
      · exact ⟨_, List.mem_cons_self .., List.mem_cons_self ..⟩
    · obtain ⟨w, hw, hcw⟩ := spl_mem d l c hm hc
      split
      · exact ⟨w, by simp [hw], hcw⟩
      · split
        · rename_i x r hx
          rw [hx] at hw
          rcases List.mem_cons.1 hw with rfl | hw
          · exact ⟨_, List.mem_cons_self .., List.mem_cons_of_mem _ hcw⟩
          · exact ⟨w, by simp [hw], hcw⟩
        · rename_i hx
          rw [hx] at hw
          cases hw
theorem nameL_no : ∀ w ∈ nameL, (10 : UInt8) ∉ w := by decide
theorem prs_ord {o : By} {k : Nat} {a : List Int} (h : prs o = some (k, a)) : ordB o = true := by
  obtain ⟨h1, h2, h3, _⟩ := prs_some h
  obtain ⟨h4, h5, _⟩ := kind_some h2
  rw [ordB_iff]
  refine ⟨h1.1, h1.2, fun hm => ?_⟩
  obtain ⟨w, hw, hc⟩ := spl_mem 32 o 10 hm (by decide)
  cases hs : splB 32 o with
  | nil => exact absurd hs (splB_ne 32 o)
  | cons x r =>
    rw [hs] at hw h5 h3
    rcases List.mem_cons.1 hw with rfl | hw
    · simp only [List.headD_cons] at h5
      have h8 : k < nameL.length := h4
      rw [List.getD_eq_getElem?_getD, List.getElem?_eq_getElem h8] at h5
      exact nameL_no _ (List.getElem_mem h8) (by rw [Option.getD_some] at h5; rw [← h5]; exact hc)
    · have := h3 w (by simpa using hw)
      rcases num_some w with h6 | ⟨n, h6, h7, h8⟩
      · omega
      · rw [← h8] at hc
        have := (itoa_digit (by omega) _ hc).1
        simp at this
theorem Acc.ords {n lim : Int} {ls : List (Int × Int)} {l : List By} (h : Acc n lim ls l) : ∀ o ∈ l, ordB o = true := by
  induction h with
  | nil => simp
  | snoc h he ih =>
    rename_i l o
    intro q hq
    rcases List.mem_append.1 hq with hq | hq
    · exact ih q hq
    · rw [List.mem_singleton.1 hq]
      unfold erO at he
      cases hp : prs o with
      | none => rw [hp] at he; cases he
      | some ka => exact prs_ord hp
end Go.Proofs.YtndniceeibflcaaGreatDoor

namespace Go.Proofs.YtndniceeibflcaaGreatDoor
open Go.RowKit Go.Extern.Stop Go.Stop Go.Extern
set_option linter.unusedSimpArgs false

theorem aw_valueOf27 (t : Addr) (w : World) : (ReflectliteValue.unpack (.iface 147 (.pointer (some t)))).run Tryz.prog w
    = .ok (.agg #[.pointer (some ⟨9, 147, none⟩), .pointer (some ⟨w.heap.size, 0, none⟩), .int .u64 150]) (w.alloc (.cells #[.pointer (some t)] 147)) := by kernel_rfl
theorem aw_type27 (a : Addr) (w : World) : (ReflectliteValue.methodAny (ReflectliteValue.valueError "reflectlite.Value.Type" 0) (fun t _ _ _ => ReflectliteType.toType t) #[.agg #[.pointer (some ⟨9, 147, none⟩), .pointer (some a), .int .u64 150]]).run Tryz.prog w
    = .ok (.iface 226 (.agg #[.pointer (some ⟨9, 147, none⟩)])) w := by kernel_rfl
theorem aw_methodKind (k : Nat) (h : Value) (w : World) : (Go.method (k + 1) 226 (.agg #[h]) "Kind").run Tryz.prog w = .ok (226, h) w := by kernel_rfl
theorem aw_kind27 (w : World) : ((ReflectliteType.abiMethod fun t => (fun a : Nat => Value.int IntKind.u8 (a : Int)) <$> Rtype.kind t) #[.pointer (some ⟨9, 147, none⟩)]).run Tryz.prog w = .ok (.int .u8 22) w := by kernel_rfl
theorem aw_kind25 (w : World) : ((ReflectliteType.abiMethod fun t => (fun a : Nat => Value.int IntKind.u8 (a : Int)) <$> Rtype.kind t) #[.pointer (some ⟨9, 139, none⟩)]).run Tryz.prog w = .ok (.int .u8 25) w := by kernel_rfl


theorem rlm (z : Sem Value) (f : TypeId → Addr → Nat → Nat → Sem Value) (v : Value) :
    ReflectliteValue.method z f #[v] = (do match ← ReflectliteValue.parts v with | none => z | some (t, a, fl) => f t a fl (fl % 32)) := rfl
theorem aw_parts27 (a : Addr) (w : World) : (ReflectliteValue.parts (.agg #[.pointer (some ⟨9, 147, none⟩), .pointer (some a), .int .u64 150])).run Tryz.prog w = .ok (some (147, a, 150)) w := by kernel_rfl
theorem aw_isNil27 (a p : Addr) (W : World) (ha : W.cell? a = some (.pointer (some p))) :
    (ReflectliteValue.method (ReflectliteValue.valueError "reflectlite.Value.IsNil" 0) ReflectliteValue.isNil #[.agg #[.pointer (some ⟨9, 147, none⟩), .pointer (some a), .int .u64 150]]).run Tryz.prog W = .ok (.bool false) W := by
  rw [rlm]
  simp only [Sem.run_bind, aw_parts27, Result.andThen]
  simp [ReflectliteValue.isNil, loadVar, isAgg, underlying, Tryz.underlying147, ha, Result.andThen]

theorem aw_methodElem (k : Nat) (h : Value) (w : World) : (Go.method (k + 1) 226 (.agg #[h]) "Elem").run Tryz.prog w = .ok (239, .agg #[h]) w := by kernel_rfl
theorem aw_methodImplements (k : Nat) (h : Value) (w : World) : (Go.method (k + 1) 226 (.agg #[h]) "Implements").run Tryz.prog w = .ok (240, .agg #[h]) w := by kernel_rfl
theorem aw_methodAssignableTo (k : Nat) (h : Value) (w : World) : (Go.method (k + 1) 226 (.agg #[h]) "AssignableTo").run Tryz.prog w = .ok (237, .agg #[h]) w := by kernel_rfl
theorem aw_elem27 (w : World) : (ReflectliteType.method ReflectliteType.elem #[.agg #[.pointer (some ⟨9, 147, none⟩)]]).run Tryz.prog w = .ok (.iface 226 (.agg #[.pointer (some ⟨9, 139, none⟩)])) w := by kernel_rfl
theorem aw_implements25 (w : World) : (ReflectliteType.relation "Implements" ReflectliteType.implements_ #[.agg #[.pointer (some ⟨9, 139, none⟩)], .iface 226 (.agg #[.pointer (some ⟨9, 114, none⟩)])]).run Tryz.prog w = .ok (.bool true) w := by kernel_rfl
theorem aw_typeOf25 (v : Value) (w : World) : (ReflectliteType.typeOf #[.iface 139 v]).run Tryz.prog w = .ok (.iface 226 (.agg #[.pointer (some ⟨9, 139, none⟩)])) w := by kernel_rfl
theorem aw_assignable25 (w : World) : (ReflectliteType.relation "AssignableTo" ReflectliteType.assignableTo #[.agg #[.pointer (some ⟨9, 139, none⟩)], .iface 226 (.agg #[.pointer (some ⟨9, 139, none⟩)])]).run Tryz.prog w = .ok (.bool true) w := by kernel_rfl
theorem aw_valueOf25 (n : Int) (w : World) : (ReflectliteValue.unpack (.iface 139 (.agg #[.int .i64 n]))).run Tryz.prog w
    = .ok (.agg #[.pointer (some ⟨9, 139, none⟩), .pointer (some ⟨w.heap.size, 0, none⟩), .int .u64 153]) (w.alloc (.cells #[.int .i64 n] 139)) := by kernel_rfl

theorem aw_elemOf27 (w : World) : (Rtype.elem? 147).run Tryz.prog w = .ok (some 139) w := by kernel_rfl
theorem aw_mk25 (p : Addr) (w : World) : (ReflectliteValue.mk 139 p ReflectliteValue.flagAddr).run Tryz.prog w = .ok (.agg #[.pointer (some ⟨9, 139, none⟩), .pointer (some p), .int .u64 409]) w := by kernel_rfl
theorem aw_elemV27 (a p : Addr) (W : World) (ha : W.cell? a = some (.pointer (some p))) :
    (ReflectliteValue.method (ReflectliteValue.valueError "reflectlite.Value.Elem" 0) ReflectliteValue.elem #[.agg #[.pointer (some ⟨9, 147, none⟩), .pointer (some a), .int .u64 150]]).run Tryz.prog W
      = .ok (.agg #[.pointer (some ⟨9, 139, none⟩), .pointer (some p), .int .u64 409]) W := by
  rw [rlm]
  simp only [Sem.run_bind, aw_parts27, Result.andThen]
  simp [ReflectliteValue.elem, loadVar, isAgg, underlying, Tryz.underlying147, ha, Result.andThen, aw_elemOf27, aw_mk25]
theorem rls (v x : Value) : ReflectliteValue.set #[v, x] = (do
    let (some (dst, a, fl), some (src, b, _)) := (← ReflectliteValue.parts v, ← ReflectliteValue.parts x)
      | unsupported (.noEntry "extern/(internal/reflectlite.Value).Set.zeroValue")
    if fl / ReflectliteValue.flagAddr % 2 == 0 then unsupported (.noEntry "extern/(internal/reflectlite.Value).Set.unaddressable")
    let val ← loadVar src b
    if ← Rtype.directlyAssignable dst src then storeVar dst a val
    else if ← Rtype.implements dst src then
      if (← Rtype.kind src) == 20 then
        match val with
        | .nilIface => unsupported (.noEntry "extern/reflectlite: a nil value of one interface type handed on as a value of another")
        | _ => storeVar dst a val
      else storeVar dst a (.iface src val)
    else panicString ("reflectlite.Set: value of type " ++ (← Rtype.spelt src) ++ " is not assignable to type " ++ (← Rtype.spelt dst))
    pure (.tuple #[])) := rfl
theorem aw_parts25a (a : Addr) (w : World) : (ReflectliteValue.parts (.agg #[.pointer (some ⟨9, 139, none⟩), .pointer (some a), .int .u64 409])).run Tryz.prog w = .ok (some (139, a, 409)) w := by kernel_rfl
theorem aw_parts25 (a : Addr) (w : World) : (ReflectliteValue.parts (.agg #[.pointer (some ⟨9, 139, none⟩), .pointer (some a), .int .u64 153])).run Tryz.prog w = .ok (some (139, a, 153)) w := by kernel_rfl
theorem aw_direct25 (w : World) : (Rtype.directlyAssignable 139 139).run Tryz.prog w = .ok true w := by kernel_rfl
theorem aw_size25 (w : World) : (sizeOf 139).run Tryz.prog w = .ok 1 w := by kernel_rfl
theorem aw_load139 (b : Addr) (n : Int) (W : World) (hb : W.cell? b = some (.int .i64 n)) : (loadVar 139 b).run Tryz.prog W = .ok (.agg #[.int .i64 n]) W := by
  simp [loadVar, isAgg, underlying, Tryz.underlying139, aw_size25, loadCells, loadCellsFrom, Addr.add, hb, Result.andThen]
theorem aw_store139 (ta : Addr) (n : Int) (old : Value) (W : World) (ht : W.cell? ta = some old) (hf : W.frozen? ta = false) : (storeVar 139 ta (.agg #[.int .i64 n])).run Tryz.prog W = .ok () (W.setCell ta (.int .i64 n)) := by
  simp [storeVar, aw_size25, Value.cells, storeCells, Addr.add, Result.andThen]
  rw [run_store Tryz.prog W ta _ _ (by rfl)]
  simp [ht, hf]
theorem aw_set25 (ta b : Addr) (n : Int) (old : Value) (W : World) (hb : W.cell? b = some (.int .i64 n)) (ht : W.cell? ta = some old) (hf : W.frozen? ta = false) :
    (ReflectliteValue.set #[.agg #[.pointer (some ⟨9, 139, none⟩), .pointer (some ta), .int .u64 409], .agg #[.pointer (some ⟨9, 139, none⟩), .pointer (some b), .int .u64 153]]).run Tryz.prog W
      = .ok (.tuple #[]) (W.setCell ta (.int .i64 n)) := by
  rw [rls]
  simp only [Sem.run_bind, aw_parts25a, aw_parts25, Result.andThen]
  simp [ReflectliteValue.flagAddr, aw_load139 b n W hb, aw_store139 ta n old W ht hf, Result.andThen, aw_direct25]

end Go.Proofs.YtndniceeibflcaaGreatDoor

namespace Go.Proofs.YtndniceeibflcaaGreatDoor
open Go.RowKit Go.Extern.Stop Go.Stop Go.Extern
set_option linter.unusedSimpArgs false

set_option maxHeartbeats 4000000 in
theorem as_hit (n : Int) (t : Addr) (old : Value) (w : World) (hg : w.cell? ⟨0, 0, none⟩ = some (.iface 226 (.agg #[.pointer (some ⟨9, 114, none⟩)]))) (ht0 : w.cell? t = some old) (hf0 : w.frozen? t = false) :
    Calls Tryz.prog 98 #[.iface 139 (.agg #[.int .i64 n]), .iface 147 (.pointer (some t))] w fun ev w' => ev = .returned (.bool true) ∧ w' = ((((w.alloc (.cells #[.pointer (some t)] 147)).alloc (.cells #[.pointer (some ⟨9, 147, none⟩), .pointer (some ⟨w.heap.size, 0, none⟩), .int .u64 150] 184)).alloc (.cells #[.pointer (some ⟨9, 147, none⟩), .pointer (some ⟨w.heap.size, 0, none⟩), .int .u64 150] 184)).alloc (.cells #[.int .i64 n] 139)).setCell t (.int .i64 n) := by
  have h6 := @run_callFunc_extern Tryz.prog 139 _ (fun args => ReflectliteValue.unpack (args.getD 0 (.tuple #[]))) Tryz.func139 (by kernel_rfl) (by kernel_rfl) (by kernel_rfl) (by kernel_rfl)
  have h7 := @run_callFunc_extern Tryz.prog 140 _ (ReflectliteValue.methodAny (ReflectliteValue.valueError "reflectlite.Value.Type" 0) (fun t _ _ _ => ReflectliteType.toType t)) Tryz.func140 (by kernel_rfl) (by kernel_rfl) (by kernel_rfl) (by kernel_rfl)
  have h8 := @run_callFunc_extern Tryz.prog 141 _ (ReflectliteValue.method (ReflectliteValue.valueError "reflectlite.Value.IsNil" 0) ReflectliteValue.isNil) Tryz.func141 (by kernel_rfl) (by kernel_rfl) (by kernel_rfl) (by kernel_rfl)
  have h27 := @run_callFunc_extern Tryz.prog 226 _ (ReflectliteType.abiMethod fun t => do pure (.int .u8 (← Rtype.kind t))) Tryz.func226 (by kernel_rfl) (by kernel_rfl) (by kernel_rfl) (by kernel_rfl)
  have h37 := @run_callFunc_extern Tryz.prog 239 _ (ReflectliteType.method ReflectliteType.elem) Tryz.func239 (by kernel_rfl) (by kernel_rfl) (by kernel_rfl) (by kernel_rfl)
  have h38 := @run_callFunc_extern Tryz.prog 240 _ (ReflectliteType.relation "Implements" ReflectliteType.implements_) Tryz.func240 (by kernel_rfl) (by kernel_rfl) (by kernel_rfl) (by kernel_rfl)
  have h10 := @run_callFunc_extern Tryz.prog 181 _ ReflectliteType.typeOf Tryz.func181 (by kernel_rfl) (by kernel_rfl) (by kernel_rfl) (by kernel_rfl)
  have h35 := @run_callFunc_extern Tryz.prog 237 _ (ReflectliteType.relation "AssignableTo" ReflectliteType.assignableTo) Tryz.func237 (by kernel_rfl) (by kernel_rfl) (by kernel_rfl) (by kernel_rfl)
  have h11 := @run_callFunc_extern Tryz.prog 182 _ (ReflectliteValue.method (ReflectliteValue.valueError "reflectlite.Value.Elem" 0) ReflectliteValue.elem) Tryz.func182 (by kernel_rfl) (by kernel_rfl) (by kernel_rfl) (by kernel_rfl)
  have h12 := @run_callFunc_extern Tryz.prog 183 _ ReflectliteValue.set Tryz.func183 (by kernel_rfl) (by kernel_rfl) (by kernel_rfl) (by kernel_rfl)
  have tO := aw_typeOf25
  have mA := aw_methodAssignableTo
  have a25 := aw_assignable25
  have v25 := aw_valueOf25
  have f6 := aw_valueOf27
  have f7 := aw_type27
  have mK := aw_methodKind
  have mE := aw_methodElem
  have mI := aw_methodImplements
  have k27 := aw_kind27
  have k25 := aw_kind25
  have e27 := aw_elem27
  have i25 := aw_implements25
  have n8 := aw_isNil27 ⟨w.heap.size, 0, none⟩ t ((w.alloc (.cells #[.pointer (some t)] 147)).alloc (.cells #[.pointer (some ⟨9, 147, none⟩), .pointer (some ⟨w.heap.size, 0, none⟩), .int .u64 150] 184)) (by simp)
  have hlt : 0 < w.heap.size := by
    rcases Nat.eq_zero_or_pos w.heap.size with h0 | h
    · simp [World.cell?, h0] at hg
    · exact h
  have hg2 : ((w.alloc (.cells #[.pointer (some t)] 147)).alloc (.cells #[.pointer (some ⟨9, 147, none⟩), .pointer (some ⟨w.heap.size, 0, none⟩), .int .u64 150] 184)).cell? ⟨0, 0, none⟩ = some (.iface 226 (.agg #[.pointer (some ⟨9, 114, none⟩)])) := by
    rw [World.cell?_alloc_lt _ _ ⟨0, 0, none⟩ (by simp), World.cell?_alloc_lt _ _ ⟨0, 0, none⟩ hlt]; exact hg
  have htl : t.block < w.heap.size := by
    rcases Nat.lt_or_ge t.block w.heap.size with h | h
    · exact h
    · simp [World.cell?, Array.getElem?_eq_none h] at ht0
  have el := aw_elemV27 ⟨w.heap.size, 0, none⟩ t (((w.alloc (.cells #[.pointer (some t)] 147)).alloc (.cells #[.pointer (some ⟨9, 147, none⟩), .pointer (some ⟨w.heap.size, 0, none⟩), .int .u64 150] 184)).alloc (.cells #[.pointer (some ⟨9, 147, none⟩), .pointer (some ⟨w.heap.size, 0, none⟩), .int .u64 150] 184)) (by rw [World.cell?_alloc_lt _ _ ⟨w.heap.size, 0, none⟩ (by simp; omega)]; simp)
  have st := aw_set25 t ⟨w.heap.size + 1 + 1 + 1, 0, none⟩ n old ((((w.alloc (.cells #[.pointer (some t)] 147)).alloc (.cells #[.pointer (some ⟨9, 147, none⟩), .pointer (some ⟨w.heap.size, 0, none⟩), .int .u64 150] 184)).alloc (.cells #[.pointer (some ⟨9, 147, none⟩), .pointer (some ⟨w.heap.size, 0, none⟩), .int .u64 150] 184)).alloc (.cells #[.int .i64 n] 139))
    (by rw [World.cell?_alloc_at _ _ _ _ (by simp)]; rfl)
    (by rw [World.cell?_alloc_lt _ _ t (by simp; omega), World.cell?_alloc_lt _ _ t (by simp; omega), World.cell?_alloc_lt _ _ t (by simp; omega), World.cell?_alloc_lt _ _ t htl]; exact ht0)
    (by rw [World.frozen?_alloc_old _ _ t (by simp; omega), World.frozen?_alloc_old _ _ t (by simp; omega), World.frozen?_alloc_old _ _ t (by simp; omega), World.frozen?_alloc_old _ _ t (Nat.ne_of_lt htl)]; exact hf0)
  go_enter Tryz.func98, Tryz.ntmps98
  go_wp2
  refine wp_loop_rounds 1 ?_
  rw [rounds_succ]
  go_wp2
  go_ret
  exact ⟨rfl, rfl⟩
end Go.Proofs.YtndniceeibflcaaGreatDoor

namespace Go.Proofs.YtndniceeibflcaaGreatDoor
open Go.RowKit Go.Extern.Stop Go.Stop Go.Extern
set_option linter.unusedSimpArgs false

set_option maxHeartbeats 4000000 in
theorem code_raw (n : Int) (w : World) (hg : w.cell? ⟨0, 0, none⟩ = some (.iface 226 (.agg #[.pointer (some ⟨9, 114, none⟩)]))) :
    Calls Tryz.prog 71 #[.iface 139 (.agg #[.int .i64 n])] w fun e w' => e = .returned (.int .i64 n) ∧ Below w.heap.size w w' := by
  have hlt : 0 < w.heap.size := by
    rcases Nat.eq_zero_or_pos w.heap.size with h0 | h
    · simp [World.cell?, h0] at hg
    · exact h
  have hgA : (w.alloc (.cells #[.int .i64 0] 139)).cell? ⟨0, 0, none⟩ = some (.iface 226 (.agg #[.pointer (some ⟨9, 114, none⟩)])) := by
    rw [World.cell?_alloc_lt _ _ ⟨0, 0, none⟩ hlt]; exact hg
  have htA : (w.alloc (.cells #[.int .i64 0] 139)).cell? ⟨w.heap.size, 0, none⟩ = some (.int .i64 0) := by simp
  have hfA : (w.alloc (.cells #[.int .i64 0] 139)).frozen? ⟨w.heap.size, 0, none⟩ = false := by simp
  go_enter Tryz.func71, Tryz.ntmps71
  go_wp2_with (go_at_call 98; refine (as_hit n _ (.int .i64 0) _ hgA htA hfA).mono ?_; rintro e w' ⟨rfl, rfl⟩)
  go_ret
  refine ⟨rfl, ?_⟩
  have b0 := (Below.refl w.heap.size w).alloc (Nat.le_refl _) (.cells #[Value.int IntKind.i64 n] 139)
  have b1 := b0.alloc b0.size (.cells #[Value.pointer (some { block := w.heap.size, off := 0 })] 147)
  have b2 := b1.alloc b1.size (.cells #[Value.pointer (some { block := 9, off := 147 }), Value.pointer (some { block := w.heap.size + 1, off := 0 }), Value.int IntKind.u64 150] 184)
  have b3 := b2.alloc b2.size (.cells #[Value.pointer (some { block := 9, off := 147 }), Value.pointer (some { block := w.heap.size + 1, off := 0 }), Value.int IntKind.u64 150] 184)
  exact b3.alloc b3.size _

theorem ok71 : Aw.okFn Tryz.prog 71 = true := by kernel_rfl
/-- the code of a refusal. -/
theorem s71 (n : Int) : Aw.ASpec Tryz.prog 71 [errV n] (fun r Ms => r = Aw.I n ∧ Ms = []) := by
  refine aspec_cl ok71 ?_
  intro w vs A hG hA hv
  unfold errV at hv
  obtain ⟨v1, vs1, rfl, h1, h2⟩ := hv
  obtain rfl := h1
  obtain rfl := h2
  refine (code_raw n w hG.et).mono ?_
  rintro e w' ⟨rfl, hb⟩
  exact ⟨_, Aw.I n, rfl, ⟨rfl, rfl⟩, hb, fun T _ => by simp [Aw.RV]⟩
end Go.Proofs.YtndniceeibflcaaGreatDoor

namespace Go.Proofs.YtndniceeibflcaaGreatDoor
set_option linter.unusedSimpArgs false

abbrev muLinkZ : Go.Conc.Locks.MuLink := { lock := 68, unlock := 69, ilock := 93, iunlock := 94, lockSlow := 132, unlockSlow := 135, disable := 128, enable := 130, acquire := 131, relMerge := 133, cas32 := 129, add32 := 134, tMutex := 103, tIMutex := 101, tPMutex := 137, tPIMutex := 173, tPI32 := 175, tUP := 177, tNoCopy := 98, tU32 := 99 }
theorem muLibZ : Go.Conc.Locks.MuLib Tryz.prog muLinkZ :=
  ⟨Tryz.func68, Tryz.func69, Tryz.func93, Tryz.func94, Tryz.func128, Tryz.func130, Tryz.func131, Tryz.func133, Tryz.func129, Tryz.func134, Tryz.underlying101, Tryz.runUnderlying101, Tryz.sizeOf101, Tryz.isAgg101, Tryz.zeroValue101, Tryz.underlying103, Tryz.runUnderlying103, Tryz.sizeOf103, Tryz.isAgg103, Tryz.zeroValue103, Tryz.underlying137, Tryz.runUnderlying137, Tryz.sizeOf137, Tryz.isAgg137, Tryz.zeroValue137, Tryz.underlying173, Tryz.runUnderlying173, Tryz.sizeOf173, Tryz.isAgg173, Tryz.zeroValue173, Tryz.underlying175, Tryz.runUnderlying175, Tryz.sizeOf175, Tryz.isAgg175, Tryz.zeroValue175, Tryz.underlying177, Tryz.runUnderlying177, Tryz.sizeOf177, Tryz.isAgg177, Tryz.zeroValue177, Tryz.underlying98, Tryz.runUnderlying98, Tryz.sizeOf98, Tryz.isAgg98, Tryz.zeroValue98, Tryz.underlying21, Tryz.runUnderlying21, Tryz.sizeOf21, Tryz.isAgg21, Tryz.zeroValue21, (by kernel_rfl)⟩
theorem lockZ (a : Addr) (w : World) (hc : w.cell? a = some (.int .i32 0)) (hz : w.frozen? a = false) :
    Calls Tryz.prog 68 #[.pointer (some a)] w fun e w' => e = .returned (.tuple #[]) ∧ w' = w.setCell a (.int .i32 1) := Go.MuLone.lock_free muLibZ a w hc hz
theorem unlockZ (a : Addr) (u : FrameMode) (w : World) (hc : w.cell? a = some (.int .i32 1)) (hz : w.frozen? a = false) :
    CallsD Tryz.prog 69 #[.pointer (some a)] u w fun e u' w' => u' = u ∧ (e = .returned (.tuple #[]) ∧ w' = w.setCell a (.int .i32 0)) := Go.MuLone.unlock_deferred muLibZ a u w hc hz
end Go.Proofs.YtndniceeibflcaaGreatDoor

namespace Go.Proofs.YtndniceeibflcaaGreatDoor
namespace Aw
open Go.RowKit
set_option linter.unusedSimpArgs false

/-- what is held where a function ends. -/
theorem mend_fin {P : Program} {fn : Func} {aS : List AV} {vs : List Value} {post : AV → Mem → Prop} {w : World} {In A : Nat → Prop} {dl : List Deferred} {σ : St} {a' : Act} {w' : World} (h : MEnd2 P fn.results.toList aS vs post σ) (hSσ : StR ⟨w, In, A, dl⟩ σ a' w') :
    ∃ v r M' hv', (results fn a'.tmps).run P w' = .ok v w' ∧ post r M' ∧ MemR A w' hv' M' ∧ RV w' (OwnA A hv') hv' r v ∧ RVL w' (OwnA A hv') hv' aS vs ∧ Keeps w In w' (Own hv') ∧ w'.os = w.os ∧ w'.tape = w.tape ∧ w'.output = w.output ∧ dr w ≤ dr w' := by
  obtain ⟨⟨sl', M1⟩, x, M', rest, hle, hx, hM1, f1, f2, f3, hp⟩ := h
  obtain ⟨hv2, hd, _, hsl, hM2, hF⟩ := hle _ _ _ hSσ
  simp only at hM1
  subst hM1
  obtain ⟨v, h1, h2⟩ := res_ok (C := ⟨w, In, A, dl⟩) hsl hM2 hx
  have hg : (M' ++ some (ghost vs aS) :: rest)[M'.length]? = some (some (ghost vs aS)) := by simp
  obtain ⟨vg, hvg, hob⟩ := hM2.live _ _ hg
  obtain ⟨vals, ⟨hk0, _⟩ | ⟨_, rfl, rfl⟩, hr⟩ := hob.map (ks := vs) rfl
  · simp [ghost] at hk0
  let hv3 : Nat → Option Value := fun i => if i < M'.length then hv2 i else none
  have hown : ∀ b, Own hv3 b → Own hv2 b := by
    rintro b ⟨i, u, hi, hb⟩
    simp only [hv3] at hi
    split at hi
    · exact ⟨i, u, hi, hb⟩
    · cases hi
  have hs : StepR A w' hv2 (Zr M'.length rest.length) w' hv3 := by
    refine ⟨⟨Nat.le_refl _, fun _ _ _ => rfl, fun b _ hb => hown b hb⟩, fun i u hi h => ?_, rfl, rfl, rfl, Nat.le_refl _⟩
    obtain ⟨ob, hob⟩ := hM2.dom i u h
    have := (List.getElem?_eq_some_iff.1 hob).1
    simp only [List.length_append, List.length_cons] at this
    rw [mem_Zr] at hi
    simp only [hv3, if_pos (show i < M'.length by omega)]
    exact h
  refine ⟨v, x, M', hv3, h1, hp, ⟨fun i ob hi => ?_, fun i u hi => ?_, fun i j vi vj b hi hj => ?_, hM2.old, hs.gl hM2.gl⟩, ?_, ?_, ⟨hF.size, fun b hb hn => hF.block b hb hn, fun b hlt hb => ?_⟩, hF.os, hF.tape, hF.output, hF.drawn⟩
  · have hlt : i < M'.length := (List.getElem?_eq_some_iff.1 hi).1
    obtain ⟨v, h1, h2, h3⟩ := live_step hM2 hs (fun v b h1 h2 => rfl) (show i ∉ Zr M'.length rest.length by rw [mem_Zr]; omega) (by rw [List.getElem?_append_left hlt]; exact hi)
    have hk : Ob.kill (Zr M'.length rest.length) ob = ob := by
      simp only [freeM, List.all_eq_true] at f3
      have := f3 _ (List.mem_of_getElem? hi)
      simp only at this
      cases ob
      simp only [Ob.kill, Ob.mk.injEq, true_and]
      exact killL_free this
    rw [hk] at h3
    exact ⟨v, h2, h3⟩
  · simp only [hv3] at hi
    split at hi
    · rename_i hlt
      obtain ⟨ob, hob⟩ := hM2.dom i u hi
      rw [List.getElem?_append_left hlt] at hob
      exact ⟨ob, hob⟩
    · cases hi
  · simp only [hv3] at hi hj
    split at hi
    · split at hj
      · exact hM2.inj i j vi vj b hi hj
      · cases hj
    · cases hi
  · have := hs.rv h2
    rwa [AV.kill_free _ _ f1] at this
  · have := RVL_keep hs.keeps hs.hv _ _ hr
    have e : AV.killL (Zr M'.length rest.length) (ghost vals aS).xs = aS := killL_free f2
    rw [e] at this
    exact this
  · rcases hF.own b (hown b hb) with g | g
    · exact g
    · simp only at g; omega

/-- the first cell of an own object. -/
theorem mem_cell {P : Program} {A : Nat → Prop} {w : World} {hv : Nat → Option Value} {M : Mem} {i : Nat} {ob : Ob} {x : Value} {cs : List AV} (hM : MemR A w hv M) (hi : M[i]? = some (some ob)) (hm : ob.mp = none) (hx : ob.xs = [.g (.v x :: cs)]) :
    ∃ b n c, hv i = some (.slice (some ⟨b, 0, none⟩) n c) ∧ w.cell? ⟨b, 0, none⟩ = some x ∧ w.frozen? ⟨b, 0, none⟩ = false ∧
      ∀ x' : Value, x'.oneCell' = true → MemR A (w.setCell ⟨b, 0, none⟩ x') hv (M.set i (some { ob with xs := [.g (.v x' :: cs)] })) ∧ StepR A w hv [] (w.setCell ⟨b, 0, none⟩ x') hv := by
  obtain ⟨v0, hv0, hob⟩ := hM.live i ob hi
  have hj : 0 < ob.xs.length := by rw [hx]; simp
  have hg0 : ob.xs.getD 0 .bot = .g (.v x :: cs) := by rw [hx]; rfl
  obtain ⟨g, cap, cur, us, e0, h1, h2, h3, h4, h5, h6, h7, h8⟩ := obR_row hob hm (by rw [hx]; simp)
  obtain ⟨g', cap', ws, e1, e2, e3⟩ := ob_cells hob hm hj
  rw [e0] at e1
  injection e1 with e1
  injection e1 with e1
  injection e1 with e1
  subst e1
  subst e0
  rw [hg0] at e2
  simp only [R, RL] at e2
  obtain ⟨u1, u2, rfl, ⟨rfl, ho⟩, hcs⟩ := e2
  have hc : w.cell? ⟨g, 0, none⟩ = some x := by simpa using e3 0 x rfl
  have hf : w.frozen? ⟨g, 0, none⟩ = false := by simp [World.frozen?, h1]
  refine ⟨g, _, cap, hv0, hc, hf, fun x' hx' => ?_⟩
  obtain ⟨w', c1, c2, c3⟩ := cells_ok (P := P) (off := 0) (r := .g (.v x' :: cs)) (cs := [x']) hM hi hj hv0 (by simpa using hx') (fun us hus => by
    rw [hg0] at hus
    simp only [R, RL] at hus
    obtain ⟨a1, a2, rfl, ⟨rfl, _⟩, hcs2⟩ := hus
    refine ⟨by simp, ?_, by rw [hg0]; simp [AV.size, AV.sizeL]⟩
    simp only [R, RL]
    exact ⟨[x'], a2, by simp, ⟨rfl, hx'⟩, hcs2⟩)
  have hw : w' = w.setCell ⟨g, 0, none⟩ x' := by
    simp only [Nat.zero_mul, Nat.add_zero, storeCells, Addr.add, Sem.run_bind, if_true, beq_self_eq_true, eq_self] at c1
    rw [run_store P w ⟨g, 0, none⟩ x' _ hx'] at c1
    simp [hc, hf] at c1
    exact c1.symm
  subst hw
  rw [show ob.xs.set 0 (.g (.v x' :: cs)) = [.g (.v x' :: cs)] by rw [hx]; rfl] at c2
  exact ⟨c2, c3⟩
end Aw
end Go.Proofs.YtndniceeibflcaaGreatDoor

namespace Go.Proofs.YtndniceeibflcaaGreatDoor
open Aw Mp Go.RowKit
set_option linter.unusedSimpArgs false

theorem ok68 : okFn Tryz.prog 68 = true := by kernel_rfl
theorem m68 {M : Mem} {ob : Ob} {cs : List AV} {k : Nat} (hi : M[0]? = some (some ob)) (hm : ob.mp = none) (hx : ob.xs = [.g (.v (.int .i32 0) :: cs)]) :
    MSpec Tryz.prog 68 [.q 0 k 0 0] M (fun r N => r = .t [] ∧ N = M.set 0 (some { ob with xs := [.g (.v (.int .i32 1) :: cs)] })) := by
  refine ⟨ok68, fun w vs A hv hM hsep hvs => ?_⟩
  have hvs0 := hvs
  obtain ⟨b, n, c, h1, h2, h3, h4⟩ := mem_cell (P := Tryz.prog) hM hi hm hx
  simp only [RVL, RV, R] at hvs
  obtain ⟨v, vs', rfl, ⟨b', n', c', h5, h6⟩, rfl⟩ := hvs
  rw [h1] at h5
  injection h5 with h5
  injection h5 with h5 _ _
  injection h5 with h5
  injection h5 with h5 _ _
  subst h5
  injection h6 with h6 _
  subst h6
  obtain ⟨h7, h8⟩ := h4 (.int .i32 1) rfl
  have key := lockZ ⟨b, 0, none⟩ w h2 h3
  rw [show (0 * k + 0 : Nat) = 0 by omega]
  refine key.mono ?_
  rintro e w' ⟨rfl, rfl⟩
  have hk := RVL_keep h8.keeps h8.hv _ _ hvs0
  rw [AV.killL_nil] at hk
  exact ⟨.t [], _, .tuple #[], hv, rfl, ⟨rfl, rfl⟩, h7, by simp [RV, RVL], by simpa using hk, h8.kp, h8.os, h8.tape, h8.output, h8.drawn⟩
end Go.Proofs.YtndniceeibflcaaGreatDoor

namespace Go.Proofs.YtndniceeibflcaaGreatDoor
open Aw Mp Go.RowKit
set_option linter.unusedSimpArgs false

/-- where a function ends that holds the lock, and has put the unlocking off. -/
def LEnd (P : Program) (rs : List ResultVar) (aS : List AV) (vs : List Value) (post : AV → Mem → Prop) (σ : St) : Prop :=
  ∃ (σ' : St) (ob : Ob) (cs : List AV) (g : Nat), Le σ σ' ∧ σ'.M[0]? = some (some ob) ∧ ob.mp = none ∧ ob.xs = [.g (.v (.int .i32 1) :: cs)] ∧ σ'.M[g]? = some (some (ghost vs aS)) ∧
    MEnd2 P rs aS vs post ⟨σ'.sl, σ'.M.set 0 (some { ob with xs := [.g (.v (.int .i32 0) :: cs)] })⟩

theorem ghost_ptr {C : Ctx} {σ : St} {a : Act} {w : World} {vs : List Value} {k : Nat} {aS : List AV} {g : Nat} {hv : Nat → Option Value} (hM : MemR C.A w hv σ.M) (hg : σ.M[g]? = some (some (ghost vs (.q 0 k 0 0 :: aS)))) : ∃ vs' b n c, vs = .pointer (some ⟨b, 0, none⟩) :: vs' ∧ hv 0 = some (.slice (some ⟨b, 0, none⟩) n c) := by
  obtain ⟨vg, hvg, hob⟩ := hM.live _ _ hg
  obtain ⟨vals, ⟨hk0, _⟩ | ⟨_, rfl, rfl⟩, hr⟩ := hob.map (ks := vs) rfl
  · simp [ghost] at hk0
  simp only [ghost, RVL, RV, R] at hr
  obtain ⟨u, us, h1, ⟨b, n, c, h2, h3⟩, _⟩ := hr
  injection h3 with h3 _
  subst h3
  exact ⟨us, b, n, c, by rw [h1]; simp, h2⟩

theorem mspec_locked {f : FuncId} {fn : Func} {r0 nc r3 rest : Code} {i4 : Nat} {ops4 : Array Oper} {pre : List Oper} {df : Oper} {t k : Nat} {own : List Nat} {aS : List AV} {M : Mem} {post : AV → Mem → Prop}
    (hf : Tryz.prog.funcs[f]? = some fn) (hb : fn.body = some (.seq r0 (.seq nc (.seq r3 (.seq (.region i4 ops4 false) rest))))) (hok : okFn Tryz.prog f = true)
    (hops : ops4.toList = pre ++ [df]) (hg : df.guard = none) (hdst : df.dst = none) (hdf : ∀ (a : Act) (w : World), (execOp a.eval df).run Tryz.prog w = .ok (.defer { target := .fn (.func 69) #[], args := #[a.eval (.tmp t)] }) w)
    (h : ∀ vs : List Value, @SWp Tryz.prog r0 ⟨(.q 0 k 0 0 :: aS) ++ List.replicate (fn.ntmps - (aS.length + 1)) .bot, M ++ [some (ghost vs (.q 0 k 0 0 :: aS))]⟩ ⟨fun s1 => @SWp Tryz.prog nc s1 ⟨fun s2 => @SWp Tryz.prog r3 s2 ⟨fun s3 => @AOps Tryz.prog own ops4.toList pre s3 ⟨fun s4 => ∃ (σ2 : St) (g : Nat), Le s4 σ2 ∧ σ2.sl[t]? = some (.q 0 k 0 0) ∧ σ2.M[g]? = some (some (ghost vs (.q 0 k 0 0 :: aS))) ∧
        @SWp Tryz.prog rest σ2 ⟨LEnd Tryz.prog fn.results.toList (.q 0 k 0 0 :: aS) vs post⟩ ⟨fun _ _ => False⟩ ⟨fun σ _ => LEnd Tryz.prog fn.results.toList (.q 0 k 0 0 :: aS) vs post σ⟩⟩⟩ ⟨fun _ _ => False⟩ ⟨fun _ _ => False⟩⟩ ⟨fun _ _ => False⟩ ⟨fun _ _ => False⟩⟩ ⟨fun _ _ => False⟩ ⟨fun _ _ => False⟩) : MSpec Tryz.prog f (.q 0 k 0 0 :: aS) M post := by
  refine ⟨hok, fun w vs A hv hM0 hsep hvs0 => Go.calls_of_wp_defers hf hb ?_⟩
  obtain ⟨hM, hs0⟩ := mem_add hM0 (Bel.refl _ w) (ob := ghost vs (.q 0 k 0 0 :: aS)) (v := .map none) (fun b hb => by simp [blk] at hb) (fun hs => ObR.of_map (ob := ghost vs (.q 0 k 0 0 :: aS)) (ks := vs) rfl ⟨vs, .inr ⟨by simp [ghost], rfl, rfl⟩, by
    have := RVL_keep hs.keeps hs.hv _ _ hvs0
    rwa [AV.killL_nil] at this⟩)
  have hvs : RVL w (OwnA A (hvAdd hv M.length (.map none))) (hvAdd hv M.length (.map none)) (.q 0 k 0 0 :: aS) vs := by
    have := RVL_keep hs0.keeps hs0.hv _ _ hvs0
    rwa [AV.killL_nil] at this
  have hoeq : ∀ b, Aw.Own (hvAdd hv M.length (.map none)) b → Aw.Own hv b := fun b hb => by
    rcases (own_add (mem_none hM0 (Nat.le_refl _))).1 hb with h | h
    · exact h
    · simp [blk] at h
  obtain ⟨hlen, hget⟩ := rvl_get (.q 0 k 0 0 :: aS) vs hvs
  have hS : StR ⟨w, Aw.Own hv, A, []⟩ ⟨(.q 0 k 0 0 :: aS) ++ List.replicate (fn.ntmps - (aS.length + 1)) .bot, M ++ [some (ghost vs (.q 0 k 0 0 :: aS))]⟩ { tmps := vs.toArray ++ Array.replicate (fn.ntmps - vs.toArray.size) undef, defers := [] } w := by
    refine ⟨_, rfl, by simp [hlen]; omega, fun i x hx => ?_, hM, ⟨rfl, rfl, rfl, Nat.le_refl _, Nat.le_refl _, fun _ _ _ => rfl, fun b h => .inl (hoeq b h), hM0.old, fun b hA ho => hsep b ho hA⟩⟩
    rcases Nat.lt_or_ge i (AV.q 0 k 0 0 :: aS).length with hlt | hge
    · simp only [List.getElem?_append_left hlt] at hx
      obtain ⟨v, h1, h2⟩ := hget i x hx
      refine ⟨v, ?_, h2⟩
      rw [Array.getElem?_append_left (by simp; omega)]; simpa using h1
    · simp only [List.getElem?_append_right hge, List.getElem?_replicate] at hx
      split at hx
      · rename_i hr
        injection hx with hx
        subst hx
        refine ⟨undef, ?_, by simp [RV]⟩
        rw [Array.getElem?_append_right (by simp; omega)]
        simp only [List.length_cons] at hr
        simp [hlen, hr]
      · cases hx
  refine wp_seq (wp_mono (h vs _ _ _ hS) fun e a1 w1 hq => ?_)
  cases e with
  | exit id => exact hq.elim fun _ h => h.1.elim
  | ret => exact hq.elim fun _ h => h.1.elim
  | goto l => exact hq.elim
  | panic ch => exact hq.elim
  | outgrown => exact hq.elim
  | normal =>
  obtain ⟨s1, h1, hS1⟩ := hq
  refine wp_seq (wp_mono (h1 _ _ _ hS1) fun e a2 w2 hq => ?_)
  cases e with
  | exit id => exact hq.elim fun _ h => h.1.elim
  | ret => exact hq.elim fun _ h => h.1.elim
  | goto l => exact hq.elim
  | panic ch => exact hq.elim
  | outgrown => exact hq.elim
  | normal =>
  obtain ⟨s2, h2, hS2⟩ := hq
  refine wp_seq (wp_mono (h2 _ _ _ hS2) fun e a3 w3 hq => ?_)
  cases e with
  | exit id => exact hq.elim fun _ h => h.1.elim
  | ret => exact hq.elim fun _ h => h.1.elim
  | goto l => exact hq.elim
  | panic ch => exact hq.elim
  | outgrown => exact hq.elim
  | normal =>
  obtain ⟨s3, h3, hS3⟩ := hq
  refine wp_seq (wp_region ?_)
  have hl : ops4.size = (pre ++ [df]).length := by rw [← hops]; simp
  rw [List.range_eq_range', hl]
  refine aops_then (P := Tryz.prog) (own := own) [df] pre 0 s3 a3 w3 (by simpa using hops) h3 hS3 ?_
  rintro s4 a4 w4 ⟨σ2, g, hle, hsl2, hgg, hrest⟩ hS4
  have ho : ops4[0 + pre.length]? = some df := by
    have : ops4.toList[pre.length]? = some df := by rw [hops]; simp
    rw [Nat.zero_add]; simpa using this
  obtain ⟨hv4, hd4, hsz4, hslv4, hM4, hF4⟩ := hle _ _ _ hS4
  obtain ⟨vs', b, n, c, hvs1, hb1⟩ := ghost_ptr (C := ⟨w, Aw.Own hv, A, []⟩) (a := a4) hM4 hgg
  obtain ⟨v4, ht4, hr4⟩ := hslv4 t _ hsl2
  simp only [RV, R] at hr4
  obtain ⟨b', n', c', hb2, hv4'⟩ := hr4
  rw [hb1] at hb2
  injection hb2 with hb2
  injection hb2 with hb2 _ _
  injection hb2 with hb2
  injection hb2 with hb2 _ _
  subst hb2
  injection hv4' with hv4' _
  subst hv4'
  have hev : a4.eval (.tmp t) = .pointer (some ⟨b, 0, none⟩) := by
    simp only [Act.eval, Array.getD_eq_getD_getElem?, ht4]
    simp
  rw [show (List.range' (0 + pre.length) [df].length) = [0 + pre.length] from rfl, wpOps_cons]
  simp only [wpOp, ho]
  have hw : Region.wanted df (yielded ops4 a4.tmps) = true := by simp [Region.wanted, hg]
  rw [if_pos hw]
  left
  unfold Oper.wp
  rw [hdf a4 w4, Oper.upon_defer, hdst, hev]
  -- behind the deferral
  obtain ⟨d, hd⟩ : ∃ d : Deferred, d = { target := .fn (.func 69) #[], args := #[.pointer (some ⟨b, 0, none⟩)] } := ⟨_, rfl⟩
  rw [← hd]
  have hS5 : StR ⟨w, Aw.Own hv, A, [d]⟩ σ2 ({ a4 with defers := d :: a4.defers }.put none undef) w4 := by
    refine ⟨hv4, by simp [Act.put, hd4], by simpa [Act.put] using hsz4, fun i x hx => by simpa [Act.put] using hslv4 i x hx, hM4, ⟨hF4.os, hF4.tape, hF4.output, hF4.drawn, hF4.size, hF4.block, hF4.own, hF4.aold, hF4.dis⟩⟩
  show rest.wp Tryz.prog _ _ w4
  refine wp_mono (hrest _ _ _ hS5) fun e a6 w6 hq => ?_
  have fin : (∃ σ, LEnd Tryz.prog fn.results.toList (.q 0 k 0 0 :: aS) vs post σ ∧ StR ⟨w, Aw.Own hv, A, [d]⟩ σ a6 w6) → Leaves Tryz.prog fn a6.tmps (fun e w' => ∃ r M' v hv', e = .returned v ∧ post r M' ∧ MemR A w' hv' M' ∧ RV w' (OwnA A hv') hv' r v ∧ RVL w' (OwnA A hv') hv' (.q 0 k 0 0 :: aS) vs ∧ Keeps w (Aw.Own hv) w' (Aw.Own hv') ∧ w'.os = w.os ∧ w'.tape = w.tape ∧ w'.output = w.output ∧ dr w ≤ dr w') a6.defers .returning w6 := by
    rintro ⟨σ, ⟨σ', ob, cs, g', hle', hob, hmp, hxs, hgg', hend⟩, hS6⟩
    obtain ⟨hv6, hd6, hsz6, hslv6, hM6, hF6⟩ := hle' _ _ _ hS6
    obtain ⟨vs2, b2, n2, c2, hvs2, hb6⟩ := ghost_ptr (C := ⟨w, Aw.Own hv, A, [d]⟩) (a := a6) hM6 hgg'
    rw [hvs1] at hvs2
    injection hvs2 with hbb _
    injection hbb with hbb
    injection hbb with hbb
    injection hbb with hbb _ _
    subst hbb
    obtain ⟨b3, n3, c3, hb3, hc3, hf3, hset⟩ := mem_cell (P := Tryz.prog) hM6 hob hmp hxs
    rw [hb6] at hb3
    injection hb3 with hb3
    injection hb3 with hb3 _ _
    injection hb3 with hb3
    injection hb3 with hb3 _ _
    subst hb3
    obtain ⟨m7, s7⟩ := hset (.int .i32 0) rfl
    rw [hd6]
    show Leaves Tryz.prog fn a6.tmps _ [d] .returning w6
    rw [hd]
    refine Go.leaves_cons (f := 69) (args := #[.pointer (some ⟨b, 0, none⟩)]) (by simp) (by simp [go_sem]) ?_
    refine (unlockZ ⟨b, 0, none⟩ .returning w6 hc3 hf3).mono ?_
    rintro e u' w7 ⟨rfl, rfl, rfl⟩
    have hS7 : StR ⟨w, Aw.Own hv, A, [d]⟩ ⟨σ'.sl, σ'.M.set 0 (some { ob with xs := [.g (.v (.int .i32 0) :: cs)] })⟩ a6 (w6.setCell ⟨b, 0, none⟩ (.int .i32 0)) := by
      refine ⟨hv6, hd6, hsz6, fun i x hx => ?_, m7, ⟨s7.os.trans hF6.os, s7.tape.trans hF6.tape, s7.output.trans hF6.output, Nat.le_trans hF6.drawn s7.drawn, Nat.le_trans hF6.size s7.kp.size, fun b hb hn => ?_, hF6.own, hF6.aold, hF6.dis⟩⟩
      · obtain ⟨v, e1, e2⟩ := hslv6 i x hx
        have := s7.rv e2
        rw [AV.kill_nil] at this
        exact ⟨v, e1, this⟩
      · rw [s7.kp.block b (Nat.lt_of_lt_of_le hb hF6.size) (fun ho => (hF6.own b ho).elim hn (fun h => Nat.lt_irrefl _ (Nat.lt_of_lt_of_le hb h)))]
        exact hF6.block b hb hn
    obtain ⟨v, r, M', hv', q1, q2, q3, q4, q5, q6, q7, q8, q9, q10⟩ := mend_fin hend hS7
    exact ⟨v, q1, r, M', v, hv', rfl, q2, q3, q4, q5, q6, q7, q8, q9, q10⟩
  cases e with
  | exit id => exact hq.elim fun _ h => h.1.elim
  | goto l => exact hq.elim
  | panic ch => exact hq.elim
  | outgrown => exact hq.elim
  | ret => exact fin hq
  | normal => exact fin hq
end Go.Proofs.YtndniceeibflcaaGreatDoor

namespace Go.Proofs.YtndniceeibflcaaGreatDoor
open Aw Mp Go.RowKit
set_option linter.unusedSimpArgs false
set_option maxRecDepth 8000

theorem ok24 : okFn Tryz.prog 24 = true := by kernel_rfl
/-- a machine that has done orders. -/
def mkM (n lim : Int) (ls : List (Int × Int)) (l : List By) : Mch := ⟨0, n, lim, ls, stO l, lg 0 l, l⟩
def memD (m : Mch) : Mem := [some m.ob, none, some m.od]
end Go.Proofs.YtndniceeibflcaaGreatDoor
