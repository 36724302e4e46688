/-
  Parts of several texts in one: MrI, MrJ, MrK, MrL, MrM, MrN, MrO.
-/
import Derived.Test.YtndniceeibflcaaGreatDoorProg
import Derived.WalkKit
import Derived.Lib.ConvBytes
import Derived.LaidEql
import Derived.Lib.ItoaNum
import Derived.Lib.LaidTab
import Derived.KernelRfl
import GoSem.Claims
import GoSem.ClaimJoined
import Derived.Orders
import Derived.Laws.StructEq
import Derived.Maps.Keyed
import Derived.Lib.Strings
import Derived.Maps.AppendAt
import Derived.Laws.Concat
import Derived.MapKept
import Derived.Laws.MakeOwn
import Derived.Scope
import Derived.Laws.BitsLemmas
import Derived.Maps.RangeRun
import Derived.StillTail
import Derived.OrdersIn
import Derived.TacticsIn
import Derived.RangeFuncRecord
import Derived.RangeFuncCalls
import Derived.RangeFuncSeq
import Derived.Lib.Split
import Derived.Lib.AtoiAll
import Derived.Shelf.LaysM
import Derived.Shelf.LaysC
import Derived.Shelf.Strconv.Itoa3
import Derived.Shelf.Strconv.AtoiAll
import Derived.Shelf.Strings.Search3
import Derived.Shelf.Strings.Cut
import Derived.Shelf.Strings.Prefix
import Derived.Shelf.Strings.Split
import Derived.Lib.AppendIntMem
import Derived.Test.YtndniceeibflcaaGreatDoorLaa
import Derived.Test.YtndniceeibflcaaGreatDoorLac
import Derived.Test.YtndniceeibflcaaGreatDoorLad
import Derived.Test.YtndniceeibflcaaGreatDoorLae
import Derived.Test.YtndniceeibflcaaGreatDoorLag
import Derived.Test.YtndniceeibflcaaGreatDoorLai
import Derived.Test.YtndniceeibflcaaGreatDoorLaj
set_option linter.unusedSimpArgs false
set_option linter.unusedVariables false
namespace Go.Proofs.YtndniceeibflcaaGreatDoor
namespace Aw
end Aw
namespace Mp
end Mp
end Go.Proofs.YtndniceeibflcaaGreatDoor
namespace Go.Proofs.YtndniceeibflcaaGreatDoor
open Aw Mp Go.RowKit
set_option linter.unusedSimpArgs false
set_option maxRecDepth 8000

theorem m73_2 (m : Mch) (t : MS) {c : Nat} (hI : InvS m.n c t) (hc : c ≤ 1000) (hT : vT m.n m.ls = 0) (hls : m.ls.length ≤ 1000000) (x : Int) (hx : 0 ≤ x ∧ x ≤ 99) :
    MSpec Tryz.prog 73 [.q 7 6 0 0, .q 0 13 0 0, frmA (2, 1, 1, -1), .s 1 (intsA [x])] (memG m t) (fun r N => r = erV (erS m.n m.lim m.ls t 2 x 0 0) ∧ N = memG m (if erS m.n m.lim m.ls t 2 x 0 0 = 0 then nxS t 2 x 0 0 else t)) := by
  refine mspec_of2 (own := [6, 1022, 1033]) Tryz.func73 rfl ok73 ?_
  intro vs
  have hp4 := hI.p4
  have hhl := hI.hl
  have e0 : ((0 : Nat) : Int) = 0 := rfl
  have e1 : ((1 : Nat) : Int) = 1 := rfl
  have e2 : ((2 : Nat) : Int) = 2 := rfl
  have e3 : ((3 : Nat) : Int) = 3 := rfl
  have g0 : 0 < [x].length := by simp
  obtain ⟨gh, hgh⟩ : ∃ gh, gh = some (ghost vs [AV.q 7 6 0 0, AV.q 0 13 0 0, frmA (2, 1, 1, -1), AV.s 1 (intsA [x])]) := ⟨_, rfl⟩
  simp only [wB, awp, asP, asQ, asS, asN, obA, bndA, lenA, loadA, Aw.newRow, St.ev, St.step, setS, killS, AV.kill, AV.killL, Mem.kill, AV.cells, AV.flat, AV.single, AV.cellular, AV.size, AV.sizeL, Nat.reduceAdd, Nat.reduceEqDiff, Nat.reduceSub, Nat.reduceLeDiff, Int.reduceAdd, Int.reduceSub, Int.reduceNeg, Int.reduceLE, lenK, Tryz.ntmps73, memG, Mch.ob, Mch.od, Mch.cells, rowP, rowC, rowS, stO', List.drop_succ_cons, List.drop_zero, ghost, List.take_succ_cons, List.take_zero, e1, frmA, ← hgh]
  refine swp_loop' (fun j : Nat => ⟨[.q 7 6 0 0, .q 0 13 0 0, .bot, .s 1 (intsA [x]), .bot, .bot, .q 9 4 0 0, .bot, .v .nilIface, .bot, .bot, .bot, .bot, .bot, .bot, .bot, .bot, .bot, .bot, .s 1 (intsA [x]), I 1, I j, .bot, .bot, .bot, .bot, .bot, .bot, .bot, .bot, .bot, .bot, .bot, .bot, .bot, .bot, .bot, .bot, .bot, .bot, .bot, .bot, .bot, .bot, .bot, .bot, .bot, .bot, .bot, .bot, .bot, .bot, .bot, .bot, .bot, .bot, .bot, .bot, .bot, .bot, .bot, .bot, .bot, .bot, .bot, .bot, .bot, .bot, .bot, .bot, .bot, .bot, .bot, .bot, .bot, .bot, .bot, .bot, .bot, .bot, .bot, .bot, .bot, .bot, .bot, .bot, .bot, .bot, .bot, .bot, .bot, .bot, .bot, .bot, .bot, .bot, .bot, .bot, .bot, .bot, .bot, .bot, .bot, .bot, .bot, .bot, .bot, .bot, .bot, .bot, .bot, .bot, .bot, .bot, .bot, .bot, .bot, .bot, .bot, .bot, .bot, .bot, .bot, .bot, .bot, .bot, .bot, .bot, .bot, .bot, .bot, .bot, .bot, .bot, .bot, .bot, .bot, .bot, .bot, .bot, .bot, .bot, .bot, .bot, .bot, .bot, .bot, .bot, .bot, .bot, .bot, .bot, .bot, .bot, .bot, .bot, .bot, .bot, .bot, .bot, .bot, .bot, .bot, .bot, .bot, .bot, .bot, .bot, .bot, .bot, .bot, .bot, .bot, .bot, .bot, .bot, .bot, .bot, .bot, .bot, .bot, .bot, .bot, .bot, .bot, .bot, .bot, .bot, .bot, .bot, .bot, .bot, .bot, .bot, .bot, .bot, .bot, .bot, .bot, .bot, .bot, .bot, .bot, .bot, .bot, .bot, .bot, .bot, .bot, .bot, .bot, .bot, .bot, .bot, .bot, .bot, .bot, .bot, .bot, .bot, .bot, .bot, .bot, .bot, .bot, .bot, .bot, .bot, .bot, .bot, .bot, .bot, .bot, .bot, .bot, .bot, .bot, .bot, .bot, .bot, .bot, .bot, .bot, .bot, .bot, .bot, .bot, .bot, .bot, .bot, .bot, .bot, .bot, .bot], memG m t ++ [gh, some ⟨none, 112, 4, [frmA (2, 1, 1, -1)]⟩]⟩) (fun j => j ≤ 1 ∧ ∀ i, i < j → ∀ h : i < ([x] : List Int).length, ([x] : List Int)[i] < t.place.length) (fun j => 1 - j) 0 (le_sl' ?_ ?_) ⟨Nat.zero_le _, fun i h => absurd h (Nat.not_lt_zero _)⟩ ?_
  · simp only [memG, memS, Mch.ob, Mch.od, Mch.cells, rowP, rowC, rowS, stO', combR, List.cons_append, List.nil_append, Option.map_some, Option.map_none, List.drop_succ_cons, List.drop_zero, prsA_sub, strsA_sub, intsA_sub, gtsA_sub, AV.sub, AV.subL, keepF, keepG, liveI, List.getElem?_cons_succ, List.getElem?_cons_zero, List.getElem?_nil, AV.isO, AV.isQ, List.any_cons, List.any_nil, ghost, gA, List.take_succ_cons, List.take_zero, List.drop_nil, hgh, frmA]
  · simp [leSl, intsA]
  rintro j ⟨hj, hno⟩
  refine awp_sound (own := [6, 1022, 1033]) _ _ _ _ _ ?_
  simp only [wB, awp, binC, cmpC, asB, asI, St.ev, St.step, setS, killS, AV.kill, AV.killL, Mem.kill, AV.cells, Nat.reduceAdd, Nat.reduceEqDiff, Int.reduceAdd, Int.reduceNeg, memG, Mch.ob, Mch.od, Mch.cells, rowP, rowC, rowS, stO', ghost, hgh, frmA]
  by_cases h : (j : Int) < 1
  case pos =>
    have hjl : j < ([x] : List Int).length := by simp; omega
    simp only [wB, awp, binC, idxC, cmpC, asP, asQ, asS, asB, asI, asN, obA, lenA, loadA, St.ev, St.step, setS, killS, AV.kill, AV.killL, Mem.kill, AV.cells, AV.flat, AV.single, Nat.reduceAdd, Nat.reduceEqDiff, Nat.reduceLeDiff, Int.reduceAdd, Int.reduceNeg, lenK, Mch.cells, List.drop_zero, List.take_succ_cons, List.take_zero, decide_eq_true h, aget_ints hjl, Int.toNat_natCast]
    refine ⟨by omega, ?_⟩
    obtain ⟨q, hq⟩ : ∃ q, q = ([x] : List Int)[j] := ⟨_, rfl⟩
    rw [← hq]
    by_cases hp : (t.place.length : Int) ≤ q
    · simp only [wB, awp, asN, fillA, putsA, St.ev, St.step, setS, killS, AV.kill, AV.killL, Mem.kill, AV.cells, AV.flat, AV.single, AV.cellular, Value.oneCell', Nat.reduceAdd, Nat.reduceEqDiff, Nat.reduceLeDiff, Int.reduceAdd, Int.reduceNeg, Aw.valOf, Aw.valsOf, cc139, memG, Mch.ob, Mch.od, Mch.cells, rowP, rowC, rowS, stO', decide_eq_true hp]
      have he : erS m.n m.lim m.ls t 2 x 0 0 = 4 := by
        obtain rfl : j = 0 := by omega
        simp only [List.getElem_cons_zero] at hq
        subst hq
        simp only [erS]
        rw [if_pos hp]
      exact ⟨_, _, memG m t, _, Le.refl _, rfl, rfl, rfl, rfl, free_G _ m t, by simp [he, erV, errV], by first | (simp [he]; done) | (simp [he]; rfl)⟩
    · simp only [wB, awp, binC, arithC, cmpC, asI, St.ev, St.step, setS, killS, AV.kill, AV.killL, Mem.kill, AV.cells, Nat.reduceAdd, Nat.reduceEqDiff, Int.reduceAdd, Int.reduceNeg, isU, memG, Mch.ob, Mch.od, Mch.cells, rowP, rowC, rowS, stO', decide_eq_false hp]
      refine ⟨by unfold lim; omega, j + 1, le_sl' ?_ (by simp [leSl]), ⟨by omega, fun i hi hl => ?_⟩, by omega⟩
      · simp only [memG, memS, Mch.ob, Mch.od, Mch.cells, rowP, rowC, rowS, stO', combR, List.cons_append, List.nil_append, Option.map_some, Option.map_none, List.drop_succ_cons, List.drop_zero, prsA_sub, strsA_sub, intsA_sub, gtsA_sub, AV.sub, AV.subL, keepF, keepG, liveI, List.getElem?_cons_succ, List.getElem?_cons_zero, List.getElem?_nil, AV.isO, AV.isQ, List.any_cons, List.any_nil, ghost, gA, List.take_succ_cons, List.take_zero, List.drop_nil, hgh, frmA]
      · rcases Nat.lt_or_ge i j with h1 | h1
        · exact hno i h1 hl
        · obtain rfl : i = j := by omega
          rw [← hq]; omega
  obtain rfl : j = 1 := by omega
  have px : x < t.place.length := by have := hno 0 (by omega) (by simp); simpa using this
  clear hno
  simp only [awp, ACond_false, if_true, decide_false, Int.reduceNeg, Int.reduceLT, e1]
  refine swp_draw (own := [6]) (.take 0 .plain [] (.take 1 .reads [] (.take 2 .plain [] (.take 3 .plain [] (.take 4 .plain [] (.take 5 .plain [] (.take 6 .reads [] (.take 7 .reads [] (.take 8 .reads [] (.take 9 .plain [] (.take 10 .plain [] (.take 11 .plain [] (.take 12 .plain [] (.take 13 .reads [] (.take 14 .plain [] (.take 15 .plain [] (.done))))))))))))))))) [⟨36, 64, 0, 0, true⟩, ⟨37, 34359738368, 1, 0, true⟩, ⟨38, 68719476736, 2, 0, true⟩, ⟨39, 137438953472, 4, 0, true⟩, ⟨40, 274877906952, 8, 0, true⟩, ⟨41, 274877907008, 8, 0, true⟩, ⟨42, 1374389534720, 40, 0, true⟩, ⟨43, 3023656976384, 88, 0, true⟩, ⟨44, 4672924418048, 136, 0, true⟩, ⟨45, 274877906946, 8, 0, true⟩, ⟨46, 17867063951360, 520, 0, true⟩, ⟨47, 35459249995776, 1032, 0, true⟩, ⟨48, 70643622084608, 2056, 0, true⟩, ⟨49, 141012366262272, 4104, 0, true⟩, ⟨50, 290545947639808, 8456, 0, true⟩, ⟨51, 563224831328256, 16392, 0, true⟩] mo (by kernel_rfl) ?_
  simp only [wB, awp, binC, cmpC, asP, asQ, asB, asI, asN, obA, loadA, St.ev, St.step, setS, killS, AV.kill, AV.killL, Mem.kill, AV.cells, AV.flat, AV.single, Nat.reduceAdd, Nat.reduceEqDiff, Nat.reduceLeDiff, Int.reduceAdd, Int.reduceNeg, Int.reduceLE, Int.reduceEq, ASch, St.put, Md.mem, Md.need, Mch.cells, List.drop_succ_cons, List.drop_zero, List.take_succ_cons, List.take_zero, aget_ints g0]
  have hxl : x.toNat < t.heats.length := by rw [hhl]; omega
  have hst : (intsA t.heats)[x.toNat]? = some (I t.heats[x.toNat]) := by simp [intsA, hxl]
  refine swp_draw (own := [6]) (.take 0 .plain [] (.take 1 .plain [] (.take 2 .plain [] (.take 3 .reads [] (.take 4 .plain [] (.take 5 .reads [] (.take 6 .reads [] (.take 7 .reads [] (.alt 8 (.done) (.nil)))))))))) [⟨165, 1, 0, 0, true⟩, ⟨166, 23384026197294446691258957323460528314494920687616, 1, 0, true⟩, ⟨167, 46768052394588893382517914646921056628989841375232, 2, 0, true⟩, ⟨168, 93536104789177786765035829293842113257979682750464, 4, 0, true⟩, ⟨169, 8, 0, 0, true⟩, ⟨170, 374144419156711147060143317175368453031918731001856, 16, 0, true⟩, ⟨171, 748288838313422294120286634350736906063837462003712, 32, 0, true⟩, ⟨172, 1683649886205200161770644927289158038643634289508352, 127, 0, true⟩, ⟨0, 2993155353253689176481146537402947624255349848014848, 255, 1, false⟩] mo (by kernel_rfl) ?_
  simp only [wB, awp, binC, idxC, arithC, cmpC, asP, asQ, asO, asS, asI, asN, obA, loadA, storeA, putsA, St.ev, St.step, setS, killS, AV.kill, AV.killL, Mem.kill, AV.cells, AV.flat, AV.single, AV.cellular, Value.oneCell', Nat.reduceAdd, Nat.reduceEqDiff, Nat.reduceLeDiff, Int.reduceAdd, Int.reduceNeg, Int.reduceLE, ASch, St.put, Md.mem, Md.need, isU, memG, Mch.ob, Mch.od, Mch.cells, rowP, rowC, rowS, stO', List.drop_succ_cons, List.drop_zero, List.take_succ_cons, List.take_zero, List.getElem_cons_zero, aget_ints g0, intsA_set', aget_ints hxl]
  have he : erS m.n m.lim m.ls t 2 x 0 0 = 0 := by simp only [erS]; rw [if_neg (by omega)]
  have hco := hI.co
  refine ⟨⟨hx.1, by omega⟩, by unfold lim; omega, ?_⟩
  exact ⟨_, _, memG m (nxS t 2 x 0 0), _, Le.refl _, rfl, rfl, rfl, rfl, free_G _ m _, by simp [he, erV], by rw [if_pos he]; rfl⟩
end Go.Proofs.YtndniceeibflcaaGreatDoor

namespace Go.Proofs.YtndniceeibflcaaGreatDoor
open Aw Mp Go.RowKit
set_option linter.unusedSimpArgs false
set_option maxRecDepth 8000

theorem m73_7 (m : Mch) (t : MS) {c : Nat} (hI : InvS m.n c t) (hc : c ≤ 1000) (hT : vT m.n m.ls = 0) (hls : m.ls.length ≤ 1000000)  :
    MSpec Tryz.prog 73 [.q 7 6 0 0, .q 0 13 0 0, frmA (7, 0, 0, -1), .s 1 (intsA [])] (memG m t) (fun r N => r = erV (erS m.n m.lim m.ls t 7 0 0 0) ∧ N = memG m (if erS m.n m.lim m.ls t 7 0 0 0 = 0 then nxS t 7 0 0 0 else t)) := by
  refine mspec_of2 (own := [6, 1022, 1033]) Tryz.func73 rfl ok73 ?_
  intro vs
  have hp4 := hI.p4
  have hhl := hI.hl
  have e0 : ((0 : Nat) : Int) = 0 := rfl
  have e1 : ((1 : Nat) : Int) = 1 := rfl
  have e2 : ((2 : Nat) : Int) = 2 := rfl
  have e3 : ((3 : Nat) : Int) = 3 := rfl
  obtain ⟨gh, hgh⟩ : ∃ gh, gh = some (ghost vs [AV.q 7 6 0 0, AV.q 0 13 0 0, frmA (7, 0, 0, -1), AV.s 1 (intsA [])]) := ⟨_, rfl⟩
  simp only [wB, awp, asP, asQ, asS, asN, obA, bndA, lenA, loadA, Aw.newRow, St.ev, St.step, setS, killS, AV.kill, AV.killL, Mem.kill, AV.cells, AV.flat, AV.single, AV.cellular, AV.size, AV.sizeL, Nat.reduceAdd, Nat.reduceEqDiff, Nat.reduceSub, Nat.reduceLeDiff, Int.reduceAdd, Int.reduceSub, Int.reduceNeg, Int.reduceLE, lenK, Tryz.ntmps73, memG, Mch.ob, Mch.od, Mch.cells, rowP, rowC, rowS, stO', List.drop_succ_cons, List.drop_zero, ghost, List.take_succ_cons, List.take_zero, List.drop_nil, e0, frmA, ← hgh]
  refine swp_loop' (fun j : Nat => ⟨[.q 7 6 0 0, .q 0 13 0 0, .bot, .s 1 (intsA []), .bot, .bot, .q 9 4 0 0, .bot, .v .nilIface, .bot, .bot, .bot, .bot, .bot, .bot, .bot, .bot, .bot, .bot, .s 1 (intsA []), I 0, I j, .bot, .bot, .bot, .bot, .bot, .bot, .bot, .bot, .bot, .bot, .bot, .bot, .bot, .bot, .bot, .bot, .bot, .bot, .bot, .bot, .bot, .bot, .bot, .bot, .bot, .bot, .bot, .bot, .bot, .bot, .bot, .bot, .bot, .bot, .bot, .bot, .bot, .bot, .bot, .bot, .bot, .bot, .bot, .bot, .bot, .bot, .bot, .bot, .bot, .bot, .bot, .bot, .bot, .bot, .bot, .bot, .bot, .bot, .bot, .bot, .bot, .bot, .bot, .bot, .bot, .bot, .bot, .bot, .bot, .bot, .bot, .bot, .bot, .bot, .bot, .bot, .bot, .bot, .bot, .bot, .bot, .bot, .bot, .bot, .bot, .bot, .bot, .bot, .bot, .bot, .bot, .bot, .bot, .bot, .bot, .bot, .bot, .bot, .bot, .bot, .bot, .bot, .bot, .bot, .bot, .bot, .bot, .bot, .bot, .bot, .bot, .bot, .bot, .bot, .bot, .bot, .bot, .bot, .bot, .bot, .bot, .bot, .bot, .bot, .bot, .bot, .bot, .bot, .bot, .bot, .bot, .bot, .bot, .bot, .bot, .bot, .bot, .bot, .bot, .bot, .bot, .bot, .bot, .bot, .bot, .bot, .bot, .bot, .bot, .bot, .bot, .bot, .bot, .bot, .bot, .bot, .bot, .bot, .bot, .bot, .bot, .bot, .bot, .bot, .bot, .bot, .bot, .bot, .bot, .bot, .bot, .bot, .bot, .bot, .bot, .bot, .bot, .bot, .bot, .bot, .bot, .bot, .bot, .bot, .bot, .bot, .bot, .bot, .bot, .bot, .bot, .bot, .bot, .bot, .bot, .bot, .bot, .bot, .bot, .bot, .bot, .bot, .bot, .bot, .bot, .bot, .bot, .bot, .bot, .bot, .bot, .bot, .bot, .bot, .bot, .bot, .bot, .bot, .bot, .bot, .bot, .bot, .bot, .bot, .bot, .bot, .bot, .bot, .bot, .bot, .bot, .bot], memG m t ++ [gh, some ⟨none, 112, 4, [frmA (7, 0, 0, -1)]⟩]⟩) (fun j => j ≤ 0 ∧ ∀ i, i < j → ∀ h : i < ([] : List Int).length, ([] : List Int)[i] < t.place.length) (fun j => 0 - j) 0 (le_sl' ?_ ?_) ⟨Nat.zero_le _, fun i h => absurd h (Nat.not_lt_zero _)⟩ ?_
  · simp only [memG, memS, Mch.ob, Mch.od, Mch.cells, rowP, rowC, rowS, stO', combR, List.cons_append, List.nil_append, Option.map_some, Option.map_none, List.drop_succ_cons, List.drop_zero, prsA_sub, strsA_sub, intsA_sub, gtsA_sub, AV.sub, AV.subL, keepF, keepG, liveI, List.getElem?_cons_succ, List.getElem?_cons_zero, List.getElem?_nil, AV.isO, AV.isQ, List.any_cons, List.any_nil, ghost, gA, List.take_succ_cons, List.take_zero, List.drop_nil, hgh, frmA]
  · simp [leSl, intsA]
  rintro j ⟨hj, hno⟩
  refine awp_sound (own := [6, 1022, 1033]) _ _ _ _ _ ?_
  simp only [wB, awp, binC, cmpC, asB, asI, St.ev, St.step, setS, killS, AV.kill, AV.killL, Mem.kill, AV.cells, Nat.reduceAdd, Nat.reduceEqDiff, Int.reduceAdd, Int.reduceNeg, memG, Mch.ob, Mch.od, Mch.cells, rowP, rowC, rowS, stO', ghost, hgh, frmA]
  by_cases h : (j : Int) < 0
  case pos =>
    omega
  obtain rfl : j = 0 := by omega
  clear hno
  simp only [awp, ACond_false, if_true, decide_false, Int.reduceNeg, Int.reduceLT, e0]
  refine swp_draw (own := [6]) (.take 0 .plain [] (.take 1 .reads [] (.take 2 .plain [] (.take 3 .plain [] (.take 4 .plain [] (.take 5 .plain [] (.take 6 .reads [] (.take 7 .reads [] (.take 8 .reads [] (.take 9 .plain [] (.take 10 .plain [] (.take 11 .plain [] (.take 12 .plain [] (.take 13 .reads [] (.take 14 .plain [] (.take 15 .plain [] (.done))))))))))))))))) [⟨36, 64, 0, 0, true⟩, ⟨37, 34359738368, 1, 0, true⟩, ⟨38, 68719476736, 2, 0, true⟩, ⟨39, 137438953472, 4, 0, true⟩, ⟨40, 274877906952, 8, 0, true⟩, ⟨41, 274877907008, 8, 0, true⟩, ⟨42, 1374389534720, 40, 0, true⟩, ⟨43, 3023656976384, 88, 0, true⟩, ⟨44, 4672924418048, 136, 0, true⟩, ⟨45, 274877906946, 8, 0, true⟩, ⟨46, 17867063951360, 520, 0, true⟩, ⟨47, 35459249995776, 1032, 0, true⟩, ⟨48, 70643622084608, 2056, 0, true⟩, ⟨49, 141012366262272, 4104, 0, true⟩, ⟨50, 290545947639808, 8456, 0, true⟩, ⟨51, 563224831328256, 16392, 0, true⟩] mo (by kernel_rfl) ?_
  simp only [wB, awp, binC, cmpC, asP, asQ, asB, asI, asN, obA, lenA, loadA, St.ev, St.step, setS, killS, AV.kill, AV.killL, Mem.kill, AV.cells, AV.flat, AV.single, Nat.reduceAdd, Nat.reduceEqDiff, Nat.reduceLeDiff, Int.reduceAdd, Int.reduceNeg, Int.reduceLE, Int.reduceEq, ASch, St.put, Md.mem, Md.need, lenK, Mch.cells, List.drop_succ_cons, List.drop_zero, List.take_succ_cons, List.take_zero]
  by_cases hc0 : (t.circ.length : Int) = 0
  · simp only [wB, awp, asN, fillA, putsA, St.ev, St.step, setS, killS, AV.kill, AV.killL, Mem.kill, AV.cells, AV.flat, AV.single, AV.cellular, Value.oneCell', Nat.reduceAdd, Nat.reduceEqDiff, Nat.reduceLeDiff, Int.reduceAdd, Int.reduceNeg, Aw.valOf, Aw.valsOf, cc139, memG, Mch.ob, Mch.od, Mch.cells, rowP, rowC, rowS, stO', gtsA_len, decide_eq_true hc0]
    have he : erS m.n m.lim m.ls t 7 0 0 0 = 9 := by simp only [erS]; rw [if_pos (List.eq_nil_of_length_eq_zero (by omega))]
    exact ⟨_, _, memG m t, _, Le.refl _, rfl, rfl, rfl, rfl, free_G _ m t, by simp [he, erV, errV], by first | (simp [he]; done) | (simp [he]; rfl)⟩
  · simp only [wB, awp, asP, asQ, asN, obA, storeA, putsA, St.ev, St.step, setS, killS, AV.kill, AV.killL, Mem.kill, AV.cells, AV.flat, AV.single, AV.cellular, Value.oneCell', Nat.reduceAdd, Nat.reduceEqDiff, Nat.reduceLeDiff, Int.reduceAdd, Int.reduceNeg, memG, Mch.ob, Mch.od, Mch.cells, rowP, rowC, rowS, stO', gtsA_len, decide_eq_false hc0]
    have he : erS m.n m.lim m.ls t 7 0 0 0 = 0 := by simp only [erS]; rw [if_neg (fun h => hc0 (by rw [h]; rfl))]
    refine ⟨_, .v .nilIface, memG m (nxS t 7 0 0 0), [], Le.trans (le_nil 7 0 2 81 4 rfl rfl rfl rfl) (le_ren [0, 1, 2, 3, 4, 5, 10, 7, 8] (by decide)), rfl, ?_, rfl, rfl, free_G _ m _, by simp [he, erV], by rw [if_pos he]; rfl⟩
    simp only [hgh, ghost]
    simp [reM, reF, reG, memG, Mch.ob, Mch.od, Mch.cells, rowP, rowC, rowS, stO', AV.sub, AV.subL, intsA_sub, gtsA_sub, prsA_sub, strsA_sub, nxS, frmA, List.idxOf?, List.findIdx?, List.findIdx?.go, ghost]
    rfl
end Go.Proofs.YtndniceeibflcaaGreatDoor

namespace Go.Proofs.YtndniceeibflcaaGreatDoor
open Aw Mp Go.RowKit
set_option linter.unusedSimpArgs false
set_option maxRecDepth 8000

theorem m73_3 (m : Mch) (t : MS) {c : Nat} (hI : InvS m.n c t) (hc : c ≤ 1000) (hT : vT m.n m.ls = 0) (hls : m.ls.length ≤ 1000000) (x : Int) (hx : 0 ≤ x ∧ x ≤ 99) :
    MSpec Tryz.prog 73 [.q 7 6 0 0, .q 0 13 0 0, frmA (3, 1, 0, -1), .s 1 (intsA [x])] (memG m t) (fun r N => r = erV (erS m.n m.lim m.ls t 3 x 0 0) ∧ N = memG m (if erS m.n m.lim m.ls t 3 x 0 0 = 0 then nxS t 3 x 0 0 else t)) := by
  refine mspec_of2 (own := [6, 1022, 1033]) Tryz.func73 rfl ok73 ?_
  intro vs
  have hp4 := hI.p4
  have hhl := hI.hl
  have e0 : ((0 : Nat) : Int) = 0 := rfl
  have e1 : ((1 : Nat) : Int) = 1 := rfl
  have e2 : ((2 : Nat) : Int) = 2 := rfl
  have e3 : ((3 : Nat) : Int) = 3 := rfl
  have g0 : 0 < [x].length := by simp
  obtain ⟨gh, hgh⟩ : ∃ gh, gh = some (ghost vs [AV.q 7 6 0 0, AV.q 0 13 0 0, frmA (3, 1, 0, -1), AV.s 1 (intsA [x])]) := ⟨_, rfl⟩
  simp only [wB, awp, asP, asQ, asS, asN, obA, bndA, lenA, loadA, Aw.newRow, St.ev, St.step, setS, killS, AV.kill, AV.killL, Mem.kill, AV.cells, AV.flat, AV.single, AV.cellular, AV.size, AV.sizeL, Nat.reduceAdd, Nat.reduceEqDiff, Nat.reduceSub, Nat.reduceLeDiff, Int.reduceAdd, Int.reduceSub, Int.reduceNeg, Int.reduceLE, lenK, Tryz.ntmps73, memG, Mch.ob, Mch.od, Mch.cells, rowP, rowC, rowS, stO', List.drop_succ_cons, List.drop_zero, ghost, List.take_succ_cons, List.take_zero, List.drop_nil, e0, e1, frmA, ← hgh]
  refine swp_loop' (fun j : Nat => ⟨[.q 7 6 0 0, .q 0 13 0 0, .bot, .s 1 (intsA [x]), .bot, .bot, .q 9 4 0 0, .bot, .v .nilIface, .bot, .bot, .bot, .bot, .bot, .bot, .bot, .bot, .bot, .bot, .s 1 (intsA []), I 0, I j, .bot, .bot, .bot, .bot, .bot, .bot, .bot, .bot, .bot, .bot, .bot, .bot, .bot, .bot, .bot, .bot, .bot, .bot, .bot, .bot, .bot, .bot, .bot, .bot, .bot, .bot, .bot, .bot, .bot, .bot, .bot, .bot, .bot, .bot, .bot, .bot, .bot, .bot, .bot, .bot, .bot, .bot, .bot, .bot, .bot, .bot, .bot, .bot, .bot, .bot, .bot, .bot, .bot, .bot, .bot, .bot, .bot, .bot, .bot, .bot, .bot, .bot, .bot, .bot, .bot, .bot, .bot, .bot, .bot, .bot, .bot, .bot, .bot, .bot, .bot, .bot, .bot, .bot, .bot, .bot, .bot, .bot, .bot, .bot, .bot, .bot, .bot, .bot, .bot, .bot, .bot, .bot, .bot, .bot, .bot, .bot, .bot, .bot, .bot, .bot, .bot, .bot, .bot, .bot, .bot, .bot, .bot, .bot, .bot, .bot, .bot, .bot, .bot, .bot, .bot, .bot, .bot, .bot, .bot, .bot, .bot, .bot, .bot, .bot, .bot, .bot, .bot, .bot, .bot, .bot, .bot, .bot, .bot, .bot, .bot, .bot, .bot, .bot, .bot, .bot, .bot, .bot, .bot, .bot, .bot, .bot, .bot, .bot, .bot, .bot, .bot, .bot, .bot, .bot, .bot, .bot, .bot, .bot, .bot, .bot, .bot, .bot, .bot, .bot, .bot, .bot, .bot, .bot, .bot, .bot, .bot, .bot, .bot, .bot, .bot, .bot, .bot, .bot, .bot, .bot, .bot, .bot, .bot, .bot, .bot, .bot, .bot, .bot, .bot, .bot, .bot, .bot, .bot, .bot, .bot, .bot, .bot, .bot, .bot, .bot, .bot, .bot, .bot, .bot, .bot, .bot, .bot, .bot, .bot, .bot, .bot, .bot, .bot, .bot, .bot, .bot, .bot, .bot, .bot, .bot, .bot, .bot, .bot, .bot, .bot, .bot, .bot, .bot, .bot, .bot, .bot, .bot], memG m t ++ [gh, some ⟨none, 112, 4, [frmA (3, 1, 0, -1)]⟩]⟩) (fun j => j ≤ 0 ∧ ∀ i, i < j → ∀ h : i < ([] : List Int).length, ([] : List Int)[i] < t.place.length) (fun j => 0 - j) 0 (le_sl' ?_ ?_) ⟨Nat.zero_le _, fun i h => absurd h (Nat.not_lt_zero _)⟩ ?_
  · simp only [memG, memS, Mch.ob, Mch.od, Mch.cells, rowP, rowC, rowS, stO', combR, List.cons_append, List.nil_append, Option.map_some, Option.map_none, List.drop_succ_cons, List.drop_zero, prsA_sub, strsA_sub, intsA_sub, gtsA_sub, AV.sub, AV.subL, keepF, keepG, liveI, List.getElem?_cons_succ, List.getElem?_cons_zero, List.getElem?_nil, AV.isO, AV.isQ, List.any_cons, List.any_nil, ghost, gA, List.take_succ_cons, List.take_zero, List.drop_nil, hgh, frmA]
  · simp [leSl, intsA]
  rintro j ⟨hj, hno⟩
  refine awp_sound (own := [6, 1022, 1033]) _ _ _ _ _ ?_
  simp only [wB, awp, binC, cmpC, asB, asI, St.ev, St.step, setS, killS, AV.kill, AV.killL, Mem.kill, AV.cells, Nat.reduceAdd, Nat.reduceEqDiff, Int.reduceAdd, Int.reduceNeg, memG, Mch.ob, Mch.od, Mch.cells, rowP, rowC, rowS, stO', ghost, hgh, frmA]
  by_cases h : (j : Int) < 0
  case pos =>
    omega
  obtain rfl : j = 0 := by omega
  clear hno
  simp only [awp, ACond_false, if_true, decide_false, Int.reduceNeg, Int.reduceLT, e0]
  refine swp_draw (own := [6]) (.take 0 .plain [] (.take 1 .reads [] (.take 2 .plain [] (.take 3 .plain [] (.take 4 .plain [] (.take 5 .plain [] (.take 6 .reads [] (.take 7 .reads [] (.take 8 .reads [] (.take 9 .plain [] (.take 10 .plain [] (.take 11 .plain [] (.take 12 .plain [] (.take 13 .reads [] (.take 14 .plain [] (.take 15 .plain [] (.done))))))))))))))))) [⟨36, 64, 0, 0, true⟩, ⟨37, 34359738368, 1, 0, true⟩, ⟨38, 68719476736, 2, 0, true⟩, ⟨39, 137438953472, 4, 0, true⟩, ⟨40, 274877906952, 8, 0, true⟩, ⟨41, 274877907008, 8, 0, true⟩, ⟨42, 1374389534720, 40, 0, true⟩, ⟨43, 3023656976384, 88, 0, true⟩, ⟨44, 4672924418048, 136, 0, true⟩, ⟨45, 274877906946, 8, 0, true⟩, ⟨46, 17867063951360, 520, 0, true⟩, ⟨47, 35459249995776, 1032, 0, true⟩, ⟨48, 70643622084608, 2056, 0, true⟩, ⟨49, 141012366262272, 4104, 0, true⟩, ⟨50, 290545947639808, 8456, 0, true⟩, ⟨51, 563224831328256, 16392, 0, true⟩] mo (by kernel_rfl) ?_
  simp only [wB, awp, binC, idxC, cmpC, asP, asQ, asS, asB, asI, asN, obA, loadA, St.ev, St.step, setS, killS, AV.kill, AV.killL, Mem.kill, AV.cells, AV.flat, AV.single, Nat.reduceAdd, Nat.reduceEqDiff, Nat.reduceLeDiff, Int.reduceAdd, Int.reduceNeg, Int.reduceLE, Int.reduceEq, ASch, St.put, Md.mem, Md.need, Mch.cells, List.drop_succ_cons, List.drop_zero, List.take_succ_cons, List.take_zero, List.getElem_cons_zero, aget_ints g0]
  by_cases hx0 : x = 0
  · simp only [wB, awp, asN, fillA, putsA, St.ev, St.step, setS, killS, AV.kill, AV.killL, Mem.kill, AV.cells, AV.flat, AV.single, AV.cellular, Value.oneCell', Nat.reduceAdd, Nat.reduceEqDiff, Nat.reduceLeDiff, Int.reduceAdd, Int.reduceNeg, Aw.valOf, Aw.valsOf, cc139, memG, Mch.ob, Mch.od, Mch.cells, rowP, rowC, rowS, stO', aget_ints g0, decide_eq_true hx0]
    have he : erS m.n m.lim m.ls t 3 x 0 0 = 1 := by simp only [erS]; rw [if_pos hx0]
    exact ⟨_, _, memG m t, _, Le.refl _, rfl, rfl, rfl, rfl, free_G _ m t, by simp [he, erV, errV], by first | (simp [he]; done) | (simp [he]; rfl)⟩
  simp only [wB, awp, asP, asQ, obA, lenA, loadA, St.ev, St.step, setS, killS, AV.kill, AV.killL, Mem.kill, AV.cells, AV.flat, AV.single, Nat.reduceAdd, Nat.reduceEqDiff, Nat.reduceLeDiff, Int.reduceAdd, Int.reduceNeg, lenK, Mch.cells, List.drop_succ_cons, List.drop_zero, List.take_succ_cons, List.take_zero, aget_ints g0, decide_eq_false hx0]
  have he : erS m.n m.lim m.ls t 3 x 0 0 = 0 := by simp only [erS]; rw [if_neg hx0]
  refine swp_loop' (fun j : Nat => ⟨[.q 7 6 0 0, .bot, .bot, .s 1 (intsA [x]), .bot, .bot, .bot, .bot, .v .nilIface, .bot, .bot, .bot, .bot, .bot, .bot, .bot, .bot, .bot, .bot, .bot, .bot, .bot, .bot, .bot, .bot, .bot, .bot, .bot, .bot, .bot, .bot, .bot, .bot, .bot, .bot, .bot, .bot, .bot, .bot, .bot, .bot, .bot, .bot, .bot, .bot, .bot, .bot, .bot, .bot, .bot, .bot, .bot, .bot, .bot, .bot, .bot, .bot, .bot, .bot, .bot, .bot, .bot, .bot, .bot, .bot, .bot, .bot, .bot, .bot, .bot, .bot, .bot, .bot, .bot, .bot, .bot, .bot, .bot, .bot, .bot, .bot, .bot, .bot, .bot, .bot, .bot, .bot, .bot, .bot, .bot, .bot, .bot, .bot, .bot, .bot, .bot, .bot, .bot, .bot, .bot, .bot, .bot, .bot, .bot, .bot, .bot, .bot, .bot, .bot, .bot, .bot, .bot, .bot, .bot, .bot, .bot, .bot, .bot, .bot, .bot, .bot, .bot, .bot, .bot, .bot, .bot, .bot, .bot, .bot, .bot, .bot, .bot, .bot, .bot, .bot, .bot, .bot, .bot, .bot, .bot, .bot, .bot, .bot, .bot, .bot, .bot, .bot, .bot, .bot, .bot, .bot, .bot, .bot, .bot, .bot, .bot, .bot, .bot, .bot, .bot, .bot, .bot, .bot, .bot, .bot, .bot, .bot, .bot, .bot, .bot, .bot, .bot, .bot, .bot, .bot, .bot, .bot, .bot, .bot, .bot, .bot, .bot, .bot, .bot, .bot, .bot, .bot, .bot, .bot, .bot, .bot, I t.heats.length, I j, .bot, .bot, .bot, .bot, .bot, .bot, .bot, .bot, .bot, .bot, .bot, .bot, .bot, .bot, .bot, .bot, .bot, .bot, .bot, .bot, .bot, .bot, .bot, .bot, .bot, .bot, .bot, .bot, .bot, .bot, .bot, .bot, .bot, .bot, .bot, .bot, .bot, .bot, .bot, .bot, .bot, .bot, .bot, .bot, .bot, .bot, .bot, .bot, .bot, .bot, .bot, .bot, .bot, .bot, .bot, .bot, .bot, .bot, .bot, .bot, .bot], memG m ({ t with heats := warmL t.heats x j }) ++ [gh, some ⟨none, 112, 4, [frmA (3, 1, 0, -1)]⟩]⟩) (fun j => j ≤ t.heats.length) (fun j => t.heats.length - j) 0 (le_sl' ?_ ?_) (Nat.zero_le _) ?_
  · simp only [memG, memS, Mch.ob, Mch.od, Mch.cells, rowP, rowC, rowS, stO', combR, List.cons_append, List.nil_append, Option.map_some, Option.map_none, List.drop_succ_cons, List.drop_zero, prsA_sub, strsA_sub, intsA_sub, gtsA_sub, AV.sub, AV.subL, keepF, keepG, liveI, List.getElem?_cons_succ, List.getElem?_cons_zero, List.getElem?_nil, AV.isO, AV.isQ, List.any_cons, List.any_nil, ghost, gA, List.take_succ_cons, List.take_zero, List.drop_nil, hgh, frmA, warmL, List.take_zero, List.map_nil, List.nil_append, List.drop_zero]
  · simp [leSl]
  intro j hj
  refine awp_sound (own := [6, 1022, 1033]) _ _ _ _ _ ?_
  simp only [wB, awp, binC, cmpC, asB, asI, St.ev, St.step, setS, killS, AV.kill, AV.killL, Mem.kill, AV.cells, Nat.reduceAdd, Nat.reduceEqDiff, Int.reduceAdd, Int.reduceNeg, memG, Mch.ob, Mch.od, Mch.cells, rowP, rowC, rowS, stO', ghost, hgh, frmA]
  by_cases h : j < t.heats.length
  case neg =>
    have h' : ¬ (j : Int) < (t.heats.length : Int) := by omega
    simp only [wB, awp, asN, St.ev, St.step, setS, killS, AV.kill, AV.killL, Mem.kill, AV.cells, Nat.reduceAdd, Nat.reduceEqDiff, Int.reduceAdd, Int.reduceNeg, memG, Mch.ob, Mch.od, Mch.cells, rowP, rowC, rowS, stO', decide_eq_false h']
    have hw : warmL t.heats x j = t.heats.map fun h => min (h + x) 1000 := by
      unfold warmL
      rw [List.take_of_length_le (by omega), List.drop_eq_nil_of_le (by omega), List.append_nil]
    rw [hw]
    exact ⟨_, _, memG m (nxS t 3 x 0 0), _, Le.refl _, rfl, rfl, rfl, rfl, free_G _ m _, by simp [he, erV], by rw [if_pos he]; rfl⟩
  have h' : (j : Int) < (t.heats.length : Int) := by omega
  simp only [wB, awp, asN, St.ev, St.step, setS, killS, AV.kill, AV.killL, Mem.kill, Nat.reduceAdd, Nat.reduceEqDiff, Int.reduceAdd, Int.reduceNeg, decide_eq_true h']
  refine swp_fm (own := [6]) 5 rfl rfl rfl ?_
  simp only [wB, idxC, asP, asS, asI, loadA, St.ev, St.step, setS, killS, AV.kill, AV.killL, Mem.kill, AV.cells, AV.flat, AV.single, Int.reduceNeg, Int.reduceLE, Mch.cells, List.take_succ_cons, List.take_zero, List.getElem_cons_zero, aget_ints g0]
  refine acall_f (fspec_of (m104 { t with heats := warmL t.heats x j } j (by simp only [warmL_len]; exact h) x (by omega) (warmL_in hI.hin hx.1 j)) [0, 1, 2, 3, 8, 9] rfl (by exact ⟨rfl, rfl, rfl, rfl, trivial⟩) rfl rfl (free_S _ _ (by decide)) (N := memG m ({ t with heats := warmL t.heats x (j + 1) }) ++ [gh, some ⟨none, 112, 4, [frmA (3, 1, 0, -1)]⟩]) ?_) ?_
  · simp only [memG, memS, Mch.ob, Mch.od, Mch.cells, rowP, rowC, rowS, stO', combR, List.cons_append, List.nil_append, Option.map_some, Option.map_none, List.drop_succ_cons, List.drop_zero, prsA_sub, strsA_sub, intsA_sub, gtsA_sub, AV.sub, AV.subL, keepF, keepG, liveI, List.getElem?_cons_succ, List.getElem?_cons_zero, List.getElem?_nil, AV.isO, AV.isQ, List.any_cons, List.any_nil, ghost, gA, List.take_succ_cons, List.take_zero, List.drop_nil, hgh, frmA, warmL_bump h]
    rfl
  · simp only [wB, awp, binC, arithC, cmpC, asI, St.ev, St.step, setS, killS, AV.kill, AV.killL, Mem.kill, AV.cells, Nat.reduceAdd, Nat.reduceEqDiff, Int.reduceAdd, Int.reduceNeg, isU, memG, memS, Mch.ob, Mch.od, Mch.cells, rowP, rowC, rowS, stO', List.drop_succ_cons, AV.sub, keepG, liveI, AV.isQ, List.any_cons, List.any_nil, ghost, List.drop_nil, hgh, frmA]
    refine ⟨by unfold lim; omega, j + 1, le_sl' ?_ (by simp [leSl]), h, by omega⟩
    simp only [memG, memS, Mch.ob, Mch.od, Mch.cells, rowP, rowC, rowS, stO', combR, List.cons_append, List.nil_append, Option.map_some, Option.map_none, List.drop_succ_cons, List.drop_zero, prsA_sub, strsA_sub, intsA_sub, gtsA_sub, AV.sub, AV.subL, keepF, keepG, liveI, List.getElem?_cons_succ, List.getElem?_cons_zero, List.getElem?_nil, AV.isO, AV.isQ, List.any_cons, List.any_nil, ghost, gA, List.take_succ_cons, List.take_zero, List.drop_nil, hgh, frmA]
end Go.Proofs.YtndniceeibflcaaGreatDoor

namespace Go.Proofs.YtndniceeibflcaaGreatDoor
open Aw Mp Go.RowKit
set_option linter.unusedSimpArgs false
set_option maxRecDepth 8000

theorem m73_0 (m : Mch) (t : MS) {c : Nat} (hI : InvS m.n c t) (hc : c ≤ 1000) (hT : vT m.n m.ls = 0) (hls : m.ls.length ≤ 1000000) (x : Int) (hx : 0 ≤ x ∧ x ≤ 99) :
    MSpec Tryz.prog 73 [.q 7 6 0 0, .q 0 13 0 0, frmA (0, 1, 0, 0), .s 1 (intsA [x])] (memG m t) (fun r N => r = erV (erS m.n m.lim m.ls t 0 x 0 0) ∧ N = memG m (if erS m.n m.lim m.ls t 0 x 0 0 = 0 then nxS t 0 x 0 0 else t)) := by
  refine mspec_of2 (own := [6, 1022, 1033]) Tryz.func73 rfl ok73 ?_
  intro vs
  have hp4 := hI.p4
  have hhl := hI.hl
  have e0 : ((0 : Nat) : Int) = 0 := rfl
  have e1 : ((1 : Nat) : Int) = 1 := rfl
  have e2 : ((2 : Nat) : Int) = 2 := rfl
  have e3 : ((3 : Nat) : Int) = 3 := rfl
  have g0 : 0 < [x].length := by simp
  obtain ⟨gh, hgh⟩ : ∃ gh, gh = some (ghost vs [AV.q 7 6 0 0, AV.q 0 13 0 0, frmA (0, 1, 0, 0), AV.s 1 (intsA [x])]) := ⟨_, rfl⟩
  simp only [wB, awp, asP, asQ, asS, asN, obA, bndA, lenA, loadA, Aw.newRow, St.ev, St.step, setS, killS, AV.kill, AV.killL, Mem.kill, AV.cells, AV.flat, AV.single, AV.cellular, AV.size, AV.sizeL, Nat.reduceAdd, Nat.reduceEqDiff, Nat.reduceSub, Nat.reduceLeDiff, Int.reduceAdd, Int.reduceSub, Int.reduceLE, lenK, Tryz.ntmps73, memG, Mch.ob, Mch.od, Mch.cells, rowP, rowC, rowS, stO', List.drop_succ_cons, List.drop_zero, ghost, List.take_succ_cons, List.take_zero, List.drop_nil, e0, e1, frmA, ← hgh]
  refine swp_loop' (fun j : Nat => ⟨[.q 7 6 0 0, .q 0 13 0 0, .bot, .s 1 (intsA [x]), .bot, .bot, .q 9 4 0 0, .bot, .v .nilIface, .bot, .bot, .bot, .bot, .bot, .bot, .bot, .bot, .bot, .bot, .s 1 (intsA []), I 0, I j, .bot, .bot, .bot, .bot, .bot, .bot, .bot, .bot, .bot, .bot, .bot, .bot, .bot, .bot, .bot, .bot, .bot, .bot, .bot, .bot, .bot, .bot, .bot, .bot, .bot, .bot, .bot, .bot, .bot, .bot, .bot, .bot, .bot, .bot, .bot, .bot, .bot, .bot, .bot, .bot, .bot, .bot, .bot, .bot, .bot, .bot, .bot, .bot, .bot, .bot, .bot, .bot, .bot, .bot, .bot, .bot, .bot, .bot, .bot, .bot, .bot, .bot, .bot, .bot, .bot, .bot, .bot, .bot, .bot, .bot, .bot, .bot, .bot, .bot, .bot, .bot, .bot, .bot, .bot, .bot, .bot, .bot, .bot, .bot, .bot, .bot, .bot, .bot, .bot, .bot, .bot, .bot, .bot, .bot, .bot, .bot, .bot, .bot, .bot, .bot, .bot, .bot, .bot, .bot, .bot, .bot, .bot, .bot, .bot, .bot, .bot, .bot, .bot, .bot, .bot, .bot, .bot, .bot, .bot, .bot, .bot, .bot, .bot, .bot, .bot, .bot, .bot, .bot, .bot, .bot, .bot, .bot, .bot, .bot, .bot, .bot, .bot, .bot, .bot, .bot, .bot, .bot, .bot, .bot, .bot, .bot, .bot, .bot, .bot, .bot, .bot, .bot, .bot, .bot, .bot, .bot, .bot, .bot, .bot, .bot, .bot, .bot, .bot, .bot, .bot, .bot, .bot, .bot, .bot, .bot, .bot, .bot, .bot, .bot, .bot, .bot, .bot, .bot, .bot, .bot, .bot, .bot, .bot, .bot, .bot, .bot, .bot, .bot, .bot, .bot, .bot, .bot, .bot, .bot, .bot, .bot, .bot, .bot, .bot, .bot, .bot, .bot, .bot, .bot, .bot, .bot, .bot, .bot, .bot, .bot, .bot, .bot, .bot, .bot, .bot, .bot, .bot, .bot, .bot, .bot, .bot, .bot, .bot, .bot, .bot, .bot, .bot, .bot, .bot, .bot, .bot, .bot], memG m t ++ [gh, some ⟨none, 112, 4, [frmA (0, 1, 0, 0)]⟩]⟩) (fun j => j ≤ 0 ∧ ∀ i, i < j → ∀ h : i < ([] : List Int).length, ([] : List Int)[i] < t.place.length) (fun j => 0 - j) 0 (le_sl' ?_ ?_) ⟨Nat.zero_le _, fun i h => absurd h (Nat.not_lt_zero _)⟩ ?_
  · simp only [memG, memS, Mch.ob, Mch.od, Mch.cells, rowP, rowC, rowS, stO', combR, List.cons_append, List.nil_append, Option.map_some, Option.map_none, List.drop_succ_cons, List.drop_zero, prsA_sub, strsA_sub, intsA_sub, gtsA_sub, AV.sub, AV.subL, keepF, keepG, liveI, List.getElem?_cons_succ, List.getElem?_cons_zero, List.getElem?_nil, AV.isO, AV.isQ, List.any_cons, List.any_nil, ghost, gA, List.take_succ_cons, List.take_zero, List.drop_nil, hgh, frmA]
  · simp [leSl, intsA]
  rintro j ⟨hj, hno⟩
  refine awp_sound (own := [6, 1022, 1033]) _ _ _ _ _ ?_
  simp only [wB, awp, binC, cmpC, asB, asI, St.ev, St.step, setS, killS, AV.kill, AV.killL, Mem.kill, AV.cells, Nat.reduceAdd, Nat.reduceEqDiff, Int.reduceAdd, memG, Mch.ob, Mch.od, Mch.cells, rowP, rowC, rowS, stO', ghost, hgh, frmA]
  by_cases h : (j : Int) < 0
  case pos =>
    omega
  obtain rfl : j = 0 := by omega
  clear hno
  simp only [awp, ACond_false, if_true, decide_false, Int.reduceLT, e0]
  refine swp_draw (own := [6]) (.take 0 .plain [] (.take 1 .reads [] (.take 2 .plain [] (.take 3 .plain [] (.take 4 .plain [] (.take 5 .plain [] (.take 6 .reads [] (.take 7 .reads [] (.take 8 .reads [] (.take 9 .plain [] (.take 10 .plain [] (.take 11 .plain [] (.take 12 .plain [] (.take 13 .reads [] (.take 14 .plain [] (.take 15 .plain [] (.done))))))))))))))))) [⟨36, 64, 0, 0, true⟩, ⟨37, 34359738368, 1, 0, true⟩, ⟨38, 68719476736, 2, 0, true⟩, ⟨39, 137438953472, 4, 0, true⟩, ⟨40, 274877906952, 8, 0, true⟩, ⟨41, 274877907008, 8, 0, true⟩, ⟨42, 1374389534720, 40, 0, true⟩, ⟨43, 3023656976384, 88, 0, true⟩, ⟨44, 4672924418048, 136, 0, true⟩, ⟨45, 274877906946, 8, 0, true⟩, ⟨46, 17867063951360, 520, 0, true⟩, ⟨47, 35459249995776, 1032, 0, true⟩, ⟨48, 70643622084608, 2056, 0, true⟩, ⟨49, 141012366262272, 4104, 0, true⟩, ⟨50, 290545947639808, 8456, 0, true⟩, ⟨51, 563224831328256, 16392, 0, true⟩] mo (by kernel_rfl) ?_
  simp only [wB, awp, binC, idxC, cmpC, asP, asQ, asS, asB, asI, obA, loadA, St.ev, setS, AV.cells, AV.flat, AV.single, Nat.reduceAdd, Nat.reduceEqDiff, Nat.reduceLeDiff, Int.reduceAdd, Int.reduceLE, ASch, St.put, Md.mem, Md.need, Mch.cells, List.drop_succ_cons, List.drop_zero, List.take_succ_cons, List.take_zero, List.getElem_cons_zero, aget_ints g0]
  by_cases hz : m.n ≤ x
  · simp only [wB, awp, asN, fillA, putsA, St.ev, St.step, setS, killS, AV.kill, AV.killL, Mem.kill, AV.cells, AV.flat, AV.single, AV.cellular, Value.oneCell', Nat.reduceAdd, Nat.reduceEqDiff, Nat.reduceLeDiff, Int.reduceAdd, St.put, Aw.valOf, Aw.valsOf, cc139, memG, Mch.ob, Mch.od, Mch.cells, rowP, rowC, rowS, stO', decide_eq_true hz]
    have he : erS m.n m.lim m.ls t 0 x 0 0 = 4 := by simp only [erS]; rw [if_pos hz]
    exact ⟨_, _, memG m t, _, Le.refl _, rfl, rfl, rfl, rfl, free_G _ m t, by simp [he, erV, errV], by first | (simp [he]; done) | (simp [he]; rfl)⟩
  simp only [wB, awp, binC, cmpC, asP, asQ, asB, asI, asN, obA, loadA, St.ev, St.step, setS, killS, AV.kill, AV.killL, Mem.kill, AV.cells, AV.flat, AV.single, Nat.reduceAdd, Nat.reduceEqDiff, Nat.reduceLeDiff, Int.reduceAdd, St.put, Mch.cells, List.drop_zero, List.take_succ_cons, List.take_zero, decide_eq_false hz]
  refine swp_draw (own := [6]) (.take 0 .plain [] (.take 1 .plain [] (.take 2 .plain [] (.take 3 .reads [] (.take 4 .reads [] (.take 5 .plain [] (.take 6 .plain [] (.take 7 .plain [] (.take 8 .plain [] (.take 9 .plain [] (.take 10 .reads [] (.take 11 .plain [] (.take 12 .reads [] (.take 13 .reads [] (.alt 14 (.take 15 .plain [] (.take 16 .plain [] (.alt 17 (.take 18 .plain [] (.done)) (.nil)))) (.nil)))))))))))))))) [⟨58, 1, 0, 0, true⟩, ⟨59, 144115188075855872, 1, 0, true⟩, ⟨60, 288230376151711744, 2, 0, true⟩, ⟨61, 576460752303423488, 4, 0, true⟩, ⟨62, 1152921504606846976, 8, 0, true⟩, ⟨63, 2305843009213693952, 16, 0, true⟩, ⟨64, 4611686018427387904, 32, 0, true⟩, ⟨65, 1, 0, 0, true⟩, ⟨66, 18446744073709551616, 128, 0, true⟩, ⟨67, 36893488147419103232, 256, 0, true⟩, ⟨68, 73786976294838206464, 512, 0, true⟩, ⟨69, 8, 0, 0, true⟩, ⟨70, 295147905179352825856, 2048, 0, true⟩, ⟨71, 590295810358705651712, 4096, 0, true⟩, ⟨72, 1328165573307087716352, 9216, 0, false⟩, ⟨73, 2361183241434822606848, 16384, 0, true⟩, ⟨74, 4731589854906499989504, 32832, 0, true⟩, ⟨75, 9444732965739290427392, 81920, 0, false⟩, ⟨12, 18889465931478580854784, 262143, 0, true⟩] mo (by kernel_rfl) ?_
  simp only [wB, binC, idxC, cmpC, asP, asQ, asS, asI, obA, lenA, loadA, fillA, putsA, St.ev, setS, AV.cells, AV.flat, AV.single, AV.cellular, Value.oneCell', Nat.reduceAdd, Nat.reduceEqDiff, Nat.reduceLeDiff, Int.reduceAdd, Int.reduceLE, ASch, St.put, Md.mem, Md.need, lenK, Mch.cells, List.drop_zero, List.take_succ_cons, List.take_zero, List.getElem_cons_zero, aget_ints g0]
  refine acall_ln 0 (s102 t.place x (by omega)) (by simp [frzN, frz, AV.sub, intsA_pure]) rfl rfl ?_
  simp only [wB, fillA, putsA, St.ev, St.step, setS, killS, AV.kill, AV.killL, Mem.kill, AV.cells, AV.flat, AV.single, AV.cellular, AV.size, AV.sizeL, AV.pure, AV.pureL, Value.oneCell', Nat.reduceAdd, Nat.reduceEqDiff, Nat.reduceMul, Nat.reduceLeDiff, Int.reduceAdd, Int.reduceMul, ASch, St.put, Md.mem, Md.need, Mch.cells, aget_ints g0]
  refine ⟨⟨by decide, rfl⟩, acall_v (s101 [(decide ((t.place.length : Int) = 4), 3), (memL t.place x, 6)] (Nat.le_of_ble_eq_true rfl)) rfl (fstE_pure _) ?_⟩
  have he : erS m.n m.lim m.ls t 0 x 0 0 = if decide ((t.place.length : Int) = 4) = true then 3 else if memL t.place x = true then 6 else 0 := by
    have h4 : (t.place.length = 4) = ((t.place.length : Int) = 4) := propext ⟨fun h => by omega, fun h => by omega⟩
    simp only [erS, decide_eq_true_eq, memL_eq]
    rw [if_neg hz]
    simp only [h4]
  rw [fst2 _ _ 3 6 (by decide) (by decide), ← he]
  by_cases c5 : erS m.n m.lim m.ls t 0 x 0 0 = 0
  case neg =>
    simp only [wB, awp, binC, eqC, asG, asB, asI, asN, St.ev, St.step, setS, killS, AV.kill, AV.killL, Mem.kill, AV.cells, Nat.reduceAdd, Nat.reduceEqDiff, Int.reduceAdd, ASch, St.put, Md.mem, Md.need, isNI, ptrN, ifcN, asStr, nt114, memG, Mch.ob, Mch.od, Mch.cells, rowP, rowC, rowS, stO', erV, if_neg c5, errV]
    exact ⟨_, _, memG m t, _, Le.refl _, rfl, rfl, rfl, rfl, free_G _ m t, by first | rfl | simp [c5], by first | rfl | simp [c5]⟩
  have hlt : t.place.length < 4 := by
    rcases Nat.lt_or_ge t.place.length 4 with h2 | h2
    · exact h2
    · rw [he, decide_eq_true (by omega)] at c5; cases c5
  simp only [wB, awp, binC, eqC, asG, asB, asI, asN, St.ev, St.step, setS, killS, AV.kill, AV.killL, Mem.kill, Nat.reduceAdd, Nat.reduceEqDiff, Int.reduceAdd, ASch, St.put, Md.mem, Md.need, isNI, ptrN, ifcN, asStr, nt114, erV, if_pos c5, errV]
  refine swp_to ⟨[.q 7 6 0 0, .bot, .bot, .bot, .bot, .bot, .bot, .bot, .v .nilIface, .bot, .bot, .bot, .bot, .bot, .bot, .bot, .bot, .bot, .bot, .bot, .bot, .bot, .bot, .bot, .bot, .bot, .bot, .bot, .bot, .bot, .bot, .bot, .bot, .bot, .bot, .bot, .bot, .bot, .bot, .bot, .bot, .bot, .bot, .bot, .bot, .bot, .bot, .bot, .bot, .bot, .bot, .bot, .bot, .bot, I 0, .bot, .bot, .bot, .bot, .bot, .bot, .bot, .bot, .bot, .bot, .bot, .bot, .bot, .bot, .bot, .bot, .bot, .bot, .bot, .bot, .bot, .bot, .bot, .bot, .bot, .bot, .bot, .bot, .bot, .bot, .bot, .bot, .bot, .bot, .bot, .bot, .bot, .bot, .bot, .bot, .bot, .bot, .bot, .bot, .bot, .bot, .bot, .bot, .bot, .bot, .bot, .bot, .bot, .bot, .bot, .bot, .bot, .bot, .bot, .bot, .bot, .bot, .bot, .bot, .bot, .bot, .bot, .bot, .bot, .bot, .bot, .bot, .bot, .bot, .bot, .bot, .bot, .bot, .bot, .bot, .bot, .bot, .bot, .bot, .bot, .bot, .bot, .bot, .bot, .bot, .bot, .bot, .bot, .bot, .bot, .bot, .bot, .bot, .bot, .bot, .bot, .bot, .bot, .bot, .bot, .bot, .bot, .bot, .bot, .bot, .bot, .bot, .bot, .bot, .bot, .bot, .bot, .bot, .bot, .bot, .bot, .bot, .bot, .bot, .bot, .bot, .bot, .bot, .bot, .bot, .bot, .bot, .bot, .bot, .bot, .bot, .bot, .bot, .bot, .bot, .bot, .bot, .bot, .bot, .bot, .bot, .bot, .bot, .bot, .bot, .bot, .bot, .bot, .bot, .bot, .bot, .bot, .bot, .bot, .bot, .bot, .bot, .bot, .bot, .bot, .bot, .bot, .bot, .bot, .bot, .bot, .bot, .bot, .bot, .bot, .bot, .bot, .bot, .bot, .bot, .bot, .bot, .bot, .bot, .bot, .bot, .bot, .bot, .bot, .bot, .bot, .bot, .bot, .bot, .bot, .bot, .bot, .bot, .bot], memG m ({ t with place := t.place ++ [x] }) ++ [gh, some ⟨none, 112, 4, [frmA (0, 1, 0, 0)]⟩]⟩ (swp_draw (own := [6]) (.take 1 .plain [] (.take 2 .plain [] (.take 3 .plain [] (.take 4 .reads [] (.take 5 .plain [] (.take 6 .reads [] (.take 7 .reads [] (.take 8 .plain [] (.alt 0 (.alt 9 (.take 10 .plain [] (.take 11 .plain [] (.alt 12 (.done) (.nil)))) (.nil)) (.alt 9 (.alt 0 (.take 10 .plain [] (.take 11 .plain [] (.alt 12 (.done) (.nil)))) (.nil)) (.nil))))))))))) [⟨79, 1, 0, 0, true⟩, ⟨80, 1, 0, 0, true⟩, ⟨81, 604462909807314587353088, 2, 0, true⟩, ⟨82, 1208925819614629174706176, 4, 0, true⟩, ⟨83, 2417851639229258349412352, 8, 0, true⟩, ⟨84, 8, 0, 0, true⟩, ⟨85, 9671406556917033397649408, 32, 0, true⟩, ⟨86, 19342813113834066795298816, 64, 0, true⟩, ⟨87, 38685626227668133590597632, 128, 0, true⟩, ⟨88, 82206955733794783880019968, 272, 2, false⟩, ⟨89, 302231454903657293676544, 1023, 0, true⟩, ⟨90, 309485009821345068724781056, 2047, 0, true⟩, ⟨0, 773712524553362671811952640, 3071, 1, false⟩] mo (by kernel_rfl) ?_) ?_
  · simp only [wB, idxC, asP, asQ, asO, asS, asI, obA, loadA, storeA, putsA, St.ev, St.step, setS, killS, AV.kill, AV.killL, Mem.kill, AV.cells, AV.flat, AV.single, AV.cellular, AV.size, AV.pure, AV.pureL, Value.oneCell', Nat.reduceAdd, Nat.reduceEqDiff, Nat.reduceMul, Nat.reduceLeDiff, Int.reduceAdd, Int.reduceMul, Int.reduceLE, ASch, St.put, Md.mem, Md.need, memG, Mch.ob, Mch.od, Mch.cells, rowP, rowC, rowS, stO', List.drop_zero, List.take_succ_cons, List.take_zero, List.getElem_cons_zero, aget_ints g0]
    have hle : (0 : Nat) < 1 := by decide
    have hcl : t.place.length ≤ 999999 := by omega
    refine ⟨⟨hle, rfl⟩, ⟨⟨hle, hcl⟩, le_sl' ?_ (by simp [leSl])⟩, ⟨hle, hcl⟩, le_sl' ?_ (by simp [leSl])⟩ <;>
    simp only [memG, memS, Mch.ob, Mch.od, Mch.cells, rowP, rowC, rowS, stO', combR, List.cons_append, List.nil_append, Option.map_some, Option.map_none, List.drop_succ_cons, List.drop_zero, prsA_sub, strsA_sub, intsA_sub, gtsA_sub, AV.sub, AV.subL, keepF, keepG, liveI, List.getElem?_cons_succ, List.getElem?_cons_zero, List.getElem?_nil, AV.isO, AV.isQ, List.any_cons, List.any_nil, ghost, gA, List.take_succ_cons, List.take_zero, List.drop_nil, hgh, frmA, prsA_kill, strsA_kill, intsA_kill, gtsA_kill, intsA_app]
  simp only [wB, awp, asP, asQ, asO, asS, asN, obA, loadA, storeA, putsA, St.ev, St.step, setS, killS, AV.kill, AV.killL, Mem.kill, AV.cells, AV.flat, AV.single, AV.cellular, AV.size, AV.pure, AV.pureL, Value.oneCell', Nat.reduceAdd, Nat.reduceEqDiff, Nat.reduceMul, Nat.reduceLeDiff, Int.reduceAdd, Int.reduceMul, memG, Mch.ob, Mch.od, Mch.cells, rowP, rowC, rowS, stO', List.drop_succ_cons, List.drop_zero, ghost, List.take_succ_cons, List.take_zero, hgh, frmA]
  refine ⟨⟨by decide, rfl⟩, ⟨by decide, by omega⟩, ?_⟩
  simp only [prsA_kill, strsA_kill, intsA_kill, gtsA_kill, intsA_app]
  have he : erS m.n m.lim m.ls t 0 x 0 0 = 0 := c5
  exact ⟨_, _, memG m (nxS t 0 x 0 0), _, Le.refl _, rfl, rfl, rfl, rfl, free_G _ m _, by simp [he, erV], by rw [if_pos he]; rfl⟩
end Go.Proofs.YtndniceeibflcaaGreatDoor

namespace Go.Proofs.YtndniceeibflcaaGreatDoor
open Aw Mp Go.RowKit
set_option linter.unusedSimpArgs false
set_option maxRecDepth 8000

theorem m73_4 (m : Mch) (t : MS) {c : Nat} (hI : InvS m.n c t) (hc : c ≤ 1000) (hT : vT m.n m.ls = 0) (hls : m.ls.length ≤ 1000000) (x : Int) (hx : 0 ≤ x ∧ x ≤ 99) (y : Int) (hy : 0 ≤ y ∧ y ≤ 99) :
    MSpec Tryz.prog 73 [.q 7 6 0 0, .q 0 13 0 0, frmA (4, 2, 1, -1), .s 1 (intsA [x, y])] (memG m t) (fun r N => r = erV (erS m.n m.lim m.ls t 4 x y 0) ∧ N = memG m (if erS m.n m.lim m.ls t 4 x y 0 = 0 then nxS t 4 x y 0 else t)) := by
  refine mspec_of2 (own := [6, 1022, 1033]) Tryz.func73 rfl ok73 ?_
  intro vs
  have hp4 := hI.p4
  have hhl := hI.hl
  have e0 : ((0 : Nat) : Int) = 0 := rfl
  have e1 : ((1 : Nat) : Int) = 1 := rfl
  have e2 : ((2 : Nat) : Int) = 2 := rfl
  have e3 : ((3 : Nat) : Int) = 3 := rfl
  have g0 : 0 < [x, y].length := by simp
  have g1 : 1 < [x, y].length := by simp
  obtain ⟨gh, hgh⟩ : ∃ gh, gh = some (ghost vs [AV.q 7 6 0 0, AV.q 0 13 0 0, frmA (4, 2, 1, -1), AV.s 1 (intsA [x, y])]) := ⟨_, rfl⟩
  simp only [wB, awp, asP, asQ, asS, asN, obA, bndA, lenA, loadA, Aw.newRow, St.ev, St.step, setS, killS, AV.kill, AV.killL, Mem.kill, AV.cells, AV.flat, AV.single, AV.cellular, AV.size, AV.sizeL, Nat.reduceAdd, Nat.reduceEqDiff, Nat.reduceSub, Nat.reduceLeDiff, Int.reduceAdd, Int.reduceSub, Int.reduceNeg, Int.reduceLE, lenK, Tryz.ntmps73, memG, Mch.ob, Mch.od, Mch.cells, rowP, rowC, rowS, stO', List.drop_succ_cons, List.drop_zero, ghost, List.take_succ_cons, List.take_zero, e2, frmA, ← hgh]
  refine swp_loop' (fun j : Nat => ⟨[.q 7 6 0 0, .q 0 13 0 0, .bot, .s 1 (intsA [x, y]), .bot, .bot, .q 9 4 0 0, .bot, .v .nilIface, .bot, .bot, .bot, .bot, .bot, .bot, .bot, .bot, .bot, .bot, .s 1 (intsA [x]), I 1, I j, .bot, .bot, .bot, .bot, .bot, .bot, .bot, .bot, .bot, .bot, .bot, .bot, .bot, .bot, .bot, .bot, .bot, .bot, .bot, .bot, .bot, .bot, .bot, .bot, .bot, .bot, .bot, .bot, .bot, .bot, .bot, .bot, .bot, .bot, .bot, .bot, .bot, .bot, .bot, .bot, .bot, .bot, .bot, .bot, .bot, .bot, .bot, .bot, .bot, .bot, .bot, .bot, .bot, .bot, .bot, .bot, .bot, .bot, .bot, .bot, .bot, .bot, .bot, .bot, .bot, .bot, .bot, .bot, .bot, .bot, .bot, .bot, .bot, .bot, .bot, .bot, .bot, .bot, .bot, .bot, .bot, .bot, .bot, .bot, .bot, .bot, .bot, .bot, .bot, .bot, .bot, .bot, .bot, .bot, .bot, .bot, .bot, .bot, .bot, .bot, .bot, .bot, .bot, .bot, .bot, .bot, .bot, .bot, .bot, .bot, .bot, .bot, .bot, .bot, .bot, .bot, .bot, .bot, .bot, .bot, .bot, .bot, .bot, .bot, .bot, .bot, .bot, .bot, .bot, .bot, .bot, .bot, .bot, .bot, .bot, .bot, .bot, .bot, .bot, .bot, .bot, .bot, .bot, .bot, .bot, .bot, .bot, .bot, .bot, .bot, .bot, .bot, .bot, .bot, .bot, .bot, .bot, .bot, .bot, .bot, .bot, .bot, .bot, .bot, .bot, .bot, .bot, .bot, .bot, .bot, .bot, .bot, .bot, .bot, .bot, .bot, .bot, .bot, .bot, .bot, .bot, .bot, .bot, .bot, .bot, .bot, .bot, .bot, .bot, .bot, .bot, .bot, .bot, .bot, .bot, .bot, .bot, .bot, .bot, .bot, .bot, .bot, .bot, .bot, .bot, .bot, .bot, .bot, .bot, .bot, .bot, .bot, .bot, .bot, .bot, .bot, .bot, .bot, .bot, .bot, .bot, .bot, .bot, .bot, .bot, .bot, .bot, .bot, .bot, .bot, .bot, .bot], memG m t ++ [gh, some ⟨none, 112, 4, [frmA (4, 2, 1, -1)]⟩]⟩) (fun j => j ≤ 1 ∧ ∀ i, i < j → ∀ h : i < ([x] : List Int).length, ([x] : List Int)[i] < t.place.length) (fun j => 1 - j) 0 (le_sl' ?_ ?_) ⟨Nat.zero_le _, fun i h => absurd h (Nat.not_lt_zero _)⟩ ?_
  · simp only [memG, memS, Mch.ob, Mch.od, Mch.cells, rowP, rowC, rowS, stO', combR, List.cons_append, List.nil_append, Option.map_some, Option.map_none, List.drop_succ_cons, List.drop_zero, prsA_sub, strsA_sub, intsA_sub, gtsA_sub, AV.sub, AV.subL, keepF, keepG, liveI, List.getElem?_cons_succ, List.getElem?_cons_zero, List.getElem?_nil, AV.isO, AV.isQ, List.any_cons, List.any_nil, ghost, gA, List.take_succ_cons, List.take_zero, List.drop_nil, hgh, frmA]
  · simp [leSl, intsA]
  rintro j ⟨hj, hno⟩
  refine awp_sound (own := [6, 1022, 1033]) _ _ _ _ _ ?_
  simp only [wB, awp, binC, cmpC, asB, asI, St.ev, St.step, setS, killS, AV.kill, AV.killL, Mem.kill, AV.cells, Nat.reduceAdd, Nat.reduceEqDiff, Int.reduceAdd, Int.reduceNeg, memG, Mch.ob, Mch.od, Mch.cells, rowP, rowC, rowS, stO', ghost, hgh, frmA]
  by_cases h : (j : Int) < 1
  case pos =>
    have hjl : j < ([x] : List Int).length := by simp; omega
    simp only [wB, awp, binC, idxC, cmpC, asP, asQ, asS, asB, asI, asN, obA, lenA, loadA, St.ev, St.step, setS, killS, AV.kill, AV.killL, Mem.kill, AV.cells, AV.flat, AV.single, Nat.reduceAdd, Nat.reduceEqDiff, Nat.reduceLeDiff, Int.reduceAdd, Int.reduceNeg, lenK, Mch.cells, List.drop_zero, List.take_succ_cons, List.take_zero, decide_eq_true h, aget_ints hjl, Int.toNat_natCast]
    refine ⟨by omega, ?_⟩
    obtain ⟨q, hq⟩ : ∃ q, q = ([x] : List Int)[j] := ⟨_, rfl⟩
    rw [← hq]
    by_cases hp : (t.place.length : Int) ≤ q
    · simp only [wB, awp, asN, fillA, putsA, St.ev, St.step, setS, killS, AV.kill, AV.killL, Mem.kill, AV.cells, AV.flat, AV.single, AV.cellular, Value.oneCell', Nat.reduceAdd, Nat.reduceEqDiff, Nat.reduceLeDiff, Int.reduceAdd, Int.reduceNeg, Aw.valOf, Aw.valsOf, cc139, memG, Mch.ob, Mch.od, Mch.cells, rowP, rowC, rowS, stO', decide_eq_true hp]
      have he : erS m.n m.lim m.ls t 4 x y 0 = 4 := by
        obtain rfl : j = 0 := by omega
        simp only [List.getElem_cons_zero] at hq
        subst hq
        simp only [erS]
        rw [if_pos hp]
      exact ⟨_, _, memG m t, _, Le.refl _, rfl, rfl, rfl, rfl, free_G _ m t, by simp [he, erV, errV], by first | (simp [he]; done) | (simp [he]; rfl)⟩
    · simp only [wB, awp, binC, arithC, cmpC, asI, St.ev, St.step, setS, killS, AV.kill, AV.killL, Mem.kill, AV.cells, Nat.reduceAdd, Nat.reduceEqDiff, Int.reduceAdd, Int.reduceNeg, isU, memG, Mch.ob, Mch.od, Mch.cells, rowP, rowC, rowS, stO', decide_eq_false hp]
      refine ⟨by unfold lim; omega, j + 1, le_sl' ?_ (by simp [leSl]), ⟨by omega, fun i hi hl => ?_⟩, by omega⟩
      · simp only [memG, memS, Mch.ob, Mch.od, Mch.cells, rowP, rowC, rowS, stO', combR, List.cons_append, List.nil_append, Option.map_some, Option.map_none, List.drop_succ_cons, List.drop_zero, prsA_sub, strsA_sub, intsA_sub, gtsA_sub, AV.sub, AV.subL, keepF, keepG, liveI, List.getElem?_cons_succ, List.getElem?_cons_zero, List.getElem?_nil, AV.isO, AV.isQ, List.any_cons, List.any_nil, ghost, gA, List.take_succ_cons, List.take_zero, List.drop_nil, hgh, frmA]
      · rcases Nat.lt_or_ge i j with h1 | h1
        · exact hno i h1 hl
        · obtain rfl : i = j := by omega
          rw [← hq]; omega
  obtain rfl : j = 1 := by omega
  have px : x < t.place.length := by have := hno 0 (by omega) (by simp); simpa using this
  clear hno
  simp only [awp, ACond_false, if_true, decide_false, Int.reduceNeg, Int.reduceLT, e1]
  refine swp_draw (own := [6]) (.take 0 .plain [] (.take 1 .reads [] (.take 2 .plain [] (.take 3 .plain [] (.take 4 .plain [] (.take 5 .plain [] (.take 6 .reads [] (.take 7 .reads [] (.take 8 .reads [] (.take 9 .plain [] (.take 10 .plain [] (.take 11 .plain [] (.take 12 .plain [] (.take 13 .reads [] (.take 14 .plain [] (.take 15 .plain [] (.done))))))))))))))))) [⟨36, 64, 0, 0, true⟩, ⟨37, 34359738368, 1, 0, true⟩, ⟨38, 68719476736, 2, 0, true⟩, ⟨39, 137438953472, 4, 0, true⟩, ⟨40, 274877906952, 8, 0, true⟩, ⟨41, 274877907008, 8, 0, true⟩, ⟨42, 1374389534720, 40, 0, true⟩, ⟨43, 3023656976384, 88, 0, true⟩, ⟨44, 4672924418048, 136, 0, true⟩, ⟨45, 274877906946, 8, 0, true⟩, ⟨46, 17867063951360, 520, 0, true⟩, ⟨47, 35459249995776, 1032, 0, true⟩, ⟨48, 70643622084608, 2056, 0, true⟩, ⟨49, 141012366262272, 4104, 0, true⟩, ⟨50, 290545947639808, 8456, 0, true⟩, ⟨51, 563224831328256, 16392, 0, true⟩] mo (by kernel_rfl) ?_
  simp only [wB, awp, binC, cmpC, asP, asQ, asB, asI, asN, obA, loadA, St.ev, St.step, setS, killS, AV.kill, AV.killL, Mem.kill, AV.cells, AV.flat, AV.single, Nat.reduceAdd, Nat.reduceEqDiff, Nat.reduceLeDiff, Int.reduceAdd, Int.reduceNeg, Int.reduceLE, Int.reduceEq, ASch, St.put, Md.mem, Md.need, Mch.cells, List.drop_succ_cons, List.drop_zero, List.take_succ_cons, List.take_zero, aget_ints g0, aget_ints g1]
  refine swp_splitF (own := [6]) (pre := #[_, _, _, _, _, _, _, _, _]) _ [_] rfl (.take 0 .plain [] (.take 1 .plain [] (.take 2 .plain [] (.take 3 .reads [] (.take 4 .reads [] (.take 5 .plain [] (.take 6 .reads [] (.take 7 .reads [] (.take 8 .plain [] (.done)))))))))) [⟨205, 1, 0, 0, true⟩, ⟨206, 2, 0, 0, true⟩, ⟨207, 8, 0, 0, true⟩, ⟨208, 102844034832575377634685573909834406561420991602098741459288064, 4, 0, true⟩, ⟨209, 205688069665150755269371147819668813122841983204197482918576128, 8, 0, true⟩, ⟨210, 8, 0, 0, true⟩, ⟨211, 822752278660603021077484591278675252491367932816789931674304512, 32, 0, true⟩, ⟨212, 1645504557321206042154969182557350504982735865633579863348609024, 64, 0, true⟩, ⟨213, 3291009114642412084309938365114701009965471731267159726697218048, 128, 0, true⟩] mo (by kernel_rfl) (by kernel_rfl) ?_
  simp only [wB, idxC, asP, asS, asI, loadA, St.ev, setS, AV.cells, AV.flat, AV.single, AV.cellular, AV.size, AV.pure, AV.pureL, Value.oneCell', Nat.reduceEqDiff, Nat.reduceMul, Nat.reduceLeDiff, Int.reduceMul, Int.reduceNeg, Int.reduceLE, ASch, St.put, Md.mem, Md.need, Mch.cells, List.getElem_cons_zero, List.getElem_cons_succ, aget_ints g0, aget_ints g1]
  have he : erS m.n m.lim m.ls t 4 x y 0 = er1 m.lim t x y := by simp only [erS]; rw [if_neg (by omega)]
  refine ⟨⟨by decide, rfl⟩, ⟨[.bot, .bot, .bot, .bot, .bot, .bot, .bot, .bot, .bot, .bot, .bot, .bot, .bot, .bot, .bot, .bot, .bot, .bot, .bot, .bot, .bot, .bot, .bot, .bot, .bot, .bot, .bot, .bot, .bot, .bot, .bot, .bot, .bot, .bot, .bot, .bot, .bot, .bot, .bot, .bot, .bot, .bot, .bot, .bot, .bot, .bot, .bot, .bot, .bot, .bot, .bot, .bot, .bot, .bot, .bot, .bot, .bot, .bot, .bot, .bot, .bot, .bot, .bot, .bot, .bot, .bot, .bot, .bot, .bot, .bot, .bot, .bot, .bot, .bot, .bot, .bot, .bot, .bot, .bot, .bot, .bot, .bot, .bot, .bot, .bot, .bot, .bot, .bot, .bot, .bot, .bot, .bot, .bot, .bot, .bot, .bot, .bot, .bot, .bot, .bot, .bot, .bot, .bot, .bot, .bot, .bot, .bot, .bot, .bot, .bot, .bot, .bot, .bot, .bot, .bot, .bot, .bot, .bot, .bot, .bot, .bot, .bot, .bot, .bot, .bot, .bot, .bot, .bot, .bot, .bot, .bot, .bot, .bot, .bot, .bot, .bot, .bot, .bot, .bot, .bot, .bot, .bot, .bot, .bot, .bot, .bot, .bot, .bot, .bot, .bot, .bot, .bot, .bot, .bot, .bot, .bot, .bot, .bot, .bot, .bot, .bot, .bot, .bot, .bot, .bot, .bot, .bot, .bot, .bot, .bot, .bot, .bot, .bot, .bot, .bot, .bot, .bot, .bot, .bot, .bot, .bot, .bot, .bot, .bot, .bot, .bot, .bot, .bot, .bot, .bot, .bot, .bot, .bot, .bot, .bot, .bot, .bot, .bot, .bot, .bot, .bot, .bot, .bot, .bot, .q 7 6 0 0, .q 0 13 0 0, .bot, .bot, I y, .bot, .bot, .bot, .s 1 (intsA [x]), .bot, .bot, .bot, .bot, .bot, .bot, .bot, .bot, .bot, .bot, .bot, .bot, .bot, .bot, .bot, .bot, .bot, .bot, .bot, .bot, .bot, .bot, .bot, .bot, .bot, .bot, .bot, .bot, .bot, .bot, .bot, .bot, .bot, .bot, .bot, .bot, .bot, .bot, .bot, .bot, .bot], memG m (t) ++ [gh, some ⟨none, 112, 4, [frmA (4, 2, 1, -1)]⟩]⟩, le_sl' ?_ (by simp [leSl, intsA]), ?_⟩
  · simp only [memG, memS, Mch.ob, Mch.od, Mch.cells, rowP, rowC, rowS, stO', combR, List.cons_append, List.nil_append, Option.map_some, Option.map_none, List.drop_succ_cons, List.drop_zero, prsA_sub, strsA_sub, intsA_sub, gtsA_sub, AV.sub, AV.subL, keepF, keepG, liveI, List.getElem?_cons_succ, List.getElem?_cons_zero, List.getElem?_nil, AV.isO, AV.isQ, List.any_cons, List.any_nil, ghost, gA, List.take_succ_cons, List.take_zero, List.drop_nil, hgh, frmA]
  simp only [St.ev, AV.cells, List.getD_cons_succ, List.getD_cons_zero, List.cons_append, List.nil_append, List.map_cons, List.map_nil, Int.reduceNeg, memG, Mch.ob, Mch.od, Mch.cells, rowP, rowC, rowS, stO', List.cons_append, List.nil_append, ghost, afc, hgh, frmA]
  refine acall_f (fspec_of (m105a m t hI hc 0 x y ⟨hx.1, px⟩) [1, 3, 8, 9] rfl (by exact ⟨rfl, rfl, rfl, rfl, rfl, rfl, trivial⟩) rfl rfl (free_GZ _ _ _ (by decide)) (N := memG m ((if er1 m.lim t x y = 0 then nx1 t 0 x y else t)) ++ [gh, some ⟨none, 112, 4, [frmA (4, 2, 1, -1)]⟩]) ?_) ?_
  · simp only [memG, memS, Mch.ob, Mch.od, Mch.cells, rowP, rowC, rowS, stO', combR, List.cons_append, List.nil_append, Option.map_some, Option.map_none, List.drop_succ_cons, List.drop_zero, prsA_sub, strsA_sub, intsA_sub, gtsA_sub, AV.sub, AV.subL, keepF, keepG, liveI, List.getElem?_cons_succ, List.getElem?_cons_zero, List.getElem?_nil, AV.isO, AV.isQ, List.any_cons, List.any_nil, ghost, gA, List.take_succ_cons, List.take_zero, List.drop_nil, hgh, frmA]
    rfl
  rw [he]
  obtain ⟨t', ht'⟩ : ∃ t', t' = if er1 m.lim t x y = 0 then nx1 t 0 x y else t := ⟨_, rfl⟩
  have hn : (if er1 m.lim t x y = 0 then nxS t 4 x y 0 else t) = t' := ht'.symm
  rw [← ht']
  simp only [wB, awp, asN, St.ev, St.step, setS, killS, AV.kill, AV.killL, Mem.kill, AV.cells, Nat.reduceEqDiff, Int.reduceNeg, memG, Mch.ob, Mch.od, Mch.cells, rowP, rowC, rowS, stO', AV.sub, keepG, liveI, AV.isQ, List.any_cons, List.any_nil, ghost, hgh, frmA, hn]
  exact ⟨_, _, memG m t', _, Le.refl _, rfl, rfl, erV_free _ _, rfl, free_G _ m _, rfl, rfl⟩
end Go.Proofs.YtndniceeibflcaaGreatDoor

namespace Go.Proofs.YtndniceeibflcaaGreatDoor
open Aw Mp Go.RowKit
set_option linter.unusedSimpArgs false
set_option maxRecDepth 8000

theorem m73_5 (m : Mch) (t : MS) {c : Nat} (hI : InvS m.n c t) (hc : c ≤ 1000) (hT : vT m.n m.ls = 0) (hls : m.ls.length ≤ 1000000) (x : Int) (hx : 0 ≤ x ∧ x ≤ 99) (y : Int) (hy : 0 ≤ y ∧ y ≤ 99) :
    MSpec Tryz.prog 73 [.q 7 6 0 0, .q 0 13 0 0, frmA (5, 2, 1, -1), .s 1 (intsA [x, y])] (memG m t) (fun r N => r = erV (erS m.n m.lim m.ls t 5 x y 0) ∧ N = memG m (if erS m.n m.lim m.ls t 5 x y 0 = 0 then nxS t 5 x y 0 else t)) := by
  refine mspec_of2 (own := [6, 1022, 1033]) Tryz.func73 rfl ok73 ?_
  intro vs
  have hp4 := hI.p4
  have hhl := hI.hl
  have e0 : ((0 : Nat) : Int) = 0 := rfl
  have e1 : ((1 : Nat) : Int) = 1 := rfl
  have e2 : ((2 : Nat) : Int) = 2 := rfl
  have e3 : ((3 : Nat) : Int) = 3 := rfl
  have g0 : 0 < [x, y].length := by simp
  have g1 : 1 < [x, y].length := by simp
  obtain ⟨gh, hgh⟩ : ∃ gh, gh = some (ghost vs [AV.q 7 6 0 0, AV.q 0 13 0 0, frmA (5, 2, 1, -1), AV.s 1 (intsA [x, y])]) := ⟨_, rfl⟩
  simp only [wB, awp, asP, asQ, asS, asN, obA, bndA, lenA, loadA, Aw.newRow, St.ev, St.step, setS, killS, AV.kill, AV.killL, Mem.kill, AV.cells, AV.flat, AV.single, AV.cellular, AV.size, AV.sizeL, Nat.reduceAdd, Nat.reduceEqDiff, Nat.reduceSub, Nat.reduceLeDiff, Int.reduceAdd, Int.reduceSub, Int.reduceNeg, Int.reduceLE, lenK, Tryz.ntmps73, memG, Mch.ob, Mch.od, Mch.cells, rowP, rowC, rowS, stO', List.drop_succ_cons, List.drop_zero, ghost, List.take_succ_cons, List.take_zero, e2, frmA, ← hgh]
  refine swp_loop' (fun j : Nat => ⟨[.q 7 6 0 0, .q 0 13 0 0, .bot, .s 1 (intsA [x, y]), .bot, .bot, .q 9 4 0 0, .bot, .v .nilIface, .bot, .bot, .bot, .bot, .bot, .bot, .bot, .bot, .bot, .bot, .s 1 (intsA [x]), I 1, I j, .bot, .bot, .bot, .bot, .bot, .bot, .bot, .bot, .bot, .bot, .bot, .bot, .bot, .bot, .bot, .bot, .bot, .bot, .bot, .bot, .bot, .bot, .bot, .bot, .bot, .bot, .bot, .bot, .bot, .bot, .bot, .bot, .bot, .bot, .bot, .bot, .bot, .bot, .bot, .bot, .bot, .bot, .bot, .bot, .bot, .bot, .bot, .bot, .bot, .bot, .bot, .bot, .bot, .bot, .bot, .bot, .bot, .bot, .bot, .bot, .bot, .bot, .bot, .bot, .bot, .bot, .bot, .bot, .bot, .bot, .bot, .bot, .bot, .bot, .bot, .bot, .bot, .bot, .bot, .bot, .bot, .bot, .bot, .bot, .bot, .bot, .bot, .bot, .bot, .bot, .bot, .bot, .bot, .bot, .bot, .bot, .bot, .bot, .bot, .bot, .bot, .bot, .bot, .bot, .bot, .bot, .bot, .bot, .bot, .bot, .bot, .bot, .bot, .bot, .bot, .bot, .bot, .bot, .bot, .bot, .bot, .bot, .bot, .bot, .bot, .bot, .bot, .bot, .bot, .bot, .bot, .bot, .bot, .bot, .bot, .bot, .bot, .bot, .bot, .bot, .bot, .bot, .bot, .bot, .bot, .bot, .bot, .bot, .bot, .bot, .bot, .bot, .bot, .bot, .bot, .bot, .bot, .bot, .bot, .bot, .bot, .bot, .bot, .bot, .bot, .bot, .bot, .bot, .bot, .bot, .bot, .bot, .bot, .bot, .bot, .bot, .bot, .bot, .bot, .bot, .bot, .bot, .bot, .bot, .bot, .bot, .bot, .bot, .bot, .bot, .bot, .bot, .bot, .bot, .bot, .bot, .bot, .bot, .bot, .bot, .bot, .bot, .bot, .bot, .bot, .bot, .bot, .bot, .bot, .bot, .bot, .bot, .bot, .bot, .bot, .bot, .bot, .bot, .bot, .bot, .bot, .bot, .bot, .bot, .bot, .bot, .bot, .bot, .bot, .bot, .bot, .bot], memG m t ++ [gh, some ⟨none, 112, 4, [frmA (5, 2, 1, -1)]⟩]⟩) (fun j => j ≤ 1 ∧ ∀ i, i < j → ∀ h : i < ([x] : List Int).length, ([x] : List Int)[i] < t.place.length) (fun j => 1 - j) 0 (le_sl' ?_ ?_) ⟨Nat.zero_le _, fun i h => absurd h (Nat.not_lt_zero _)⟩ ?_
  · simp only [memG, memS, Mch.ob, Mch.od, Mch.cells, rowP, rowC, rowS, stO', combR, List.cons_append, List.nil_append, Option.map_some, Option.map_none, List.drop_succ_cons, List.drop_zero, prsA_sub, strsA_sub, intsA_sub, gtsA_sub, AV.sub, AV.subL, keepF, keepG, liveI, List.getElem?_cons_succ, List.getElem?_cons_zero, List.getElem?_nil, AV.isO, AV.isQ, List.any_cons, List.any_nil, ghost, gA, List.take_succ_cons, List.take_zero, List.drop_nil, hgh, frmA]
  · simp [leSl, intsA]
  rintro j ⟨hj, hno⟩
  refine awp_sound (own := [6, 1022, 1033]) _ _ _ _ _ ?_
  simp only [wB, awp, binC, cmpC, asB, asI, St.ev, St.step, setS, killS, AV.kill, AV.killL, Mem.kill, AV.cells, Nat.reduceAdd, Nat.reduceEqDiff, Int.reduceAdd, Int.reduceNeg, memG, Mch.ob, Mch.od, Mch.cells, rowP, rowC, rowS, stO', ghost, hgh, frmA]
  by_cases h : (j : Int) < 1
  case pos =>
    have hjl : j < ([x] : List Int).length := by simp; omega
    simp only [wB, awp, binC, idxC, cmpC, asP, asQ, asS, asB, asI, asN, obA, lenA, loadA, St.ev, St.step, setS, killS, AV.kill, AV.killL, Mem.kill, AV.cells, AV.flat, AV.single, Nat.reduceAdd, Nat.reduceEqDiff, Nat.reduceLeDiff, Int.reduceAdd, Int.reduceNeg, lenK, Mch.cells, List.drop_zero, List.take_succ_cons, List.take_zero, decide_eq_true h, aget_ints hjl, Int.toNat_natCast]
    refine ⟨by omega, ?_⟩
    obtain ⟨q, hq⟩ : ∃ q, q = ([x] : List Int)[j] := ⟨_, rfl⟩
    rw [← hq]
    by_cases hp : (t.place.length : Int) ≤ q
    · simp only [wB, awp, asN, fillA, putsA, St.ev, St.step, setS, killS, AV.kill, AV.killL, Mem.kill, AV.cells, AV.flat, AV.single, AV.cellular, Value.oneCell', Nat.reduceAdd, Nat.reduceEqDiff, Nat.reduceLeDiff, Int.reduceAdd, Int.reduceNeg, Aw.valOf, Aw.valsOf, cc139, memG, Mch.ob, Mch.od, Mch.cells, rowP, rowC, rowS, stO', decide_eq_true hp]
      have he : erS m.n m.lim m.ls t 5 x y 0 = 4 := by
        obtain rfl : j = 0 := by omega
        simp only [List.getElem_cons_zero] at hq
        subst hq
        simp only [erS]
        rw [if_pos hp]
      exact ⟨_, _, memG m t, _, Le.refl _, rfl, rfl, rfl, rfl, free_G _ m t, by simp [he, erV, errV], by first | (simp [he]; done) | (simp [he]; rfl)⟩
    · simp only [wB, awp, binC, arithC, cmpC, asI, St.ev, St.step, setS, killS, AV.kill, AV.killL, Mem.kill, AV.cells, Nat.reduceAdd, Nat.reduceEqDiff, Int.reduceAdd, Int.reduceNeg, isU, memG, Mch.ob, Mch.od, Mch.cells, rowP, rowC, rowS, stO', decide_eq_false hp]
      refine ⟨by unfold lim; omega, j + 1, le_sl' ?_ (by simp [leSl]), ⟨by omega, fun i hi hl => ?_⟩, by omega⟩
      · simp only [memG, memS, Mch.ob, Mch.od, Mch.cells, rowP, rowC, rowS, stO', combR, List.cons_append, List.nil_append, Option.map_some, Option.map_none, List.drop_succ_cons, List.drop_zero, prsA_sub, strsA_sub, intsA_sub, gtsA_sub, AV.sub, AV.subL, keepF, keepG, liveI, List.getElem?_cons_succ, List.getElem?_cons_zero, List.getElem?_nil, AV.isO, AV.isQ, List.any_cons, List.any_nil, ghost, gA, List.take_succ_cons, List.take_zero, List.drop_nil, hgh, frmA]
      · rcases Nat.lt_or_ge i j with h1 | h1
        · exact hno i h1 hl
        · obtain rfl : i = j := by omega
          rw [← hq]; omega
  obtain rfl : j = 1 := by omega
  have px : x < t.place.length := by have := hno 0 (by omega) (by simp); simpa using this
  clear hno
  simp only [awp, ACond_false, if_true, decide_false, Int.reduceNeg, Int.reduceLT, e1]
  refine swp_draw (own := [6]) (.take 0 .plain [] (.take 1 .reads [] (.take 2 .plain [] (.take 3 .plain [] (.take 4 .plain [] (.take 5 .plain [] (.take 6 .reads [] (.take 7 .reads [] (.take 8 .reads [] (.take 9 .plain [] (.take 10 .plain [] (.take 11 .plain [] (.take 12 .plain [] (.take 13 .reads [] (.take 14 .plain [] (.take 15 .plain [] (.done))))))))))))))))) [⟨36, 64, 0, 0, true⟩, ⟨37, 34359738368, 1, 0, true⟩, ⟨38, 68719476736, 2, 0, true⟩, ⟨39, 137438953472, 4, 0, true⟩, ⟨40, 274877906952, 8, 0, true⟩, ⟨41, 274877907008, 8, 0, true⟩, ⟨42, 1374389534720, 40, 0, true⟩, ⟨43, 3023656976384, 88, 0, true⟩, ⟨44, 4672924418048, 136, 0, true⟩, ⟨45, 274877906946, 8, 0, true⟩, ⟨46, 17867063951360, 520, 0, true⟩, ⟨47, 35459249995776, 1032, 0, true⟩, ⟨48, 70643622084608, 2056, 0, true⟩, ⟨49, 141012366262272, 4104, 0, true⟩, ⟨50, 290545947639808, 8456, 0, true⟩, ⟨51, 563224831328256, 16392, 0, true⟩] mo (by kernel_rfl) ?_
  simp only [wB, awp, binC, cmpC, asP, asQ, asB, asI, asN, obA, loadA, St.ev, St.step, setS, killS, AV.kill, AV.killL, Mem.kill, AV.cells, AV.flat, AV.single, Nat.reduceAdd, Nat.reduceEqDiff, Nat.reduceLeDiff, Int.reduceAdd, Int.reduceNeg, Int.reduceLE, Int.reduceEq, ASch, St.put, Md.mem, Md.need, Mch.cells, List.drop_succ_cons, List.drop_zero, List.take_succ_cons, List.take_zero, aget_ints g0, aget_ints g1]
  refine swp_splitF (own := [6]) (pre := #[_, _, _, _, _, _, _, _, _]) _ [_] rfl (.take 0 .plain [] (.take 1 .plain [] (.take 2 .plain [] (.take 3 .reads [] (.take 4 .reads [] (.take 5 .plain [] (.take 6 .reads [] (.take 7 .reads [] (.take 8 .plain [] (.done)))))))))) [⟨217, 1, 0, 0, true⟩, ⟨218, 2, 0, 0, true⟩, ⟨219, 8, 0, 0, true⟩, ⟨220, 421249166674228746791672110734681729275580381602196445017243910144, 4, 0, true⟩, ⟨221, 842498333348457493583344221469363458551160763204392890034487820288, 8, 0, true⟩, ⟨222, 8, 0, 0, true⟩, ⟨223, 3369993333393829974333376885877453834204643052817571560137951281152, 32, 0, true⟩, ⟨224, 6739986666787659948666753771754907668409286105635143120275902562304, 64, 0, true⟩, ⟨225, 13479973333575319897333507543509815336818572211270286240551805124608, 128, 0, true⟩] mo (by kernel_rfl) (by kernel_rfl) ?_
  simp only [wB, idxC, asP, asS, asI, loadA, St.ev, setS, AV.cells, AV.flat, AV.single, AV.cellular, AV.size, AV.pure, AV.pureL, Value.oneCell', Nat.reduceEqDiff, Nat.reduceMul, Nat.reduceLeDiff, Int.reduceMul, Int.reduceNeg, Int.reduceLE, ASch, St.put, Md.mem, Md.need, Mch.cells, List.getElem_cons_zero, List.getElem_cons_succ, aget_ints g0, aget_ints g1]
  have he : erS m.n m.lim m.ls t 5 x y 0 = er1 m.lim t x y := by simp only [erS]; rw [if_neg (by omega)]
  refine ⟨⟨by decide, rfl⟩, ⟨[.bot, .bot, .bot, .bot, .bot, .bot, .bot, .bot, .bot, .bot, .bot, .bot, .bot, .bot, .bot, .bot, .bot, .bot, .bot, .bot, .bot, .bot, .bot, .bot, .bot, .bot, .bot, .bot, .bot, .bot, .bot, .bot, .bot, .bot, .bot, .bot, .bot, .bot, .bot, .bot, .bot, .bot, .bot, .bot, .bot, .bot, .bot, .bot, .bot, .bot, .bot, .bot, .bot, .bot, .bot, .bot, .bot, .bot, .bot, .bot, .bot, .bot, .bot, .bot, .bot, .bot, .bot, .bot, .bot, .bot, .bot, .bot, .bot, .bot, .bot, .bot, .bot, .bot, .bot, .bot, .bot, .bot, .bot, .bot, .bot, .bot, .bot, .bot, .bot, .bot, .bot, .bot, .bot, .bot, .bot, .bot, .bot, .bot, .bot, .bot, .bot, .bot, .bot, .bot, .bot, .bot, .bot, .bot, .bot, .bot, .bot, .bot, .bot, .bot, .bot, .bot, .bot, .bot, .bot, .bot, .bot, .bot, .bot, .bot, .bot, .bot, .bot, .bot, .bot, .bot, .bot, .bot, .bot, .bot, .bot, .bot, .bot, .bot, .bot, .bot, .bot, .bot, .bot, .bot, .bot, .bot, .bot, .bot, .bot, .bot, .bot, .bot, .bot, .bot, .bot, .bot, .bot, .bot, .bot, .bot, .bot, .bot, .bot, .bot, .bot, .bot, .bot, .bot, .bot, .bot, .bot, .bot, .bot, .bot, .bot, .bot, .bot, .bot, .bot, .bot, .bot, .bot, .bot, .bot, .bot, .bot, .bot, .bot, .bot, .bot, .bot, .bot, .bot, .bot, .bot, .bot, .bot, .bot, .bot, .bot, .bot, .bot, .bot, .bot, .bot, .bot, .bot, .bot, .bot, .bot, .bot, .bot, .bot, .bot, .bot, .bot, .q 7 6 0 0, .q 0 13 0 0, .bot, .bot, I y, .bot, .bot, .bot, .s 1 (intsA [x]), .bot, .bot, .bot, .bot, .bot, .bot, .bot, .bot, .bot, .bot, .bot, .bot, .bot, .bot, .bot, .bot, .bot, .bot, .bot, .bot, .bot, .bot, .bot, .bot, .bot, .bot, .bot, .bot, .bot], memG m (t) ++ [gh, some ⟨none, 112, 4, [frmA (5, 2, 1, -1)]⟩]⟩, le_sl' ?_ (by simp [leSl, intsA]), ?_⟩
  · simp only [memG, memS, Mch.ob, Mch.od, Mch.cells, rowP, rowC, rowS, stO', combR, List.cons_append, List.nil_append, Option.map_some, Option.map_none, List.drop_succ_cons, List.drop_zero, prsA_sub, strsA_sub, intsA_sub, gtsA_sub, AV.sub, AV.subL, keepF, keepG, liveI, List.getElem?_cons_succ, List.getElem?_cons_zero, List.getElem?_nil, AV.isO, AV.isQ, List.any_cons, List.any_nil, ghost, gA, List.take_succ_cons, List.take_zero, List.drop_nil, hgh, frmA]
  simp only [St.ev, AV.cells, List.getD_cons_succ, List.getD_cons_zero, List.cons_append, List.nil_append, List.map_cons, List.map_nil, Int.reduceNeg, memG, Mch.ob, Mch.od, Mch.cells, rowP, rowC, rowS, stO', List.cons_append, List.nil_append, ghost, afc, hgh, frmA]
  refine acall_f (fspec_of (m105a m t hI hc 1 x y ⟨hx.1, px⟩) [1, 3, 8, 9] rfl (by exact ⟨rfl, rfl, rfl, rfl, rfl, rfl, trivial⟩) rfl rfl (free_GZ _ _ _ (by decide)) (N := memG m ((if er1 m.lim t x y = 0 then nx1 t 1 x y else t)) ++ [gh, some ⟨none, 112, 4, [frmA (5, 2, 1, -1)]⟩]) ?_) ?_
  · simp only [memG, memS, Mch.ob, Mch.od, Mch.cells, rowP, rowC, rowS, stO', combR, List.cons_append, List.nil_append, Option.map_some, Option.map_none, List.drop_succ_cons, List.drop_zero, prsA_sub, strsA_sub, intsA_sub, gtsA_sub, AV.sub, AV.subL, keepF, keepG, liveI, List.getElem?_cons_succ, List.getElem?_cons_zero, List.getElem?_nil, AV.isO, AV.isQ, List.any_cons, List.any_nil, ghost, gA, List.take_succ_cons, List.take_zero, List.drop_nil, hgh, frmA]
    rfl
  rw [he]
  obtain ⟨t', ht'⟩ : ∃ t', t' = if er1 m.lim t x y = 0 then nx1 t 1 x y else t := ⟨_, rfl⟩
  have hn : (if er1 m.lim t x y = 0 then nxS t 5 x y 0 else t) = t' := ht'.symm
  rw [← ht']
  simp only [wB, awp, asN, St.ev, St.step, setS, killS, AV.kill, AV.killL, Mem.kill, AV.cells, Nat.reduceEqDiff, Int.reduceNeg, memG, Mch.ob, Mch.od, Mch.cells, rowP, rowC, rowS, stO', AV.sub, keepG, liveI, AV.isQ, List.any_cons, List.any_nil, ghost, hgh, frmA, hn]
  exact ⟨_, _, memG m t', _, Le.refl _, rfl, rfl, erV_free _ _, rfl, free_G _ m _, rfl, rfl⟩
end Go.Proofs.YtndniceeibflcaaGreatDoor

namespace Go.Proofs.YtndniceeibflcaaGreatDoor
open Aw Mp Go.RowKit
set_option linter.unusedSimpArgs false
set_option maxRecDepth 8000

theorem m73_6 (m : Mch) (t : MS) {c : Nat} (hI : InvS m.n c t) (hc : c ≤ 1000) (hT : vT m.n m.ls = 0) (hls : m.ls.length ≤ 1000000) (x : Int) (hx : 0 ≤ x ∧ x ≤ 99) (y : Int) (hy : 0 ≤ y ∧ y ≤ 99) (z : Int) (hz : 0 ≤ z ∧ z ≤ 99) :
    MSpec Tryz.prog 73 [.q 7 6 0 0, .q 0 13 0 0, frmA (6, 3, 2, -1), .s 1 (intsA [x, y, z])] (memG m t) (fun r N => r = erV (erS m.n m.lim m.ls t 6 x y z) ∧ N = memG m (if erS m.n m.lim m.ls t 6 x y z = 0 then nxS t 6 x y z else t)) := by
  refine mspec_of2 (own := [6, 1022, 1033]) Tryz.func73 rfl ok73 ?_
  intro vs
  have hp4 := hI.p4
  have hhl := hI.hl
  have e0 : ((0 : Nat) : Int) = 0 := rfl
  have e1 : ((1 : Nat) : Int) = 1 := rfl
  have e2 : ((2 : Nat) : Int) = 2 := rfl
  have e3 : ((3 : Nat) : Int) = 3 := rfl
  have g0 : 0 < [x, y, z].length := by simp
  have g1 : 1 < [x, y, z].length := by simp
  have g2 : 2 < [x, y, z].length := by simp
  obtain ⟨gh, hgh⟩ : ∃ gh, gh = some (ghost vs [AV.q 7 6 0 0, AV.q 0 13 0 0, frmA (6, 3, 2, -1), AV.s 1 (intsA [x, y, z])]) := ⟨_, rfl⟩
  simp only [wB, awp, asP, asQ, asS, asN, obA, bndA, lenA, loadA, Aw.newRow, St.ev, St.step, setS, killS, AV.kill, AV.killL, Mem.kill, AV.cells, AV.flat, AV.single, AV.cellular, AV.size, AV.sizeL, Nat.reduceAdd, Nat.reduceEqDiff, Nat.reduceSub, Nat.reduceLeDiff, Int.reduceAdd, Int.reduceSub, Int.reduceNeg, Int.reduceToNat, Int.reduceLE, lenK, Tryz.ntmps73, memG, Mch.ob, Mch.od, Mch.cells, rowP, rowC, rowS, stO', List.drop_succ_cons, List.drop_zero, ghost, List.take_succ_cons, List.take_zero, e3, frmA, ← hgh]
  refine swp_loop' (fun j : Nat => ⟨[.q 7 6 0 0, .q 0 13 0 0, .bot, .s 1 (intsA [x, y, z]), .bot, .bot, .q 9 4 0 0, .bot, .v .nilIface, .bot, .bot, .bot, .bot, .bot, .bot, .bot, .bot, .bot, .bot, .s 1 (intsA [x, y]), I 2, I j, .bot, .bot, .bot, .bot, .bot, .bot, .bot, .bot, .bot, .bot, .bot, .bot, .bot, .bot, .bot, .bot, .bot, .bot, .bot, .bot, .bot, .bot, .bot, .bot, .bot, .bot, .bot, .bot, .bot, .bot, .bot, .bot, .bot, .bot, .bot, .bot, .bot, .bot, .bot, .bot, .bot, .bot, .bot, .bot, .bot, .bot, .bot, .bot, .bot, .bot, .bot, .bot, .bot, .bot, .bot, .bot, .bot, .bot, .bot, .bot, .bot, .bot, .bot, .bot, .bot, .bot, .bot, .bot, .bot, .bot, .bot, .bot, .bot, .bot, .bot, .bot, .bot, .bot, .bot, .bot, .bot, .bot, .bot, .bot, .bot, .bot, .bot, .bot, .bot, .bot, .bot, .bot, .bot, .bot, .bot, .bot, .bot, .bot, .bot, .bot, .bot, .bot, .bot, .bot, .bot, .bot, .bot, .bot, .bot, .bot, .bot, .bot, .bot, .bot, .bot, .bot, .bot, .bot, .bot, .bot, .bot, .bot, .bot, .bot, .bot, .bot, .bot, .bot, .bot, .bot, .bot, .bot, .bot, .bot, .bot, .bot, .bot, .bot, .bot, .bot, .bot, .bot, .bot, .bot, .bot, .bot, .bot, .bot, .bot, .bot, .bot, .bot, .bot, .bot, .bot, .bot, .bot, .bot, .bot, .bot, .bot, .bot, .bot, .bot, .bot, .bot, .bot, .bot, .bot, .bot, .bot, .bot, .bot, .bot, .bot, .bot, .bot, .bot, .bot, .bot, .bot, .bot, .bot, .bot, .bot, .bot, .bot, .bot, .bot, .bot, .bot, .bot, .bot, .bot, .bot, .bot, .bot, .bot, .bot, .bot, .bot, .bot, .bot, .bot, .bot, .bot, .bot, .bot, .bot, .bot, .bot, .bot, .bot, .bot, .bot, .bot, .bot, .bot, .bot, .bot, .bot, .bot, .bot, .bot, .bot, .bot, .bot, .bot, .bot, .bot, .bot, .bot], memG m t ++ [gh, some ⟨none, 112, 4, [frmA (6, 3, 2, -1)]⟩]⟩) (fun j => j ≤ 2 ∧ ∀ i, i < j → ∀ h : i < ([x, y] : List Int).length, ([x, y] : List Int)[i] < t.place.length) (fun j => 2 - j) 0 (le_sl' ?_ ?_) ⟨Nat.zero_le _, fun i h => absurd h (Nat.not_lt_zero _)⟩ ?_
  · simp only [memG, memS, Mch.ob, Mch.od, Mch.cells, rowP, rowC, rowS, stO', combR, List.cons_append, List.nil_append, Option.map_some, Option.map_none, List.drop_succ_cons, List.drop_zero, prsA_sub, strsA_sub, intsA_sub, gtsA_sub, AV.sub, AV.subL, keepF, keepG, liveI, List.getElem?_cons_succ, List.getElem?_cons_zero, List.getElem?_nil, AV.isO, AV.isQ, List.any_cons, List.any_nil, ghost, gA, List.take_succ_cons, List.take_zero, List.drop_nil, hgh, frmA]
  · simp [leSl, intsA]
  rintro j ⟨hj, hno⟩
  refine awp_sound (own := [6, 1022, 1033]) _ _ _ _ _ ?_
  simp only [wB, awp, binC, cmpC, asB, asI, St.ev, St.step, setS, killS, AV.kill, AV.killL, Mem.kill, AV.cells, Nat.reduceAdd, Nat.reduceEqDiff, Int.reduceAdd, Int.reduceNeg, memG, Mch.ob, Mch.od, Mch.cells, rowP, rowC, rowS, stO', ghost, hgh, frmA]
  by_cases h : (j : Int) < 2
  case pos =>
    have hjl : j < ([x, y] : List Int).length := by simp; omega
    simp only [wB, awp, binC, idxC, cmpC, asP, asQ, asS, asB, asI, asN, obA, lenA, loadA, St.ev, St.step, setS, killS, AV.kill, AV.killL, Mem.kill, AV.cells, AV.flat, AV.single, Nat.reduceAdd, Nat.reduceEqDiff, Nat.reduceLeDiff, Int.reduceAdd, Int.reduceNeg, lenK, Mch.cells, List.drop_zero, List.take_succ_cons, List.take_zero, decide_eq_true h, aget_ints hjl, Int.toNat_natCast]
    refine ⟨by omega, ?_⟩
    obtain ⟨q, hq⟩ : ∃ q, q = ([x, y] : List Int)[j] := ⟨_, rfl⟩
    rw [← hq]
    by_cases hp : (t.place.length : Int) ≤ q
    · simp only [wB, awp, asN, fillA, putsA, St.ev, St.step, setS, killS, AV.kill, AV.killL, Mem.kill, AV.cells, AV.flat, AV.single, AV.cellular, Value.oneCell', Nat.reduceAdd, Nat.reduceEqDiff, Nat.reduceLeDiff, Int.reduceAdd, Int.reduceNeg, Aw.valOf, Aw.valsOf, cc139, memG, Mch.ob, Mch.od, Mch.cells, rowP, rowC, rowS, stO', decide_eq_true hp]
      have he : erS m.n m.lim m.ls t 6 x y z = 4 := by
        have hor : (t.place.length : Int) ≤ x ∨ (t.place.length : Int) ≤ y := by
          rcases (show j = 0 ∨ j = 1 by omega) with rfl | rfl
          · simp only [List.getElem_cons_zero] at hq; left; omega
          · simp only [List.getElem_cons_succ, List.getElem_cons_zero] at hq; right; omega
        simp only [erS]
        rw [if_pos hor]
      exact ⟨_, _, memG m t, _, Le.refl _, rfl, rfl, rfl, rfl, free_G _ m t, by simp [he, erV, errV], by first | (simp [he]; done) | (simp [he]; rfl)⟩
    · simp only [wB, awp, binC, arithC, cmpC, asI, St.ev, St.step, setS, killS, AV.kill, AV.killL, Mem.kill, AV.cells, Nat.reduceAdd, Nat.reduceEqDiff, Int.reduceAdd, Int.reduceNeg, isU, memG, Mch.ob, Mch.od, Mch.cells, rowP, rowC, rowS, stO', decide_eq_false hp]
      refine ⟨by unfold lim; omega, j + 1, le_sl' ?_ (by simp [leSl]), ⟨by omega, fun i hi hl => ?_⟩, by omega⟩
      · simp only [memG, memS, Mch.ob, Mch.od, Mch.cells, rowP, rowC, rowS, stO', combR, List.cons_append, List.nil_append, Option.map_some, Option.map_none, List.drop_succ_cons, List.drop_zero, prsA_sub, strsA_sub, intsA_sub, gtsA_sub, AV.sub, AV.subL, keepF, keepG, liveI, List.getElem?_cons_succ, List.getElem?_cons_zero, List.getElem?_nil, AV.isO, AV.isQ, List.any_cons, List.any_nil, ghost, gA, List.take_succ_cons, List.take_zero, List.drop_nil, hgh, frmA]
      · rcases Nat.lt_or_ge i j with h1 | h1
        · exact hno i h1 hl
        · obtain rfl : i = j := by omega
          rw [← hq]; omega
  obtain rfl : j = 2 := by omega
  have px : x < t.place.length := by have := hno 0 (by omega) (by simp); simpa using this
  have py : y < t.place.length := by have := hno 1 (by omega) (by simp); simpa using this
  clear hno
  simp only [awp, ACond_false, if_true, decide_false, Int.reduceNeg, Int.reduceLT, e2]
  refine swp_draw (own := [6]) (.take 0 .plain [] (.take 1 .reads [] (.take 2 .plain [] (.take 3 .plain [] (.take 4 .plain [] (.take 5 .plain [] (.take 6 .reads [] (.take 7 .reads [] (.take 8 .reads [] (.take 9 .plain [] (.take 10 .plain [] (.take 11 .plain [] (.take 12 .plain [] (.take 13 .reads [] (.take 14 .plain [] (.take 15 .plain [] (.done))))))))))))))))) [⟨36, 64, 0, 0, true⟩, ⟨37, 34359738368, 1, 0, true⟩, ⟨38, 68719476736, 2, 0, true⟩, ⟨39, 137438953472, 4, 0, true⟩, ⟨40, 274877906952, 8, 0, true⟩, ⟨41, 274877907008, 8, 0, true⟩, ⟨42, 1374389534720, 40, 0, true⟩, ⟨43, 3023656976384, 88, 0, true⟩, ⟨44, 4672924418048, 136, 0, true⟩, ⟨45, 274877906946, 8, 0, true⟩, ⟨46, 17867063951360, 520, 0, true⟩, ⟨47, 35459249995776, 1032, 0, true⟩, ⟨48, 70643622084608, 2056, 0, true⟩, ⟨49, 141012366262272, 4104, 0, true⟩, ⟨50, 290545947639808, 8456, 0, true⟩, ⟨51, 563224831328256, 16392, 0, true⟩] mo (by kernel_rfl) ?_
  simp only [wB, awp, binC, cmpC, asP, asQ, asB, asI, asN, obA, loadA, St.ev, St.step, setS, killS, AV.kill, AV.killL, Mem.kill, AV.cells, AV.flat, AV.single, Nat.reduceAdd, Nat.reduceEqDiff, Nat.reduceLeDiff, Int.reduceAdd, Int.reduceNeg, Int.reduceLE, Int.reduceEq, ASch, St.put, Md.mem, Md.need, Mch.cells, List.drop_succ_cons, List.drop_zero, List.take_succ_cons, List.take_zero, aget_ints g0, aget_ints g1, aget_ints g2]
  refine swp_splitF (own := [6]) (pre := #[_, _, _, _, _, _, _, _, _, _, _, _]) _ [_] rfl (.take 0 .plain [] (.take 1 .plain [] (.take 2 .plain [] (.take 3 .reads [] (.take 4 .reads [] (.take 5 .plain [] (.take 6 .reads [] (.take 7 .reads [] (.take 8 .plain [] (.take 9 .reads [] (.take 10 .reads [] (.take 11 .plain [] (.done))))))))))))) [⟨229, 1, 0, 0, true⟩, ⟨230, 2, 0, 0, true⟩, ⟨231, 8, 0, 0, true⟩, ⟨232, 1725436586697640946858688965569256363112777243042596638790631055949824, 4, 0, true⟩, ⟨233, 3450873173395281893717377931138512726225554486085193277581262111899648, 8, 0, true⟩, ⟨234, 8, 0, 0, true⟩, ⟨235, 13803492693581127574869511724554050904902217944340773110325048447598592, 32, 0, true⟩, ⟨236, 27606985387162255149739023449108101809804435888681546220650096895197184, 64, 0, true⟩, ⟨237, 8, 0, 0, true⟩, ⟨238, 110427941548649020598956093796432407239217743554726184882600387580788736, 256, 0, true⟩, ⟨239, 220855883097298041197912187592864814478435487109452369765200775161577472, 512, 0, true⟩, ⟨240, 496925736968920592695302422083945832576479845996267831971701744113549312, 1152, 0, true⟩] mo (by kernel_rfl) (by kernel_rfl) ?_
  simp only [wB, idxC, asP, asS, asI, loadA, St.ev, setS, AV.cells, AV.flat, AV.single, AV.cellular, AV.size, AV.pure, AV.pureL, Value.oneCell', Nat.reduceEqDiff, Nat.reduceMul, Nat.reduceLeDiff, Int.reduceMul, Int.reduceNeg, Int.reduceToNat, Int.reduceLE, ASch, St.put, Md.mem, Md.need, Mch.cells, List.getElem_cons_zero, List.getElem_cons_succ, aget_ints g0, aget_ints g1, aget_ints g2]
  have he : erS m.n m.lim m.ls t 6 x y z = er2 m.lim m.ls t x y z := by simp only [erS]; rw [if_neg (by omega)]
  refine ⟨⟨by decide, rfl⟩, ⟨[.bot, .bot, .bot, .bot, .bot, .bot, .bot, .bot, .bot, .bot, .bot, .bot, .bot, .bot, .bot, .bot, .bot, .bot, .bot, .bot, .bot, .bot, .bot, .bot, .bot, .bot, .bot, .bot, .bot, .bot, .bot, .bot, .bot, .bot, .bot, .bot, .bot, .bot, .bot, .bot, .bot, .bot, .bot, .bot, .bot, .bot, .bot, .bot, .bot, .bot, .bot, .bot, .bot, .bot, .bot, .bot, .bot, .bot, .bot, .bot, .bot, .bot, .bot, .bot, .bot, .bot, .bot, .bot, .bot, .bot, .bot, .bot, .bot, .bot, .bot, .bot, .bot, .bot, .bot, .bot, .bot, .bot, .bot, .bot, .bot, .bot, .bot, .bot, .bot, .bot, .bot, .bot, .bot, .bot, .bot, .bot, .bot, .bot, .bot, .bot, .bot, .bot, .bot, .bot, .bot, .bot, .bot, .bot, .bot, .bot, .bot, .bot, .bot, .bot, .bot, .bot, .bot, .bot, .bot, .bot, .bot, .bot, .bot, .bot, .bot, .bot, .bot, .bot, .bot, .bot, .bot, .bot, .bot, .bot, .bot, .bot, .bot, .bot, .bot, .bot, .bot, .bot, .bot, .bot, .bot, .bot, .bot, .bot, .bot, .bot, .bot, .bot, .bot, .bot, .bot, .bot, .bot, .bot, .bot, .bot, .bot, .bot, .bot, .bot, .bot, .bot, .bot, .bot, .bot, .bot, .bot, .bot, .bot, .bot, .bot, .bot, .bot, .bot, .bot, .bot, .bot, .bot, .bot, .bot, .bot, .bot, .bot, .bot, .bot, .bot, .bot, .bot, .bot, .bot, .bot, .bot, .bot, .bot, .bot, .bot, .bot, .bot, .bot, .bot, .bot, .bot, .bot, .bot, .bot, .bot, .bot, .bot, .bot, .bot, .bot, .bot, .bot, .bot, .bot, .bot, .bot, .bot, .bot, .bot, .bot, .bot, .bot, .bot, .q 7 6 0 0, .q 0 13 0 0, .bot, .bot, I z, .bot, .bot, .bot, .bot, .bot, .bot, .s 1 (intsA [x, y]), .bot, .bot, .bot, .bot, .bot, .bot, .bot, .bot, .bot, .bot, .bot, .bot, .bot, .bot], memG m (t) ++ [gh, some ⟨none, 112, 4, [frmA (6, 3, 2, -1)]⟩]⟩, le_sl' ?_ (by simp [leSl, intsA]), ?_⟩
  · simp only [memG, memS, Mch.ob, Mch.od, Mch.cells, rowP, rowC, rowS, stO', combR, List.cons_append, List.nil_append, Option.map_some, Option.map_none, List.drop_succ_cons, List.drop_zero, prsA_sub, strsA_sub, intsA_sub, gtsA_sub, AV.sub, AV.subL, keepF, keepG, liveI, List.getElem?_cons_succ, List.getElem?_cons_zero, List.getElem?_nil, AV.isO, AV.isQ, List.any_cons, List.any_nil, ghost, gA, List.take_succ_cons, List.take_zero, List.drop_nil, hgh, frmA]
  simp only [St.ev, AV.cells, List.getD_cons_succ, List.getD_cons_zero, List.cons_append, List.nil_append, List.map_cons, List.map_nil, Int.reduceNeg, memG, Mch.ob, Mch.od, Mch.cells, rowP, rowC, rowS, stO', List.cons_append, List.nil_append, ghost, afc, hgh, frmA]
  refine acall_f (fspec_of (m105b m t hI hc hT hls x y z ⟨hx.1, px⟩ ⟨hy.1, py⟩) [1, 3, 8, 9] rfl (by exact ⟨rfl, rfl, rfl, rfl, rfl, rfl, trivial⟩) rfl rfl (free_GZ _ _ _ (by decide)) (N := memG m ((if er2 m.lim m.ls t x y z = 0 then nx2 t x y z else t)) ++ [gh, some ⟨none, 112, 4, [frmA (6, 3, 2, -1)]⟩]) ?_) ?_
  · simp only [memG, memS, Mch.ob, Mch.od, Mch.cells, rowP, rowC, rowS, stO', combR, List.cons_append, List.nil_append, Option.map_some, Option.map_none, List.drop_succ_cons, List.drop_zero, prsA_sub, strsA_sub, intsA_sub, gtsA_sub, AV.sub, AV.subL, keepF, keepG, liveI, List.getElem?_cons_succ, List.getElem?_cons_zero, List.getElem?_nil, AV.isO, AV.isQ, List.any_cons, List.any_nil, ghost, gA, List.take_succ_cons, List.take_zero, List.drop_nil, hgh, frmA]
    rfl
  rw [he]
  obtain ⟨t', ht'⟩ : ∃ t', t' = if er2 m.lim m.ls t x y z = 0 then nx2 t x y z else t := ⟨_, rfl⟩
  have hn : (if er2 m.lim m.ls t x y z = 0 then nxS t 6 x y z else t) = t' := ht'.symm
  rw [← ht']
  simp only [wB, awp, asN, St.ev, St.step, setS, killS, AV.kill, AV.killL, Mem.kill, AV.cells, Nat.reduceEqDiff, Int.reduceNeg, memG, Mch.ob, Mch.od, Mch.cells, rowP, rowC, rowS, stO', AV.sub, keepG, liveI, AV.isQ, List.any_cons, List.any_nil, ghost, hgh, frmA, hn]
  exact ⟨_, _, memG m t', _, Le.refl _, rfl, rfl, erV_free _ _, rfl, free_G _ m _, rfl, rfl⟩
end Go.Proofs.YtndniceeibflcaaGreatDoor
