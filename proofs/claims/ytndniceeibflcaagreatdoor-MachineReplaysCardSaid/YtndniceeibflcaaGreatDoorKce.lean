/-
  Parts of several texts in one: MwR, MwS, MwT, MwU, MwV, MwW, MwX.
-/
import Derived.Test.YtndniceeibflcaaGreatDoorProg
import Derived.WalkKit
import Derived.Lib.ConvBytes
import Derived.LaidEql
import Derived.Lib.ItoaNum
import Derived.Lib.LaidTab
import Derived.KernelRfl
import GoSem.Claims
import GoSem.ClaimJoined
import Derived.Orders
import Derived.Laws.StructEq
import Derived.Maps.Keyed
import Derived.Lib.Strings
import Derived.Maps.AppendAt
import Derived.Laws.Concat
import Derived.MapKept
import Derived.Laws.MakeOwn
import Derived.Scope
import Derived.Laws.BitsLemmas
import Derived.Maps.RangeRun
import Derived.StillTail
import Derived.OrdersIn
import Derived.TacticsIn
import Derived.RangeFuncRecord
import Derived.RangeFuncCalls
import Derived.RangeFuncSeq
import Derived.Lib.Split
import Derived.Lib.AtoiAll
import Derived.Shelf.LaysM
import Derived.Shelf.LaysC
import Derived.Shelf.Strconv.Itoa3
import Derived.Shelf.Strconv.AtoiAll
import Derived.Shelf.Strings.Search3
import Derived.Shelf.Strings.Cut
import Derived.Shelf.Strings.Prefix
import Derived.Shelf.Strings.Split
import Derived.Lib.AppendIntMem
import Derived.Stop.Asserts
import Derived.RowKitTokens
import Derived.Conc.MuLone
import Derived.Test.YtndniceeibflcaaGreatDoorKaa
import Derived.Test.YtndniceeibflcaaGreatDoorKal
import Derived.Test.YtndniceeibflcaaGreatDoorKac
import Derived.Test.YtndniceeibflcaaGreatDoorKad
import Derived.Test.YtndniceeibflcaaGreatDoorKae
import Derived.Test.YtndniceeibflcaaGreatDoorKam
import Derived.Test.YtndniceeibflcaaGreatDoorKag
import Derived.Test.YtndniceeibflcaaGreatDoorKai
import Derived.Test.YtndniceeibflcaaGreatDoorKak
import Derived.Test.YtndniceeibflcaaGreatDoorKao
import Derived.Test.YtndniceeibflcaaGreatDoorKap
set_option linter.unusedSimpArgs false
set_option linter.unusedVariables false
namespace Go.Proofs.YtndniceeibflcaaGreatDoor
namespace Aw
end Aw
namespace Mp
end Mp
end Go.Proofs.YtndniceeibflcaaGreatDoor
namespace Go.Proofs.YtndniceeibflcaaGreatDoor
open Aw Mp Go.RowKit
set_option linter.unusedSimpArgs false
set_option maxRecDepth 8000

theorem s81_5 (n lm : Int) (ls : List (Int × Int)) (l : List By) (t : MS) {c : Nat} (hI : InvS n c t) (hc : c ≤ 1000) (hls : ls.length ≤ 1000000) (x y z : Int) (hx : 0 ≤ x) : ASpec Tryz.prog 81 [rfA n lm ls l, stA t, S [115, 112, 105, 110], .g [I x, I y, I z]] (fun r Ms => r = .t [stA (if erS n lm ls t 5 x y z = 0 then nxS t 5 x y z else t), I (erS n lm ls t 5 x y z)] ∧ Ms = []) := by
  refine aspec_of (own := [4, 5, 7, 8]) Tryz.func81 rfl ok81 ?_
  have e3 : ((3 : Nat) : Int) = 3 := rfl
  have n0 : ¬ ([115, 112, 105, 110] : List UInt8) = [108, 111, 97, 100] := by decide
  have n1 : ¬ ([115, 112, 105, 110] : List UInt8) = [109, 111, 118, 101] := by decide
  have n2 : ¬ ([115, 112, 105, 110] : List UInt8) = [99, 111, 111, 108] := by decide
  have n3 : ¬ ([115, 112, 105, 110] : List UInt8) = [119, 97, 105, 116] := by decide
  have n4 : ¬ ([115, 112, 105, 110] : List UInt8) = [100, 114, 111, 112] := by decide
  have hs := s115_5 n lm ls l t hI hc hls x y z hx
  generalize (if erS n lm ls t 5 x y z = 0 then nxS t 5 x y z else t) = t' at *
  simp only [rfA, stA] at hs
  simp only [wB, awp, binC, eqC, asP, asQ, asG, asB, asI, asN, obA, loadA, mkA, Aw.newRow, St.ev, St.step, setS, killS, AV.kill, AV.killL, Mem.kill, AV.cells, AV.flat, AV.single, AV.cellular, AV.size, AV.sizeL, Nat.reduceAdd, Nat.reduceEqDiff, Nat.reduceSub, Nat.reduceLeDiff, Int.reduceAdd, Int.reduceSub, asStr, strC, Tryz.ntmps81, rfA, stA, decide_eq_false n0, decide_eq_false n1, decide_eq_false n2, decide_eq_false n3, decide_eq_false n4]
  refine acall_v hs (by simp [AV.pureL, AV.pure, prsA_pure, strsA_pure, intsA_pure, gtsA_pure]) (by simp [AV.pureL, AV.pure, intsA_pure, gtsA_pure]) ?_
  simp only [wB, awp, asQ, asT, asN, obA, storeA, putsA, St.ev, St.step, setS, killS, AV.kill, AV.killL, Mem.kill, AV.cells, AV.flat, AV.single, AV.cellular, Nat.reduceAdd, Nat.reduceEqDiff, Nat.reduceLeDiff, Int.reduceAdd]
  exact aend_frz rfl ⟨rfl, rfl⟩
theorem s81_6 (n lm : Int) (ls : List (Int × Int)) (l : List By) (t : MS) {c : Nat} (hI : InvS n c t) (hc : c ≤ 1000) (hls : ls.length ≤ 1000000) (x y z : Int) (hx : 0 ≤ x) (hy : 0 ≤ y) : ASpec Tryz.prog 81 [rfA n lm ls l, stA t, S [106, 111, 105, 110], .g [I x, I y, I z]] (fun r Ms => r = .t [stA (if erS n lm ls t 6 x y z = 0 then nxS t 6 x y z else t), I (erS n lm ls t 6 x y z)] ∧ Ms = []) := by
  refine aspec_of (own := [4, 5, 7, 8]) Tryz.func81 rfl ok81 ?_
  have e3 : ((3 : Nat) : Int) = 3 := rfl
  have n0 : ¬ ([106, 111, 105, 110] : List UInt8) = [108, 111, 97, 100] := by decide
  have n1 : ¬ ([106, 111, 105, 110] : List UInt8) = [109, 111, 118, 101] := by decide
  have n2 : ¬ ([106, 111, 105, 110] : List UInt8) = [99, 111, 111, 108] := by decide
  have n3 : ¬ ([106, 111, 105, 110] : List UInt8) = [119, 97, 105, 116] := by decide
  have n4 : ¬ ([106, 111, 105, 110] : List UInt8) = [100, 114, 111, 112] := by decide
  have hs := s115_6 n lm ls l t hI hc hls x y z hx hy
  generalize (if erS n lm ls t 6 x y z = 0 then nxS t 6 x y z else t) = t' at *
  simp only [rfA, stA] at hs
  simp only [wB, awp, binC, eqC, asP, asQ, asG, asB, asI, asN, obA, loadA, mkA, Aw.newRow, St.ev, St.step, setS, killS, AV.kill, AV.killL, Mem.kill, AV.cells, AV.flat, AV.single, AV.cellular, AV.size, AV.sizeL, Nat.reduceAdd, Nat.reduceEqDiff, Nat.reduceSub, Nat.reduceLeDiff, Int.reduceAdd, Int.reduceSub, asStr, strC, Tryz.ntmps81, rfA, stA, decide_eq_false n0, decide_eq_false n1, decide_eq_false n2, decide_eq_false n3, decide_eq_false n4]
  refine acall_v hs (by simp [AV.pureL, AV.pure, prsA_pure, strsA_pure, intsA_pure, gtsA_pure]) (by simp [AV.pureL, AV.pure, intsA_pure, gtsA_pure]) ?_
  simp only [wB, awp, asQ, asT, asN, obA, storeA, putsA, St.ev, St.step, setS, killS, AV.kill, AV.killL, Mem.kill, AV.cells, AV.flat, AV.single, AV.cellular, Nat.reduceAdd, Nat.reduceEqDiff, Nat.reduceLeDiff, Int.reduceAdd]
  exact aend_frz rfl ⟨rfl, rfl⟩
end Go.Proofs.YtndniceeibflcaaGreatDoor

namespace Go.Proofs.YtndniceeibflcaaGreatDoor
open Aw Mp Go.RowKit
set_option linter.unusedSimpArgs false
set_option maxRecDepth 8000

theorem s81_2 (n lm : Int) (ls : List (Int × Int)) (l : List By) (t : MS) {c : Nat} (hI : InvS n c t) (hc : c ≤ 1000) (x y z : Int) (hx : 0 ≤ x) : ASpec Tryz.prog 81 [rfA n lm ls l, stA t, S [99, 111, 111, 108], .g [I x, I y, I z]] (fun r Ms => r = .t [stA (if erS n lm ls t 2 x y z = 0 then nxS t 2 x y z else t), I (erS n lm ls t 2 x y z)] ∧ Ms = []) := by
  refine aspec_of (own := [4, 5, 7, 8]) Tryz.func81 rfl ok81 ?_
  have hp4 := hI.p4
  have hhl := hI.hl
  have hco := hI.co
  have e3 : ((3 : Nat) : Int) = 3 := rfl
  have n0 : ¬ ([99, 111, 111, 108] : List UInt8) = [108, 111, 97, 100] := by decide
  have n1 : ¬ ([99, 111, 111, 108] : List UInt8) = [109, 111, 118, 101] := by decide
  simp only [wB, awp, binC, idxC, cmpC, eqC, asP, asQ, asG, asB, asI, asN, obA, lenA, loadA, mkA, Aw.newRow, St.ev, St.step, setS, killS, AV.kill, AV.killL, Mem.kill, AV.cells, AV.flat, AV.single, AV.cellular, AV.size, AV.sizeL, Nat.reduceAdd, Nat.reduceEqDiff, Nat.reduceMul, Nat.reduceSub, Nat.reduceLeDiff, Int.reduceAdd, Int.reduceSub, Int.reduceMul, Int.reduceLE, Int.reduceLT, asStr, strC, lenK, Tryz.ntmps81, rfA, stA, e3, decide_eq_false n0, decide_eq_false n1]
  by_cases c1 : (t.place.length : Int) ≤ x
  · simp only [wB, awp, asP, asQ, asN, obA, loadA, storeA, putsA, St.ev, St.step, setS, killS, AV.kill, AV.killL, Mem.kill, AV.cells, AV.flat, AV.single, AV.cellular, Nat.reduceAdd, Nat.reduceEqDiff, Nat.reduceLeDiff, Int.reduceAdd, decide_eq_true c1]
    have he : erS n lm ls t 2 x y z = 4 := by simp only [erS]; rw [if_pos c1]
    refine aend_frz rfl ⟨?_, rfl⟩
    rw [he]
    rfl
  have he : erS n lm ls t 2 x y z = 0 := by simp only [erS]; rw [if_neg c1]
  have hxl : x.toNat < t.heats.length := by omega
  have hb := hI.hin _ (List.getElem_mem hxl)
  simp only [awp, ACond_false, decide_eq_false c1]
  refine swp_draw (own := [4, 5, 7, 8]) (.take 0 .plain [] (.take 1 .reads [] (.take 2 .reads [] (.take 3 .reads [] (.take 4 .plain [] (.take 5 .reads [] (.take 6 .reads [] (.take 7 .reads [] (.take 8 .reads [] (.take 9 .reads [] (.take 10 .plain [] (.alt 11 (.take 12 .plain [] (.alt 13 (.done) (.nil))) (.nil))))))))))))) [⟨42, 32, 0, 0, true⟩, ⟨43, 2199023255552, 1, 0, true⟩, ⟨44, 128, 0, 0, true⟩, ⟨45, 8796093022208, 4, 0, true⟩, ⟨46, 32, 0, 0, true⟩, ⟨47, 35184372088832, 16, 0, true⟩, ⟨48, 128, 0, 0, true⟩, ⟨49, 140737488355328, 64, 0, true⟩, ⟨50, 351843720888320, 160, 0, true⟩, ⟨51, 562949953421312, 256, 0, true⟩, ⟨52, 1125899906842624, 512, 0, true⟩, ⟨53, 2273790046240768, 1034, 0, false⟩, ⟨54, 32, 4095, 0, true⟩, ⟨0, 13510798882111488, 8191, 1, false⟩] mo (by kernel_rfl) ?_
  simp only [wB, idxC, asP, asQ, asS, asI, obA, loadA, St.ev, setS, AV.cells, AV.flat, AV.single, Nat.reduceAdd, Nat.reduceEqDiff, Nat.reduceMul, Nat.reduceLeDiff, Int.reduceAdd, Int.reduceMul, Int.reduceLE, Int.reduceLT, ASch, St.put, Md.mem, Md.need, e3, aget_ints hxl]
  refine ⟨by omega, by unfold lim; omega, acall_v (s114 t.heats x ⟨hx, by omega⟩ (by omega) (-t.heats[x.toNat]) (by omega) hI.hin) (by simp [AV.pureL, AV.pure, intsA_pure]) (by simp [AV.pure, intsA_pure]) ?_⟩
  have hbump : bump t.heats x.toNat (-t.heats[x.toNat]) = t.heats.set x.toNat 0 := by
    unfold bump
    rw [getD_eq hxl, show t.heats[x.toNat] + -t.heats[x.toNat] = 0 by omega]
    rfl
  rw [hbump]
  simp only [wB, awp, binC, arithC, cmpC, asP, asQ, asI, asN, obA, loadA, storeA, putsA, St.ev, St.step, setS, killS, AV.kill, AV.killL, Mem.kill, AV.cells, AV.flat, AV.single, AV.cellular, Value.oneCell', Nat.reduceAdd, Nat.reduceEqDiff, Nat.reduceLeDiff, Int.reduceAdd, ASch, St.put, Md.mem, Md.need, isU]
  exact ⟨by unfold lim; omega, aend_frz rfl ⟨by rw [he]; rfl, rfl⟩⟩

theorem s81_7 (n lm : Int) (ls : List (Int × Int)) (l : List By) (t : MS) (x y z : Int) : ASpec Tryz.prog 81 [rfA n lm ls l, stA t, S [100, 114, 111, 112], .g [I x, I y, I z]] (fun r Ms => r = .t [stA (if erS n lm ls t 7 x y z = 0 then nxS t 7 x y z else t), I (erS n lm ls t 7 x y z)] ∧ Ms = []) := by
  refine aspec_of (own := [4, 5, 7, 8, 1023]) Tryz.func81 rfl ok81 ?_
  have e3 : ((3 : Nat) : Int) = 3 := rfl
  have n0 : ¬ ([100, 114, 111, 112] : List UInt8) = [108, 111, 97, 100] := by decide
  have n1 : ¬ ([100, 114, 111, 112] : List UInt8) = [109, 111, 118, 101] := by decide
  have n2 : ¬ ([100, 114, 111, 112] : List UInt8) = [99, 111, 111, 108] := by decide
  have n3 : ¬ ([100, 114, 111, 112] : List UInt8) = [119, 97, 105, 116] := by decide
  simp only [wB, awp, binC, cmpC, eqC, asP, asQ, asG, asB, asI, asN, obA, lenA, loadA, mkA, Aw.newRow, St.ev, St.step, setS, killS, AV.kill, AV.killL, Mem.kill, AV.cells, AV.flat, AV.single, AV.cellular, AV.size, AV.sizeL, Nat.reduceAdd, Nat.reduceEqDiff, Nat.reduceSub, Nat.reduceLeDiff, Int.reduceAdd, Int.reduceSub, asStr, strC, lenK, Tryz.ntmps81, rfA, stA, decide_eq_false n0, decide_eq_false n1, decide_eq_false n2, decide_eq_false n3, gtsA_len]
  by_cases c1 : (t.circ.length : Int) = 0
  · simp only [wB, awp, asP, asQ, asN, obA, loadA, storeA, putsA, St.ev, St.step, setS, killS, AV.kill, AV.killL, Mem.kill, AV.cells, AV.flat, AV.single, AV.cellular, Nat.reduceAdd, Nat.reduceEqDiff, Nat.reduceLeDiff, Int.reduceAdd, decide_eq_true c1]
    have he : erS n lm ls t 7 x y z = 9 := by simp only [erS]; rw [if_pos (List.eq_nil_of_length_eq_zero (by omega))]
    refine aend_frz rfl ⟨?_, rfl⟩
    rw [he]
    rfl
  have he : erS n lm ls t 7 x y z = 0 := by simp only [erS]; rw [if_neg (fun h => c1 (by rw [h]; rfl))]
  simp only [awp, ACond_true, ACond_false, List.contains_nil, List.contains_cons, beq_self_eq_true, nbeq, decide_false, Bool.or_false, Bool.or_true, Nat.reduceAdd, Nat.reduceEqDiff, Int.reduceAdd, decide_eq_false c1]
  refine swp_to ⟨[.bot, .bot, .bot, .bot, .bot, .q 1 6 0 0, .bot, .bot, .q 3 6 0 0, .bot, .bot, .bot, .bot, .bot, .bot, .bot, .bot, .bot, .bot, .bot, .bot, .bot, .bot, .bot, .bot, .bot, .bot, .bot, .bot, .bot, .bot, .bot, .bot, .bot, .bot, .bot, .bot, .bot, .bot, .bot, .bot, .bot, .bot, .bot, .bot, .bot, .bot, .bot, .bot, .bot, .bot, .bot, .bot, .bot, .bot, .bot, .bot, .bot, .bot, .bot, .bot, .bot, .bot, .bot, .bot, .bot, .bot, .bot, .bot, .bot, .bot, .bot, .bot, .bot, .bot, .bot, .bot, .bot, .bot, .bot, .bot, .bot, .bot, .bot, .bot, .bot, .bot, .bot, .bot, .bot, .bot, .bot, .bot, .bot, .bot, .bot], [some ⟨none, 55, 4, [rfA n lm ls l]⟩, some ⟨none, 130, 6, [stA { t with circ := [] }]⟩, some ⟨none, 126, 3, [.g [I x, I y, I z]]⟩, some ⟨none, 130, 6, [.g [.v (.slice none 0 0), .v (.slice none 0 0), .v (.slice none 0 0), I 0, I 0, I 0]]⟩]⟩ (awp_sound (own := [4, 5, 7, 8]) _ _ _ _ _ ?_) ?_
  · simp only [wB, awp, asP, asQ, obA, storeA, putsA, St.ev, St.step, setS, killS, AV.kill, AV.killL, Mem.kill, AV.cells, AV.flat, AV.single, AV.cellular, Value.oneCell', Nat.reduceAdd, Nat.reduceEqDiff, Nat.reduceLeDiff, Int.reduceAdd]
    refine Le.trans (le_nils 1 2 4 rfl rfl rfl rfl) (le_sl' ?_ (by simp [leSl]))
    simp [rfA, stA, gtsA]
  · simp only [wB, awp, asP, asQ, asN, obA, loadA, storeA, putsA, St.ev, St.step, setS, killS, AV.kill, AV.killL, Mem.kill, AV.cells, AV.flat, AV.single, AV.cellular, Nat.reduceAdd, Nat.reduceEqDiff, Nat.reduceLeDiff, Int.reduceAdd, rfA, stA]
    exact aend_frz rfl ⟨by rw [he]; rfl, rfl⟩
end Go.Proofs.YtndniceeibflcaaGreatDoor

namespace Go.Proofs.YtndniceeibflcaaGreatDoor
open Aw Mp Go.RowKit
set_option linter.unusedSimpArgs false
set_option maxRecDepth 8000

theorem s81_3 (n lm : Int) (ls : List (Int × Int)) (l : List By) (t : MS) {c : Nat} (hI : InvS n c t) (x y z : Int) (hx : 0 ≤ x ∧ x ≤ 99) : ASpec Tryz.prog 81 [rfA n lm ls l, stA t, S [119, 97, 105, 116], .g [I x, I y, I z]] (fun r Ms => r = .t [stA (if erS n lm ls t 3 x y z = 0 then nxS t 3 x y z else t), I (erS n lm ls t 3 x y z)] ∧ Ms = []) := by
  refine aspec_of (own := [4, 5, 7, 8]) Tryz.func81 rfl ok81 ?_
  have hp4 := hI.p4
  have hhl := hI.hl
  have e3 : ((3 : Nat) : Int) = 3 := rfl
  have n0 : ¬ ([119, 97, 105, 116] : List UInt8) = [108, 111, 97, 100] := by decide
  have n1 : ¬ ([119, 97, 105, 116] : List UInt8) = [109, 111, 118, 101] := by decide
  have n2 : ¬ ([119, 97, 105, 116] : List UInt8) = [99, 111, 111, 108] := by decide
  simp only [wB, awp, binC, idxC, cmpC, eqC, asP, asQ, asG, asB, asI, asN, obA, loadA, mkA, Aw.newRow, St.ev, St.step, setS, killS, AV.kill, AV.killL, Mem.kill, AV.cells, AV.flat, AV.single, AV.cellular, AV.size, AV.sizeL, Nat.reduceAdd, Nat.reduceEqDiff, Nat.reduceMul, Nat.reduceSub, Nat.reduceLeDiff, Int.reduceAdd, Int.reduceSub, Int.reduceMul, Int.reduceLE, Int.reduceLT, asStr, strC, Tryz.ntmps81, rfA, stA, e3, decide_eq_false n0, decide_eq_false n1, decide_eq_false n2]
  by_cases c1 : x = 0
  · simp only [wB, awp, asP, asQ, asN, obA, loadA, storeA, putsA, St.ev, St.step, setS, killS, AV.kill, AV.killL, Mem.kill, AV.cells, AV.flat, AV.single, AV.cellular, Nat.reduceAdd, Nat.reduceEqDiff, Nat.reduceLeDiff, Int.reduceAdd, decide_eq_true c1]
    have he : erS n lm ls t 3 x y z = 1 := by simp only [erS]; rw [if_pos c1]
    refine aend_frz rfl ⟨?_, rfl⟩
    rw [he]
    rfl
  have he : erS n lm ls t 3 x y z = 0 := by simp only [erS]; rw [if_neg c1]
  simp only [wB, awp, asN, St.ev, St.step, setS, killS, AV.kill, AV.killL, Mem.kill, Nat.reduceAdd, Nat.reduceEqDiff, Int.reduceAdd, decide_eq_false c1]
  refine swp_loop' (fun j : Nat => ⟨[.bot, .bot, .bot, .bot, .bot, .q 1 6 0 0, .bot, .q 2 3 0 0, .q 3 6 0 0, .bot, I j, .bot, .bot, .bot, .bot, .bot, .bot, .bot, .bot, .bot, .bot, .bot, .bot, .bot, .bot, .bot, .bot, .bot, .bot, .bot, .bot, .bot, .bot, .bot, .bot, .bot, .bot, .bot, .bot, .bot, .bot, .bot, .bot, .bot, .bot, .bot, .bot, .bot, .bot, .bot, .bot, .bot, .bot, .bot, .bot, .bot, .bot, .bot, .bot, .bot, .bot, .bot, .bot, .bot, .bot, .bot, .bot, .bot, .bot, .bot, .bot, .bot, .bot, .bot, .bot, .bot, .bot, .bot, .bot, .bot, .bot, .bot, .bot, .bot, .bot, .bot, .bot, .bot, .bot, .bot, .bot, .bot, .bot, .bot, .bot, .bot], [some ⟨none, 55, 4, [rfA n lm ls l]⟩, some ⟨none, 130, 6, [stA { t with heats := warmL t.heats x j }]⟩, some ⟨none, 126, 3, [.g [I x, I y, I z]]⟩, some ⟨none, 130, 6, [.g [.v (.slice none 0 0), .v (.slice none 0 0), .v (.slice none 0 0), I 0, I 0, I 0]]⟩]⟩) (fun j => j ≤ t.heats.length) (fun j => t.heats.length - j) 0 (le_sl' ?_ (by simp [leSl])) (Nat.zero_le _) ?_
  · simp [rfA, stA, warmL]
  intro j hj
  refine awp_sound (own := [4, 5, 7, 8]) _ _ _ _ _ ?_
  have hwl := warmL_len t.heats x j
  simp only [wB, awp, binC, cmpC, asP, asQ, asB, asI, obA, lenA, loadA, St.ev, St.step, setS, killS, AV.kill, AV.killL, Mem.kill, AV.cells, AV.flat, AV.single, Nat.reduceAdd, Nat.reduceEqDiff, Nat.reduceLeDiff, Int.reduceAdd, lenK, rfA, stA, hwl]
  by_cases h : j < t.heats.length
  case neg =>
    have h' : ¬ (j : Int) < (t.heats.length : Int) := by omega
    simp only [wB, awp, asP, asQ, asN, obA, loadA, storeA, putsA, St.ev, St.step, setS, killS, AV.kill, AV.killL, Mem.kill, AV.cells, AV.flat, AV.single, AV.cellular, Nat.reduceAdd, Nat.reduceEqDiff, Nat.reduceLeDiff, Int.reduceAdd, decide_eq_false h']
    have hw : warmL t.heats x j = t.heats.map fun h => min (h + x) 1000 := by
      unfold warmL
      rw [List.take_of_length_le (by omega), List.drop_eq_nil_of_le (by omega), List.append_nil]
    rw [hw]
    exact aend_frz rfl ⟨by rw [he]; rfl, rfl⟩
  have h' : (j : Int) < (t.heats.length : Int) := by omega
  simp only [wB, awp, idxC, asP, asQ, asI, obA, loadA, St.ev, St.step, setS, killS, AV.kill, AV.killL, Mem.kill, AV.cells, AV.flat, AV.single, Nat.reduceAdd, Nat.reduceEqDiff, Nat.reduceMul, Nat.reduceLeDiff, Int.reduceAdd, Int.reduceMul, Int.reduceLE, Int.reduceLT, decide_eq_true h', e3]
  refine acall_v (s114 (warmL t.heats x j) j (by omega) (by omega) x (by omega) (warmL_in hI.hin hx.1 j)) (by simp [AV.pureL, AV.pure, intsA_pure]) (by simp [AV.pure, intsA_pure]) ?_
  rw [Int.toNat_natCast, warmL_bump h]
  simp only [wB, awp, binC, arithC, cmpC, asP, asQ, asI, asN, obA, storeA, putsA, St.ev, St.step, setS, killS, AV.kill, AV.killL, Mem.kill, AV.cells, AV.flat, AV.single, AV.cellular, Nat.reduceAdd, Nat.reduceEqDiff, Nat.reduceLeDiff, Int.reduceAdd, isU]
  refine ⟨by unfold lim; omega, j + 1, le_sl' ?_ (by simp [leSl]), h, by omega⟩
  simp [rfA, stA]
end Go.Proofs.YtndniceeibflcaaGreatDoor

namespace Go.Proofs.YtndniceeibflcaaGreatDoor
open Aw Mp Go.RowKit
set_option linter.unusedSimpArgs false

theorem s81 (n lm : Int) (ls : List (Int × Int)) (l : List By) (t : MS) {c : Nat} (hI : InvS n c t) (hc : c ≤ 1000) (hls : ls.length ≤ 1000000) {k : Nat} (hk : k < 8) (x y z : Int) (hx : 0 ≤ x ∧ x ≤ 99) (hy : 0 ≤ y) :
    ASpec Tryz.prog 81 [rfA n lm ls l, stA t, S (nameL.getD k []), .g [I x, I y, I z]] (fun r Ms => r = .t [stA (if erS n lm ls t k x y z = 0 then nxS t k x y z else t), I (erS n lm ls t k x y z)] ∧ Ms = []) := by
  match k, hk with
  | 0, _ => exact s81_0 n lm ls l t hI x y z
  | 1, _ => exact s81_1 n lm ls l t hI hc hls x y z hx.1
  | 2, _ => exact s81_2 n lm ls l t hI hc x y z hx.1
  | 3, _ => exact s81_3 n lm ls l t hI x y z hx
  | 4, _ => exact s81_4 n lm ls l t hI hc hls x y z hx.1
  | 5, _ => exact s81_5 n lm ls l t hI hc hls x y z hx.1
  | 6, _ => exact s81_6 n lm ls l t hI hc hls x y z hx.1 hy
  | 7, _ => exact s81_7 n lm ls l t x y z
end Go.Proofs.YtndniceeibflcaaGreatDoor

namespace Go.Proofs.YtndniceeibflcaaGreatDoor
open Aw Mp Go.RowKit
set_option linter.unusedSimpArgs false
set_option maxRecDepth 8000

theorem s80_some {o : By} (ho : o.length ≤ 9223372036854775807) {k : Nat} {a : List Int} (hp : prs o = some (k, a)) : ASpec Tryz.prog 80 [S o] (fun r Ms => r = .t [S (nameL.getD k []), .g [I (nth a 0), I (nth a 1), I (nth a 2)], B true] ∧ Ms = []) := by
  have := s80 o ho
  simpa only [rdP, hp] using this
theorem ok82 : okFn Tryz.prog 82 = true := by kernel_rfl
theorem s82 (n lm : Int) (ls : List (Int × Int)) (l : List By) (hA : Acc n lm ls l) (hls : ls.length ≤ 1000000) : ASpec Tryz.prog 82 [rfA n lm ls l] (fun r Ms => r = stA (stO l) ∧ Ms = []) := by
  refine aspec_of (own := [1, 2, 3, 6]) Tryz.func82 rfl ok82 ?_
  simp only [wB, awp, asN, mkA, Aw.newRow, St.ev, St.step, setS, killS, AV.kill, AV.killL, Mem.kill, AV.cellular, AV.size, AV.sizeL, Nat.reduceAdd, Nat.reduceEqDiff, Nat.reduceSub, Int.reduceAdd, Int.reduceSub, Tryz.ntmps82, rfA]
  refine swp_loop' (fun i : Nat => ⟨[.bot, .q 0 4 0 0, .q 1 6 0 0, .q 2 6 0 0, I i, .bot, .bot, .bot, .bot, .bot, .bot, .bot, .bot, .bot, .bot, .bot, .bot, .bot, .bot, .bot, .bot, .bot, .bot, .bot, .bot, .bot, .bot, .bot, .bot, .bot, .bot, .bot, .bot, .bot], [some ⟨none, 55, 4, [rfA n lm ls l]⟩, some ⟨none, 130, 6, [.g [.v (.slice none 0 0), .v (.slice none 0 0), .v (.slice none 0 0), I 0, I 0, I 0]]⟩, some ⟨none, 130, 6, [stA (stO (l.take i))]⟩]⟩) (fun i => i ≤ l.length) (fun i => l.length - i) 0 (Le.trans (le_nils 2 0 1 rfl rfl rfl rfl) (Le.trans (le_nils 2 1 1 rfl rfl rfl rfl) (Le.trans (le_nils 2 2 4 rfl rfl rfl rfl) (le_sl' ?_ (by simp [leSl]))))) (Nat.zero_le _) ?_
  · simp [rfA, stA, stO, MS.zero, intsA, gtsA]
  intro i hi
  refine awp_sound (own := [1, 2, 3, 6]) _ _ _ _ _ ?_
  simp only [wB, awp, binC, cmpC, asP, asQ, asB, asI, obA, lenA, loadA, St.ev, St.step, setS, killS, AV.kill, AV.killL, Mem.kill, AV.cells, AV.flat, AV.single, Nat.reduceAdd, Nat.reduceEqDiff, Nat.reduceLeDiff, Int.reduceAdd, lenK, strsA_len, rfA, strsA_len]
  by_cases h : i < l.length
  case neg =>
    have h' : ¬ (i : Int) < (l.length : Int) := by omega
    simp only [wB, awp, asP, asQ, obA, loadA, storeA, putsA, St.ev, St.step, setS, killS, AV.kill, AV.killL, Mem.kill, AV.cells, AV.flat, AV.single, AV.cellular, Nat.reduceAdd, Nat.reduceEqDiff, Nat.reduceLeDiff, Int.reduceAdd, decide_eq_false h', stA]
    refine aend_frz rfl ⟨?_, rfl⟩
    rw [List.take_of_length_le (by omega)]
    rfl
  have h' : (i : Int) < (l.length : Int) := by omega
  obtain ⟨hAi, hei⟩ := hA.at i h
  obtain ⟨hil, hInv⟩ := hAi.inv
  have hord := (ordB_iff _).1 (hA.ords _ (List.getElem_mem h))
  cases hp : prs l[i] with
  | none => unfold erO at hei; rw [hp] at hei; cases hei
  | some ka =>
  obtain ⟨k, a⟩ := ka
  unfold erO at hei
  rw [hp] at hei
  simp only at hei
  rw [if_neg (by simp only [List.length_take] at hil ⊢; have := hA.inv.1; omega)] at hei
  have hkk := (prs_len hp).1
  have h81 := s81 n lm ls l (stO (l.take i)) hInv (by omega) hls hkk (nth a 0) (nth a 1) (nth a 2) (nth_lim hp 0) (nth_lim hp 1).1
  rw [hei, if_pos rfl] at h81
  have hnx : nxS (stO (l.take i)) k (nth a 0) (nth a 1) (nth a 2) = stO (l.take (i + 1)) := by
    rw [List.take_add_one, List.getElem?_eq_getElem h]
    simp only [Option.toList_some]
    rw [stO_snoc]
    unfold exO
    rw [hp]
  rw [hnx] at h81
  simp only [rfA, stA] at h81
  simp only [wB, awp, idxC, asP, asQ, asS, asI, obA, loadA, St.ev, St.step, setS, killS, AV.kill, AV.killL, Mem.kill, AV.cells, AV.flat, AV.single, Nat.reduceAdd, Nat.reduceEqDiff, Nat.reduceLeDiff, Int.reduceAdd, decide_eq_true h', aget_strs h, Int.toNat_natCast]
  refine ⟨by omega, acall_v (s80_some (by omega) hp) rfl rfl ?_⟩
  simp only [wB, awp, asP, asQ, asT, asN, obA, loadA, storeA, putsA, mkA, Aw.newRow, St.ev, St.step, setS, killS, AV.kill, AV.killL, Mem.kill, AV.cells, AV.flat, AV.single, AV.cellular, Nat.reduceAdd, Nat.reduceEqDiff, Nat.reduceLeDiff, Int.reduceAdd, stA]
  refine acall_v h81 (by simp [AV.pureL, AV.pure, prsA_pure, strsA_pure, intsA_pure, gtsA_pure]) (by simp [AV.pureL, AV.pure, intsA_pure, gtsA_pure]) ?_
  simp only [wB, awp, binC, arithC, cmpC, asQ, asT, asI, asN, obA, storeA, putsA, St.ev, St.step, setS, killS, AV.kill, AV.killL, Mem.kill, AV.cells, AV.flat, AV.single, AV.cellular, Nat.reduceAdd, Nat.reduceEqDiff, Nat.reduceLeDiff, Int.reduceAdd, isU]
  have hl100 := hA.inv.1
  refine ⟨by unfold lim; omega, i + 1, le_cut (Mx := [some ⟨none, 126, 3, [.g [I (nth a 0), I (nth a 1), I (nth a 2)]]⟩]) (by simp [leSl]) ?_ rfl ?_, h, by omega⟩
  · simp [rfA, stA]
  · simp [freeM, rfA, stA, AV.freeL, AV.free]
end Go.Proofs.YtndniceeibflcaaGreatDoor

namespace Go.Proofs.YtndniceeibflcaaGreatDoor
open Aw Mp Go.RowKit
set_option linter.unusedSimpArgs false
set_option maxRecDepth 8000

theorem ok35 : okFn Tryz.prog 35 = true := by kernel_rfl
theorem s35 (n lm : Int) (ls : List (Int × Int)) (l : List By) (hA : Acc n lm ls l) (hls : ls.length ≤ 1000000) (o : By) (ho : o.length ≤ 9223372036854775807) : ASpec Tryz.prog 35 [rfA n lm ls l, S o] (fun r Ms => r = .t [rfA n lm ls (doO n lm ls l o), I (erO n lm ls l o)] ∧ Ms = []) := by
  refine aspec_of (own := [2, 4, 7, 9, 38]) Tryz.func35 rfl ok35 ?_
  have hl100 := hA.inv.1
  have hInv := hA.inv.2
  have ret : ∀ e : Int, e ≠ 0 → erO n lm ls l o = e → AV.t [rfA n lm ls l, I e] = .t [rfA n lm ls (doO n lm ls l o), I (erO n lm ls l o)] := fun e h0 h1 => by unfold doO; rw [h1, if_neg h0]
  simp only [wB, awp, asN, mkA, Aw.newRow, St.ev, St.step, setS, killS, AV.kill, AV.killL, Mem.kill, AV.cellular, AV.size, AV.sizeL, Nat.reduceAdd, Nat.reduceEqDiff, Nat.reduceSub, Int.reduceAdd, Int.reduceSub, Tryz.ntmps35, rfA]
  cases hp : prs o with
  | none =>
    have h80 := s80 o ho
    unfold rdP at h80
    rw [hp] at h80
    refine acall_e h80 rfl ?_
    rintro x ⟨a, b, c, rfl⟩
    refine ⟨rfl, ?_⟩
    simp only [wB, awp, asP, asQ, asT, asB, asN, obA, loadA, storeA, putsA, mkA, Aw.newRow, St.ev, St.step, setS, killS, AV.kill, AV.killL, Mem.kill, AV.cells, AV.flat, AV.single, AV.cellular, Nat.reduceAdd, Nat.reduceEqDiff, Nat.reduceLeDiff, Int.reduceAdd]
    refine aend_frz rfl ⟨?_, rfl⟩
    rw [← ret 2 (by decide) (by unfold erO; rw [hp])]
    rfl
  | some ka =>
  obtain ⟨k, a⟩ := ka
  refine acall_v (s80_some ho hp) rfl rfl ?_
  simp only [wB, awp, binC, cmpC, asP, asQ, asT, asB, asI, asN, obA, lenA, loadA, storeA, putsA, mkA, Aw.newRow, St.ev, St.step, setS, killS, AV.kill, AV.killL, Mem.kill, AV.cells, AV.flat, AV.single, AV.cellular, Nat.reduceAdd, Nat.reduceEqDiff, Nat.reduceLeDiff, Int.reduceAdd, lenK, strsA_len, strsA_len]
  by_cases c1 : (100 : Int) ≤ l.length
  · simp only [wB, awp, asP, asQ, asN, obA, loadA, storeA, putsA, St.ev, St.step, setS, killS, AV.kill, AV.killL, Mem.kill, AV.cells, AV.flat, AV.single, AV.cellular, Nat.reduceAdd, Nat.reduceEqDiff, Nat.reduceLeDiff, Int.reduceAdd, decide_eq_true c1]
    refine aend_frz rfl ⟨?_, rfl⟩
    rw [← ret 3 (by decide) (by unfold erO; rw [hp]; simp only; rw [if_pos (by omega)])]
    rfl
  simp only [awp, ACond_false, decide_eq_false c1]
  obtain ⟨e, he⟩ : ∃ e, e = erS n lm ls (stO l) k (nth a 0) (nth a 1) (nth a 2) := ⟨_, rfl⟩
  have heo : erO n lm ls l o = e := by unfold erO; rw [hp]; simp only; rw [if_neg (by omega), ← he]
  obtain ⟨t', ht'⟩ : ∃ t', t' = (if e = 0 then nxS (stO l) k (nth a 0) (nth a 1) (nth a 2) else stO l) := ⟨_, rfl⟩
  have h81 := s81 n lm ls l (stO l) hInv (by omega) hls (prs_len hp).1 (nth a 0) (nth a 1) (nth a 2) (nth_lim hp 0) (nth_lim hp 1).1
  rw [← he, ← ht'] at h81
  have h82 := s82 n lm ls l hA hls
  simp only [rfA, stA] at h81 h82
  refine swp_to ⟨[.bot, S o, .q 0 4 0 0, .bot, .q 1 4 0 0, .bot, .bot, .bot, .bot, .bot, I e, .bot, .bot, .bot, .bot, .bot, .bot, .bot, .bot, .bot, .bot, .bot, .bot, .bot, .bot, .bot, .bot, .bot, .bot, .bot, .bot, .bot, .bot, .bot, .bot, .bot, .bot, .bot, .bot, .bot, .bot, .bot, .bot, .bot, .bot, .bot, .bot], [some ⟨none, 55, 4, [rfA n lm ls l]⟩, some ⟨none, 55, 4, [.g [I 0, .v (.slice none 0 0), I 0, .v (.slice none 0 0)]]⟩]⟩ (swp_draw (own := [2, 4, 7, 9, 38]) (.take 0 .reads [] (.take 1 .reads [] (.take 3 .plain [] (.take 4 .reads [] (.alt 2 (.alt 5 (.take 6 .plain [] (.take 7 .plain [] (.take 8 .plain [] (.alt 9 (.alt 10 (.take 11 .plain [] (.done)) (.nil)) (.nil))))) (.alt 9 (.alt 5 (.take 6 .plain [] (.take 7 .plain [] (.take 8 .plain [] (.alt 10 (.take 11 .plain [] (.done)) (.nil))))) (.nil)) (.nil))) (.alt 9 (.alt 2 (.alt 5 (.take 6 .plain [] (.take 7 .plain [] (.take 8 .plain [] (.alt 10 (.take 11 .plain [] (.done)) (.nil))))) (.nil)) (.nil)) (.nil))))))) [⟨27, 4, 0, 0, true⟩, ⟨28, 4, 0, 0, true⟩, ⟨29, 134217728, 2, 0, false⟩, ⟨30, 64, 0, 0, true⟩, ⟨31, 128, 0, 0, true⟩, ⟨32, 1946157056, 29, 0, false⟩, ⟨26, 2147483648, 32, 0, true⟩, ⟨33, 33554432, 64, 0, true⟩, ⟨34, 33554432, 64, 0, true⟩, ⟨10, 0, 0, 0, false⟩, ⟨0, 4294967808, 767, 1, false⟩, ⟨11, 8589934592, 2047, 0, true⟩] mo (by kernel_rfl) ?_) ?_
  · simp only [wB, asP, asQ, obA, loadA, mkA, Aw.newRow, St.ev, St.step, setS, killS, AV.kill, AV.killL, Mem.kill, AV.cells, AV.flat, AV.single, Nat.reduceAdd, Nat.reduceEqDiff, Nat.reduceLeDiff, Int.reduceAdd, ASch, St.put, Md.mem, Md.need]
    have p82 : AV.pureL [AV.g [I n, AV.s 2 (prsA ls), I lm, AV.s 1 (strsA l)]] = true := by simp [AV.pureL, AV.pure, prsA_pure, strsA_pure]
    repeat' (first
      | refine And.intro ?_ ?_
      | (refine acall_v h82 p82 (by simp [AV.pure, AV.pureL, intsA_pure, gtsA_pure]) ?_; simp only [wB, mkA, Aw.newRow, St.ev, St.step, setS, killS, AV.kill, AV.killL, Mem.kill, Nat.reduceAdd, Nat.reduceEqDiff, Int.reduceAdd, ASch])
      | (refine acall_v h81 (by simp [AV.pureL, AV.pure, prsA_pure, strsA_pure, intsA_pure, gtsA_pure]) (by simp [AV.pureL, AV.pure, intsA_pure, gtsA_pure]) ?_; simp only [wB, asQ, asT, asN, obA, storeA, putsA, mkA, Aw.newRow, St.ev, St.step, setS, killS, AV.kill, AV.killL, Mem.kill, AV.cells, AV.flat, AV.single, AV.cellular, Nat.reduceAdd, Nat.reduceEqDiff, Nat.reduceLeDiff, Int.reduceAdd, ASch, St.put, Md.mem, Md.need]))
    all_goals
      refine le_cut (Mx := [some ⟨none, 126, 3, [.g [I (nth a 0), I (nth a 1), I (nth a 2)]]⟩, some ⟨none, 130, 6, [stA t']⟩]) (by simp [leSl]) ?_ rfl ?_
      · simp [rfA, stA]
      · simp [freeM, rfA, AV.freeL, AV.free]
  simp only [wB, awp, binC, cmpC, asB, asI, St.ev, St.step, setS, killS, AV.kill, AV.killL, Mem.kill, Nat.reduceAdd, Nat.reduceEqDiff, Int.reduceAdd, rfA]
  by_cases c2 : e = 0
  case neg =>
    simp only [wB, awp, asP, asQ, asN, obA, loadA, storeA, putsA, St.ev, St.step, setS, killS, AV.kill, AV.killL, Mem.kill, AV.cells, AV.flat, AV.single, AV.cellular, Nat.reduceAdd, Nat.reduceEqDiff, Nat.reduceLeDiff, Int.reduceAdd, decide_eq_false c2]
    refine aend_frz rfl ⟨?_, rfl⟩
    rw [← ret e c2 heo]
    rfl
  simp only [wB, awp, asP, asQ, asO, asS, asN, obA, loadA, storeA, putsA, Aw.newRow, St.ev, St.step, setS, killS, AV.kill, AV.killL, Mem.kill, AV.cells, AV.flat, AV.single, AV.cellular, AV.size, AV.pure, AV.pureL, Value.oneCell', Nat.reduceAdd, Nat.reduceEqDiff, Nat.reduceMul, Nat.reduceLeDiff, Int.reduceAdd, Int.reduceMul, strsA_len, decide_eq_true c2, strsA_len]
  refine ⟨⟨by decide, rfl⟩, ⟨by decide, by omega⟩, ⟨by decide, rfl⟩, ⟨by decide, by omega⟩, ?_⟩
  simp only [strsA_kill, strsA_app]
  refine aend_frz rfl ⟨?_, rfl⟩
  have hd : doO n lm ls l o = l ++ [o] := by unfold doO; rw [heo, if_pos c2]
  rw [hd, heo, c2]
  simp [frz, AV.sub, AV.subL, strsA_pure, rfA]
end Go.Proofs.YtndniceeibflcaaGreatDoor

namespace Go.Proofs.YtndniceeibflcaaGreatDoor
open Aw Mp Go.RowKit
set_option linter.unusedSimpArgs false
set_option maxRecDepth 8000

/-- the machine of nothing. -/
def rf0 : AV := .g [I 0, .v (.slice none 0 0), I 0, .v (.slice none 0 0)]
theorem ok34 : okFn Tryz.prog 34 = true := by kernel_rfl
theorem s34e (n lm : Int) (ls : List (Int × Int)) (hls : ls.length ≤ 100000) (he : vN n lm ls ≠ 0) : ASpec Tryz.prog 34 [trapA n ls, I lm] (fun r Ms => r = .t [rf0, I (vN n lm ls)] ∧ Ms = []) := by
  refine aspec_of (own := [2, 4]) Tryz.func34 rfl ok34 ?_
  simp only [wB, awp, asP, asQ, asN, obA, loadA, mkA, Aw.newRow, St.ev, St.step, setS, killS, AV.kill, AV.killL, Mem.kill, AV.cells, AV.flat, AV.single, AV.cellular, AV.size, AV.sizeL, Nat.reduceAdd, Nat.reduceEqDiff, Nat.reduceSub, Nat.reduceLeDiff, Int.reduceAdd, Int.reduceSub, Tryz.ntmps34, trapA]
  refine acall_v (s78 n ls (by omega)) (by simp [trapA, AV.pureL, AV.pure, prsA_pure]) rfl ?_
  by_cases h0 : vT n ls = 0
  · simp only [wB, awp, binC, cmpC, asB, asI, asN, St.ev, St.step, setS, killS, AV.kill, AV.killL, Mem.kill, Nat.reduceAdd, Nat.reduceEqDiff, Int.reduceAdd, decide_eq_true h0]
    refine acall_v (s79 lm 0 100) rfl rfl ?_
    by_cases h1 : 0 ≤ lm ∧ lm ≤ 100
    · exact absurd (by rw [vN, if_neg (by rw [h0]; simp), if_neg (by omega)]) he
    simp only [wB, awp, asQ, asB, asN, obA, storeA, fillA, putsA, St.ev, St.step, setS, killS, AV.kill, AV.killL, Mem.kill, AV.cells, AV.flat, AV.single, AV.cellular, Nat.reduceAdd, Nat.reduceEqDiff, Nat.reduceLeDiff, Int.reduceAdd, decide_eq_false h1]
    exact aend_frz rfl ⟨by rw [vN, if_neg (by rw [h0]; simp), if_pos (by omega)]; rfl, rfl⟩
  · simp only [wB, awp, binC, cmpC, asQ, asB, asI, asN, obA, storeA, fillA, putsA, St.ev, St.step, setS, killS, AV.kill, AV.killL, Mem.kill, AV.cells, AV.flat, AV.single, AV.cellular, Nat.reduceAdd, Nat.reduceEqDiff, Nat.reduceLeDiff, Int.reduceAdd, decide_eq_false h0]
    exact aend_frz rfl ⟨by rw [vN, if_pos h0]; rfl, rfl⟩
theorem s34o (n lm : Int) (ls : List (Int × Int)) (hls : ls.length ≤ 100000) (he : vN n lm ls = 0) : ASpec Tryz.prog 34 [trapA n ls, I lm] (fun r Ms => r = .t [rfA n lm ls [], I 0] ∧ Ms = []) := by
  have h0 : vT n ls = 0 := by
    by_cases h : vT n ls = 0
    · exact h
    · rw [vN, if_pos h] at he; exact he
  have h1 : 0 ≤ lm ∧ lm ≤ 100 := by
    by_cases h : lm < 0 ∨ 100 < lm
    · rw [vN, if_neg (by rw [h0]; simp), if_pos h] at he; cases he
    · omega
  refine aspec_of (own := [2, 4, 1006]) Tryz.func34 rfl ok34 ?_
  simp only [wB, awp, asP, asQ, asN, obA, loadA, mkA, Aw.newRow, St.ev, St.step, setS, killS, AV.kill, AV.killL, Mem.kill, AV.cells, AV.flat, AV.single, AV.cellular, AV.size, AV.sizeL, Nat.reduceAdd, Nat.reduceEqDiff, Nat.reduceSub, Nat.reduceLeDiff, Int.reduceAdd, Int.reduceSub, Tryz.ntmps34, trapA]
  refine acall_v (s78 n ls (by omega)) (by simp [trapA, AV.pureL, AV.pure, prsA_pure]) rfl ?_
  simp only [wB, awp, binC, cmpC, asB, asI, asN, St.ev, St.step, setS, killS, AV.kill, AV.killL, Mem.kill, Nat.reduceAdd, Nat.reduceEqDiff, Int.reduceAdd, decide_eq_true h0]
  refine acall_v (s79 lm 0 100) rfl rfl ?_
  simp only [wB, awp, asB, St.ev, St.step, setS, killS, AV.kill, AV.killL, Mem.kill, Nat.reduceAdd, Nat.reduceEqDiff, Int.reduceAdd, decide_eq_true h1]
  refine swp_to ⟨[.bot, .bot, .bot, .bot, .q 1 4 0 0, I 0, .bot, .bot, .bot, .bot, .bot, .bot, .bot, .bot, .bot, .bot, .bot, .bot, .bot, .bot], [some ⟨none, 24, 2, [.g [I n, .s 2 (prsA ls)]]⟩, some ⟨none, 55, 4, [rfA n lm ls []]⟩]⟩ (awp_sound (own := [2, 4]) _ _ _ _ _ ?_) ?_
  · simp only [wB, awp, asP, asQ, asN, obA, loadA, storeA, fillA, putsA, St.ev, St.step, setS, killS, AV.kill, AV.killL, Mem.kill, AV.cells, AV.flat, AV.single, AV.cellular, Value.oneCell', Nat.reduceAdd, Nat.reduceEqDiff, Nat.reduceLeDiff, Int.reduceAdd]
    refine Le.trans (le_nils 1 3 1 rfl rfl rfl rfl) (le_sl' ?_ (by simp [leSl]))
    simp [rfA, strsA]
  · simp only [awp, rfA]
    exact aend_frz rfl ⟨rfl, rfl⟩

end Go.Proofs.YtndniceeibflcaaGreatDoor
