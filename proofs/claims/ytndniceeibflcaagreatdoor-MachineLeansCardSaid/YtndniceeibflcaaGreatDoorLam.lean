/-
  Parts of several texts in one: MwO, MwP, MwQ, MwR, MwS, MwT, MwU, MwV, MwW, MwX, MwY, MxA, MxB, MxC, MxD, MyA.
-/
import Derived.Test.YtndniceeibflcaaGreatDoorProg
import Derived.WalkKit
import Derived.Lib.ConvBytes
import Derived.LaidEql
import Derived.Lib.ItoaNum
import Derived.Lib.LaidTab
import Derived.KernelRfl
import GoSem.Claims
import GoSem.ClaimJoined
import Derived.Orders
import Derived.Laws.StructEq
import Derived.Maps.Keyed
import Derived.Lib.Strings
import Derived.Maps.AppendAt
import Derived.Laws.Concat
import Derived.MapKept
import Derived.Laws.MakeOwn
import Derived.Scope
import Derived.Laws.BitsLemmas
import Derived.Maps.RangeRun
import Derived.StillTail
import Derived.OrdersIn
import Derived.TacticsIn
import Derived.RangeFuncRecord
import Derived.RangeFuncCalls
import Derived.RangeFuncSeq
import Derived.Lib.Split
import Derived.Lib.AtoiAll
import Derived.Shelf.LaysM
import Derived.Shelf.LaysC
import Derived.Shelf.Strconv.Itoa3
import Derived.Shelf.Strconv.AtoiAll
import Derived.Shelf.Strings.Search3
import Derived.Shelf.Strings.Cut
import Derived.Shelf.Strings.Prefix
import Derived.Shelf.Strings.Split
import Derived.Lib.AppendIntMem
import Derived.Stop.Asserts
import Derived.RowKitTokens
import Derived.Conc.MuLone
import Derived.Test.YtndniceeibflcaaGreatDoorLaa
import Derived.Test.YtndniceeibflcaaGreatDoorLab
import Derived.Test.YtndniceeibflcaaGreatDoorLac
import Derived.Test.YtndniceeibflcaaGreatDoorLad
import Derived.Test.YtndniceeibflcaaGreatDoorLae
import Derived.Test.YtndniceeibflcaaGreatDoorLag
import Derived.Test.YtndniceeibflcaaGreatDoorLah
import Derived.Test.YtndniceeibflcaaGreatDoorLai
import Derived.Test.YtndniceeibflcaaGreatDoorLaj
import Derived.Test.YtndniceeibflcaaGreatDoorLak
import Derived.Test.YtndniceeibflcaaGreatDoorLal
set_option linter.unusedSimpArgs false
set_option linter.unusedVariables false
namespace Go.Proofs.YtndniceeibflcaaGreatDoor
namespace Aw
end Aw
namespace Mp
end Mp
end Go.Proofs.YtndniceeibflcaaGreatDoor
namespace Go.Proofs.YtndniceeibflcaaGreatDoor
open Aw Mp Go.RowKit
set_option linter.unusedSimpArgs false
set_option maxRecDepth 8000

theorem s115_4 (n lm : Int) (ls : List (Int × Int)) (l : List By) (t : MS) {c : Nat} (hI : InvS n c t) (hc : c ≤ 1000) (hls : ls.length ≤ 1000000) (x y z : Int) (hx : 0 ≤ x) : ASpec Tryz.prog 115 [rfA n lm ls l, stA t, S [116, 117, 114, 110], .g [I x, I y, I z]] (fun r Ms => r = .t [stA (if erS n lm ls t 4 x y z = 0 then nxS t 4 x y z else t), I (erS n lm ls t 4 x y z)] ∧ Ms = []) := by
  refine aspec_of (own := [4, 5, 7, 8, 13, 130]) Tryz.func115 rfl ok115 ?_
  have hp4 := hI.p4
  have hhl := hI.hl
  have hdn := hI.dn
  have hc10 := hI.c10
  simp only [wB, awp, asN, mkA, Aw.newRow, St.ev, St.step, setS, killS, AV.kill, AV.killL, Mem.kill, AV.cellular, AV.size, AV.sizeL, Nat.reduceAdd, Nat.reduceEqDiff, Nat.reduceSub, Int.reduceAdd, Int.reduceSub, Int.reduceNeg, Tryz.ntmps115, rfA, stA]
  refine swp_draw (own := [4, 5, 7, 8, 13, 130]) (.take 0 .reads [] (.take 1 .reads [] (.take 2 .reads [] (.take 3 .reads [] (.take 4 .plain [] (.take 5 .plain [] (.take 6 .plain [] (.done)))))))) [⟨15, 128, 0, 0, true⟩, ⟨16, 16384, 1, 0, true⟩, ⟨17, 128, 0, 0, true⟩, ⟨18, 65536, 4, 0, true⟩, ⟨11, 32768, 3, 0, true⟩, ⟨12, 0, 19, 0, true⟩, ⟨13, 131072, 63, 0, true⟩] mo (by kernel_rfl) ?_
  have nj : ¬ ([116, 117, 114, 110] : List UInt8) = [106, 111, 105, 110] := by decide
  have e3 : ((3 : Nat) : Int) = 3 := rfl
  have ret : ∀ e : Int, e ≠ 0 → erS n lm ls t 4 x y z = e → AV.t [stA t, I e] = .t [stA (if erS n lm ls t 4 x y z = 0 then nxS t 4 x y z else t), I (erS n lm ls t 4 x y z)] := fun e h0 h1 => by rw [h1, if_neg h0]
  simp only [wB, awp, binC, idxC, cmpC, eqC, asP, asQ, asG, asB, asI, asN, obA, lenA, loadA, St.ev, St.step, setS, killS, AV.kill, AV.killL, Mem.kill, AV.cells, AV.flat, AV.single, Nat.reduceAdd, Nat.reduceEqDiff, Nat.reduceMul, Nat.reduceLeDiff, Int.reduceAdd, Int.reduceMul, Int.reduceNeg, Int.reduceLE, Int.reduceLT, ASch, St.put, Md.mem, Md.need, asStr, strC, lenK, decide_eq_false nj, e3]
  by_cases c1 : (t.place.length : Int) ≤ x
  · simp only [wB, awp, asP, asQ, asB, asN, obA, loadA, storeA, putsA, St.ev, St.step, setS, killS, AV.kill, AV.killL, Mem.kill, AV.cells, AV.flat, AV.single, AV.cellular, Nat.reduceAdd, Nat.reduceEqDiff, Nat.reduceLeDiff, Int.reduceAdd, Int.reduceNeg, decide_eq_true c1]
    refine aend_frz rfl ⟨?_, rfl⟩
    rw [← ret 4 (by decide) (by simp only [erS]; rw [if_pos c1])]
    rfl
  have c1' : ¬ (t.place.length : Int) ≤ -1 := by omega
  simp only [wB, awp, binC, cmpC, asP, asQ, asB, asI, obA, lenA, loadA, St.ev, St.step, setS, killS, AV.kill, AV.killL, Mem.kill, AV.cells, AV.flat, AV.single, Nat.reduceAdd, Nat.reduceEqDiff, Nat.reduceLeDiff, Int.reduceAdd, Int.reduceNeg, lenK, decide_eq_false c1, decide_eq_false c1']
  by_cases c2 : y < 1
  · simp only [wB, awp, asP, asQ, asB, asN, obA, loadA, storeA, putsA, St.ev, St.step, setS, killS, AV.kill, AV.killL, Mem.kill, AV.cells, AV.flat, AV.single, AV.cellular, Nat.reduceAdd, Nat.reduceEqDiff, Nat.reduceLeDiff, Int.reduceAdd, Int.reduceNeg, decide_eq_true c2]
    refine aend_frz rfl ⟨?_, rfl⟩
    rw [← ret 1 (by decide) (by simp only [erS, er1]; rw [if_neg c1, if_pos (.inl c2)])]
    rfl
  simp only [wB, binC, cmpC, asB, asI, St.ev, St.step, setS, killS, AV.kill, AV.killL, Mem.kill, Int.reduceNeg, decide_eq_false c2]
  by_cases c3 : 15 < y
  · simp only [wB, awp, asP, asQ, asB, asN, obA, loadA, storeA, putsA, St.ev, St.step, setS, killS, AV.kill, AV.killL, Mem.kill, AV.cells, AV.flat, AV.single, AV.cellular, Nat.reduceAdd, Nat.reduceEqDiff, Nat.reduceLeDiff, Int.reduceAdd, Int.reduceNeg, decide_eq_true c3]
    refine aend_frz rfl ⟨?_, rfl⟩
    rw [← ret 1 (by decide) (by simp only [erS, er1]; rw [if_neg c1, if_pos (.inr (by omega))])]
    rfl
  have c4 : ¬ x = -1 := by omega
  simp only [wB, awp, binC, cmpC, asB, asI, St.ev, St.step, setS, killS, AV.kill, AV.killL, Mem.kill, Int.reduceNeg, decide_eq_false c3, decide_eq_false c4]
  have hxl : x.toNat < t.heats.length := by omega
  refine swp_draw (own := [4, 5, 7, 8, 13, 130]) (.take 0 .plain [] (.take 1 .plain [] (.take 2 .plain [] (.take 3 .plain [] (.take 4 .reads [] (.take 5 .plain [] (.take 6 .reads [] (.take 7 .plain [] (.take 8 .reads [] (.take 9 .reads [] (.take 10 .plain [] (.take 11 .reads [] (.take 12 .plain [] (.take 13 .reads [] (.take 14 .reads [] (.alt 15 (.take 16 .plain [] (.take 17 .plain [] (.done))) (.nil))))))))))))))))) [⟨50, 2048, 0, 0, true⟩, ⟨51, 562949953421312, 1, 0, true⟩, ⟨52, 1125899906842624, 2, 0, true⟩, ⟨53, 2251799813685264, 4, 0, true⟩, ⟨54, 6755399441055744, 12, 0, true⟩, ⟨55, 2251799813685280, 4, 0, true⟩, ⟨56, 20266198323167232, 36, 0, true⟩, ⟨57, 2251799813686272, 4, 0, true⟩, ⟨58, 110338190870577152, 196, 0, true⟩, ⟨59, 146366987889541120, 260, 0, true⟩, ⟨60, 2251799813685280, 4, 0, true⟩, ⟨61, 578712552117108736, 1028, 0, true⟩, ⟨62, 2251799813687296, 4, 0, true⟩, ⟨63, 3461016313634226176, 6148, 0, true⟩, ⟨64, 4613937818241073152, 8196, 0, true⟩, ⟨65, 9522861412074913792, 16916, 0, false⟩, ⟨66, 18448995873523236864, 32772, 0, true⟩, ⟨67, 36895739947232788480, 65540, 0, true⟩] mo (by kernel_rfl) ?_
  simp only [wB, awp, binC, cmpC, asB, asI, St.ev, St.step, setS, killS, AV.kill, AV.killL, Mem.kill, Int.reduceNeg, Int.reduceLE, ASch, St.put, Md.mem, Md.need]
  refine swp_draw (own := [4, 5, 7, 8, 13, 130]) (.take 0 .plain [] (.take 1 .reads [] (.take 2 .plain [] (.take 3 .reads [] (.take 4 .reads [] (.take 5 .plain [] (.take 6 .reads [] (.take 7 .plain [] (.take 8 .plain [] (.take 9 .plain [] (.take 10 .plain [] (.take 11 .plain [] (.take 12 .plain [] (.take 13 .reads [] (.take 14 .plain [] (.take 15 .reads [] (.take 16 .reads [] (.take 17 .plain [] (.take 18 .reads [] (.take 19 .plain [] (.take 20 .plain [] (.take 21 .plain [] (.done))))))))))))))))))))))) [⟨69, 32, 0, 0, true⟩, ⟨70, 295147905179352825856, 1, 0, true⟩, ⟨71, 1024, 0, 0, true⟩, ⟨72, 1770887431076116955136, 6, 0, true⟩, ⟨73, 2361183241434822606848, 8, 0, true⟩, ⟨74, 16, 0, 0, true⟩, ⟨75, 9444732965739290427392, 32, 0, true⟩, ⟨76, 23611832414348226068480, 80, 0, true⟩, ⟨77, 37778931862957161709568, 128, 0, true⟩, ⟨78, 75557863725914323421184, 256, 0, true⟩, ⟨79, 226673591177742970257408, 768, 0, true⟩, ⟨80, 377789318629571617095680, 1280, 0, true⟩, ⟨81, 604462909807314587353120, 2048, 0, true⟩, ⟨82, 1813388729421943762059264, 6144, 0, true⟩, ⟨83, 604462909807314587355136, 2048, 0, true⟩, ⟨84, 7858017827495089635590144, 26624, 0, true⟩, ⟨85, 10275869466724347985002496, 34816, 0, true⟩, ⟨86, 604462909807314587353104, 2048, 0, true⟩, ⟨87, 39290089137475448177950720, 133120, 0, true⟩, ⟨88, 97318528478977648563847168, 329728, 0, true⟩, ⟨89, 155422525684205763273162752, 526592, 0, true⟩, ⟨90, 309560567685070983048200192, 1048832, 0, true⟩] mo (by kernel_rfl) ?_
  simp only [wB, binC, idxC, cmpC, asP, asQ, asS, asI, obA, loadA, St.ev, setS, AV.cells, AV.flat, AV.single, Nat.reduceAdd, Nat.reduceEqDiff, Nat.reduceLeDiff, Int.reduceAdd, Int.reduceNeg, ASch, St.put, Md.mem, Md.need, aget_ints hxl]
  refine ⟨by omega, ?_⟩
  have hgx : t.heats.getD x.toNat 0 = t.heats[x.toNat] := getD_eq hxl
  by_cases c5 : lm < t.heats[x.toNat]
  · simp only [wB, awp, asP, asQ, asB, asN, obA, loadA, storeA, putsA, St.ev, St.step, setS, killS, AV.kill, AV.killL, Mem.kill, AV.cells, AV.flat, AV.single, AV.cellular, Nat.reduceAdd, Nat.reduceEqDiff, Nat.reduceLeDiff, Int.reduceAdd, Int.reduceNeg, ASch, St.put, Md.mem, Md.need, decide_eq_true c5]
    refine aend_frz rfl ⟨?_, rfl⟩
    rw [← ret 8 (by decide) (by simp only [erS, er1]; rw [if_neg c1, if_neg (by omega), if_pos (by rw [hgx]; exact c5)])]
    rfl
  simp only [wB, awp, binC, cmpC, asP, asQ, asB, asI, obA, lenA, loadA, St.ev, St.step, setS, killS, AV.kill, AV.killL, Mem.kill, AV.cells, AV.flat, AV.single, Nat.reduceAdd, Nat.reduceEqDiff, Nat.reduceLeDiff, Int.reduceAdd, Int.reduceNeg, Int.reduceLE, ASch, St.put, Md.mem, Md.need, lenK, decide_eq_false c5, gtsA_len]
  by_cases c6 : (10 : Int) ≤ t.circ.length
  · simp only [wB, awp, asP, asQ, asN, obA, loadA, storeA, putsA, St.ev, St.step, setS, killS, AV.kill, AV.killL, Mem.kill, AV.cells, AV.flat, AV.single, AV.cellular, Nat.reduceAdd, Nat.reduceEqDiff, Nat.reduceLeDiff, Int.reduceAdd, Int.reduceNeg, decide_eq_true c6]
    refine aend_frz rfl ⟨?_, rfl⟩
    rw [← ret 3 (by decide) (by simp only [erS, er1]; rw [if_neg c1, if_neg (by omega), if_neg (by rw [hgx]; exact c5), if_pos (by omega)])]
    rfl
  have he : erS n lm ls t 4 x y z = 0 := by simp only [erS, er1]; rw [if_neg c1, if_neg (by omega), if_neg (by rw [hgx]; exact c5), if_neg (by omega)]
  simp only [wB, awp, binC, eqC, asP, asQ, asG, asB, asI, asN, obA, loadA, storeA, fillA, putsA, mkA, Aw.newRow, St.ev, St.step, setS, killS, AV.kill, AV.killL, Mem.kill, AV.cells, AV.flat, AV.single, AV.cellular, Value.oneCell', Nat.reduceAdd, Nat.reduceEqDiff, Nat.reduceLeDiff, Int.reduceAdd, Int.reduceNeg, asStr, strC, decide_eq_false c6]
  refine acall_v (s114 t.heats x ⟨hx, by omega⟩ (by omega) 1 (by omega) hI.hin) (by simp [AV.pureL, AV.pure, intsA_pure]) (by simp [AV.pure, intsA_pure]) ?_
  simp only [wB, awp, asP, asQ, obA, storeA, putsA, St.ev, St.step, setS, killS, AV.kill, AV.killL, Mem.kill, AV.cells, AV.flat, AV.single, AV.cellular, Nat.reduceAdd, Nat.reduceEqDiff, Nat.reduceLeDiff, Int.reduceAdd, Int.reduceNeg]
  refine swp_draw (own := [4, 5, 7, 8, 13, 130]) (.take 1 .plain [] (.take 2 .reads [] (.alt 0 (.alt 3 (.take 4 .reads [] (.take 5 .plain [] (.alt 6 (.take 7 .plain [] (.alt 8 (.done) (.nil))) (.nil)))) (.alt 4 (.take 5 .over [134] (.alt 3 (.alt 6 (.take 7 .plain [] (.alt 8 (.done) (.nil))) (.nil)) (.nil))) (.nil))) (.alt 4 (.take 5 .over [134] (.alt 0 (.alt 3 (.alt 6 (.take 7 .plain [] (.alt 8 (.done) (.nil))) (.nil)) (.nil)) (.nil))) (.nil))))) [⟨131, 0, 0, 0, false⟩, ⟨132, 32, 0, 0, true⟩, ⟨133, 2722258935367507707706996859454145691648, 2, 0, true⟩, ⟨134, 6805647338418769269267492148635364229120, 5, 2, false⟩, ⟨135, 8192, 0, 0, true⟩, ⟨136, 21778071482940061661655974875633165533184, 16, 0, true⟩, ⟨137, 54445178707350154154139937189082913832960, 40, 2, false⟩, ⟨138, 32, 127, 0, true⟩, ⟨0, 261336857795280739939871698507597986398208, 255, 1, false⟩] mo (by kernel_rfl) ?_
  have hga : gtsA t.circ ++ [AV.g [AV.v (.int .i64 0), I x, AV.v (.int .i64 (-1)), I y]] = gtsA (t.circ ++ [⟨0, x, -1, y⟩]) := by simp [gtsA, gA]
  simp only [wB, awp, binC, arithC, cmpC, asP, asQ, asO, asS, asI, asN, obA, loadA, storeA, putsA, Aw.newRow, St.ev, St.step, setS, killS, AV.kill, AV.killL, Mem.kill, AV.cells, AV.flat, AV.single, AV.cellular, AV.size, AV.sizeL, AV.pure, AV.pureL, Value.oneCell', Nat.reduceAdd, Nat.reduceEqDiff, Nat.reduceMul, Nat.reduceLeDiff, Int.reduceAdd, Int.reduceMul, Int.reduceNeg, ASch, St.put, Md.mem, Md.need, isU, gtsA_len, gtsA_kill, hga]
  repeat' (first | exact ⟨by decide, rfl⟩ | exact ⟨by decide, by omega⟩ | (unfold lim; omega) | refine And.intro ?_ ?_)
  all_goals
    refine aend_frz rfl ⟨?_, rfl⟩
    rw [he]
    simp [frz, AV.sub, AV.subL, gtsA_pure, stA, nxS]
end Go.Proofs.YtndniceeibflcaaGreatDoor

namespace Go.Proofs.YtndniceeibflcaaGreatDoor
open Aw Mp Go.RowKit
set_option linter.unusedSimpArgs false
set_option maxRecDepth 8000

theorem s115_5 (n lm : Int) (ls : List (Int × Int)) (l : List By) (t : MS) {c : Nat} (hI : InvS n c t) (hc : c ≤ 1000) (hls : ls.length ≤ 1000000) (x y z : Int) (hx : 0 ≤ x) : ASpec Tryz.prog 115 [rfA n lm ls l, stA t, S [115, 112, 105, 110], .g [I x, I y, I z]] (fun r Ms => r = .t [stA (if erS n lm ls t 5 x y z = 0 then nxS t 5 x y z else t), I (erS n lm ls t 5 x y z)] ∧ Ms = []) := by
  refine aspec_of (own := [4, 5, 7, 8, 13, 130]) Tryz.func115 rfl ok115 ?_
  have hp4 := hI.p4
  have hhl := hI.hl
  have hdn := hI.dn
  have hc10 := hI.c10
  simp only [wB, awp, asN, mkA, Aw.newRow, St.ev, St.step, setS, killS, AV.kill, AV.killL, Mem.kill, AV.cellular, AV.size, AV.sizeL, Nat.reduceAdd, Nat.reduceEqDiff, Nat.reduceSub, Int.reduceAdd, Int.reduceSub, Int.reduceNeg, Tryz.ntmps115, rfA, stA]
  refine swp_draw (own := [4, 5, 7, 8, 13, 130]) (.take 0 .reads [] (.take 1 .reads [] (.take 2 .reads [] (.take 3 .reads [] (.take 4 .plain [] (.take 5 .plain [] (.take 6 .plain [] (.done)))))))) [⟨15, 128, 0, 0, true⟩, ⟨16, 16384, 1, 0, true⟩, ⟨17, 128, 0, 0, true⟩, ⟨18, 65536, 4, 0, true⟩, ⟨11, 32768, 3, 0, true⟩, ⟨12, 0, 19, 0, true⟩, ⟨13, 131072, 63, 0, true⟩] mo (by kernel_rfl) ?_
  have nj : ¬ ([115, 112, 105, 110] : List UInt8) = [106, 111, 105, 110] := by decide
  have nt : ¬ ([115, 112, 105, 110] : List UInt8) = [116, 117, 114, 110] := by decide
  have e3 : ((3 : Nat) : Int) = 3 := rfl
  have ret : ∀ e : Int, e ≠ 0 → erS n lm ls t 5 x y z = e → AV.t [stA t, I e] = .t [stA (if erS n lm ls t 5 x y z = 0 then nxS t 5 x y z else t), I (erS n lm ls t 5 x y z)] := fun e h0 h1 => by rw [h1, if_neg h0]
  simp only [wB, awp, binC, idxC, cmpC, eqC, asP, asQ, asG, asB, asI, asN, obA, lenA, loadA, St.ev, St.step, setS, killS, AV.kill, AV.killL, Mem.kill, AV.cells, AV.flat, AV.single, Nat.reduceAdd, Nat.reduceEqDiff, Nat.reduceMul, Nat.reduceLeDiff, Int.reduceAdd, Int.reduceMul, Int.reduceNeg, Int.reduceLE, Int.reduceLT, ASch, St.put, Md.mem, Md.need, asStr, strC, lenK, decide_eq_false nj, e3]
  by_cases c1 : (t.place.length : Int) ≤ x
  · simp only [wB, awp, asP, asQ, asB, asN, obA, loadA, storeA, putsA, St.ev, St.step, setS, killS, AV.kill, AV.killL, Mem.kill, AV.cells, AV.flat, AV.single, AV.cellular, Nat.reduceAdd, Nat.reduceEqDiff, Nat.reduceLeDiff, Int.reduceAdd, Int.reduceNeg, decide_eq_true c1]
    refine aend_frz rfl ⟨?_, rfl⟩
    rw [← ret 4 (by decide) (by simp only [erS]; rw [if_pos c1])]
    rfl
  have c1' : ¬ (t.place.length : Int) ≤ -1 := by omega
  simp only [wB, awp, binC, cmpC, asP, asQ, asB, asI, obA, lenA, loadA, St.ev, St.step, setS, killS, AV.kill, AV.killL, Mem.kill, AV.cells, AV.flat, AV.single, Nat.reduceAdd, Nat.reduceEqDiff, Nat.reduceLeDiff, Int.reduceAdd, Int.reduceNeg, lenK, decide_eq_false c1, decide_eq_false c1']
  by_cases c2 : y < 1
  · simp only [wB, awp, asP, asQ, asB, asN, obA, loadA, storeA, putsA, St.ev, St.step, setS, killS, AV.kill, AV.killL, Mem.kill, AV.cells, AV.flat, AV.single, AV.cellular, Nat.reduceAdd, Nat.reduceEqDiff, Nat.reduceLeDiff, Int.reduceAdd, Int.reduceNeg, decide_eq_true c2]
    refine aend_frz rfl ⟨?_, rfl⟩
    rw [← ret 1 (by decide) (by simp only [erS, er1]; rw [if_neg c1, if_pos (.inl c2)])]
    rfl
  simp only [wB, binC, cmpC, asB, asI, St.ev, St.step, setS, killS, AV.kill, AV.killL, Mem.kill, Int.reduceNeg, decide_eq_false c2]
  by_cases c3 : 15 < y
  · simp only [wB, awp, asP, asQ, asB, asN, obA, loadA, storeA, putsA, St.ev, St.step, setS, killS, AV.kill, AV.killL, Mem.kill, AV.cells, AV.flat, AV.single, AV.cellular, Nat.reduceAdd, Nat.reduceEqDiff, Nat.reduceLeDiff, Int.reduceAdd, Int.reduceNeg, decide_eq_true c3]
    refine aend_frz rfl ⟨?_, rfl⟩
    rw [← ret 1 (by decide) (by simp only [erS, er1]; rw [if_neg c1, if_pos (.inr (by omega))])]
    rfl
  have c4 : ¬ x = -1 := by omega
  simp only [wB, awp, binC, cmpC, asB, asI, St.ev, St.step, setS, killS, AV.kill, AV.killL, Mem.kill, Int.reduceNeg, decide_eq_false c3, decide_eq_false c4]
  have hxl : x.toNat < t.heats.length := by omega
  refine swp_draw (own := [4, 5, 7, 8, 13, 130]) (.take 0 .plain [] (.take 1 .plain [] (.take 2 .plain [] (.take 3 .plain [] (.take 4 .reads [] (.take 5 .plain [] (.take 6 .reads [] (.take 7 .plain [] (.take 8 .reads [] (.take 9 .reads [] (.take 10 .plain [] (.take 11 .reads [] (.take 12 .plain [] (.take 13 .reads [] (.take 14 .reads [] (.alt 15 (.take 16 .plain [] (.take 17 .plain [] (.done))) (.nil))))))))))))))))) [⟨50, 2048, 0, 0, true⟩, ⟨51, 562949953421312, 1, 0, true⟩, ⟨52, 1125899906842624, 2, 0, true⟩, ⟨53, 2251799813685264, 4, 0, true⟩, ⟨54, 6755399441055744, 12, 0, true⟩, ⟨55, 2251799813685280, 4, 0, true⟩, ⟨56, 20266198323167232, 36, 0, true⟩, ⟨57, 2251799813686272, 4, 0, true⟩, ⟨58, 110338190870577152, 196, 0, true⟩, ⟨59, 146366987889541120, 260, 0, true⟩, ⟨60, 2251799813685280, 4, 0, true⟩, ⟨61, 578712552117108736, 1028, 0, true⟩, ⟨62, 2251799813687296, 4, 0, true⟩, ⟨63, 3461016313634226176, 6148, 0, true⟩, ⟨64, 4613937818241073152, 8196, 0, true⟩, ⟨65, 9522861412074913792, 16916, 0, false⟩, ⟨66, 18448995873523236864, 32772, 0, true⟩, ⟨67, 36895739947232788480, 65540, 0, true⟩] mo (by kernel_rfl) ?_
  simp only [wB, awp, binC, cmpC, asB, asI, St.ev, St.step, setS, killS, AV.kill, AV.killL, Mem.kill, Int.reduceNeg, Int.reduceLE, ASch, St.put, Md.mem, Md.need]
  refine swp_draw (own := [4, 5, 7, 8, 13, 130]) (.take 0 .plain [] (.take 1 .reads [] (.take 2 .plain [] (.take 3 .reads [] (.take 4 .reads [] (.take 5 .plain [] (.take 6 .reads [] (.take 7 .plain [] (.take 8 .plain [] (.take 9 .plain [] (.take 10 .plain [] (.take 11 .plain [] (.take 12 .plain [] (.take 13 .reads [] (.take 14 .plain [] (.take 15 .reads [] (.take 16 .reads [] (.take 17 .plain [] (.take 18 .reads [] (.take 19 .plain [] (.take 20 .plain [] (.take 21 .plain [] (.done))))))))))))))))))))))) [⟨69, 32, 0, 0, true⟩, ⟨70, 295147905179352825856, 1, 0, true⟩, ⟨71, 1024, 0, 0, true⟩, ⟨72, 1770887431076116955136, 6, 0, true⟩, ⟨73, 2361183241434822606848, 8, 0, true⟩, ⟨74, 16, 0, 0, true⟩, ⟨75, 9444732965739290427392, 32, 0, true⟩, ⟨76, 23611832414348226068480, 80, 0, true⟩, ⟨77, 37778931862957161709568, 128, 0, true⟩, ⟨78, 75557863725914323421184, 256, 0, true⟩, ⟨79, 226673591177742970257408, 768, 0, true⟩, ⟨80, 377789318629571617095680, 1280, 0, true⟩, ⟨81, 604462909807314587353120, 2048, 0, true⟩, ⟨82, 1813388729421943762059264, 6144, 0, true⟩, ⟨83, 604462909807314587355136, 2048, 0, true⟩, ⟨84, 7858017827495089635590144, 26624, 0, true⟩, ⟨85, 10275869466724347985002496, 34816, 0, true⟩, ⟨86, 604462909807314587353104, 2048, 0, true⟩, ⟨87, 39290089137475448177950720, 133120, 0, true⟩, ⟨88, 97318528478977648563847168, 329728, 0, true⟩, ⟨89, 155422525684205763273162752, 526592, 0, true⟩, ⟨90, 309560567685070983048200192, 1048832, 0, true⟩] mo (by kernel_rfl) ?_
  simp only [wB, binC, idxC, cmpC, asP, asQ, asS, asI, obA, loadA, St.ev, setS, AV.cells, AV.flat, AV.single, Nat.reduceAdd, Nat.reduceEqDiff, Nat.reduceLeDiff, Int.reduceAdd, Int.reduceNeg, ASch, St.put, Md.mem, Md.need, aget_ints hxl]
  refine ⟨by omega, ?_⟩
  have hgx : t.heats.getD x.toNat 0 = t.heats[x.toNat] := getD_eq hxl
  by_cases c5 : lm < t.heats[x.toNat]
  · simp only [wB, awp, asP, asQ, asB, asN, obA, loadA, storeA, putsA, St.ev, St.step, setS, killS, AV.kill, AV.killL, Mem.kill, AV.cells, AV.flat, AV.single, AV.cellular, Nat.reduceAdd, Nat.reduceEqDiff, Nat.reduceLeDiff, Int.reduceAdd, Int.reduceNeg, ASch, St.put, Md.mem, Md.need, decide_eq_true c5]
    refine aend_frz rfl ⟨?_, rfl⟩
    rw [← ret 8 (by decide) (by simp only [erS, er1]; rw [if_neg c1, if_neg (by omega), if_pos (by rw [hgx]; exact c5)])]
    rfl
  simp only [wB, awp, binC, cmpC, asP, asQ, asB, asI, obA, lenA, loadA, St.ev, St.step, setS, killS, AV.kill, AV.killL, Mem.kill, AV.cells, AV.flat, AV.single, Nat.reduceAdd, Nat.reduceEqDiff, Nat.reduceLeDiff, Int.reduceAdd, Int.reduceNeg, Int.reduceLE, ASch, St.put, Md.mem, Md.need, lenK, decide_eq_false c5, gtsA_len]
  by_cases c6 : (10 : Int) ≤ t.circ.length
  · simp only [wB, awp, asP, asQ, asN, obA, loadA, storeA, putsA, St.ev, St.step, setS, killS, AV.kill, AV.killL, Mem.kill, AV.cells, AV.flat, AV.single, AV.cellular, Nat.reduceAdd, Nat.reduceEqDiff, Nat.reduceLeDiff, Int.reduceAdd, Int.reduceNeg, decide_eq_true c6]
    refine aend_frz rfl ⟨?_, rfl⟩
    rw [← ret 3 (by decide) (by simp only [erS, er1]; rw [if_neg c1, if_neg (by omega), if_neg (by rw [hgx]; exact c5), if_pos (by omega)])]
    rfl
  have he : erS n lm ls t 5 x y z = 0 := by simp only [erS, er1]; rw [if_neg c1, if_neg (by omega), if_neg (by rw [hgx]; exact c5), if_neg (by omega)]
  simp only [wB, awp, binC, eqC, asP, asQ, asG, asB, asI, asN, obA, loadA, storeA, fillA, putsA, mkA, Aw.newRow, St.ev, St.step, setS, killS, AV.kill, AV.killL, Mem.kill, AV.cells, AV.flat, AV.single, AV.cellular, Value.oneCell', Nat.reduceAdd, Nat.reduceEqDiff, Nat.reduceLeDiff, Int.reduceAdd, Int.reduceNeg, asStr, strC, decide_eq_false c6, decide_eq_false nt]
  refine acall_v (s114 t.heats x ⟨hx, by omega⟩ (by omega) 1 (by omega) hI.hin) (by simp [AV.pureL, AV.pure, intsA_pure]) (by simp [AV.pure, intsA_pure]) ?_
  simp only [wB, awp, asP, asQ, obA, storeA, putsA, St.ev, St.step, setS, killS, AV.kill, AV.killL, Mem.kill, AV.cells, AV.flat, AV.single, AV.cellular, Nat.reduceAdd, Nat.reduceEqDiff, Nat.reduceLeDiff, Int.reduceAdd, Int.reduceNeg]
  refine swp_draw (own := [4, 5, 7, 8, 13, 130]) (.take 1 .plain [] (.take 2 .reads [] (.alt 0 (.alt 3 (.take 4 .reads [] (.take 5 .plain [] (.alt 6 (.take 7 .plain [] (.alt 8 (.done) (.nil))) (.nil)))) (.alt 4 (.take 5 .over [134] (.alt 3 (.alt 6 (.take 7 .plain [] (.alt 8 (.done) (.nil))) (.nil)) (.nil))) (.nil))) (.alt 4 (.take 5 .over [134] (.alt 0 (.alt 3 (.alt 6 (.take 7 .plain [] (.alt 8 (.done) (.nil))) (.nil)) (.nil)) (.nil))) (.nil))))) [⟨131, 0, 0, 0, false⟩, ⟨132, 32, 0, 0, true⟩, ⟨133, 2722258935367507707706996859454145691648, 2, 0, true⟩, ⟨134, 6805647338418769269267492148635364229120, 5, 2, false⟩, ⟨135, 8192, 0, 0, true⟩, ⟨136, 21778071482940061661655974875633165533184, 16, 0, true⟩, ⟨137, 54445178707350154154139937189082913832960, 40, 2, false⟩, ⟨138, 32, 127, 0, true⟩, ⟨0, 261336857795280739939871698507597986398208, 255, 1, false⟩] mo (by kernel_rfl) ?_
  have hga : gtsA t.circ ++ [AV.g [AV.v (.int .i64 1), I x, AV.v (.int .i64 (-1)), I y]] = gtsA (t.circ ++ [⟨1, x, -1, y⟩]) := by simp [gtsA, gA]
  simp only [wB, awp, binC, arithC, cmpC, asP, asQ, asO, asS, asI, asN, obA, loadA, storeA, putsA, Aw.newRow, St.ev, St.step, setS, killS, AV.kill, AV.killL, Mem.kill, AV.cells, AV.flat, AV.single, AV.cellular, AV.size, AV.sizeL, AV.pure, AV.pureL, Value.oneCell', Nat.reduceAdd, Nat.reduceEqDiff, Nat.reduceMul, Nat.reduceLeDiff, Int.reduceAdd, Int.reduceMul, Int.reduceNeg, ASch, St.put, Md.mem, Md.need, isU, gtsA_len, gtsA_kill, hga]
  repeat' (first | exact ⟨by decide, rfl⟩ | exact ⟨by decide, by omega⟩ | (unfold lim; omega) | refine And.intro ?_ ?_)
  all_goals
    refine aend_frz rfl ⟨?_, rfl⟩
    rw [he]
    simp [frz, AV.sub, AV.subL, gtsA_pure, stA, nxS]
end Go.Proofs.YtndniceeibflcaaGreatDoor

namespace Go.Proofs.YtndniceeibflcaaGreatDoor
open Aw Mp Go.RowKit
set_option linter.unusedSimpArgs false
set_option maxRecDepth 8000

theorem s115_6 (n lm : Int) (ls : List (Int × Int)) (l : List By) (t : MS) {c : Nat} (hI : InvS n c t) (hc : c ≤ 1000) (hls : ls.length ≤ 1000000) (x y z : Int) (hx : 0 ≤ x) (hy : 0 ≤ y) : ASpec Tryz.prog 115 [rfA n lm ls l, stA t, S [106, 111, 105, 110], .g [I x, I y, I z]] (fun r Ms => r = .t [stA (if erS n lm ls t 6 x y z = 0 then nxS t 6 x y z else t), I (erS n lm ls t 6 x y z)] ∧ Ms = []) := by
  refine aspec_of (own := [4, 5, 7, 8, 13, 130]) Tryz.func115 rfl ok115 ?_
  have hp4 := hI.p4
  have hhl := hI.hl
  have hdn := hI.dn
  have hc10 := hI.c10
  simp only [wB, awp, asN, mkA, Aw.newRow, St.ev, St.step, setS, killS, AV.kill, AV.killL, Mem.kill, AV.cellular, AV.size, AV.sizeL, Nat.reduceAdd, Nat.reduceEqDiff, Nat.reduceSub, Int.reduceAdd, Int.reduceSub, Int.reduceNeg, Tryz.ntmps115, rfA, stA]
  refine swp_draw (own := [4, 5, 7, 8, 13, 130]) (.take 0 .reads [] (.take 1 .reads [] (.take 2 .reads [] (.take 3 .reads [] (.take 4 .plain [] (.take 5 .plain [] (.take 6 .plain [] (.done)))))))) [⟨15, 128, 0, 0, true⟩, ⟨16, 16384, 1, 0, true⟩, ⟨17, 128, 0, 0, true⟩, ⟨18, 65536, 4, 0, true⟩, ⟨11, 32768, 3, 0, true⟩, ⟨12, 0, 19, 0, true⟩, ⟨13, 131072, 63, 0, true⟩] mo (by kernel_rfl) ?_
  have nt : ¬ ([106, 111, 105, 110] : List UInt8) = [116, 117, 114, 110] := by decide
  have ns : ¬ ([106, 111, 105, 110] : List UInt8) = [115, 112, 105, 110] := by decide
  have e3 : ((3 : Nat) : Int) = 3 := rfl
  have ret : ∀ e : Int, e ≠ 0 → erS n lm ls t 6 x y z = e → AV.t [stA t, I e] = .t [stA (if erS n lm ls t 6 x y z = 0 then nxS t 6 x y z else t), I (erS n lm ls t 6 x y z)] := fun e h0 h1 => by rw [h1, if_neg h0]
  simp only [wB, awp, binC, idxC, eqC, asP, asQ, asG, asB, asI, asN, obA, loadA, St.ev, St.step, setS, killS, AV.kill, AV.killL, Mem.kill, AV.cells, AV.flat, AV.single, Nat.reduceAdd, Nat.reduceEqDiff, Nat.reduceMul, Nat.reduceLeDiff, Int.reduceAdd, Int.reduceMul, Int.reduceNeg, Int.reduceLE, Int.reduceLT, ASch, St.put, Md.mem, Md.need, asStr, strC, e3]
  refine swp_draw (own := [4, 5, 7, 8, 13, 130]) (.take 0 .reads [] (.take 1 .reads [] (.take 2 .reads [] (.take 3 .reads [] (.take 4 .plain [] (.take 5 .plain [] (.done))))))) [⟨21, 128, 0, 0, true⟩, ⟨22, 1048576, 1, 0, true⟩, ⟨23, 128, 0, 0, true⟩, ⟨24, 4194304, 4, 0, true⟩, ⟨12, 2097152, 3, 0, true⟩, ⟨13, 8388608, 31, 0, true⟩] mo (by kernel_rfl) ?_
  simp only [wB, awp, binC, idxC, cmpC, asP, asQ, asI, asN, obA, lenA, loadA, St.ev, St.step, setS, killS, AV.kill, AV.killL, Mem.kill, AV.cells, AV.flat, AV.single, Nat.reduceAdd, Nat.reduceEqDiff, Nat.reduceMul, Nat.reduceLeDiff, Int.reduceAdd, Int.reduceMul, Int.reduceNeg, Int.reduceToNat, Int.reduceLE, Int.reduceLT, ASch, St.put, Md.mem, Md.need, lenK, e3]
  by_cases c1 : (t.place.length : Int) ≤ x
  · simp only [wB, awp, asP, asQ, asB, asN, obA, loadA, storeA, putsA, St.ev, St.step, setS, killS, AV.kill, AV.killL, Mem.kill, AV.cells, AV.flat, AV.single, AV.cellular, Nat.reduceAdd, Nat.reduceEqDiff, Nat.reduceLeDiff, Int.reduceAdd, decide_eq_true c1]
    refine aend_frz rfl ⟨?_, rfl⟩
    rw [← ret 4 (by decide) (by simp only [erS]; rw [if_pos (.inl c1)])]
    rfl
  simp only [wB, awp, binC, cmpC, asP, asQ, asB, asI, obA, lenA, loadA, St.ev, St.step, setS, killS, AV.kill, AV.killL, Mem.kill, AV.cells, AV.flat, AV.single, Nat.reduceAdd, Nat.reduceEqDiff, Nat.reduceLeDiff, Int.reduceAdd, lenK, decide_eq_false c1]
  by_cases c1' : (t.place.length : Int) ≤ y
  · simp only [wB, awp, asP, asQ, asN, obA, loadA, storeA, putsA, St.ev, St.step, setS, killS, AV.kill, AV.killL, Mem.kill, AV.cells, AV.flat, AV.single, AV.cellular, Nat.reduceAdd, Nat.reduceEqDiff, Nat.reduceLeDiff, Int.reduceAdd, decide_eq_true c1']
    refine aend_frz rfl ⟨?_, rfl⟩
    rw [← ret 4 (by decide) (by simp only [erS]; rw [if_pos (.inr c1')])]
    rfl
  have c11 : ¬ ((t.place.length : Int) ≤ x ∨ (t.place.length : Int) ≤ y) := by omega
  simp only [wB, awp, binC, cmpC, asI, St.ev, St.step, setS, killS, AV.kill, AV.killL, Mem.kill, Nat.reduceAdd, Nat.reduceEqDiff, Int.reduceAdd, decide_eq_false c1']
  by_cases c2 : z < 1
  · simp only [wB, awp, asP, asQ, asB, asN, obA, loadA, storeA, putsA, St.ev, St.step, setS, killS, AV.kill, AV.killL, Mem.kill, AV.cells, AV.flat, AV.single, AV.cellular, Nat.reduceAdd, Nat.reduceEqDiff, Nat.reduceLeDiff, Int.reduceAdd, decide_eq_true c2]
    refine aend_frz rfl ⟨?_, rfl⟩
    rw [← ret 1 (by decide) (by simp only [erS, er2]; rw [if_neg c11, if_pos (.inl (.inl c2))])]
    rfl
  simp only [wB, binC, cmpC, asB, asI, St.ev, St.step, setS, killS, AV.kill, AV.killL, Mem.kill, decide_eq_false c2]
  by_cases c3 : 15 < z
  · simp only [wB, awp, asP, asQ, asB, asN, obA, loadA, storeA, putsA, St.ev, St.step, setS, killS, AV.kill, AV.killL, Mem.kill, AV.cells, AV.flat, AV.single, AV.cellular, Nat.reduceAdd, Nat.reduceEqDiff, Nat.reduceLeDiff, Int.reduceAdd, decide_eq_true c3]
    refine aend_frz rfl ⟨?_, rfl⟩
    rw [← ret 1 (by decide) (by simp only [erS, er2]; rw [if_neg c11, if_pos (.inl (.inr (by omega)))])]
    rfl
  simp only [wB, awp, binC, cmpC, asB, asI, St.ev, St.step, setS, killS, AV.kill, AV.killL, Mem.kill, decide_eq_false c3]
  by_cases c4 : x = y
  · simp only [wB, awp, asP, asQ, asN, obA, loadA, storeA, putsA, St.ev, St.step, setS, killS, AV.kill, AV.killL, Mem.kill, AV.cells, AV.flat, AV.single, AV.cellular, Nat.reduceAdd, Nat.reduceEqDiff, Nat.reduceLeDiff, Int.reduceAdd, decide_eq_true c4]
    refine aend_frz rfl ⟨?_, rfl⟩
    rw [← ret 1 (by decide) (by simp only [erS, er2]; rw [if_neg c11, if_pos (.inr c4)])]
    rfl
  have hxl : x.toNat < t.heats.length := by omega
  have hyl : y.toNat < t.heats.length := by omega
  have hxp : x.toNat < t.place.length := by omega
  have hyp : y.toNat < t.place.length := by omega
  have hy0 : (0 : Int) ≤ y := hy
  simp only [awp, ACond_false, decide_eq_false c4]
  refine swp_draw (own := [4, 5, 7, 8, 13, 130]) (.take 0 .plain [] (.take 1 .plain [] (.take 2 .plain [] (.take 3 .plain [] (.take 4 .reads [] (.take 5 .plain [] (.take 6 .reads [] (.take 7 .plain [] (.take 8 .reads [] (.take 9 .reads [] (.take 10 .plain [] (.take 11 .reads [] (.take 12 .plain [] (.take 13 .reads [] (.take 14 .reads [] (.alt 15 (.take 16 .plain [] (.take 17 .plain [] (.done))) (.nil))))))))))))))))) [⟨50, 2048, 0, 0, true⟩, ⟨51, 562949953421312, 1, 0, true⟩, ⟨52, 1125899906842624, 2, 0, true⟩, ⟨53, 2251799813685264, 4, 0, true⟩, ⟨54, 6755399441055744, 12, 0, true⟩, ⟨55, 2251799813685280, 4, 0, true⟩, ⟨56, 20266198323167232, 36, 0, true⟩, ⟨57, 2251799813686272, 4, 0, true⟩, ⟨58, 110338190870577152, 196, 0, true⟩, ⟨59, 146366987889541120, 260, 0, true⟩, ⟨60, 2251799813685280, 4, 0, true⟩, ⟨61, 578712552117108736, 1028, 0, true⟩, ⟨62, 2251799813687296, 4, 0, true⟩, ⟨63, 3461016313634226176, 6148, 0, true⟩, ⟨64, 4613937818241073152, 8196, 0, true⟩, ⟨65, 9522861412074913792, 16916, 0, false⟩, ⟨66, 18448995873523236864, 32772, 0, true⟩, ⟨67, 36895739947232788480, 65540, 0, true⟩] mo (by kernel_rfl) ?_
  simp only [wB, binC, idxC, cmpC, asP, asQ, asS, asI, obA, loadA, St.ev, setS, AV.cells, AV.flat, AV.single, Nat.reduceAdd, Nat.reduceEqDiff, Nat.reduceLeDiff, Int.reduceAdd, ASch, St.put, Md.mem, Md.need, decide_eq_true hy0, aget_ints hxp, aget_ints hyp, List.drop_zero, List.take_succ_cons, List.take_zero]
  refine ⟨hx, hy, acall_v (s149 n ls t.place[x.toNat] t.place[y.toNat] hls) (by simp [AV.pureL, AV.pure, prsA_pure]) rfl ?_⟩
  have hgx : t.heats.getD x.toNat 0 = t.heats[x.toNat] := getD_eq hxl
  have hgy : t.heats.getD y.toNat 0 = t.heats[y.toNat] := getD_eq hyl
  have hz : ¬ ((z < 1 ∨ 16 ≤ z) ∨ x = y) := by omega
  have her : erS n lm ls t 6 x y z = if lnk ls t.place[x.toNat] t.place[y.toNat] = false then 9 else if lm < t.heats[x.toNat] ∨ lm < t.heats[y.toNat] then 8 else if t.circ.length = 10 then 3 else 0 := by
    simp only [erS, er2]
    rw [if_neg c11, if_neg hz, getD_eq hxp, getD_eq hyp, hgx, hgy]
  cases c5 : lnk ls t.place[x.toNat] t.place[y.toNat] with
  | false =>
    simp only [wB, awp, asP, asQ, asB, asN, obA, loadA, storeA, putsA, St.ev, St.step, setS, killS, AV.kill, AV.killL, Mem.kill, AV.cells, AV.flat, AV.single, AV.cellular, Nat.reduceAdd, Nat.reduceEqDiff, Nat.reduceLeDiff, Int.reduceAdd, ASch, St.put, Md.mem, Md.need]
    refine aend_frz rfl ⟨?_, rfl⟩
    rw [← ret 9 (by decide) (by rw [her, if_pos c5])]
    rfl
  | true =>
  rw [c5, if_neg (by simp)] at her
  simp only [wB, awp, asB, St.ev, St.step, setS, killS, AV.kill, AV.killL, Mem.kill, ASch, St.put, Md.mem, Md.need]
  refine swp_draw (own := [4, 5, 7, 8, 13, 130]) (.take 0 .plain [] (.take 1 .reads [] (.take 2 .plain [] (.take 3 .reads [] (.take 4 .reads [] (.take 5 .plain [] (.take 6 .reads [] (.take 7 .plain [] (.take 8 .plain [] (.take 9 .plain [] (.take 10 .plain [] (.take 11 .plain [] (.take 12 .plain [] (.take 13 .reads [] (.take 14 .plain [] (.take 15 .reads [] (.take 16 .reads [] (.take 17 .plain [] (.take 18 .reads [] (.take 19 .plain [] (.take 20 .plain [] (.take 21 .plain [] (.done))))))))))))))))))))))) [⟨69, 32, 0, 0, true⟩, ⟨70, 295147905179352825856, 1, 0, true⟩, ⟨71, 1024, 0, 0, true⟩, ⟨72, 1770887431076116955136, 6, 0, true⟩, ⟨73, 2361183241434822606848, 8, 0, true⟩, ⟨74, 16, 0, 0, true⟩, ⟨75, 9444732965739290427392, 32, 0, true⟩, ⟨76, 23611832414348226068480, 80, 0, true⟩, ⟨77, 37778931862957161709568, 128, 0, true⟩, ⟨78, 75557863725914323421184, 256, 0, true⟩, ⟨79, 226673591177742970257408, 768, 0, true⟩, ⟨80, 377789318629571617095680, 1280, 0, true⟩, ⟨81, 604462909807314587353120, 2048, 0, true⟩, ⟨82, 1813388729421943762059264, 6144, 0, true⟩, ⟨83, 604462909807314587355136, 2048, 0, true⟩, ⟨84, 7858017827495089635590144, 26624, 0, true⟩, ⟨85, 10275869466724347985002496, 34816, 0, true⟩, ⟨86, 604462909807314587353104, 2048, 0, true⟩, ⟨87, 39290089137475448177950720, 133120, 0, true⟩, ⟨88, 97318528478977648563847168, 329728, 0, true⟩, ⟨89, 155422525684205763273162752, 526592, 0, true⟩, ⟨90, 309560567685070983048200192, 1048832, 0, true⟩] mo (by kernel_rfl) ?_
  simp only [wB, binC, idxC, cmpC, asP, asQ, asS, asI, obA, loadA, St.ev, setS, AV.cells, AV.flat, AV.single, Nat.reduceAdd, Nat.reduceEqDiff, Nat.reduceLeDiff, Int.reduceAdd, ASch, St.put, Md.mem, Md.need, aget_ints hxl]
  refine ⟨by omega, ?_⟩
  by_cases c6 : lm < t.heats[x.toNat]
  · simp only [wB, awp, asP, asQ, asB, asN, obA, loadA, storeA, putsA, St.ev, St.step, setS, killS, AV.kill, AV.killL, Mem.kill, AV.cells, AV.flat, AV.single, AV.cellular, Nat.reduceAdd, Nat.reduceEqDiff, Nat.reduceLeDiff, Int.reduceAdd, ASch, St.put, Md.mem, Md.need, decide_eq_true c6]
    refine aend_frz rfl ⟨?_, rfl⟩
    rw [← ret 8 (by decide) (by rw [her, if_pos (.inl c6)])]
    rfl
  simp only [wB, awp, binC, idxC, cmpC, asP, asQ, asS, asB, asI, obA, loadA, St.ev, setS, AV.cells, AV.flat, AV.single, Nat.reduceAdd, Nat.reduceEqDiff, Nat.reduceLeDiff, Int.reduceAdd, ASch, St.put, Md.mem, Md.need, decide_eq_false c6, decide_eq_true hy0, aget_ints hyl]
  refine ⟨by omega, ?_⟩
  by_cases c7 : lm < t.heats[y.toNat]
  · simp only [wB, awp, asP, asQ, asN, obA, loadA, storeA, putsA, St.ev, St.step, setS, killS, AV.kill, AV.killL, Mem.kill, AV.cells, AV.flat, AV.single, AV.cellular, Nat.reduceAdd, Nat.reduceEqDiff, Nat.reduceLeDiff, Int.reduceAdd, St.put, decide_eq_true c7]
    refine aend_frz rfl ⟨?_, rfl⟩
    rw [← ret 8 (by decide) (by rw [her, if_pos (.inr c7)])]
    rfl
  rw [if_neg (show ¬ (lm < t.heats[x.toNat] ∨ lm < t.heats[y.toNat]) by omega)] at her
  simp only [wB, awp, binC, cmpC, asP, asQ, asB, asI, obA, lenA, loadA, St.ev, St.step, setS, killS, AV.kill, AV.killL, Mem.kill, AV.cells, AV.flat, AV.single, Nat.reduceAdd, Nat.reduceEqDiff, Nat.reduceLeDiff, Int.reduceAdd, St.put, lenK, decide_eq_false c7, gtsA_len]
  by_cases c8 : (10 : Int) ≤ t.circ.length
  · simp only [wB, awp, asP, asQ, asN, obA, loadA, storeA, putsA, St.ev, St.step, setS, killS, AV.kill, AV.killL, Mem.kill, AV.cells, AV.flat, AV.single, AV.cellular, Nat.reduceAdd, Nat.reduceEqDiff, Nat.reduceLeDiff, Int.reduceAdd, decide_eq_true c8]
    refine aend_frz rfl ⟨?_, rfl⟩
    rw [← ret 3 (by decide) (by rw [her, if_pos (by omega)])]
    rfl
  have he : erS n lm ls t 6 x y z = 0 := by rw [her, if_neg (by omega)]
  simp only [wB, awp, binC, eqC, asP, asQ, asG, asB, asI, asN, obA, minmaxA, loadA, storeA, fillA, putsA, mkA, Aw.newRow, St.ev, St.step, setS, killS, AV.kill, AV.killL, Mem.kill, AV.cells, AV.flat, AV.single, AV.cellular, Value.oneCell', Nat.reduceAdd, Nat.reduceEqDiff, Nat.reduceLeDiff, Int.reduceAdd, Int.reduceNeg, asStr, strC, decide_eq_false c8, decide_eq_false nt, decide_eq_false ns]
  refine acall_v (s114 t.heats x ⟨hx, by omega⟩ (by omega) 2 (by omega) hI.hin) (by simp [AV.pureL, AV.pure, intsA_pure]) (by simp [AV.pure, intsA_pure]) ?_
  simp only [wB, St.ev, St.step, setS, killS, AV.kill, AV.killL, Mem.kill, Int.reduceNeg]
  refine acall_v (s114 (bump t.heats x.toNat 2) y ⟨hy, by rw [bump_len]; omega⟩ (by rw [bump_len]; omega) 2 (by omega) (bump_in hI.hin _ (by omega))) (by simp [AV.pureL, AV.pure, intsA_pure]) (by simp [AV.pure, intsA_pure]) ?_
  simp only [wB, awp, asP, asQ, obA, storeA, putsA, St.ev, St.step, setS, killS, AV.kill, AV.killL, Mem.kill, AV.cells, AV.flat, AV.single, AV.cellular, Nat.reduceAdd, Nat.reduceEqDiff, Nat.reduceLeDiff, Int.reduceAdd, Int.reduceNeg]
  refine swp_draw (own := [4, 5, 7, 8, 13, 130]) (.take 1 .plain [] (.take 2 .reads [] (.alt 0 (.alt 3 (.take 4 .reads [] (.take 5 .plain [] (.alt 6 (.take 7 .plain [] (.alt 8 (.done) (.nil))) (.nil)))) (.alt 4 (.take 5 .over [134] (.alt 3 (.alt 6 (.take 7 .plain [] (.alt 8 (.done) (.nil))) (.nil)) (.nil))) (.nil))) (.alt 4 (.take 5 .over [134] (.alt 0 (.alt 3 (.alt 6 (.take 7 .plain [] (.alt 8 (.done) (.nil))) (.nil)) (.nil)) (.nil))) (.nil))))) [⟨131, 0, 0, 0, false⟩, ⟨132, 32, 0, 0, true⟩, ⟨133, 2722258935367507707706996859454145691648, 2, 0, true⟩, ⟨134, 6805647338418769269267492148635364229120, 5, 2, false⟩, ⟨135, 8192, 0, 0, true⟩, ⟨136, 21778071482940061661655974875633165533184, 16, 0, true⟩, ⟨137, 54445178707350154154139937189082913832960, 40, 2, false⟩, ⟨138, 32, 127, 0, true⟩, ⟨0, 261336857795280739939871698507597986398208, 255, 1, false⟩] mo (by kernel_rfl) ?_
  have hga : gtsA t.circ ++ [AV.g [AV.v (.int .i64 2), I (min x y), I (max x y), I z]] = gtsA (t.circ ++ [⟨2, min x y, max x y, z⟩]) := by simp [gtsA, gA]
  simp only [wB, awp, binC, arithC, cmpC, asP, asQ, asO, asS, asI, asN, obA, loadA, storeA, putsA, Aw.newRow, St.ev, St.step, setS, killS, AV.kill, AV.killL, Mem.kill, AV.cells, AV.flat, AV.single, AV.cellular, AV.size, AV.sizeL, AV.pure, AV.pureL, Value.oneCell', Nat.reduceAdd, Nat.reduceEqDiff, Nat.reduceMul, Nat.reduceLeDiff, Int.reduceAdd, Int.reduceMul, Int.reduceNeg, ASch, St.put, Md.mem, Md.need, isU, gtsA_len, gtsA_kill, hga]
  repeat' (first | exact ⟨by decide, rfl⟩ | exact ⟨by decide, by omega⟩ | (unfold lim; omega) | refine And.intro ?_ ?_)
  all_goals
    refine aend_frz rfl ⟨?_, rfl⟩
    rw [he]
    simp [frz, AV.sub, AV.subL, gtsA_pure, stA, nxS]
end Go.Proofs.YtndniceeibflcaaGreatDoor

namespace Go.Proofs.YtndniceeibflcaaGreatDoor
open Aw Mp Go.RowKit
set_option linter.unusedSimpArgs false
set_option maxRecDepth 8000

theorem ok81 : okFn Tryz.prog 81 = true := by kernel_rfl
theorem s81_0 (n lm : Int) (ls : List (Int × Int)) (l : List By) (t : MS) {c : Nat} (hI : InvS n c t) (x y z : Int) : ASpec Tryz.prog 81 [rfA n lm ls l, stA t, S [108, 111, 97, 100], .g [I x, I y, I z]] (fun r Ms => r = .t [stA (if erS n lm ls t 0 x y z = 0 then nxS t 0 x y z else t), I (erS n lm ls t 0 x y z)] ∧ Ms = []) := by
  refine aspec_of (own := [4, 5, 7, 8]) Tryz.func81 rfl ok81 ?_
  have e3 : ((3 : Nat) : Int) = 3 := rfl
  have hs := s112 n lm ls l t hI x
  have e1 : erS n lm ls t 0 x y z = erS n lm ls t 0 x 0 0 := rfl
  have e2 : nxS t 0 x y z = nxS t 0 x 0 0 := rfl
  rw [e1, e2]
  generalize (if erS n lm ls t 0 x 0 0 = 0 then nxS t 0 x 0 0 else t) = t' at *
  simp only [rfA, stA] at hs
  simp only [wB, awp, binC, idxC, eqC, asP, asQ, asG, asB, asI, asN, obA, loadA, mkA, Aw.newRow, St.ev, St.step, setS, killS, AV.kill, AV.killL, Mem.kill, AV.cells, AV.flat, AV.single, AV.cellular, AV.size, AV.sizeL, Nat.reduceAdd, Nat.reduceEqDiff, Nat.reduceMul, Nat.reduceSub, Nat.reduceLeDiff, Int.reduceAdd, Int.reduceSub, Int.reduceMul, Int.reduceLE, Int.reduceLT, asStr, strC, Tryz.ntmps81, rfA, stA, e3]
  refine acall_v hs (by simp [AV.pureL, AV.pure, prsA_pure, strsA_pure, intsA_pure, gtsA_pure]) (by simp [AV.pureL, AV.pure, intsA_pure, gtsA_pure]) ?_
  simp only [wB, awp, asQ, asT, asN, obA, storeA, putsA, St.ev, St.step, setS, killS, AV.kill, AV.killL, Mem.kill, AV.cells, AV.flat, AV.single, AV.cellular, Nat.reduceAdd, Nat.reduceEqDiff, Nat.reduceLeDiff, Int.reduceAdd]
  exact aend_frz rfl ⟨rfl, rfl⟩
theorem s81_1 (n lm : Int) (ls : List (Int × Int)) (l : List By) (t : MS) {c : Nat} (hI : InvS n c t) (hc : c ≤ 1000) (hls : ls.length ≤ 1000000) (x y z : Int) (hx : 0 ≤ x) : ASpec Tryz.prog 81 [rfA n lm ls l, stA t, S [109, 111, 118, 101], .g [I x, I y, I z]] (fun r Ms => r = .t [stA (if erS n lm ls t 1 x y z = 0 then nxS t 1 x y z else t), I (erS n lm ls t 1 x y z)] ∧ Ms = []) := by
  refine aspec_of (own := [4, 5, 7, 8]) Tryz.func81 rfl ok81 ?_
  have e3 : ((3 : Nat) : Int) = 3 := rfl
  have n0 : ¬ ([109, 111, 118, 101] : List UInt8) = [108, 111, 97, 100] := by decide
  have hs := s113 n lm ls l t hI hc hls x y hx
  have e1 : erS n lm ls t 1 x y z = erS n lm ls t 1 x y 0 := rfl
  have e2 : nxS t 1 x y z = nxS t 1 x y 0 := rfl
  rw [e1, e2]
  generalize (if erS n lm ls t 1 x y 0 = 0 then nxS t 1 x y 0 else t) = t' at *
  simp only [rfA, stA] at hs
  simp only [wB, awp, binC, idxC, eqC, asP, asQ, asG, asB, asI, asN, obA, loadA, mkA, Aw.newRow, St.ev, St.step, setS, killS, AV.kill, AV.killL, Mem.kill, AV.cells, AV.flat, AV.single, AV.cellular, AV.size, AV.sizeL, Nat.reduceAdd, Nat.reduceEqDiff, Nat.reduceMul, Nat.reduceSub, Nat.reduceLeDiff, Int.reduceAdd, Int.reduceSub, Int.reduceMul, Int.reduceLE, Int.reduceLT, asStr, strC, Tryz.ntmps81, rfA, stA, e3, decide_eq_false n0]
  refine acall_v hs (by simp [AV.pureL, AV.pure, prsA_pure, strsA_pure, intsA_pure, gtsA_pure]) (by simp [AV.pureL, AV.pure, intsA_pure, gtsA_pure]) ?_
  simp only [wB, awp, asQ, asT, asN, obA, storeA, putsA, St.ev, St.step, setS, killS, AV.kill, AV.killL, Mem.kill, AV.cells, AV.flat, AV.single, AV.cellular, Nat.reduceAdd, Nat.reduceEqDiff, Nat.reduceLeDiff, Int.reduceAdd]
  exact aend_frz rfl ⟨rfl, rfl⟩
theorem s81_4 (n lm : Int) (ls : List (Int × Int)) (l : List By) (t : MS) {c : Nat} (hI : InvS n c t) (hc : c ≤ 1000) (hls : ls.length ≤ 1000000) (x y z : Int) (hx : 0 ≤ x) : ASpec Tryz.prog 81 [rfA n lm ls l, stA t, S [116, 117, 114, 110], .g [I x, I y, I z]] (fun r Ms => r = .t [stA (if erS n lm ls t 4 x y z = 0 then nxS t 4 x y z else t), I (erS n lm ls t 4 x y z)] ∧ Ms = []) := by
  refine aspec_of (own := [4, 5, 7, 8]) Tryz.func81 rfl ok81 ?_
  have e3 : ((3 : Nat) : Int) = 3 := rfl
  have n0 : ¬ ([116, 117, 114, 110] : List UInt8) = [108, 111, 97, 100] := by decide
  have n1 : ¬ ([116, 117, 114, 110] : List UInt8) = [109, 111, 118, 101] := by decide
  have n2 : ¬ ([116, 117, 114, 110] : List UInt8) = [99, 111, 111, 108] := by decide
  have n3 : ¬ ([116, 117, 114, 110] : List UInt8) = [119, 97, 105, 116] := by decide
  have n4 : ¬ ([116, 117, 114, 110] : List UInt8) = [100, 114, 111, 112] := by decide
  have hs := s115_4 n lm ls l t hI hc hls x y z hx
  generalize (if erS n lm ls t 4 x y z = 0 then nxS t 4 x y z else t) = t' at *
  simp only [rfA, stA] at hs
  simp only [wB, awp, binC, eqC, asP, asQ, asG, asB, asI, asN, obA, loadA, mkA, Aw.newRow, St.ev, St.step, setS, killS, AV.kill, AV.killL, Mem.kill, AV.cells, AV.flat, AV.single, AV.cellular, AV.size, AV.sizeL, Nat.reduceAdd, Nat.reduceEqDiff, Nat.reduceSub, Nat.reduceLeDiff, Int.reduceAdd, Int.reduceSub, asStr, strC, Tryz.ntmps81, rfA, stA, decide_eq_false n0, decide_eq_false n1, decide_eq_false n2, decide_eq_false n3, decide_eq_false n4]
  refine acall_v hs (by simp [AV.pureL, AV.pure, prsA_pure, strsA_pure, intsA_pure, gtsA_pure]) (by simp [AV.pureL, AV.pure, intsA_pure, gtsA_pure]) ?_
  simp only [wB, awp, asQ, asT, asN, obA, storeA, putsA, St.ev, St.step, setS, killS, AV.kill, AV.killL, Mem.kill, AV.cells, AV.flat, AV.single, AV.cellular, Nat.reduceAdd, Nat.reduceEqDiff, Nat.reduceLeDiff, Int.reduceAdd]
  exact aend_frz rfl ⟨rfl, rfl⟩
theorem s81_5 (n lm : Int) (ls : List (Int × Int)) (l : List By) (t : MS) {c : Nat} (hI : InvS n c t) (hc : c ≤ 1000) (hls : ls.length ≤ 1000000) (x y z : Int) (hx : 0 ≤ x) : ASpec Tryz.prog 81 [rfA n lm ls l, stA t, S [115, 112, 105, 110], .g [I x, I y, I z]] (fun r Ms => r = .t [stA (if erS n lm ls t 5 x y z = 0 then nxS t 5 x y z else t), I (erS n lm ls t 5 x y z)] ∧ Ms = []) := by
  refine aspec_of (own := [4, 5, 7, 8]) Tryz.func81 rfl ok81 ?_
  have e3 : ((3 : Nat) : Int) = 3 := rfl
  have n0 : ¬ ([115, 112, 105, 110] : List UInt8) = [108, 111, 97, 100] := by decide
  have n1 : ¬ ([115, 112, 105, 110] : List UInt8) = [109, 111, 118, 101] := by decide
  have n2 : ¬ ([115, 112, 105, 110] : List UInt8) = [99, 111, 111, 108] := by decide
  have n3 : ¬ ([115, 112, 105, 110] : List UInt8) = [119, 97, 105, 116] := by decide
  have n4 : ¬ ([115, 112, 105, 110] : List UInt8) = [100, 114, 111, 112] := by decide
  have hs := s115_5 n lm ls l t hI hc hls x y z hx
  generalize (if erS n lm ls t 5 x y z = 0 then nxS t 5 x y z else t) = t' at *
  simp only [rfA, stA] at hs
  simp only [wB, awp, binC, eqC, asP, asQ, asG, asB, asI, asN, obA, loadA, mkA, Aw.newRow, St.ev, St.step, setS, killS, AV.kill, AV.killL, Mem.kill, AV.cells, AV.flat, AV.single, AV.cellular, AV.size, AV.sizeL, Nat.reduceAdd, Nat.reduceEqDiff, Nat.reduceSub, Nat.reduceLeDiff, Int.reduceAdd, Int.reduceSub, asStr, strC, Tryz.ntmps81, rfA, stA, decide_eq_false n0, decide_eq_false n1, decide_eq_false n2, decide_eq_false n3, decide_eq_false n4]
  refine acall_v hs (by simp [AV.pureL, AV.pure, prsA_pure, strsA_pure, intsA_pure, gtsA_pure]) (by simp [AV.pureL, AV.pure, intsA_pure, gtsA_pure]) ?_
  simp only [wB, awp, asQ, asT, asN, obA, storeA, putsA, St.ev, St.step, setS, killS, AV.kill, AV.killL, Mem.kill, AV.cells, AV.flat, AV.single, AV.cellular, Nat.reduceAdd, Nat.reduceEqDiff, Nat.reduceLeDiff, Int.reduceAdd]
  exact aend_frz rfl ⟨rfl, rfl⟩
theorem s81_6 (n lm : Int) (ls : List (Int × Int)) (l : List By) (t : MS) {c : Nat} (hI : InvS n c t) (hc : c ≤ 1000) (hls : ls.length ≤ 1000000) (x y z : Int) (hx : 0 ≤ x) (hy : 0 ≤ y) : ASpec Tryz.prog 81 [rfA n lm ls l, stA t, S [106, 111, 105, 110], .g [I x, I y, I z]] (fun r Ms => r = .t [stA (if erS n lm ls t 6 x y z = 0 then nxS t 6 x y z else t), I (erS n lm ls t 6 x y z)] ∧ Ms = []) := by
  refine aspec_of (own := [4, 5, 7, 8]) Tryz.func81 rfl ok81 ?_
  have e3 : ((3 : Nat) : Int) = 3 := rfl
  have n0 : ¬ ([106, 111, 105, 110] : List UInt8) = [108, 111, 97, 100] := by decide
  have n1 : ¬ ([106, 111, 105, 110] : List UInt8) = [109, 111, 118, 101] := by decide
  have n2 : ¬ ([106, 111, 105, 110] : List UInt8) = [99, 111, 111, 108] := by decide
  have n3 : ¬ ([106, 111, 105, 110] : List UInt8) = [119, 97, 105, 116] := by decide
  have n4 : ¬ ([106, 111, 105, 110] : List UInt8) = [100, 114, 111, 112] := by decide
  have hs := s115_6 n lm ls l t hI hc hls x y z hx hy
  generalize (if erS n lm ls t 6 x y z = 0 then nxS t 6 x y z else t) = t' at *
  simp only [rfA, stA] at hs
  simp only [wB, awp, binC, eqC, asP, asQ, asG, asB, asI, asN, obA, loadA, mkA, Aw.newRow, St.ev, St.step, setS, killS, AV.kill, AV.killL, Mem.kill, AV.cells, AV.flat, AV.single, AV.cellular, AV.size, AV.sizeL, Nat.reduceAdd, Nat.reduceEqDiff, Nat.reduceSub, Nat.reduceLeDiff, Int.reduceAdd, Int.reduceSub, asStr, strC, Tryz.ntmps81, rfA, stA, decide_eq_false n0, decide_eq_false n1, decide_eq_false n2, decide_eq_false n3, decide_eq_false n4]
  refine acall_v hs (by simp [AV.pureL, AV.pure, prsA_pure, strsA_pure, intsA_pure, gtsA_pure]) (by simp [AV.pureL, AV.pure, intsA_pure, gtsA_pure]) ?_
  simp only [wB, awp, asQ, asT, asN, obA, storeA, putsA, St.ev, St.step, setS, killS, AV.kill, AV.killL, Mem.kill, AV.cells, AV.flat, AV.single, AV.cellular, Nat.reduceAdd, Nat.reduceEqDiff, Nat.reduceLeDiff, Int.reduceAdd]
  exact aend_frz rfl ⟨rfl, rfl⟩
end Go.Proofs.YtndniceeibflcaaGreatDoor

namespace Go.Proofs.YtndniceeibflcaaGreatDoor
open Aw Mp Go.RowKit
set_option linter.unusedSimpArgs false
set_option maxRecDepth 8000

theorem s81_2 (n lm : Int) (ls : List (Int × Int)) (l : List By) (t : MS) {c : Nat} (hI : InvS n c t) (hc : c ≤ 1000) (x y z : Int) (hx : 0 ≤ x) : ASpec Tryz.prog 81 [rfA n lm ls l, stA t, S [99, 111, 111, 108], .g [I x, I y, I z]] (fun r Ms => r = .t [stA (if erS n lm ls t 2 x y z = 0 then nxS t 2 x y z else t), I (erS n lm ls t 2 x y z)] ∧ Ms = []) := by
  refine aspec_of (own := [4, 5, 7, 8]) Tryz.func81 rfl ok81 ?_
  have hp4 := hI.p4
  have hhl := hI.hl
  have hco := hI.co
  have e3 : ((3 : Nat) : Int) = 3 := rfl
  have n0 : ¬ ([99, 111, 111, 108] : List UInt8) = [108, 111, 97, 100] := by decide
  have n1 : ¬ ([99, 111, 111, 108] : List UInt8) = [109, 111, 118, 101] := by decide
  simp only [wB, awp, binC, idxC, cmpC, eqC, asP, asQ, asG, asB, asI, asN, obA, lenA, loadA, mkA, Aw.newRow, St.ev, St.step, setS, killS, AV.kill, AV.killL, Mem.kill, AV.cells, AV.flat, AV.single, AV.cellular, AV.size, AV.sizeL, Nat.reduceAdd, Nat.reduceEqDiff, Nat.reduceMul, Nat.reduceSub, Nat.reduceLeDiff, Int.reduceAdd, Int.reduceSub, Int.reduceMul, Int.reduceLE, Int.reduceLT, asStr, strC, lenK, Tryz.ntmps81, rfA, stA, e3, decide_eq_false n0, decide_eq_false n1]
  by_cases c1 : (t.place.length : Int) ≤ x
  · simp only [wB, awp, asP, asQ, asN, obA, loadA, storeA, putsA, St.ev, St.step, setS, killS, AV.kill, AV.killL, Mem.kill, AV.cells, AV.flat, AV.single, AV.cellular, Nat.reduceAdd, Nat.reduceEqDiff, Nat.reduceLeDiff, Int.reduceAdd, decide_eq_true c1]
    have he : erS n lm ls t 2 x y z = 4 := by simp only [erS]; rw [if_pos c1]
    refine aend_frz rfl ⟨?_, rfl⟩
    rw [he]
    rfl
  have he : erS n lm ls t 2 x y z = 0 := by simp only [erS]; rw [if_neg c1]
  have hxl : x.toNat < t.heats.length := by omega
  have hb := hI.hin _ (List.getElem_mem hxl)
  simp only [awp, ACond_false, decide_eq_false c1]
  refine swp_draw (own := [4, 5, 7, 8]) (.take 0 .plain [] (.take 1 .reads [] (.take 2 .reads [] (.take 3 .reads [] (.take 4 .plain [] (.take 5 .reads [] (.take 6 .reads [] (.take 7 .reads [] (.take 8 .reads [] (.take 9 .reads [] (.take 10 .plain [] (.alt 11 (.take 12 .plain [] (.alt 13 (.done) (.nil))) (.nil))))))))))))) [⟨42, 32, 0, 0, true⟩, ⟨43, 2199023255552, 1, 0, true⟩, ⟨44, 128, 0, 0, true⟩, ⟨45, 8796093022208, 4, 0, true⟩, ⟨46, 32, 0, 0, true⟩, ⟨47, 35184372088832, 16, 0, true⟩, ⟨48, 128, 0, 0, true⟩, ⟨49, 140737488355328, 64, 0, true⟩, ⟨50, 351843720888320, 160, 0, true⟩, ⟨51, 562949953421312, 256, 0, true⟩, ⟨52, 1125899906842624, 512, 0, true⟩, ⟨53, 2273790046240768, 1034, 0, false⟩, ⟨54, 32, 4095, 0, true⟩, ⟨0, 13510798882111488, 8191, 1, false⟩] mo (by kernel_rfl) ?_
  simp only [wB, idxC, asP, asQ, asS, asI, obA, loadA, St.ev, setS, AV.cells, AV.flat, AV.single, Nat.reduceAdd, Nat.reduceEqDiff, Nat.reduceMul, Nat.reduceLeDiff, Int.reduceAdd, Int.reduceMul, Int.reduceLE, Int.reduceLT, ASch, St.put, Md.mem, Md.need, e3, aget_ints hxl]
  refine ⟨by omega, by unfold lim; omega, acall_v (s114 t.heats x ⟨hx, by omega⟩ (by omega) (-t.heats[x.toNat]) (by omega) hI.hin) (by simp [AV.pureL, AV.pure, intsA_pure]) (by simp [AV.pure, intsA_pure]) ?_⟩
  have hbump : bump t.heats x.toNat (-t.heats[x.toNat]) = t.heats.set x.toNat 0 := by
    unfold bump
    rw [getD_eq hxl, show t.heats[x.toNat] + -t.heats[x.toNat] = 0 by omega]
    rfl
  rw [hbump]
  simp only [wB, awp, binC, arithC, cmpC, asP, asQ, asI, asN, obA, loadA, storeA, putsA, St.ev, St.step, setS, killS, AV.kill, AV.killL, Mem.kill, AV.cells, AV.flat, AV.single, AV.cellular, Value.oneCell', Nat.reduceAdd, Nat.reduceEqDiff, Nat.reduceLeDiff, Int.reduceAdd, ASch, St.put, Md.mem, Md.need, isU]
  exact ⟨by unfold lim; omega, aend_frz rfl ⟨by rw [he]; rfl, rfl⟩⟩

theorem s81_7 (n lm : Int) (ls : List (Int × Int)) (l : List By) (t : MS) (x y z : Int) : ASpec Tryz.prog 81 [rfA n lm ls l, stA t, S [100, 114, 111, 112], .g [I x, I y, I z]] (fun r Ms => r = .t [stA (if erS n lm ls t 7 x y z = 0 then nxS t 7 x y z else t), I (erS n lm ls t 7 x y z)] ∧ Ms = []) := by
  refine aspec_of (own := [4, 5, 7, 8, 1023]) Tryz.func81 rfl ok81 ?_
  have e3 : ((3 : Nat) : Int) = 3 := rfl
  have n0 : ¬ ([100, 114, 111, 112] : List UInt8) = [108, 111, 97, 100] := by decide
  have n1 : ¬ ([100, 114, 111, 112] : List UInt8) = [109, 111, 118, 101] := by decide
  have n2 : ¬ ([100, 114, 111, 112] : List UInt8) = [99, 111, 111, 108] := by decide
  have n3 : ¬ ([100, 114, 111, 112] : List UInt8) = [119, 97, 105, 116] := by decide
  simp only [wB, awp, binC, cmpC, eqC, asP, asQ, asG, asB, asI, asN, obA, lenA, loadA, mkA, Aw.newRow, St.ev, St.step, setS, killS, AV.kill, AV.killL, Mem.kill, AV.cells, AV.flat, AV.single, AV.cellular, AV.size, AV.sizeL, Nat.reduceAdd, Nat.reduceEqDiff, Nat.reduceSub, Nat.reduceLeDiff, Int.reduceAdd, Int.reduceSub, asStr, strC, lenK, Tryz.ntmps81, rfA, stA, decide_eq_false n0, decide_eq_false n1, decide_eq_false n2, decide_eq_false n3, gtsA_len]
  by_cases c1 : (t.circ.length : Int) = 0
  · simp only [wB, awp, asP, asQ, asN, obA, loadA, storeA, putsA, St.ev, St.step, setS, killS, AV.kill, AV.killL, Mem.kill, AV.cells, AV.flat, AV.single, AV.cellular, Nat.reduceAdd, Nat.reduceEqDiff, Nat.reduceLeDiff, Int.reduceAdd, decide_eq_true c1]
    have he : erS n lm ls t 7 x y z = 9 := by simp only [erS]; rw [if_pos (List.eq_nil_of_length_eq_zero (by omega))]
    refine aend_frz rfl ⟨?_, rfl⟩
    rw [he]
    rfl
  have he : erS n lm ls t 7 x y z = 0 := by simp only [erS]; rw [if_neg (fun h => c1 (by rw [h]; rfl))]
  simp only [awp, ACond_true, ACond_false, List.contains_nil, List.contains_cons, beq_self_eq_true, nbeq, decide_false, Bool.or_false, Bool.or_true, Nat.reduceAdd, Nat.reduceEqDiff, Int.reduceAdd, decide_eq_false c1]
  refine swp_to ⟨[.bot, .bot, .bot, .bot, .bot, .q 1 6 0 0, .bot, .bot, .q 3 6 0 0, .bot, .bot, .bot, .bot, .bot, .bot, .bot, .bot, .bot, .bot, .bot, .bot, .bot, .bot, .bot, .bot, .bot, .bot, .bot, .bot, .bot, .bot, .bot, .bot, .bot, .bot, .bot, .bot, .bot, .bot, .bot, .bot, .bot, .bot, .bot, .bot, .bot, .bot, .bot, .bot, .bot, .bot, .bot, .bot, .bot, .bot, .bot, .bot, .bot, .bot, .bot, .bot, .bot, .bot, .bot, .bot, .bot, .bot, .bot, .bot, .bot, .bot, .bot, .bot, .bot, .bot, .bot, .bot, .bot, .bot, .bot, .bot, .bot, .bot, .bot, .bot, .bot, .bot, .bot, .bot, .bot, .bot, .bot, .bot, .bot, .bot, .bot], [some ⟨none, 55, 4, [rfA n lm ls l]⟩, some ⟨none, 130, 6, [stA { t with circ := [] }]⟩, some ⟨none, 126, 3, [.g [I x, I y, I z]]⟩, some ⟨none, 130, 6, [.g [.v (.slice none 0 0), .v (.slice none 0 0), .v (.slice none 0 0), I 0, I 0, I 0]]⟩]⟩ (awp_sound (own := [4, 5, 7, 8]) _ _ _ _ _ ?_) ?_
  · simp only [wB, awp, asP, asQ, obA, storeA, putsA, St.ev, St.step, setS, killS, AV.kill, AV.killL, Mem.kill, AV.cells, AV.flat, AV.single, AV.cellular, Value.oneCell', Nat.reduceAdd, Nat.reduceEqDiff, Nat.reduceLeDiff, Int.reduceAdd]
    refine Le.trans (le_nils 1 2 4 rfl rfl rfl rfl) (le_sl' ?_ (by simp [leSl]))
    simp [rfA, stA, gtsA]
  · simp only [wB, awp, asP, asQ, asN, obA, loadA, storeA, putsA, St.ev, St.step, setS, killS, AV.kill, AV.killL, Mem.kill, AV.cells, AV.flat, AV.single, AV.cellular, Nat.reduceAdd, Nat.reduceEqDiff, Nat.reduceLeDiff, Int.reduceAdd, rfA, stA]
    exact aend_frz rfl ⟨by rw [he]; rfl, rfl⟩
end Go.Proofs.YtndniceeibflcaaGreatDoor

namespace Go.Proofs.YtndniceeibflcaaGreatDoor
open Aw Mp Go.RowKit
set_option linter.unusedSimpArgs false
set_option maxRecDepth 8000

theorem s81_3 (n lm : Int) (ls : List (Int × Int)) (l : List By) (t : MS) {c : Nat} (hI : InvS n c t) (x y z : Int) (hx : 0 ≤ x ∧ x ≤ 99) : ASpec Tryz.prog 81 [rfA n lm ls l, stA t, S [119, 97, 105, 116], .g [I x, I y, I z]] (fun r Ms => r = .t [stA (if erS n lm ls t 3 x y z = 0 then nxS t 3 x y z else t), I (erS n lm ls t 3 x y z)] ∧ Ms = []) := by
  refine aspec_of (own := [4, 5, 7, 8]) Tryz.func81 rfl ok81 ?_
  have hp4 := hI.p4
  have hhl := hI.hl
  have e3 : ((3 : Nat) : Int) = 3 := rfl
  have n0 : ¬ ([119, 97, 105, 116] : List UInt8) = [108, 111, 97, 100] := by decide
  have n1 : ¬ ([119, 97, 105, 116] : List UInt8) = [109, 111, 118, 101] := by decide
  have n2 : ¬ ([119, 97, 105, 116] : List UInt8) = [99, 111, 111, 108] := by decide
  simp only [wB, awp, binC, idxC, cmpC, eqC, asP, asQ, asG, asB, asI, asN, obA, loadA, mkA, Aw.newRow, St.ev, St.step, setS, killS, AV.kill, AV.killL, Mem.kill, AV.cells, AV.flat, AV.single, AV.cellular, AV.size, AV.sizeL, Nat.reduceAdd, Nat.reduceEqDiff, Nat.reduceMul, Nat.reduceSub, Nat.reduceLeDiff, Int.reduceAdd, Int.reduceSub, Int.reduceMul, Int.reduceLE, Int.reduceLT, asStr, strC, Tryz.ntmps81, rfA, stA, e3, decide_eq_false n0, decide_eq_false n1, decide_eq_false n2]
  by_cases c1 : x = 0
  · simp only [wB, awp, asP, asQ, asN, obA, loadA, storeA, putsA, St.ev, St.step, setS, killS, AV.kill, AV.killL, Mem.kill, AV.cells, AV.flat, AV.single, AV.cellular, Nat.reduceAdd, Nat.reduceEqDiff, Nat.reduceLeDiff, Int.reduceAdd, decide_eq_true c1]
    have he : erS n lm ls t 3 x y z = 1 := by simp only [erS]; rw [if_pos c1]
    refine aend_frz rfl ⟨?_, rfl⟩
    rw [he]
    rfl
  have he : erS n lm ls t 3 x y z = 0 := by simp only [erS]; rw [if_neg c1]
  simp only [wB, awp, asN, St.ev, St.step, setS, killS, AV.kill, AV.killL, Mem.kill, Nat.reduceAdd, Nat.reduceEqDiff, Int.reduceAdd, decide_eq_false c1]
  refine swp_loop' (fun j : Nat => ⟨[.bot, .bot, .bot, .bot, .bot, .q 1 6 0 0, .bot, .q 2 3 0 0, .q 3 6 0 0, .bot, I j, .bot, .bot, .bot, .bot, .bot, .bot, .bot, .bot, .bot, .bot, .bot, .bot, .bot, .bot, .bot, .bot, .bot, .bot, .bot, .bot, .bot, .bot, .bot, .bot, .bot, .bot, .bot, .bot, .bot, .bot, .bot, .bot, .bot, .bot, .bot, .bot, .bot, .bot, .bot, .bot, .bot, .bot, .bot, .bot, .bot, .bot, .bot, .bot, .bot, .bot, .bot, .bot, .bot, .bot, .bot, .bot, .bot, .bot, .bot, .bot, .bot, .bot, .bot, .bot, .bot, .bot, .bot, .bot, .bot, .bot, .bot, .bot, .bot, .bot, .bot, .bot, .bot, .bot, .bot, .bot, .bot, .bot, .bot, .bot, .bot], [some ⟨none, 55, 4, [rfA n lm ls l]⟩, some ⟨none, 130, 6, [stA { t with heats := warmL t.heats x j }]⟩, some ⟨none, 126, 3, [.g [I x, I y, I z]]⟩, some ⟨none, 130, 6, [.g [.v (.slice none 0 0), .v (.slice none 0 0), .v (.slice none 0 0), I 0, I 0, I 0]]⟩]⟩) (fun j => j ≤ t.heats.length) (fun j => t.heats.length - j) 0 (le_sl' ?_ (by simp [leSl])) (Nat.zero_le _) ?_
  · simp [rfA, stA, warmL]
  intro j hj
  refine awp_sound (own := [4, 5, 7, 8]) _ _ _ _ _ ?_
  have hwl := warmL_len t.heats x j
  simp only [wB, awp, binC, cmpC, asP, asQ, asB, asI, obA, lenA, loadA, St.ev, St.step, setS, killS, AV.kill, AV.killL, Mem.kill, AV.cells, AV.flat, AV.single, Nat.reduceAdd, Nat.reduceEqDiff, Nat.reduceLeDiff, Int.reduceAdd, lenK, rfA, stA, hwl]
  by_cases h : j < t.heats.length
  case neg =>
    have h' : ¬ (j : Int) < (t.heats.length : Int) := by omega
    simp only [wB, awp, asP, asQ, asN, obA, loadA, storeA, putsA, St.ev, St.step, setS, killS, AV.kill, AV.killL, Mem.kill, AV.cells, AV.flat, AV.single, AV.cellular, Nat.reduceAdd, Nat.reduceEqDiff, Nat.reduceLeDiff, Int.reduceAdd, decide_eq_false h']
    have hw : warmL t.heats x j = t.heats.map fun h => min (h + x) 1000 := by
      unfold warmL
      rw [List.take_of_length_le (by omega), List.drop_eq_nil_of_le (by omega), List.append_nil]
    rw [hw]
    exact aend_frz rfl ⟨by rw [he]; rfl, rfl⟩
  have h' : (j : Int) < (t.heats.length : Int) := by omega
  simp only [wB, awp, idxC, asP, asQ, asI, obA, loadA, St.ev, St.step, setS, killS, AV.kill, AV.killL, Mem.kill, AV.cells, AV.flat, AV.single, Nat.reduceAdd, Nat.reduceEqDiff, Nat.reduceMul, Nat.reduceLeDiff, Int.reduceAdd, Int.reduceMul, Int.reduceLE, Int.reduceLT, decide_eq_true h', e3]
  refine acall_v (s114 (warmL t.heats x j) j (by omega) (by omega) x (by omega) (warmL_in hI.hin hx.1 j)) (by simp [AV.pureL, AV.pure, intsA_pure]) (by simp [AV.pure, intsA_pure]) ?_
  rw [Int.toNat_natCast, warmL_bump h]
  simp only [wB, awp, binC, arithC, cmpC, asP, asQ, asI, asN, obA, storeA, putsA, St.ev, St.step, setS, killS, AV.kill, AV.killL, Mem.kill, AV.cells, AV.flat, AV.single, AV.cellular, Nat.reduceAdd, Nat.reduceEqDiff, Nat.reduceLeDiff, Int.reduceAdd, isU]
  refine ⟨by unfold lim; omega, j + 1, le_sl' ?_ (by simp [leSl]), h, by omega⟩
  simp [rfA, stA]
end Go.Proofs.YtndniceeibflcaaGreatDoor

namespace Go.Proofs.YtndniceeibflcaaGreatDoor
open Aw Mp Go.RowKit
set_option linter.unusedSimpArgs false

theorem s81 (n lm : Int) (ls : List (Int × Int)) (l : List By) (t : MS) {c : Nat} (hI : InvS n c t) (hc : c ≤ 1000) (hls : ls.length ≤ 1000000) {k : Nat} (hk : k < 8) (x y z : Int) (hx : 0 ≤ x ∧ x ≤ 99) (hy : 0 ≤ y) :
    ASpec Tryz.prog 81 [rfA n lm ls l, stA t, S (nameL.getD k []), .g [I x, I y, I z]] (fun r Ms => r = .t [stA (if erS n lm ls t k x y z = 0 then nxS t k x y z else t), I (erS n lm ls t k x y z)] ∧ Ms = []) := by
  match k, hk with
  | 0, _ => exact s81_0 n lm ls l t hI x y z
  | 1, _ => exact s81_1 n lm ls l t hI hc hls x y z hx.1
  | 2, _ => exact s81_2 n lm ls l t hI hc x y z hx.1
  | 3, _ => exact s81_3 n lm ls l t hI x y z hx
  | 4, _ => exact s81_4 n lm ls l t hI hc hls x y z hx.1
  | 5, _ => exact s81_5 n lm ls l t hI hc hls x y z hx.1
  | 6, _ => exact s81_6 n lm ls l t hI hc hls x y z hx.1 hy
  | 7, _ => exact s81_7 n lm ls l t x y z
end Go.Proofs.YtndniceeibflcaaGreatDoor

namespace Go.Proofs.YtndniceeibflcaaGreatDoor
open Aw Mp Go.RowKit
set_option linter.unusedSimpArgs false
set_option maxRecDepth 8000

theorem Acc.at {n lm : Int} {ls : List (Int × Int)} {l : List By} (h : Acc n lm ls l) : ∀ i, (hi : i < l.length) → Acc n lm ls (l.take i) ∧ erO n lm ls (l.take i) l[i] = 0 := by
  induction h with
  | nil => intro i hi; simp at hi
  | snoc h he ih =>
    rename_i l o
    intro i hi
    rcases Nat.lt_or_ge i l.length with h1 | h1
    · obtain ⟨h2, h3⟩ := ih i h1
      rw [List.take_append_of_le_length (by omega), List.getElem_append_left h1]
      exact ⟨h2, h3⟩
    · have : i = l.length := by simp at hi; omega
      subst this
      rw [List.take_append_of_le_length (Nat.le_refl _), List.take_length]
      refine ⟨h, ?_⟩
      simpa using he
theorem s80_some {o : By} (ho : o.length ≤ 9223372036854775807) {k : Nat} {a : List Int} (hp : prs o = some (k, a)) : ASpec Tryz.prog 80 [S o] (fun r Ms => r = .t [S (nameL.getD k []), .g [I (nth a 0), I (nth a 1), I (nth a 2)], B true] ∧ Ms = []) := by
  have := s80 o ho
  simpa only [rdP, hp] using this
theorem ok82 : okFn Tryz.prog 82 = true := by kernel_rfl
theorem s82 (n lm : Int) (ls : List (Int × Int)) (l : List By) (hA : Acc n lm ls l) (hls : ls.length ≤ 1000000) : ASpec Tryz.prog 82 [rfA n lm ls l] (fun r Ms => r = stA (stO l) ∧ Ms = []) := by
  refine aspec_of (own := [1, 2, 3, 6]) Tryz.func82 rfl ok82 ?_
  simp only [wB, awp, asN, mkA, Aw.newRow, St.ev, St.step, setS, killS, AV.kill, AV.killL, Mem.kill, AV.cellular, AV.size, AV.sizeL, Nat.reduceAdd, Nat.reduceEqDiff, Nat.reduceSub, Int.reduceAdd, Int.reduceSub, Tryz.ntmps82, rfA]
  refine swp_loop' (fun i : Nat => ⟨[.bot, .q 0 4 0 0, .q 1 6 0 0, .q 2 6 0 0, I i, .bot, .bot, .bot, .bot, .bot, .bot, .bot, .bot, .bot, .bot, .bot, .bot, .bot, .bot, .bot, .bot, .bot, .bot, .bot, .bot, .bot, .bot, .bot, .bot, .bot, .bot, .bot, .bot, .bot], [some ⟨none, 55, 4, [rfA n lm ls l]⟩, some ⟨none, 130, 6, [.g [.v (.slice none 0 0), .v (.slice none 0 0), .v (.slice none 0 0), I 0, I 0, I 0]]⟩, some ⟨none, 130, 6, [stA (stO (l.take i))]⟩]⟩) (fun i => i ≤ l.length) (fun i => l.length - i) 0 (Le.trans (le_nils 2 0 1 rfl rfl rfl rfl) (Le.trans (le_nils 2 1 1 rfl rfl rfl rfl) (Le.trans (le_nils 2 2 4 rfl rfl rfl rfl) (le_sl' ?_ (by simp [leSl]))))) (Nat.zero_le _) ?_
  · simp [rfA, stA, stO, MS.zero, intsA, gtsA]
  intro i hi
  refine awp_sound (own := [1, 2, 3, 6]) _ _ _ _ _ ?_
  simp only [wB, awp, binC, cmpC, asP, asQ, asB, asI, obA, lenA, loadA, St.ev, St.step, setS, killS, AV.kill, AV.killL, Mem.kill, AV.cells, AV.flat, AV.single, Nat.reduceAdd, Nat.reduceEqDiff, Nat.reduceLeDiff, Int.reduceAdd, lenK, strsA_len, rfA, strsA_len]
  by_cases h : i < l.length
  case neg =>
    have h' : ¬ (i : Int) < (l.length : Int) := by omega
    simp only [wB, awp, asP, asQ, obA, loadA, storeA, putsA, St.ev, St.step, setS, killS, AV.kill, AV.killL, Mem.kill, AV.cells, AV.flat, AV.single, AV.cellular, Nat.reduceAdd, Nat.reduceEqDiff, Nat.reduceLeDiff, Int.reduceAdd, decide_eq_false h', stA]
    refine aend_frz rfl ⟨?_, rfl⟩
    rw [List.take_of_length_le (by omega)]
    rfl
  have h' : (i : Int) < (l.length : Int) := by omega
  obtain ⟨hAi, hei⟩ := hA.at i h
  obtain ⟨hil, hInv⟩ := hAi.inv
  have hord := (ordB_iff _).1 (hA.ords _ (List.getElem_mem h))
  cases hp : prs l[i] with
  | none => unfold erO at hei; rw [hp] at hei; cases hei
  | some ka =>
  obtain ⟨k, a⟩ := ka
  unfold erO at hei
  rw [hp] at hei
  simp only at hei
  rw [if_neg (by simp only [List.length_take] at hil ⊢; have := hA.inv.1; omega)] at hei
  have hkk := (prs_len hp).1
  have h81 := s81 n lm ls l (stO (l.take i)) hInv (by omega) hls hkk (nth a 0) (nth a 1) (nth a 2) (nth_lim hp 0) (nth_lim hp 1).1
  rw [hei, if_pos rfl] at h81
  have hnx : nxS (stO (l.take i)) k (nth a 0) (nth a 1) (nth a 2) = stO (l.take (i + 1)) := by
    rw [List.take_add_one, List.getElem?_eq_getElem h]
    simp only [Option.toList_some]
    rw [stO_snoc]
    unfold exO
    rw [hp]
  rw [hnx] at h81
  simp only [rfA, stA] at h81
  simp only [wB, awp, idxC, asP, asQ, asS, asI, obA, loadA, St.ev, St.step, setS, killS, AV.kill, AV.killL, Mem.kill, AV.cells, AV.flat, AV.single, Nat.reduceAdd, Nat.reduceEqDiff, Nat.reduceLeDiff, Int.reduceAdd, decide_eq_true h', aget_strs h, Int.toNat_natCast]
  refine ⟨by omega, acall_v (s80_some (by omega) hp) rfl rfl ?_⟩
  simp only [wB, awp, asP, asQ, asT, asN, obA, loadA, storeA, putsA, mkA, Aw.newRow, St.ev, St.step, setS, killS, AV.kill, AV.killL, Mem.kill, AV.cells, AV.flat, AV.single, AV.cellular, Nat.reduceAdd, Nat.reduceEqDiff, Nat.reduceLeDiff, Int.reduceAdd, stA]
  refine acall_v h81 (by simp [AV.pureL, AV.pure, prsA_pure, strsA_pure, intsA_pure, gtsA_pure]) (by simp [AV.pureL, AV.pure, intsA_pure, gtsA_pure]) ?_
  simp only [wB, awp, binC, arithC, cmpC, asQ, asT, asI, asN, obA, storeA, putsA, St.ev, St.step, setS, killS, AV.kill, AV.killL, Mem.kill, AV.cells, AV.flat, AV.single, AV.cellular, Nat.reduceAdd, Nat.reduceEqDiff, Nat.reduceLeDiff, Int.reduceAdd, isU]
  have hl100 := hA.inv.1
  refine ⟨by unfold lim; omega, i + 1, le_cut (Mx := [some ⟨none, 126, 3, [.g [I (nth a 0), I (nth a 1), I (nth a 2)]]⟩]) (by simp [leSl]) ?_ rfl ?_, h, by omega⟩
  · simp [rfA, stA]
  · simp [freeM, rfA, stA, AV.freeL, AV.free]
end Go.Proofs.YtndniceeibflcaaGreatDoor

namespace Go.Proofs.YtndniceeibflcaaGreatDoor
open Aw Mp Go.RowKit
set_option linter.unusedSimpArgs false
set_option maxRecDepth 8000

theorem ok35 : okFn Tryz.prog 35 = true := by kernel_rfl
theorem s35 (n lm : Int) (ls : List (Int × Int)) (l : List By) (hA : Acc n lm ls l) (hls : ls.length ≤ 1000000) (o : By) (ho : o.length ≤ 9223372036854775807) : ASpec Tryz.prog 35 [rfA n lm ls l, S o] (fun r Ms => r = .t [rfA n lm ls (doO n lm ls l o), I (erO n lm ls l o)] ∧ Ms = []) := by
  refine aspec_of (own := [2, 4, 7, 9, 38]) Tryz.func35 rfl ok35 ?_
  have hl100 := hA.inv.1
  have hInv := hA.inv.2
  have ret : ∀ e : Int, e ≠ 0 → erO n lm ls l o = e → AV.t [rfA n lm ls l, I e] = .t [rfA n lm ls (doO n lm ls l o), I (erO n lm ls l o)] := fun e h0 h1 => by unfold doO; rw [h1, if_neg h0]
  simp only [wB, awp, asN, mkA, Aw.newRow, St.ev, St.step, setS, killS, AV.kill, AV.killL, Mem.kill, AV.cellular, AV.size, AV.sizeL, Nat.reduceAdd, Nat.reduceEqDiff, Nat.reduceSub, Int.reduceAdd, Int.reduceSub, Tryz.ntmps35, rfA]
  cases hp : prs o with
  | none =>
    have h80 := s80 o ho
    unfold rdP at h80
    rw [hp] at h80
    refine acall_e h80 rfl ?_
    rintro x ⟨a, b, c, rfl⟩
    refine ⟨rfl, ?_⟩
    simp only [wB, awp, asP, asQ, asT, asB, asN, obA, loadA, storeA, putsA, mkA, Aw.newRow, St.ev, St.step, setS, killS, AV.kill, AV.killL, Mem.kill, AV.cells, AV.flat, AV.single, AV.cellular, Nat.reduceAdd, Nat.reduceEqDiff, Nat.reduceLeDiff, Int.reduceAdd]
    refine aend_frz rfl ⟨?_, rfl⟩
    rw [← ret 2 (by decide) (by unfold erO; rw [hp])]
    rfl
  | some ka =>
  obtain ⟨k, a⟩ := ka
  refine acall_v (s80_some ho hp) rfl rfl ?_
  simp only [wB, awp, binC, cmpC, asP, asQ, asT, asB, asI, asN, obA, lenA, loadA, storeA, putsA, mkA, Aw.newRow, St.ev, St.step, setS, killS, AV.kill, AV.killL, Mem.kill, AV.cells, AV.flat, AV.single, AV.cellular, Nat.reduceAdd, Nat.reduceEqDiff, Nat.reduceLeDiff, Int.reduceAdd, lenK, strsA_len, strsA_len]
  by_cases c1 : (100 : Int) ≤ l.length
  · simp only [wB, awp, asP, asQ, asN, obA, loadA, storeA, putsA, St.ev, St.step, setS, killS, AV.kill, AV.killL, Mem.kill, AV.cells, AV.flat, AV.single, AV.cellular, Nat.reduceAdd, Nat.reduceEqDiff, Nat.reduceLeDiff, Int.reduceAdd, decide_eq_true c1]
    refine aend_frz rfl ⟨?_, rfl⟩
    rw [← ret 3 (by decide) (by unfold erO; rw [hp]; simp only; rw [if_pos (by omega)])]
    rfl
  simp only [awp, ACond_false, decide_eq_false c1]
  obtain ⟨e, he⟩ : ∃ e, e = erS n lm ls (stO l) k (nth a 0) (nth a 1) (nth a 2) := ⟨_, rfl⟩
  have heo : erO n lm ls l o = e := by unfold erO; rw [hp]; simp only; rw [if_neg (by omega), ← he]
  obtain ⟨t', ht'⟩ : ∃ t', t' = (if e = 0 then nxS (stO l) k (nth a 0) (nth a 1) (nth a 2) else stO l) := ⟨_, rfl⟩
  have h81 := s81 n lm ls l (stO l) hInv (by omega) hls (prs_len hp).1 (nth a 0) (nth a 1) (nth a 2) (nth_lim hp 0) (nth_lim hp 1).1
  rw [← he, ← ht'] at h81
  have h82 := s82 n lm ls l hA hls
  simp only [rfA, stA] at h81 h82
  refine swp_to ⟨[.bot, S o, .q 0 4 0 0, .bot, .q 1 4 0 0, .bot, .bot, .bot, .bot, .bot, I e, .bot, .bot, .bot, .bot, .bot, .bot, .bot, .bot, .bot, .bot, .bot, .bot, .bot, .bot, .bot, .bot, .bot, .bot, .bot, .bot, .bot, .bot, .bot, .bot, .bot, .bot, .bot, .bot, .bot, .bot, .bot, .bot, .bot, .bot, .bot, .bot], [some ⟨none, 55, 4, [rfA n lm ls l]⟩, some ⟨none, 55, 4, [.g [I 0, .v (.slice none 0 0), I 0, .v (.slice none 0 0)]]⟩]⟩ (swp_draw (own := [2, 4, 7, 9, 38]) (.take 0 .reads [] (.take 1 .reads [] (.take 3 .plain [] (.take 4 .reads [] (.alt 2 (.alt 5 (.take 6 .plain [] (.take 7 .plain [] (.take 8 .plain [] (.alt 9 (.alt 10 (.take 11 .plain [] (.done)) (.nil)) (.nil))))) (.alt 9 (.alt 5 (.take 6 .plain [] (.take 7 .plain [] (.take 8 .plain [] (.alt 10 (.take 11 .plain [] (.done)) (.nil))))) (.nil)) (.nil))) (.alt 9 (.alt 2 (.alt 5 (.take 6 .plain [] (.take 7 .plain [] (.take 8 .plain [] (.alt 10 (.take 11 .plain [] (.done)) (.nil))))) (.nil)) (.nil)) (.nil))))))) [⟨27, 4, 0, 0, true⟩, ⟨28, 4, 0, 0, true⟩, ⟨29, 134217728, 2, 0, false⟩, ⟨30, 64, 0, 0, true⟩, ⟨31, 128, 0, 0, true⟩, ⟨32, 1946157056, 29, 0, false⟩, ⟨26, 2147483648, 32, 0, true⟩, ⟨33, 33554432, 64, 0, true⟩, ⟨34, 33554432, 64, 0, true⟩, ⟨10, 0, 0, 0, false⟩, ⟨0, 4294967808, 767, 1, false⟩, ⟨11, 8589934592, 2047, 0, true⟩] mo (by kernel_rfl) ?_) ?_
  · simp only [wB, asP, asQ, obA, loadA, mkA, Aw.newRow, St.ev, St.step, setS, killS, AV.kill, AV.killL, Mem.kill, AV.cells, AV.flat, AV.single, Nat.reduceAdd, Nat.reduceEqDiff, Nat.reduceLeDiff, Int.reduceAdd, ASch, St.put, Md.mem, Md.need]
    have p82 : AV.pureL [AV.g [I n, AV.s 2 (prsA ls), I lm, AV.s 1 (strsA l)]] = true := by simp [AV.pureL, AV.pure, prsA_pure, strsA_pure]
    repeat' (first
      | refine And.intro ?_ ?_
      | (refine acall_v h82 p82 (by simp [AV.pure, AV.pureL, intsA_pure, gtsA_pure]) ?_; simp only [wB, mkA, Aw.newRow, St.ev, St.step, setS, killS, AV.kill, AV.killL, Mem.kill, Nat.reduceAdd, Nat.reduceEqDiff, Int.reduceAdd, ASch])
      | (refine acall_v h81 (by simp [AV.pureL, AV.pure, prsA_pure, strsA_pure, intsA_pure, gtsA_pure]) (by simp [AV.pureL, AV.pure, intsA_pure, gtsA_pure]) ?_; simp only [wB, asQ, asT, asN, obA, storeA, putsA, mkA, Aw.newRow, St.ev, St.step, setS, killS, AV.kill, AV.killL, Mem.kill, AV.cells, AV.flat, AV.single, AV.cellular, Nat.reduceAdd, Nat.reduceEqDiff, Nat.reduceLeDiff, Int.reduceAdd, ASch, St.put, Md.mem, Md.need]))
    all_goals
      refine le_cut (Mx := [some ⟨none, 126, 3, [.g [I (nth a 0), I (nth a 1), I (nth a 2)]]⟩, some ⟨none, 130, 6, [stA t']⟩]) (by simp [leSl]) ?_ rfl ?_
      · simp [rfA, stA]
      · simp [freeM, rfA, AV.freeL, AV.free]
  simp only [wB, awp, binC, cmpC, asB, asI, St.ev, St.step, setS, killS, AV.kill, AV.killL, Mem.kill, Nat.reduceAdd, Nat.reduceEqDiff, Int.reduceAdd, rfA]
  by_cases c2 : e = 0
  case neg =>
    simp only [wB, awp, asP, asQ, asN, obA, loadA, storeA, putsA, St.ev, St.step, setS, killS, AV.kill, AV.killL, Mem.kill, AV.cells, AV.flat, AV.single, AV.cellular, Nat.reduceAdd, Nat.reduceEqDiff, Nat.reduceLeDiff, Int.reduceAdd, decide_eq_false c2]
    refine aend_frz rfl ⟨?_, rfl⟩
    rw [← ret e c2 heo]
    rfl
  simp only [wB, awp, asP, asQ, asO, asS, asN, obA, loadA, storeA, putsA, Aw.newRow, St.ev, St.step, setS, killS, AV.kill, AV.killL, Mem.kill, AV.cells, AV.flat, AV.single, AV.cellular, AV.size, AV.pure, AV.pureL, Value.oneCell', Nat.reduceAdd, Nat.reduceEqDiff, Nat.reduceMul, Nat.reduceLeDiff, Int.reduceAdd, Int.reduceMul, strsA_len, decide_eq_true c2, strsA_len]
  refine ⟨⟨by decide, rfl⟩, ⟨by decide, by omega⟩, ⟨by decide, rfl⟩, ⟨by decide, by omega⟩, ?_⟩
  simp only [strsA_kill, strsA_app]
  refine aend_frz rfl ⟨?_, rfl⟩
  have hd : doO n lm ls l o = l ++ [o] := by unfold doO; rw [heo, if_pos c2]
  rw [hd, heo, c2]
  simp [frz, AV.sub, AV.subL, strsA_pure, rfA]
end Go.Proofs.YtndniceeibflcaaGreatDoor

namespace Go.Proofs.YtndniceeibflcaaGreatDoor
open Aw Mp Go.RowKit
set_option linter.unusedSimpArgs false
set_option maxRecDepth 8000

/-- the machine of nothing. -/
def rf0 : AV := .g [I 0, .v (.slice none 0 0), I 0, .v (.slice none 0 0)]
theorem ok34 : okFn Tryz.prog 34 = true := by kernel_rfl
theorem s34e (n lm : Int) (ls : List (Int × Int)) (hls : ls.length ≤ 100000) (he : vN n lm ls ≠ 0) : ASpec Tryz.prog 34 [trapA n ls, I lm] (fun r Ms => r = .t [rf0, I (vN n lm ls)] ∧ Ms = []) := by
  refine aspec_of (own := [2, 4]) Tryz.func34 rfl ok34 ?_
  simp only [wB, awp, asP, asQ, asN, obA, loadA, mkA, Aw.newRow, St.ev, St.step, setS, killS, AV.kill, AV.killL, Mem.kill, AV.cells, AV.flat, AV.single, AV.cellular, AV.size, AV.sizeL, Nat.reduceAdd, Nat.reduceEqDiff, Nat.reduceSub, Nat.reduceLeDiff, Int.reduceAdd, Int.reduceSub, Tryz.ntmps34, trapA]
  refine acall_v (s78 n ls (by omega)) (by simp [trapA, AV.pureL, AV.pure, prsA_pure]) rfl ?_
  by_cases h0 : vT n ls = 0
  · simp only [wB, awp, binC, cmpC, asB, asI, asN, St.ev, St.step, setS, killS, AV.kill, AV.killL, Mem.kill, Nat.reduceAdd, Nat.reduceEqDiff, Int.reduceAdd, decide_eq_true h0]
    refine acall_v (s79 lm 0 100) rfl rfl ?_
    by_cases h1 : 0 ≤ lm ∧ lm ≤ 100
    · exact absurd (by rw [vN, if_neg (by rw [h0]; simp), if_neg (by omega)]) he
    simp only [wB, awp, asQ, asB, asN, obA, storeA, fillA, putsA, St.ev, St.step, setS, killS, AV.kill, AV.killL, Mem.kill, AV.cells, AV.flat, AV.single, AV.cellular, Nat.reduceAdd, Nat.reduceEqDiff, Nat.reduceLeDiff, Int.reduceAdd, decide_eq_false h1]
    exact aend_frz rfl ⟨by rw [vN, if_neg (by rw [h0]; simp), if_pos (by omega)]; rfl, rfl⟩
  · simp only [wB, awp, binC, cmpC, asQ, asB, asI, asN, obA, storeA, fillA, putsA, St.ev, St.step, setS, killS, AV.kill, AV.killL, Mem.kill, AV.cells, AV.flat, AV.single, AV.cellular, Nat.reduceAdd, Nat.reduceEqDiff, Nat.reduceLeDiff, Int.reduceAdd, decide_eq_false h0]
    exact aend_frz rfl ⟨by rw [vN, if_pos h0]; rfl, rfl⟩
theorem s34o (n lm : Int) (ls : List (Int × Int)) (hls : ls.length ≤ 100000) (he : vN n lm ls = 0) : ASpec Tryz.prog 34 [trapA n ls, I lm] (fun r Ms => r = .t [rfA n lm ls [], I 0] ∧ Ms = []) := by
  have h0 : vT n ls = 0 := by
    by_cases h : vT n ls = 0
    · exact h
    · rw [vN, if_pos h] at he; exact he
  have h1 : 0 ≤ lm ∧ lm ≤ 100 := by
    by_cases h : lm < 0 ∨ 100 < lm
    · rw [vN, if_neg (by rw [h0]; simp), if_pos h] at he; cases he
    · omega
  refine aspec_of (own := [2, 4, 1006]) Tryz.func34 rfl ok34 ?_
  simp only [wB, awp, asP, asQ, asN, obA, loadA, mkA, Aw.newRow, St.ev, St.step, setS, killS, AV.kill, AV.killL, Mem.kill, AV.cells, AV.flat, AV.single, AV.cellular, AV.size, AV.sizeL, Nat.reduceAdd, Nat.reduceEqDiff, Nat.reduceSub, Nat.reduceLeDiff, Int.reduceAdd, Int.reduceSub, Tryz.ntmps34, trapA]
  refine acall_v (s78 n ls (by omega)) (by simp [trapA, AV.pureL, AV.pure, prsA_pure]) rfl ?_
  simp only [wB, awp, binC, cmpC, asB, asI, asN, St.ev, St.step, setS, killS, AV.kill, AV.killL, Mem.kill, Nat.reduceAdd, Nat.reduceEqDiff, Int.reduceAdd, decide_eq_true h0]
  refine acall_v (s79 lm 0 100) rfl rfl ?_
  simp only [wB, awp, asB, St.ev, St.step, setS, killS, AV.kill, AV.killL, Mem.kill, Nat.reduceAdd, Nat.reduceEqDiff, Int.reduceAdd, decide_eq_true h1]
  refine swp_to ⟨[.bot, .bot, .bot, .bot, .q 1 4 0 0, I 0, .bot, .bot, .bot, .bot, .bot, .bot, .bot, .bot, .bot, .bot, .bot, .bot, .bot, .bot], [some ⟨none, 24, 2, [.g [I n, .s 2 (prsA ls)]]⟩, some ⟨none, 55, 4, [rfA n lm ls []]⟩]⟩ (awp_sound (own := [2, 4]) _ _ _ _ _ ?_) ?_
  · simp only [wB, awp, asP, asQ, asN, obA, loadA, storeA, fillA, putsA, St.ev, St.step, setS, killS, AV.kill, AV.killL, Mem.kill, AV.cells, AV.flat, AV.single, AV.cellular, Value.oneCell', Nat.reduceAdd, Nat.reduceEqDiff, Nat.reduceLeDiff, Int.reduceAdd]
    refine Le.trans (le_nils 1 3 1 rfl rfl rfl rfl) (le_sl' ?_ (by simp [leSl]))
    simp [rfA, strsA]
  · simp only [awp, rfA]
    exact aend_frz rfl ⟨rfl, rfl⟩

end Go.Proofs.YtndniceeibflcaaGreatDoor

namespace Go.Proofs.YtndniceeibflcaaGreatDoor
open Aw Mp Go.RowKit
set_option linter.unusedSimpArgs false

theorem g4_eq (g h : G4) : [g.k, g.a, g.b, g.t] = [h.k, h.a, h.b, h.t] ↔ g = h := by
  cases g; cases h; simp
theorem ok53 : okFn Tryz.prog 53 = true := by kernel_rfl
theorem s53 (a b : List G4) (ha : a.length ≤ 1000000) (hb : b.length ≤ 1000000) : ASpec Tryz.prog 53 [.s 4 (gtsA a), .s 4 (gtsA b)] (fun r Ms => r = B (decide (a = b)) ∧ Ms = []) := by
  refine aspec_of (own := []) Tryz.func53 rfl ok53 ?_
  simp only [wB, awp, binC, cmpC, asB, asI, asN, lenA, St.ev, St.step, setS, killS, AV.kill, AV.killL, Mem.kill, Nat.reduceAdd, Nat.reduceSub, Int.reduceAdd, Int.reduceSub, lenK, Tryz.ntmps53, gtsA_len]
  by_cases hl : (a.length : Int) = b.length
  · simp only [wB, awp, asN, St.ev, St.step, setS, killS, AV.kill, AV.killL, Mem.kill, Nat.reduceAdd, Int.reduceAdd, decide_eq_true hl]
    refine swp_loop' (fun k : Nat => ⟨[.s 4 (gtsA a), .s 4 (gtsA b), .bot, .bot, .bot, I k, .bot, .bot, .bot, .bot, .bot, .bot, .bot, .bot, .bot, .bot, .bot, .bot, .bot, .bot, .bot, .bot, .bot, .bot, .bot, .bot], []⟩) (fun k => k ≤ a.length ∧ ∀ j (h : j < a.length) (h' : j < b.length), j < k → a[j] = b[j]) (fun k => a.length - k) 0 (le_sl (by simp [leSl, gtsA_len])) ⟨Nat.zero_le _, by omega⟩ ?_
    rintro k ⟨hk, hno⟩
    refine awp_sound (own := []) _ _ _ _ _ ?_
    simp only [wB, awp, binC, cmpC, asB, asI, lenA, St.ev, St.step, setS, killS, AV.kill, AV.killL, Mem.kill, Nat.reduceAdd, Int.reduceAdd, lenK, gtsA_len]
    by_cases h : k < a.length
    · have h' : (k : Int) < (a.length : Int) := by omega
      have h2 : k < b.length := by omega
      simp only [awp, ACond_true, decide_eq_true h']
      refine swp_draw (own := []) (.take 0 .plain [] (.take 1 .plain [] (.take 2 .reads [] (.take 3 .reads [] (.take 4 .plain [] (.take 5 .plain [] (.take 6 .reads [] (.take 7 .reads [] (.take 8 .plain [] (.done)))))))))) [⟨18, 1, 0, 0, true⟩, ⟨19, 32, 0, 0, true⟩, ⟨20, 393216, 3, 0, true⟩, ⟨21, 524288, 4, 0, true⟩, ⟨22, 2, 0, 0, true⟩, ⟨23, 32, 0, 0, true⟩, ⟨24, 6291456, 48, 0, true⟩, ⟨25, 8388608, 64, 0, true⟩, ⟨26, 17825792, 136, 0, true⟩] mo (by kernel_rfl) ?_
      simp only [wB, awp, binC, idxC, eqC, asP, asS, asG, asB, asI, loadA, St.ev, setS, AV.cells, AV.flat, AV.single, ints, Nat.reduceAdd, Nat.reduceLeDiff, Int.reduceAdd, ASch, St.put, Md.mem, Md.need, aget_gts h, aget_gts h2, Int.toNat_natCast]
      refine ⟨by omega, by omega, ?_⟩
      by_cases hx : [a[k].k, a[k].a, a[k].b, a[k].t] = [b[k].k, b[k].a, b[k].b, b[k].t]
      · simp only [wB, awp, binC, arithC, cmpC, asI, asN, St.ev, St.step, setS, killS, AV.kill, AV.killL, Mem.kill, Nat.reduceAdd, Int.reduceAdd, St.put, isU, decide_eq_true hx]
        refine ⟨by unfold lim; omega, k + 1, le_sl (by simp [leSl, gtsA_len]), ⟨h, fun j hj hj' hlt => ?_⟩, by omega⟩
        rcases Nat.lt_or_ge j k with h1 | h1
        · exact hno j hj hj' h1
        · obtain rfl : j = k := by omega
          exact (g4_eq _ _).1 hx
      · simp only [wB, awp, asN, St.ev, St.step, setS, killS, AV.kill, AV.killL, Mem.kill, Nat.reduceAdd, Int.reduceAdd, St.put, decide_eq_false hx]
        refine aend_frz rfl ⟨?_, rfl⟩
        rw [decide_eq_false (fun e => hx (by subst e; rfl))]
        rfl
    · have h' : ¬ (k : Int) < (a.length : Int) := by omega
      simp only [wB, awp, asN, St.ev, St.step, setS, killS, AV.kill, AV.killL, Mem.kill, Nat.reduceAdd, Int.reduceAdd, decide_eq_false h']
      refine aend_frz rfl ⟨?_, rfl⟩
      rw [decide_eq_true (List.ext_getElem (by omega) fun j h1 h2 => hno j h1 h2 (by omega))]
      rfl
  · simp only [wB, awp, asN, St.ev, St.step, setS, killS, AV.kill, AV.killL, Mem.kill, Nat.reduceAdd, Int.reduceAdd, decide_eq_false hl]
    refine aend_frz rfl ⟨?_, rfl⟩
    rw [decide_eq_false (fun e => hl (by rw [e]))]
    rfl

end Go.Proofs.YtndniceeibflcaaGreatDoor

namespace Go.Proofs.YtndniceeibflcaaGreatDoor
open Aw Mp Go.RowKit
set_option linter.unusedSimpArgs false
set_option maxRecDepth 8000

theorem doO_ok {n lm : Int} {ls : List (Int × Int)} {l : List By} {o : By} (h : erO n lm ls l o = 0) : doO n lm ls l o = l ++ [o] := by unfold doO; rw [if_pos h]
theorem doO_no {n lm : Int} {ls : List (Int × Int)} {l : List By} {o : By} (h : erO n lm ls l o ≠ 0) : doO n lm ls l o = l := by unfold doO; rw [if_neg h]

def kls : List (Int × Int) := [(0, 1), (1, 2)]
def oL0 : By := [108, 111, 97, 100, 32, 48]
def oL2 : By := [108, 111, 97, 100, 32, 50]
def oJ : By := [106, 111, 105, 110, 32, 48, 32, 49, 32, 52]
def oM : By := [109, 111, 118, 101, 32, 48, 32, 49]
def oC : By := [99, 111, 111, 108, 32, 48]
theorem kvN : vN 3 2 kls = 0 := by decide +kernel
theorem kvT : vT 3 kls = 0 := by decide +kernel
theorem ke1 : erO 3 2 kls [] oL0 = 0 := by decide +kernel
theorem ke2 : erO 3 2 kls [oL0] oL2 = 0 := by decide +kernel
theorem ke3 : erO 3 2 kls [oL0, oL2] oJ = 9 := by decide +kernel
theorem ke4 : erO 3 2 kls [oL0, oL2] oM = 0 := by decide +kernel
theorem ke5 : erO 3 2 kls [oL0, oL2, oM] oJ = 8 := by decide +kernel
theorem ke6 : erO 3 2 kls [oL0, oL2, oM] oC = 0 := by decide +kernel
theorem ke7 : erO 3 2 kls [oL0, oL2, oM, oC] oJ = 0 := by decide +kernel
theorem kst : (stO [oL0, oL2, oM, oC, oJ]).heats = [2, 2] := by decide +kernel
theorem kd1 : doO 3 2 kls [] oL0 = [oL0] := doO_ok ke1
theorem kd2 : doO 3 2 kls [oL0] oL2 = [oL0, oL2] := doO_ok ke2
theorem kd3 : doO 3 2 kls [oL0, oL2] oJ = [oL0, oL2] := doO_no (by rw [ke3]; decide)
theorem kd4 : doO 3 2 kls [oL0, oL2] oM = [oL0, oL2, oM] := doO_ok ke4
theorem kd5 : doO 3 2 kls [oL0, oL2, oM] oJ = [oL0, oL2, oM] := doO_no (by rw [ke5]; decide)
theorem kd6 : doO 3 2 kls [oL0, oL2, oM] oC = [oL0, oL2, oM, oC] := doO_ok ke6
theorem kd7 : doO 3 2 kls [oL0, oL2, oM, oC] oJ = [oL0, oL2, oM, oC, oJ] := doO_ok ke7
theorem ka1 : Acc 3 2 kls [oL0] := .snoc (l := []) .nil ke1
theorem ka2 : Acc 3 2 kls [oL0, oL2] := .snoc (l := [oL0]) ka1 ke2
theorem ka3 : Acc 3 2 kls [oL0, oL2, oM] := .snoc (l := [oL0, oL2]) ka2 ke4
theorem ka4 : Acc 3 2 kls [oL0, oL2, oM, oC] := .snoc (l := [oL0, oL2, oM]) ka3 ke6
theorem ka5 : Acc 3 2 kls [oL0, oL2, oM, oC, oJ] := .snoc (l := [oL0, oL2, oM, oC]) ka4 ke7
theorem ksum : sumB 0 [97] = 98 := by decide

/-- orders that are done one by one: how many are done, and the error of the next one. -/
def rpL (n lm : Int) (ls : List (Int × Int)) : List By → List By → Nat × Int
  | d, [] => (d.length, 0)
  | d, o :: r => if erO n lm ls d o = 0 then rpL n lm ls (d ++ [o]) r else (d.length, erO n lm ls d o)
theorem rpL_acc {n lm : Int} {ls : List (Int × Int)} : ∀ (r d : List By), Acc n lm ls (d ++ r) → rpL n lm ls d r = ((d ++ r).length, 0)
  | [], d, _ => by simp [rpL]
  | o :: r, d, h => by
    have h1 : erO n lm ls d o = 0 := by
      have := (h.at d.length (by simp)).2
      simpa using this
    rw [rpL, if_pos h1, rpL_acc r (d ++ [o]) (by simpa using h)]
    simp
end Go.Proofs.YtndniceeibflcaaGreatDoor

namespace Go.Proofs.YtndniceeibflcaaGreatDoor
open Aw Mp Go.RowKit
set_option linter.unusedSimpArgs false
set_option maxRecDepth 8000

/-- the errors of orders, one by one, and the orders that were done. -/
def ersL (n lm : Int) (ls : List (Int × Int)) : List By → List By → List Int
  | _, [] => []
  | d, o :: r => erO n lm ls d o :: ersL n lm ls (doO n lm ls d o) r
def doL (n lm : Int) (ls : List (Int × Int)) (l : List By) : List By := l.foldl (doO n lm ls) []
theorem ersL_len {n lm : Int} {ls : List (Int × Int)} : ∀ (l d : List By), (ersL n lm ls d l).length = l.length
  | [], _ => rfl
  | o :: r, d => by simp [ersL, ersL_len r]
theorem doL_acc (n lm : Int) (ls : List (Int × Int)) (l : List By) : Acc n lm ls (doL n lm ls l) := by
  suffices h : ∀ (l d : List By), Acc n lm ls d → Acc n lm ls (l.foldl (doO n lm ls) d) from h l [] .nil
  intro l
  induction l with
  | nil => exact fun d h => h
  | cons o r ih => exact fun d h => ih _ (h.do o)
theorem doL_take {n lm : Int} {ls : List (Int × Int)} {l : List By} {k : Nat} (h : k < l.length) : doL n lm ls (l.take (k + 1)) = doO n lm ls (doL n lm ls (l.take k)) l[k] := by
  unfold doL
  rw [← List.take_append_getElem h, List.foldl_append]
  rfl
theorem ersL_take {n lm : Int} {ls : List (Int × Int)} {l : List By} {k : Nat} (h : k < l.length) : ersL n lm ls [] (l.take (k + 1)) = ersL n lm ls [] (l.take k) ++ [erO n lm ls (doL n lm ls (l.take k)) l[k]] := by
  rw [← List.take_append_getElem h]
  suffices g : ∀ (p d : List By) (o : By), ersL n lm ls d (p ++ [o]) = ersL n lm ls d p ++ [erO n lm ls (p.foldl (doO n lm ls) d) o] from g _ _ _
  intro p
  induction p with
  | nil => exact fun d o => rfl
  | cons q r ih => exact fun d o => by simp [ersL, ih]
theorem ersL_at {n lm : Int} {ls : List (Int × Int)} {l : List By} {k : Nat} (h : k < l.length) : (ersL n lm ls [] l)[k]'(by rw [ersL_len]; exact h) = erO n lm ls (doL n lm ls (l.take k)) l[k] := by
  suffices g : ∀ (l d : List By) (k : Nat) (h : k < l.length), (ersL n lm ls d l)[k]? = some (erO n lm ls ((l.take k).foldl (doO n lm ls) d) l[k]) by
    have := g l [] k h
    rw [List.getElem?_eq_getElem (by rw [ersL_len]; exact h)] at this
    exact Option.some.inj this
  intro l
  induction l with
  | nil => intro d k h; simp at h
  | cons o r ih =>
    intro d k h
    cases k with
    | zero => simp [ersL]
    | succ k => simpa [ersL] using ih (doO n lm ls d o) k (by simpa using h)
end Go.Proofs.YtndniceeibflcaaGreatDoor

namespace Go.Proofs.YtndniceeibflcaaGreatDoor
open Aw Mp Go.RowKit
set_option linter.unusedSimpArgs false
set_option maxRecDepth 8000

theorem inv_place {n : Int} {ls : List (Int × Int)} {c : Nat} {s : MS} (h : InvS n c s) (hT : vT n ls = 0) : vTP n ls s.place = 0 := by
  unfold vTP vP
  rw [if_pos hT, if_neg (by have := h.p4; omega), if_pos h.pin, if_pos h.pnd]
theorem inv_circ {n : Int} {c : Nat} {s : MS} (h : InvS n c s) (h0 : 0 < s.place.length) : vC s.place.length s.circ = 0 := by
  unfold vC vG
  rw [if_neg (by have := h.p4; omega), if_neg (by have := h.c10; omega), if_pos h.cok]
theorem inv_circ' {n : Int} {c : Nat} {s : MS} (h : InvS n c s) (h0 : 0 < s.circ.length) : vC s.place.length s.circ = 0 := by
  refine inv_circ h ?_
  rcases Nat.eq_zero_or_pos s.place.length with h1 | h1
  · rw [h.emp (List.length_eq_zero_iff.1 h1)] at h0
    cases h0
  · exact h1
theorem vN_ok {n lm : Int} {ls : List (Int × Int)} (h : vN n lm ls = 0) : vT n ls = 0 ∧ 0 ≤ lm ∧ lm ≤ 100 := by
  unfold vN at h
  split at h
  · exact absurd h (by assumption)
  · split at h
    · cases h
    · exact ⟨Classical.byContradiction fun g => by contradiction, by omega⟩
theorem sml_of {n lm : Int} {ls : List (Int × Int)} {l : List By} (h : Acc n lm ls l) : Sml (mkM n lm ls l) := by
  have hI := h.inv.2
  have h4 := hI.p4
  have hh := hI.hl
  have hc := hI.c10
  exact ⟨rfl, by simp only [mkM]; omega, by simp only [mkM]; omega, by simp only [mkM]; omega⟩
theorem lg_small {n lm : Int} {ls : List (Int × Int)} {l : List By} (h : Acc n lm ls l) : (lg 0 l).length ≤ 10000 := by
  have := lg_size l 0 h.ords
  have := h.inv.1
  omega
theorem rd_acc {n lm : Int} {ls : List (Int × Int)} {l : List By} (h : Acc n lm ls l) : rd 100 0 (lg 0 l) = (l, []) := rd_all h.inv.1 h.ords
end Go.Proofs.YtndniceeibflcaaGreatDoor

namespace Go.Proofs.YtndniceeibflcaaGreatDoor
open Aw Mp Go.RowKit
set_option linter.unusedSimpArgs false
set_option maxRecDepth 8000

theorem combR_tail (F : Nat → AV) (G : Nat → Nat → Nat → Nat → AV) : ∀ T : Mem, combR F G [] T [] = T.map fun c => c.map fun ob => { ob with xs := AV.subL F G ob.xs }
  | [] => rfl
  | c :: T => by simp only [combR, List.drop_nil, List.map_cons, combR_tail F G T]
/-- a function is lent a machine; behind it lie other objects. -/
theorem fD {f : FuncId} {ars : List AV} {m m' : Mch} {x : AV} (h : MSpec Tryz.prog f ars (memD m) (fun r N => r = x ∧ N = memD m')) (T : Mem) (Z : List Nat) (hZ : deadL (memD m) (3 + T.length) = Z) (hfa : AV.freeL Z ars = true)
    (hT : (T.map fun c => c.map fun ob => { ob with xs := AV.subL (keepF (memD m) ars) (keepG (memD m) ars) ob.xs }) = T) : FSpec Tryz.prog f ars (memD m) (memD m ++ T) x (memD m' ++ T) := by
  have h2 : Z.contains 2 = false := by
    cases hc : Z.contains 2 with
    | false => rfl
    | true =>
      have hm := List.contains_iff_mem.1 hc
      rw [← hZ] at hm
      unfold deadL at hm
      have := (List.mem_filter.1 hm).2
      simp [liveI, memD] at this
  refine fspec_of h Z rfl ?_ (by rw [← hZ]; congr 1; simp [memD]; omega) hfa ?_ ?_
  · exact ⟨rfl, rfl, trivial⟩
  · simp [freeM, memD, Mch.ob, Mch.od, Mch.cells, AV.freeL, AV.free, strsA_free, -List.contains_eq_mem, h2]
  · show some m'.ob :: none :: some m'.od :: combR _ _ [] T [] = _
    rw [combR_tail, hT]
    rfl

theorem prsA_msub (F : Nat → AV) (G : Nat → Nat → Nat → Nat → AV) (l : List (Int × Int)) : (prsA l).map (AV.sub F G) = prsA l := by rw [← AV.subL_map, prsA_sub]
/-- a machine that was made: its links are never written again. -/
theorem le_new {n lm : Int} {ls : List (Int × Int)} {sl sl' : List AV} (h : leSl (sl.map (frz1 1 2 (prsA ls))) sl') : Le ⟨sl, [some ⟨none, 107, 13, [(mkM n lm ls []).cells (.o 1) (.o 2)]⟩, some ⟨none, 79, 2, prsA ls⟩, some ⟨none, 9, 1, []⟩]⟩ ⟨sl', memD (mkM n lm ls [])⟩ := by
  refine Le.trans (le_frz 1 rfl (prsA_pure ls)) (le_sl' ?_ h)
  simp [frzM, memD, Mch.ob, Mch.od, Mch.cells, AV.sub, AV.subL, mkM, prsA_sub, intsA_sub, gtsA_sub, strsA_sub, stO, MS.zero, strsA, frz1]
theorem new_sub (n lm : Int) (ls : List (Int × Int)) : AV.sub (fun i => AV.o i) (fun i k j off => AV.q i k j off) ((mkM n lm ls []).cells (.o 1) (.o 2)) = (mkM n lm ls []).cells (.o 1) (.o 2) := by
  simp [Mch.cells, AV.sub, AV.subL, intsA_sub, gtsA_sub]
theorem ok31 : okFn Tryz.prog 31 = true := by kernel_rfl
theorem k24 (l : List By) (hA : Acc 3 2 kls l) (o : By) (ho : o.length ≤ 30) : FSpec Tryz.prog 24 [.q 0 13 0 0, S o] (memD (mkM 3 2 kls l)) (memD (mkM 3 2 kls l)) (I (erO 3 2 kls l o)) (memD (mkM 3 2 kls (doO 3 2 kls l o))) := by
  have := fD (m24 3 2 kls l hA kvT (by decide) o (by omega)) [] [1] rfl rfl rfl
  simpa using this
theorem k45 (l : List By) (hA : Acc 3 2 kls l) : FSpec Tryz.prog 45 [.q 0 13 0 0] (memD (mkM 3 2 kls l)) (memD (mkM 3 2 kls l)) (.s 1 (intsA (stO l).heats)) (memD (mkM 3 2 kls l)) := by
  have := fD (m45 (mkM 3 2 kls l) (sml_of hA)) [] [1] rfl rfl rfl
  rw [List.append_nil] at this
  exact this
theorem s31 : ASpec Tryz.prog 31 [] (fun r Ms => r = B true ∧ Ms = []) := by
  refine aspec_of (own := [1002, 1004, 1006]) Tryz.func31 rfl ok31 ?_
  simp only [wB, awp, asN, fillA, putsA, St.ev, St.step, setS, killS, AV.kill, AV.killL, Mem.kill, AV.cells, AV.flat, AV.single, AV.cellular, AV.size, AV.sizeL, AV.pure, AV.pureL, Value.oneCell', Nat.reduceAdd, Nat.reduceEqDiff, Nat.reduceMul, Nat.reduceSub, Nat.reduceLeDiff, Int.reduceAdd, Int.reduceSub, Int.reduceMul, Tryz.ntmps31]
  refine ⟨⟨by decide, rfl⟩, ?_⟩
  refine acall_os (s22o 3 2 kls (by decide) kvN) rfl ?_
  simp only [wB, awp, asT, asN, St.ev, St.step, setS, killS, AV.kill, AV.killL, Mem.kill, Nat.reduceAdd, Nat.reduceEqDiff, Int.reduceAdd, AV.sub, AV.subL, AV.up, Ob.up, prsA_msub, new_sub]
  refine swp_le (σ' := ⟨[B false, .q 0 13 0 0, I 0, .bot, .bot, .bot, .bot, .bot, .bot, .bot, .bot, .bot, .bot, .bot, .bot, .bot, .bot, .bot, .bot, .bot, .bot, .bot, .bot, .bot, .bot, .bot, .bot, .bot, .bot, .bot, .bot, .bot, .bot, .bot, .bot, .bot, .bot, .bot, .bot, .bot, .bot, .bot, .bot, .bot, .bot, .bot, .bot, .bot, .bot, .bot, .bot, .bot, .bot, .bot, .bot, .bot, .bot, .bot], memD (mkM 3 2 kls [])⟩) (le_new (by simp [leSl, frz1, AV.sub])) ?_
  simp only [memD]
  refine awp_sound (own := []) _ _ _ _ _ ?_
  simp only [wB, awp, binC, cmpC, eqC, asG, asB, asI, St.ev, St.step, setS, killS, AV.kill, AV.killL, Mem.kill, Nat.reduceAdd, Int.reduceAdd, isNP, ptrN, asStr, nt32]
  refine acall_v (s28 0 [97] (by decide)) rfl rfl ?_
  simp only [wB, awp, binC, cmpC, asB, asI, St.ev, St.step, setS, killS, AV.kill, AV.killL, Mem.kill, Nat.reduceAdd, Nat.reduceEqDiff, Int.reduceAdd, ksum]
  refine swp_fs (own := []) [false, true, false, false, false, true, false, false, false, false, true, false, false, false, false, true, false, false, false, false, true, false, false, false, false, true, false, false, false, false, true, false, false] ?_
  simp only [wB, St.ev, St.step, setS, killS, AV.kill, AV.killL, Mem.kill]
  refine acall_f (k24 [] .nil oL0 (by decide)) ?_
  simp only [wB, binC, cmpC, asI, St.ev, St.step, setS, killS, AV.kill, AV.killL, Mem.kill, memD, AV.sub, keepG, liveI, AV.isQ, List.any_cons, List.any_nil, ke1, kd1]
  refine acall_f (k24 [oL0] ka1 oL2 (by decide)) ?_
  simp only [wB, binC, cmpC, asB, asI, St.ev, St.step, setS, killS, AV.kill, AV.killL, Mem.kill, memD, AV.sub, keepG, liveI, AV.isQ, List.any_cons, List.any_nil, ke2, kd2]
  refine acall_f (k24 [oL0, oL2] ka2 oJ (by decide)) ?_
  simp only [wB, binC, cmpC, asB, asI, St.ev, St.step, setS, killS, AV.kill, AV.killL, Mem.kill, memD, AV.sub, keepG, liveI, AV.isQ, List.any_cons, List.any_nil, ke3, kd3]
  refine acall_f (k24 [oL0, oL2] ka2 oM (by decide)) ?_
  simp only [wB, binC, cmpC, asB, asI, St.ev, St.step, setS, killS, AV.kill, AV.killL, Mem.kill, memD, AV.sub, keepG, liveI, AV.isQ, List.any_cons, List.any_nil, ke4, kd4]
  refine acall_f (k24 [oL0, oL2, oM] ka3 oJ (by decide)) ?_
  simp only [wB, binC, cmpC, asB, asI, St.ev, St.step, setS, killS, AV.kill, AV.killL, Mem.kill, memD, AV.sub, keepG, liveI, AV.isQ, List.any_cons, List.any_nil, ke5, kd5]
  refine acall_f (k24 [oL0, oL2, oM] ka3 oC (by decide)) ?_
  simp only [wB, binC, cmpC, asB, asI, St.ev, St.step, setS, killS, AV.kill, AV.killL, Mem.kill, memD, AV.sub, keepG, liveI, AV.isQ, List.any_cons, List.any_nil, ke6, kd6]
  refine acall_f (k24 [oL0, oL2, oM, oC] ka4 oJ (by decide)) ?_
  simp only [wB, awp, binC, cmpC, asB, asI, St.ev, St.step, setS, killS, AV.kill, AV.killL, Mem.kill, Nat.reduceAdd, Nat.reduceEqDiff, Int.reduceAdd, memD, AV.sub, keepG, liveI, AV.isQ, List.any_cons, List.any_nil, ke7, kd7]
  refine swp_fs (own := []) [false, true, false, false, false] ?_
  simp only [wB, St.ev, St.step, setS, killS, AV.kill, AV.killL, Mem.kill]
  refine acall_f (k45 [oL0, oL2, oM, oC, oJ] ka5) ?_
  simp only [wB, St.ev, St.step, setS, killS, AV.kill, AV.killL, Mem.kill, AV.cells, AV.flat, AV.single, AV.cellular, AV.size, AV.pure, AV.pureL, Value.oneCell', Nat.reduceMul, Nat.reduceLeDiff, Int.reduceMul, memD, AV.sub, keepG, liveI, AV.isQ, List.any_cons, List.any_nil, kst]
  refine ⟨⟨by decide, rfl⟩, ?_⟩
  refine acall_v (s52 [2, 2] [2, 2] (by decide) (by decide)) rfl rfl ?_
  simp only [wB, awp, asN, St.ev, St.step, setS, killS, AV.kill, AV.killL, Mem.kill]
  exact aend_frz rfl ⟨rfl, rfl⟩
end Go.Proofs.YtndniceeibflcaaGreatDoor

namespace Go.Proofs.YtndniceeibflcaaGreatDoor
open Aw Mp Go.RowKit
set_option linter.unusedSimpArgs false
set_option maxRecDepth 8000

/-- a machine whose orders are the object j. -/
def Mch.obA (m : Mch) (j : Nat) : Ob := ⟨none, 107, 13, [m.cells (.s 2 (prsA m.ls)) (.o j)]⟩
/-- a machine at k. -/
def memA (k : Nat) (m : Mch) : Mem := List.replicate k none ++ [some (m.obA (k + 2)), none, some m.od]
theorem memA_len (k : Nat) (m : Mch) : (memA k m).length = k + 3 := by simp [memA]
theorem memA_lo {k : Nat} {m : Mch} {i : Nat} (h : i < k) : (memA k m)[i]? = some none := by
  unfold memA
  rw [List.getElem?_append_left (by simpa using h), List.getElem?_replicate, if_pos h]
theorem memA_hi {k : Nat} {m : Mch} (i : Nat) : (memA k m)[k + i]? = [some (m.obA (k + 2)), none, some m.od][i]? := by
  unfold memA
  rw [List.getElem?_append_right (by simp)]
  simp
end Go.Proofs.YtndniceeibflcaaGreatDoor
