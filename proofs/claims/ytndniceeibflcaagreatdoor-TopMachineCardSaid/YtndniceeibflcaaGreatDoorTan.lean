/-
  The law TopMachine: for every input, with the listed variables as the program's text lays them, it answers true, and each argument reads as it did.
-/
import Derived.Test.YtndniceeibflcaaGreatDoorProg
import Derived.WalkKit
import Derived.Lib.ConvBytes
import Derived.LaidEql
import Derived.Lib.ItoaNum
import Derived.Lib.LaidTab
import Derived.KernelRfl
import GoSem.Claims
import GoSem.ClaimJoined
import Derived.Orders
import Derived.Laws.StructEq
import Derived.Maps.Keyed
import Derived.Lib.Strings
import Derived.Maps.AppendAt
import Derived.Laws.Concat
import Derived.MapKept
import Derived.Laws.MakeOwn
import Derived.Scope
import Derived.Laws.BitsLemmas
import Derived.Maps.RangeRun
import Derived.StillTail
import Derived.OrdersIn
import Derived.TacticsIn
import Derived.RangeFuncRecord
import Derived.RangeFuncCalls
import Derived.RangeFuncSeq
import Derived.Lib.Split
import Derived.Lib.AtoiAll
import Derived.Shelf.LaysM
import Derived.Shelf.LaysC
import Derived.Shelf.Strconv.Itoa3
import Derived.Shelf.Strconv.AtoiAll
import Derived.Shelf.Strings.Search3
import Derived.Shelf.Strings.Cut
import Derived.Shelf.Strings.Prefix
import Derived.Shelf.Strings.Split
import Derived.Lib.AppendIntMem
import Derived.Stop.Asserts
import Derived.RowKitTokens
import Derived.Conc.MuLone
import Derived.Test.YtndniceeibflcaaGreatDoorRows
import Derived.Test.YtndniceeibflcaaGreatDoorChecked
import Derived.ChangeSame
import Derived.ChangeVars
import Derived.JoinedOf
import Derived.ProofKit
import Derived.RowKit
import Derived.LaidLaws
import Derived.LaidHandle
import Derived.LaidMore
import Derived.Stop.Joined
import Derived.Stop.LaidErr
import Derived.HandedShaped
import Derived.Shelf.Vars
import Derived.Deep.Slices
import Derived.Deep.Strs
import Derived.Deep.Fields
import Derived.Lib.SmallJoins
import Derived.SliceStrings
import Derived.ChangeMaps5
import Derived.Shelf.RegionOpenPlain
import Derived.Deep.LoopGhost
import Derived.Deep.RegionLaw
import Derived.Lib.Walk
import Derived.Sort.WalkB12
import Derived.Lib.SliceRun
import Derived.Lib.SlicesDelete
import Derived.Test.YtndniceeibflcaaGreatDoorTie
import Derived.Test.YtndniceeibflcaaGreatDoorCards
import Derived.SevenTiedAt
import Derived.Test.YtndniceeibflcaaGreatDoorTaa
import Derived.Test.YtndniceeibflcaaGreatDoorTac
import Derived.Test.YtndniceeibflcaaGreatDoorTad
import Derived.Test.YtndniceeibflcaaGreatDoorTae
import Derived.Test.YtndniceeibflcaaGreatDoorTag
import Derived.Test.YtndniceeibflcaaGreatDoorTaf
import Derived.Test.YtndniceeibflcaaGreatDoorTah
import Derived.Test.YtndniceeibflcaaGreatDoorTai
import Derived.Test.YtndniceeibflcaaGreatDoorTak
import Derived.Test.YtndniceeibflcaaGreatDoorTal
import Derived.Test.YtndniceeibflcaaGreatDoorTam
set_option linter.unusedSimpArgs false
set_option linter.unusedVariables false
namespace Go.Proofs.YtndniceeibflcaaGreatDoor
namespace Aw
end Aw
namespace Mp
end Mp
end Go.Proofs.YtndniceeibflcaaGreatDoor
namespace Go.Proofs.YtndniceeibflcaaGreatDoor
open Aw Mp Go.RowKit
set_option linter.unusedSimpArgs false
set_option maxRecDepth 8000

set_option maxHeartbeats 2000000 in
theorem m59 (n lm : Int) (ls : List (Int × Int)) (os d : List By) (hA : Acc n lm ls d) : MSpec Tryz.prog 59 [.g [I n, .s 2 (prsA ls), I lm, .s 1 (strsA os)], .q 0 13 0 0] (memD (mkM n lm ls d)) (fun r N => r = B true ∧ N = memD (mkM n lm ls d)) := by
  refine mspec_of2 (own := [8, 1001, 1018]) Tryz.func59 rfl ok59 ?_
  intro vs
  obtain ⟨gh, hgh⟩ : ∃ gh, gh = some (ghost vs [AV.g [I n, .s 2 (prsA ls), I lm, .s 1 (strsA os)], AV.q 0 13 0 0]) := ⟨_, rfl⟩
  have hs := sml_of hA
  have hI := hA.inv.2
  have hp4 := hI.p4
  have hhl := hI.hl
  have hc10 := hI.c10
  have hT : ∀ (xs : List AV), (∀ F G, AV.subL F G xs = xs) → ([gh, some (⟨none, 3, 1, xs⟩ : Ob)].map fun c : Option Ob => c.map fun ob => { ob with xs := AV.subL (keepF (memD (mkM n lm ls d)) [.q 0 13 0 0]) (keepG (memD (mkM n lm ls d)) [.q 0 13 0 0]) ob.xs }) = [gh, some ⟨none, 3, 1, xs⟩] := fun xs hx => by
    have g0 : keepG (memD (mkM n lm ls d)) [.q 0 13 0 0] 0 13 0 0 = .q 0 13 0 0 := rfl
    rw [hgh]
    simp only [List.map_cons, List.map_nil, Option.map_some, hx]
    simp [ghost, AV.sub, AV.subL, prsA_sub, strsA_sub, g0]
  have g1 : ∀ {f : FuncId} {x : AV}, MSpec Tryz.prog f [.q 0 13 0 0] (memD (mkM n lm ls d)) (fun r N => r = x ∧ N = memD (mkM n lm ls d)) → FSpec Tryz.prog f [.q 0 13 0 0] (memD (mkM n lm ls d)) [some (mkM n lm ls d).ob, none, some (mkM n lm ls d).od, gh] x [some (mkM n lm ls d).ob, none, some (mkM n lm ls d).od, gh] := fun h =>
    fD h [gh] [1, 3] rfl rfl (by
      have g0 : keepG (memD (mkM n lm ls d)) [.q 0 13 0 0] 0 13 0 0 = .q 0 13 0 0 := rfl
      rw [hgh]
      simp [ghost, AV.sub, AV.subL, prsA_sub, strsA_sub, g0])
  have h44 : MSpec Tryz.prog 44 [.q 0 13 0 0] (memD (mkM n lm ls d)) (fun r N => r = .s 1 (intsA (stO d).place) ∧ N = memD (mkM n lm ls d)) := m44 _ hs
  have h45 : MSpec Tryz.prog 45 [.q 0 13 0 0] (memD (mkM n lm ls d)) (fun r N => r = .s 1 (intsA (stO d).heats) ∧ N = memD (mkM n lm ls d)) := m45 _ hs
  have h47 : MSpec Tryz.prog 47 [.q 0 13 0 0] (memD (mkM n lm ls d)) (fun r N => r = .s 4 (gtsA (stO d).circ) ∧ N = memD (mkM n lm ls d)) := m47 _ hs
  have h46 : MSpec Tryz.prog 46 [.q 0 13 0 0] (memD (mkM n lm ls d)) (fun r N => r = .s 1 (intsA (wrmL lm (stO d).heats)) ∧ N = memD (mkM n lm ls d)) := m46 _ hs
  have h56 : MSpec Tryz.prog 56 [.q 0 13 0 0] (memD (mkM n lm ls d)) (fun r N => r = .s 4 (gtsA (redC (stO d).circ)) ∧ N = memD (mkM n lm ls d)) := m56 (mkM n lm ls d) hs hI
  have h55 := s55m hI
  have hrl := redC_len (stO d).circ
  have hwl := wrm_len lm (stO d).heats
  obtain ⟨p, hpd⟩ : ∃ p : Int → Bool, p = fun i => decide (lm < (stO d).heats.getD i.toNat 0) := ⟨_, rfl⟩
  have hwm : wrmL lm (stO d).heats = upL (stO d).heats.length p := by rw [hpd]; rfl
  simp only [wB, awp, asN, St.ev, St.step, setS, killS, AV.kill, AV.killL, Mem.kill, AV.cellular, AV.pure, AV.pureL, Nat.reduceAdd, Nat.reduceEqDiff, Nat.reduceSub, Int.reduceAdd, Int.reduceSub, Tryz.ntmps59, ← hgh, memD]
  refine swp_fs (own := [8]) [false, true, false, true, false, true, false, false, false] ?_
  simp only [wB, St.ev, St.step, setS, killS, AV.kill, AV.killL, Mem.kill]
  refine acall_f (g1 h44) ?_
  simp only [wB, St.ev, St.step, setS, killS, AV.kill, AV.killL, Mem.kill, memD, AV.sub, AV.subL, keepG, liveI, AV.isQ, List.any_cons, List.any_nil]
  refine acall_f (g1 h45) ?_
  simp only [wB, St.ev, St.step, setS, killS, AV.kill, AV.killL, Mem.kill, memD, AV.sub, AV.subL, keepG, liveI, AV.isQ, List.any_cons, List.any_nil]
  refine acall_f (g1 h47) ?_
  simp only [wB, awp, binC, cmpC, asI, asN, lenA, St.ev, St.step, setS, killS, AV.kill, AV.killL, Mem.kill, Nat.reduceAdd, Nat.reduceEqDiff, Int.reduceAdd, lenK, memD, AV.sub, AV.subL, keepG, liveI, AV.isQ, List.any_cons, List.any_nil]
  generalize stO d = t at *
  simp only [wB, awp, binC, cmpC, asB, asI, asN, lenA, Aw.newRow, St.ev, St.step, setS, killS, AV.kill, AV.killL, Mem.kill, Nat.reduceAdd, Nat.reduceEqDiff, Int.reduceAdd, lenK, hhl, decide_eq_false (show ¬ (4 : Int) < t.place.length by omega)]
  refine swp_loop' (fun k : Nat => ⟨[.bot, .q 0 13 0 0, .p (.g [I n, .s 2 (prsA ls), I lm, .s 1 (strsA os)]) 0, .bot, .bot, .s 1 (intsA t.place), .s 1 (intsA t.heats), .s 4 (gtsA t.circ), .o 4, I k, .bot, .bot, .bot, .bot, .bot, .bot, .bot, .bot, .bot, .bot, .bot, .bot, .bot, .bot, .bot, .bot, .bot, .bot, .bot, .bot, .bot, .bot, .bot, .bot, .bot, .bot, .bot, .bot, .bot, .bot, .bot, .bot, .bot, .bot, .bot, .bot, .bot, .bot, .bot, .bot, .bot, .bot, .bot, .bot, .bot, .bot, .bot, .bot, .bot, .bot, .bot, .bot, .bot, .bot, .bot, .bot, .bot, .bot, .bot, .bot, .bot, .bot, .bot, .bot, .bot, .bot, .bot, .bot, .bot, .bot, .bot, .bot, .bot, .bot, .bot, .bot, .bot, .bot, .bot, .bot, .bot, .bot, .bot, .bot, .bot, .bot, .bot, .bot, .bot, .bot, .bot, .bot, .bot, .bot, .bot, .bot, .bot, .bot, .bot, .bot, .bot, .bot, .bot, .bot, .bot, .bot, .bot, .bot, .bot, .bot, .bot, .bot, .bot, .bot, .bot, .bot, .bot, .bot, .bot, .bot, .bot, .bot, .bot, .bot, .bot, .bot], [some (mkM n lm ls d).ob, none, some (mkM n lm ls d).od, gh, some ⟨none, 3, 1, intsA (upL k p)⟩]⟩) (fun k => k ≤ t.place.length) (fun k => t.place.length - k) 0 (le_sl' ?_ (by simp [leSl])) (Nat.zero_le _) ?_
  · simp [upL, intsA]
  intro k hk
  refine awp_sound (own := [8, 1018]) _ _ _ _ _ ?_
  simp only [wB, awp, binC, cmpC, asB, asI, lenA, St.ev, St.step, setS, killS, AV.kill, AV.killL, Mem.kill, Nat.reduceAdd, Nat.reduceEqDiff, Int.reduceAdd, lenK]
  have hul := upL_len k p
  by_cases h : k < t.place.length
  · have hh : k < t.heats.length := by omega
    obtain ⟨hp1, hp2⟩ := hI.pin _ (List.getElem_mem h)
    obtain ⟨hh1, hh2⟩ := hI.hin _ (List.getElem_mem hh)
    have hni : memL (t.place.take k) t.place[k] = false := by
      unfold memL
      refine decide_eq_false fun hm => ?_
      exact not_nodup h hm hI.pnd
    have h61 := s61 (t.place.take k) t.place[k] (by simp; omega)
    rw [hni] at h61
    simp only [awp, ACond_true, decide_eq_true (show (k : Int) < t.place.length by omega)]
    refine swp_draw (own := [8]) (.take 0 .plain [] (.take 1 .plain [] (.take 2 .reads [] (.take 3 .reads [] (.take 4 .plain [] (.take 5 .plain [] (.take 6 .plain [] (.take 7 .plain [] (.take 8 .reads [] (.take 9 .reads [] (.take 10 .plain [] (.take 11 .plain [] (.take 12 .reads [] (.take 13 .plain [] (.take 14 .plain [] (.take 15 .plain [] (.take 16 .plain [] (.take 17 .plain [] (.take 18 .reads [] (.take 19 .reads [] (.take 20 .plain [] (.take 21 .plain [] (.take 22 .plain [] (.take 23 .plain [] (.take 24 .plain [] (.take 25 .reads [] (.take 26 .reads [] (.take 27 .plain [] (.take 28 .plain [] (.take 29 .plain [] (.take 30 .plain [] (.take 31 .plain [] (.take 32 .plain [] (.take 33 .plain [] (.take 34 .plain [] (.take 35 .reads [] (.take 36 .reads [] (.alt 37 (.take 38 .plain [] (.done)) (.nil))))))))))))))))))))))))))))))))))))))) [⟨36, 32, 0, 0, true⟩, ⟨37, 512, 0, 0, true⟩, ⟨38, 103079215104, 3, 0, true⟩, ⟨39, 137438953472, 4, 0, true⟩, ⟨40, 274877906944, 8, 0, true⟩, ⟨41, 549755813888, 16, 0, true⟩, ⟨42, 1099511627808, 32, 0, true⟩, ⟨43, 1099511628288, 32, 0, true⟩, ⟨44, 7696581394432, 224, 0, true⟩, ⟨45, 9895604649984, 288, 0, true⟩, ⟨46, 1099511627780, 32, 0, true⟩, ⟨47, 36283883716608, 1056, 0, true⟩, ⟨48, 71468255805440, 2080, 0, true⟩, ⟨49, 159429186027520, 4640, 0, true⟩, ⟨50, 282574488338432, 8224, 0, true⟩, ⟨51, 562949953421312, 16416, 0, true⟩, ⟨52, 1125899906842688, 32768, 0, true⟩, ⟨53, 1125899906843136, 32768, 0, true⟩, ⟨54, 7881299347898368, 229376, 0, true⟩, ⟨55, 10133099161583616, 294912, 0, true⟩, ⟨56, 19140298416324608, 557056, 0, true⟩, ⟨57, 37154696925806592, 1081344, 0, true⟩, ⟨58, 72057594037927936, 2129920, 0, true⟩, ⟨59, 144115188075855936, 4194304, 0, true⟩, ⟨60, 144115188075856384, 4194304, 0, true⟩, ⟨61, 1008806316530991104, 29360128, 0, true⟩, ⟨62, 1297036692682702848, 37748736, 0, true⟩, ⟨63, 2449958197289549824, 71303168, 0, true⟩, ⟨64, 4755801206503243776, 138412032, 0, true⟩, ⟨65, 9223372036854775808, 272629760, 0, true⟩, ⟨66, 18446744073709551648, 536870912, 0, true⟩, ⟨67, 18446744073709552128, 536870912, 0, true⟩, ⟨68, 129127208515966861312, 3758096384, 0, true⟩, ⟨69, 18446744073709551648, 536870912, 0, true⟩, ⟨70, 18446744073709552128, 536870912, 0, true⟩, ⟨71, 903890459611768029184, 26306674688, 0, true⟩, ⟨72, 1199038364791120855040, 34896609280, 0, true⟩, ⟨73, 2527203938098208571392, 73551314944, 0, false⟩, ⟨74, 4740813226943354765312, 137975824384, 0, true⟩] mo (by kernel_rfl) ?_
    simp only [wB, binC, idxC, cmpC, asP, asS, asI, loadA, St.ev, setS, AV.cells, AV.flat, AV.single, ASch, St.put, Md.mem, Md.need, aget_ints h, aget_ints hh, Int.toNat_natCast]
    refine ⟨by omega, ?_⟩
    simp only [wB, binC, idxC, cmpC, asP, asS, asB, asI, loadA, St.ev, setS, AV.cells, AV.flat, AV.single, Nat.reduceAdd, Nat.reduceEqDiff, Nat.reduceLeDiff, Int.reduceAdd, ASch, St.put, Md.mem, Md.need, aget_ints h, aget_ints hh, Int.toNat_natCast, decide_eq_false (show ¬ t.place[k] < 0 by omega)]
    refine ⟨by omega, ?_⟩
    simp only [wB, binC, idxC, cmpC, asP, asS, asB, asI, loadA, St.ev, setS, AV.cells, AV.flat, AV.single, ASch, St.put, Md.mem, Md.need, aget_ints h, aget_ints hh, Int.toNat_natCast, decide_eq_false (show ¬ n ≤ t.place[k] by omega)]
    refine ⟨by omega, ?_⟩
    simp only [wB, binC, idxC, cmpC, asP, asS, asB, asI, loadA, St.ev, setS, AV.cells, AV.flat, AV.single, ASch, St.put, Md.mem, Md.need, aget_ints h, aget_ints hh, Int.toNat_natCast, decide_eq_false (show ¬ t.heats[k] < 0 by omega)]
    refine ⟨by omega, ?_⟩
    simp only [wB, idxC, asP, asS, asI, bndA, loadA, St.ev, setS, AV.cells, AV.flat, AV.single, Int.reduceLE, ASch, St.put, Md.mem, Md.need, aget_ints h, aget_ints hh, Int.toNat_natCast, decide_eq_false (show ¬ 1000 < t.heats[k] by omega)]
    refine ⟨⟨by omega, by omega⟩, by omega, ?_⟩
    rw [List.drop_zero, intsA_take]
    refine acall_v h61 (by simp [AV.pureL, AV.pure, intsA_pure]) rfl ?_
    simp only [wB, awp, asB, St.ev, St.step, setS, killS, AV.kill, AV.killL, Mem.kill, ASch, St.put, Md.mem, Md.need]
    refine swp_draw (own := [8]) (.take 0 .plain [] (.take 1 .plain [] (.take 2 .reads [] (.take 3 .reads [] (.take 4 .plain [] (.take 5 .reads [] (.take 6 .plain [] (.done)))))))) [⟨75, 64, 0, 0, true⟩, ⟨76, 512, 0, 0, true⟩, ⟨77, 56668397794435742564352, 3, 0, true⟩, ⟨78, 75557863725914323419136, 4, 0, true⟩, ⟨79, 4, 0, 0, true⟩, ⟨80, 302231454903657293676544, 16, 0, true⟩, ⟨81, 755578637259143234191360, 40, 0, true⟩] mo (by kernel_rfl) ?_
    simp only [wB, awp, binC, idxC, cmpC, asP, asS, asB, asI, loadA, St.ev, setS, AV.cells, AV.flat, AV.single, Nat.reduceAdd, Nat.reduceEqDiff, Nat.reduceLeDiff, Int.reduceAdd, ASch, St.put, Md.mem, Md.need, aget_ints hh, Int.toNat_natCast]
    refine ⟨by omega, ?_⟩
    have hgk : t.heats.getD k 0 = t.heats[k] := by rw [List.getD_eq_getElem?_getD, List.getElem?_eq_getElem hh]; rfl
    by_cases c : lm < t.heats[k]
    · have hpk : p k = true := by rw [hpd]; simp only [Int.toNat_natCast, hgk]; exact decide_eq_true c
      simp only [wB, awp, binC, arithC, cmpC, asO, asS, asI, asN, obA, St.ev, St.step, setS, killS, AV.kill, AV.killL, Mem.kill, AV.cells, AV.flat, AV.single, AV.cellular, AV.size, AV.pure, AV.pureL, Value.oneCell', Nat.reduceAdd, Nat.reduceEqDiff, Nat.reduceMul, Nat.reduceLeDiff, Int.reduceAdd, Int.reduceMul, St.put, isU, decide_eq_true c]
      refine ⟨⟨by decide, rfl⟩, ⟨by decide, by omega⟩, by unfold lim; omega, k + 1, le_sl' ?_ (by simp [leSl]), h, by omega⟩
      rw [upL_true hpk, hgh]
      simp [Mch.ob, Mch.od, Mch.cells, mkM, ghost, AV.killL, AV.kill, strsA_kill, intsA_kill, intsA_app]
    · have hpk : p k = false := by rw [hpd]; simp only [Int.toNat_natCast, hgk]; exact decide_eq_false c
      simp only [wB, awp, binC, arithC, cmpC, asI, asN, St.ev, St.step, setS, killS, AV.kill, AV.killL, Mem.kill, Nat.reduceAdd, Nat.reduceEqDiff, Int.reduceAdd, St.put, isU, decide_eq_false c]
      refine ⟨by unfold lim; omega, k + 1, le_sl' ?_ (by simp [leSl]), h, by omega⟩
      rw [upL_false hpk]
  simp only [wB, awp, asN, St.ev, St.step, setS, killS, AV.kill, AV.killL, Mem.kill, Nat.reduceAdd, Nat.reduceEqDiff, Int.reduceAdd, decide_eq_false (show ¬ (k : Int) < t.place.length by omega)]
  refine swp_loop' (fun j : Nat => ⟨[.bot, .q 0 13 0 0, .bot, .bot, .bot, .s 1 (intsA t.place), .bot, .s 4 (gtsA t.circ), .o 4, .bot, I j, .bot, .bot, .bot, .bot, .bot, .bot, .bot, .bot, .bot, .bot, .bot, .bot, .bot, .bot, .bot, .bot, .bot, .bot, .bot, .bot, .bot, .bot, .bot, .bot, .bot, .bot, .bot, .bot, .bot, .bot, .bot, .bot, .bot, .bot, .bot, .bot, .bot, .bot, .bot, .bot, .bot, .bot, .bot, .bot, .bot, .bot, .bot, .bot, .bot, .bot, .bot, .bot, .bot, .bot, .bot, .bot, .bot, .bot, .bot, .bot, .bot, .bot, .bot, .bot, .bot, .bot, .bot, .bot, .bot, .bot, .bot, .bot, .bot, .bot, .bot, .bot, .bot, .bot, .bot, .bot, .bot, .bot, .bot, .bot, .bot, .bot, .bot, .bot, .bot, .bot, .bot, .bot, .bot, .bot, .bot, .bot, .bot, .bot, .bot, .bot, .bot, .bot, .bot, .bot, .bot, .bot, .bot, .bot, .bot, .bot, .bot, .bot, .bot, .bot, .bot, .bot, .bot, .bot, .bot, .bot, .bot, .bot, .bot, .bot, .bot], [some (mkM n lm ls d).ob, none, some (mkM n lm ls d).od, gh, some ⟨none, 3, 1, intsA (wrmL lm t.heats)⟩]⟩) (fun j => j ≤ t.circ.length) (fun j => t.circ.length - j) 0 (le_sl' ?_ (by simp [leSl])) (Nat.zero_le _) ?_
  · rw [hwm, show k = t.heats.length by omega]
  intro j hj
  refine awp_sound (own := [8, 1018]) _ _ _ _ _ ?_
  simp only [wB, awp, binC, cmpC, asB, asI, lenA, St.ev, St.step, setS, killS, AV.kill, AV.killL, Mem.kill, Nat.reduceAdd, Nat.reduceEqDiff, Int.reduceAdd, lenK, gtsA_len]
  by_cases h2 : j < t.circ.length
  · have hg := hI.cok _ (List.getElem_mem h2)
    unfold okG at hg
    have hg := of_decide_eq_true hg
    simp only [wB, awp, binC, idxC, cmpC, asP, asS, asI, loadA, St.ev, St.step, setS, killS, AV.kill, AV.killL, Mem.kill, AV.cells, AV.flat, AV.single, Nat.reduceAdd, Nat.reduceEqDiff, Nat.reduceLeDiff, Int.reduceAdd, decide_eq_true (show (j : Int) < t.circ.length by omega), aget_gts h2, Int.toNat_natCast]
    refine ⟨by omega, ?_⟩
    simp only [wB, binC, idxC, cmpC, asP, asS, asB, asI, lenA, loadA, St.ev, St.step, setS, killS, AV.kill, AV.killL, Mem.kill, AV.cells, AV.flat, AV.single, Nat.reduceAdd, Nat.reduceEqDiff, Nat.reduceLeDiff, Int.reduceAdd, lenK, aget_gts h2, Int.toNat_natCast, decide_eq_false (show ¬ t.circ[j].a < 0 by omega)]
    refine ⟨by omega, ?_⟩
    simp only [wB, awp, binC, idxC, cmpC, asP, asS, asB, asI, lenA, loadA, St.ev, St.step, setS, killS, AV.kill, AV.killL, Mem.kill, AV.cells, AV.flat, AV.single, Nat.reduceAdd, Nat.reduceEqDiff, Nat.reduceLeDiff, Int.reduceAdd, lenK, aget_gts h2, Int.toNat_natCast, decide_eq_false (show ¬ (t.place.length : Int) ≤ t.circ[j].a by omega)]
    refine ⟨by omega, ?_⟩
    simp only [wB, awp, binC, arithC, cmpC, asI, asN, St.ev, St.step, setS, killS, AV.kill, AV.killL, Mem.kill, Nat.reduceAdd, Nat.reduceEqDiff, Int.reduceAdd, isU, aget_gts h2, decide_eq_false (show ¬ (t.place.length : Int) ≤ t.circ[j].b by omega)]
    exact ⟨by unfold lim; omega, j + 1, le_sl' rfl (by simp [leSl]), h2, by omega⟩
  simp only [wB, awp, St.ev, St.step, setS, killS, AV.kill, AV.killL, Mem.kill, Nat.reduceAdd, Nat.reduceEqDiff, Int.reduceAdd, decide_eq_false (show ¬ (j : Int) < t.circ.length by omega)]
  refine acall_v h55 (by simp [AV.pureL, AV.pure, gtsA_pure]) (by simp [AV.pure, AV.pureL, gtsA_pure]) ?_
  simp only [wB, awp, asT, asN, St.ev, St.step, setS, killS, AV.kill, AV.killL, Mem.kill, Nat.reduceAdd, Nat.reduceEqDiff, Int.reduceAdd]
  refine swp_le (σ' := ⟨[.bot, .q 0 13 0 0, .bot, .bot, .bot, .bot, .bot, .bot, .s 1 (intsA (wrmL lm t.heats)), .bot, .bot, .s 4 (gtsA (redC t.circ)), I 0, .bot, .bot, .bot, .bot, .bot, .bot, .bot, .bot, .bot, .bot, .bot, .bot, .bot, .bot, .bot, .bot, .bot, .bot, .bot, .bot, .bot, .bot, .bot, .bot, .bot, .bot, .bot, .bot, .bot, .bot, .bot, .bot, .bot, .bot, .bot, .bot, .bot, .bot, .bot, .bot, .bot, .bot, .bot, .bot, .bot, .bot, .bot, .bot, .bot, .bot, .bot, .bot, .bot, .bot, .bot, .bot, .bot, .bot, .bot, .bot, .bot, .bot, .bot, .bot, .bot, .bot, .bot, .bot, .bot, .bot, .bot, .bot, .bot, .bot, .bot, .bot, .bot, .bot, .bot, .bot, .bot, .bot, .bot, .bot, .bot, .bot, .bot, .bot, .bot, .bot, .bot, .bot, .bot, .bot, .bot, .bot, .bot, .bot, .bot, .bot, .bot, .bot, .bot, .bot, .bot, .bot, .bot, .bot, .bot, .bot, .bot, .bot, .bot, .bot, .bot, .bot, .bot, .bot, .bot, .bot, .bot, .bot, .bot], [some (mkM n lm ls d).ob, none, some (mkM n lm ls d).od, gh]⟩) (Le.trans (le_frz 4 rfl (intsA_pure _)) (le_cut (Mx := [none]) ?_ ?_ rfl ?_)) ?_
  · simp [leSl, frz1, AV.sub, AV.subL, gtsA_sub]
  · rw [hgh]
    simp [frzM, Mch.ob, Mch.od, Mch.cells, mkM, AV.sub, AV.subL, intsA_sub, gtsA_sub, prsA_sub, strsA_sub, strsA_msub, ghost]
  · rw [hgh]
    simp [freeM, Mch.ob, Mch.od, Mch.cells, AV.freeL, AV.free, strsA_free, prsA_free, ghost]
  refine swp_fs (own := []) [false, false, false, false, true, false, false, false, false, false, true, false, false, false, false] ?_
  simp only [wB, binC, cmpC, asI, St.ev, St.step, setS, killS, AV.kill, AV.killL, Mem.kill]
  refine acall_f (g1 h56) ?_
  simp only [wB, St.ev, St.step, setS, killS, AV.kill, AV.killL, Mem.kill, memD, AV.sub, keepG, liveI, AV.isQ, List.any_cons, List.any_nil]
  refine acall_v (s58 (redC t.circ) (redC t.circ) (by omega) (by omega)) (by simp [AV.pureL, AV.pure, gtsA_pure]) rfl ?_
  simp only [wB, asB, St.ev, St.step, setS, killS, AV.kill, AV.killL, Mem.kill]
  refine acall_f (g1 h46) ?_
  simp only [wB, St.ev, St.step, setS, killS, AV.kill, AV.killL, Mem.kill, memD, AV.sub, keepG, liveI, AV.isQ, List.any_cons, List.any_nil]
  refine acall_v (s57 (wrmL lm t.heats) (wrmL lm t.heats) (by omega) (by omega)) (by simp [AV.pureL, AV.pure, intsA_pure]) rfl ?_
  simp only [wB, awp, asB, asN, St.ev, St.step, setS, killS, AV.kill, AV.killL, Mem.kill, memD]
  exact ⟨_, _, memD (mkM n lm ls d), _, Le.refl _, rfl, by rw [hgh]; rfl, rfl, rfl, free_D _ _, rfl, rfl⟩
end Go.Proofs.YtndniceeibflcaaGreatDoor

namespace Go.Proofs.YtndniceeibflcaaGreatDoor
open Aw Mp Go.RowKit
set_option linter.unusedSimpArgs false
set_option maxRecDepth 8000

theorem ok108 : okFn Tryz.prog 108 = true := by kernel_rfl
theorem s108 (a : List Int) (ha : a.length ≤ 1000000) : ASpec Tryz.prog 108 [.s 1 (intsA a), .s 1 (intsA a)] (fun r Ms => r = B true ∧ Ms = []) := by
  refine aspec_of (own := []) Tryz.func108 rfl ok108 ?_
  simp only [wB, awp, binC, cmpC, asB, asI, asN, lenA, St.ev, St.step, setS, killS, AV.kill, AV.killL, Mem.kill, Nat.reduceAdd, Nat.reduceSub, Int.reduceAdd, Int.reduceSub, lenK, Tryz.ntmps108]
  refine swp_loop' (fun k : Nat => ⟨[.s 1 (intsA a), .s 1 (intsA a), .bot, .bot, .bot, .bot, .bot, .bot, .bot, .bot, .bot, .bot, I a.length, I k, .bot, .bot, .bot, .bot, .bot, .bot, .bot, .bot, .bot, .bot, .bot, .bot], []⟩) (fun k => k ≤ a.length) (fun k => a.length - k) 0 (le_sl (by simp [leSl, intsA_len])) (Nat.zero_le _) ?_
  intro k hk
  refine awp_sound (own := []) _ _ _ _ _ ?_
  simp only [wB, awp, binC, cmpC, asB, asI, St.ev, St.step, setS, killS, AV.kill, AV.killL, Mem.kill, Nat.reduceAdd, Int.reduceAdd]
  by_cases h : k < a.length
  case neg =>
    have h' : ¬ (k : Int) < a.length := by omega
    simp only [wB, awp, asN, St.ev, St.step, setS, killS, AV.kill, AV.killL, Mem.kill, Nat.reduceAdd, Int.reduceAdd, decide_eq_false h']
    exact aend_frz rfl ⟨rfl, rfl⟩
  have h' : (k : Int) < a.length := by omega
  simp only [wB, awp, asN, St.ev, St.step, setS, killS, AV.kill, AV.killL, Mem.kill, Nat.reduceAdd, Int.reduceAdd, decide_eq_true h']
  refine swp_draw (own := []) (.take 0 .plain [] (.take 1 .plain [] (.take 2 .reads [] (.take 3 .reads [] (.take 4 .plain [] (.take 5 .plain [] (.take 6 .reads [] (.take 7 .reads [] (.take 8 .plain [] (.done)))))))))) [⟨17, 1, 0, 0, true⟩, ⟨18, 32, 0, 0, true⟩, ⟨19, 196608, 3, 0, true⟩, ⟨20, 262144, 4, 0, true⟩, ⟨21, 2, 0, 0, true⟩, ⟨22, 32, 0, 0, true⟩, ⟨23, 3145728, 48, 0, true⟩, ⟨24, 4194304, 64, 0, true⟩, ⟨25, 8912896, 136, 0, true⟩] mo (by kernel_rfl) ?_
  simp only [wB, awp, binC, idxC, arithC, cmpC, asP, asS, asB, asI, loadA, St.ev, St.step, setS, killS, AV.kill, AV.killL, Mem.kill, AV.cells, AV.flat, AV.single, Nat.reduceAdd, Int.reduceAdd, ASch, St.put, Md.mem, Md.need, isU, aget_ints h, Int.toNat_natCast]
  exact ⟨by omega, by omega, by unfold lim; omega, k + 1, le_sl (by simp [leSl]), h, by omega⟩
theorem ok109 : okFn Tryz.prog 109 = true := by kernel_rfl
theorem s109 (a : List G4) (ha : a.length ≤ 1000000) : ASpec Tryz.prog 109 [.s 4 (gtsA a), .s 4 (gtsA a)] (fun r Ms => r = B true ∧ Ms = []) := by
  refine aspec_of (own := []) Tryz.func109 rfl ok109 ?_
  simp only [wB, awp, binC, cmpC, asB, asI, asN, lenA, St.ev, St.step, setS, killS, AV.kill, AV.killL, Mem.kill, Nat.reduceAdd, Nat.reduceSub, Int.reduceAdd, Int.reduceSub, lenK, Tryz.ntmps109, gtsA_len]
  refine swp_loop' (fun k : Nat => ⟨[.s 4 (gtsA a), .s 4 (gtsA a), .bot, .bot, .bot, .bot, .bot, .bot, .bot, .bot, .bot, .bot, I a.length, I k, .bot, .bot, .bot, .bot, .bot, .bot, .bot, .bot, .bot, .bot, .bot, .bot], []⟩) (fun k => k ≤ a.length) (fun k => a.length - k) 0 (le_sl (by simp [leSl, gtsA_len])) (Nat.zero_le _) ?_
  intro k hk
  refine awp_sound (own := []) _ _ _ _ _ ?_
  simp only [wB, awp, binC, cmpC, asB, asI, St.ev, St.step, setS, killS, AV.kill, AV.killL, Mem.kill, Nat.reduceAdd, Int.reduceAdd]
  by_cases h : k < a.length
  case neg =>
    have h' : ¬ (k : Int) < a.length := by omega
    simp only [wB, awp, asN, St.ev, St.step, setS, killS, AV.kill, AV.killL, Mem.kill, Nat.reduceAdd, Int.reduceAdd, decide_eq_false h']
    exact aend_frz rfl ⟨rfl, rfl⟩
  have h' : (k : Int) < a.length := by omega
  simp only [wB, awp, asN, St.ev, St.step, setS, killS, AV.kill, AV.killL, Mem.kill, Nat.reduceAdd, Int.reduceAdd, decide_eq_true h']
  refine swp_draw (own := []) (.take 0 .plain [] (.take 1 .plain [] (.take 2 .reads [] (.take 3 .reads [] (.take 4 .plain [] (.take 5 .plain [] (.take 6 .reads [] (.take 7 .reads [] (.take 8 .plain [] (.done)))))))))) [⟨17, 1, 0, 0, true⟩, ⟨18, 32, 0, 0, true⟩, ⟨19, 196608, 3, 0, true⟩, ⟨20, 262144, 4, 0, true⟩, ⟨21, 2, 0, 0, true⟩, ⟨22, 32, 0, 0, true⟩, ⟨23, 3145728, 48, 0, true⟩, ⟨24, 4194304, 64, 0, true⟩, ⟨25, 8912896, 136, 0, true⟩] mo (by kernel_rfl) ?_
  simp only [wB, awp, binC, idxC, arithC, cmpC, eqC, asP, asS, asG, asB, asI, loadA, St.ev, St.step, setS, killS, AV.kill, AV.killL, Mem.kill, AV.cells, AV.flat, AV.single, ints, Nat.reduceAdd, Nat.reduceLeDiff, Int.reduceAdd, ASch, St.put, Md.mem, Md.need, isU, aget_gts h, Int.toNat_natCast]
  exact ⟨by omega, by omega, by unfold lim; omega, k + 1, le_sl (by simp [leSl]), h, by omega⟩
theorem ok76 : okFn Tryz.prog 76 = true := by kernel_rfl
theorem s76 (z : Int) : ASpec Tryz.prog 76 [I z] (fun r Ms => r = B (decide (z < 0)) ∧ Ms = []) := by
  refine aspec_of (own := []) Tryz.func76 rfl ok76 ?_
  simp only [wB, awp, binC, cmpC, asI, asN, St.ev, St.step, setS, killS, AV.kill, AV.killL, Mem.kill, Nat.reduceAdd, Nat.reduceSub, Int.reduceAdd, Int.reduceSub, Tryz.ntmps76]
  exact aend_frz rfl ⟨rfl, rfl⟩
theorem ok77 : okFn Tryz.prog 77 = true := by kernel_rfl
theorem s77 (t : MS) (h1 : t.place.length ≤ 1000) (h2 : t.heats.length ≤ 1000) (h3 : t.circ.length ≤ 1000) : ASpec Tryz.prog 77 [stA t, stA t] (fun r Ms => r = B true ∧ Ms = []) := by
  refine aspec_of (own := []) Tryz.func77 rfl ok77 ?_
  simp only [wB, awp, asP, asN, loadA, St.ev, St.step, setS, killS, AV.kill, AV.killL, Mem.kill, AV.cells, AV.flat, AV.single, AV.cellular, AV.pure, AV.pureL, Nat.reduceAdd, Nat.reduceEqDiff, Nat.reduceSub, Nat.reduceLeDiff, Int.reduceAdd, Int.reduceSub, Tryz.ntmps77, stA]
  refine acall_v (s108 t.place (by omega)) (by simp [AV.pureL, AV.pure, intsA_pure]) rfl ?_
  simp only [wB, asP, loadA, St.ev, St.step, setS, killS, AV.kill, AV.killL, Mem.kill, AV.cells, AV.flat, AV.single, Nat.reduceAdd, Nat.reduceEqDiff, Nat.reduceLeDiff, Int.reduceAdd]
  refine acall_v (s108 t.heats (by omega)) (by simp [AV.pureL, AV.pure, intsA_pure]) rfl ?_
  simp only [wB, asP, asB, loadA, St.ev, St.step, setS, killS, AV.kill, AV.killL, Mem.kill, AV.cells, AV.flat, AV.single, Nat.reduceAdd, Nat.reduceEqDiff, Nat.reduceLeDiff, Int.reduceAdd]
  refine acall_v (s109 t.circ (by omega)) (by simp [AV.pureL, AV.pure, gtsA_pure]) rfl ?_
  simp only [wB, awp, binC, cmpC, asP, asB, asI, asN, loadA, St.ev, St.step, setS, killS, AV.kill, AV.killL, Mem.kill, AV.cells, AV.flat, AV.single, Nat.reduceAdd, Nat.reduceEqDiff, Nat.reduceLeDiff, Int.reduceAdd]
  exact aend_frz rfl ⟨rfl, rfl⟩
end Go.Proofs.YtndniceeibflcaaGreatDoor

namespace Go.Proofs.YtndniceeibflcaaGreatDoor
open Aw Mp Go.RowKit
set_option linter.unusedSimpArgs false
set_option maxRecDepth 8000

theorem rpO_acc {n lm : Int} {ls : List (Int × Int)} {l : List By} (h0 : vN n lm ls = 0) (hA : Acc n lm ls l) : rpO n lm ls (lg 0 l) = (l.length, 0) := by
  unfold rpO
  rw [if_neg (fun g => g h0), rd_acc hA, if_neg (fun g => g rfl)]
  exact rpL_acc l [] hA
theorem s27l {n lm : Int} {ls : List (Int × Int)} (hls : ls.length ≤ 100000) {l : List By} (h0 : vN n lm ls = 0) (hA : Acc n lm ls l) : ASpec Tryz.prog 27 [.g [I n, .s 2 (prsA ls)], I lm, S (lg 0 l)] (fun r Ms => r = .t [.q 0 13 0 0, I l.length, I 0] ∧ Ms = [(mkM n lm ls l).obA 1, (mkM n lm ls l).od]) := by
  have h := s27 n lm ls hls (lg 0 l) (by have := lg_small hA; omega)
  unfold rpP rpM at h
  rw [rpO_acc h0 hA, rd_acc hA] at h
  simpa [trapA] using h
theorem ok29 : okFn Tryz.prog 29 = true := by kernel_rfl
theorem m29 (n lm : Int) (ls : List (Int × Int)) (hls : ls.length ≤ 100000) (l : List By) (h0 : vN n lm ls = 0) (hA : Acc n lm ls l) : MSpec Tryz.prog 29 [.q 0 13 0 0] (memD (mkM n lm ls l)) (fun r N => r = B true ∧ N = memD (mkM n lm ls l)) := by
  refine mspec_of2 (own := [3, 8, 1003, 1006, 1011]) Tryz.func29 rfl ok29 ?_
  intro vs
  obtain ⟨gh, hgh⟩ : ∃ gh, gh = some (ghost vs [AV.q 0 13 0 0]) := ⟨_, rfl⟩
  have hs := sml_of hA
  have hI := hA.inv.2
  obtain ⟨hT, hlm, _⟩ := vN_ok h0
  have h27 := s27l hls h0 hA
  have h67 : MSpec Tryz.prog 67 [.q 0 13 0 0] (memD (mkM n lm ls l)) (fun r N => r = .t [.g [.s 1 (intsA (stO l).place), .s 1 (intsA (stO l).heats), .s 4 (gtsA (stO l).circ), I (stO l).moves, I (stO l).cools, I (stO l).done], S (lg 0 l)] ∧ N = memD (mkM n lm ls l)) := m67f _ hs.mu hs.p hs.h hs.c
  simp only [wB, awp, binC, eqC, asG, asB, asI, asN, St.ev, St.step, setS, killS, AV.kill, AV.killL, Mem.kill, Nat.reduceAdd, Nat.reduceEqDiff, Nat.reduceSub, Int.reduceAdd, Int.reduceSub, isNP, ptrN, asStr, nt32, Tryz.ntmps29, ← hgh, memD]
  refine swp_fs (own := [3]) [false, true, false, false, false, false, false, false] ?_
  simp only [wB, St.ev, St.step, setS, killS, AV.kill, AV.killL, Mem.kill]
  refine acall_f (fD h67 [gh] [1, 3] rfl rfl (by rw [hgh]; rfl)) ?_
  simp only [wB, awp, asQ, asT, asN, obA, storeA, putsA, mkA, Aw.newRow, St.ev, St.step, setS, killS, AV.kill, AV.killL, Mem.kill, AV.cells, AV.flat, AV.single, AV.cellular, Nat.reduceAdd, Nat.reduceEqDiff, Nat.reduceLeDiff, Int.reduceAdd, memD, AV.sub, keepG, liveI, AV.isQ, List.any_cons, List.any_nil, Mch.ob, Mch.od, Mch.cells, mkM]
  have est : (mkM n lm ls l).st = stO l := rfl
  have h48 := s48 n ls (stO l).place (by omega) (by have := hI.p4; omega)
  rw [inv_place hI hT] at h48
  simp only [trapA] at h48
  refine swp_draw (own := [3, 8]) (.take 0 .plain [] (.take 1 .plain [] (.take 2 .plain [] (.take 3 .reads [] (.take 4 .plain [] (.take 5 .reads [] (.alt 6 (.take 7 .plain [] (.take 8 .plain [] (.take 9 .plain [] (.take 10 .reads [] (.alt 11 (.take 12 .plain [] (.done)) (.nil)))))) (.nil)))))))) [⟨18, 1, 0, 0, true⟩, ⟨19, 131072, 1, 0, true⟩, ⟨20, 262144, 2, 0, true⟩, ⟨21, 524288, 4, 0, true⟩, ⟨22, 8, 0, 0, true⟩, ⟨23, 2097152, 16, 0, true⟩, ⟨24, 5242880, 40, 0, false⟩, ⟨25, 8388608, 64, 0, true⟩, ⟨26, 16777216, 192, 0, true⟩, ⟨27, 33554440, 256, 0, true⟩, ⟨28, 100663296, 768, 0, true⟩, ⟨29, 167772160, 1280, 0, false⟩, ⟨30, 301989888, 2304, 0, true⟩] mo (by kernel_rfl) ?_
  simp only [wB, asP, asQ, obA, loadA, St.ev, setS, AV.cells, AV.flat, AV.single, Nat.reduceAdd, Nat.reduceEqDiff, Nat.reduceLeDiff, Int.reduceAdd, ASch, St.put, Md.mem, Md.need]
  refine acall_v h48 (by simp [AV.pureL, AV.pure, prsA_pure, intsA_pure]) rfl ?_
  simp only [wB, binC, cmpC, asP, asQ, asI, obA, loadA, St.ev, St.step, setS, killS, AV.kill, AV.killL, Mem.kill, AV.cells, AV.flat, AV.single, Nat.reduceAdd, Nat.reduceEqDiff, Nat.reduceLeDiff, Int.reduceAdd, ASch, St.put, Md.mem, Md.need]
  have h75 : ASpec Tryz.prog 75 [.s 1 (intsA (stO l).heats), .f (.func 76) []] (fun r Ms => r = B false ∧ Ms = []) := by
    have h := s75 (stO l).heats (fun z => decide (z < 0)) 76 [] (by have := hI.hl; have := hI.p4; omega) rfl (fun z _ => s76 z)
    have e : (stO l).heats.any (fun z => decide (z < 0)) = false := by
      rw [List.any_eq_false]
      intro z hz
      have := hI.hin z hz
      simpa using this.1
    rw [e] at h
    exact h
  refine acall_v h75 rfl rfl ?_
  simp only [wB, awp, asB, St.ev, St.step, setS, killS, AV.kill, AV.killL, Mem.kill, Nat.reduceAdd, Nat.reduceEqDiff, Int.reduceAdd, ASch, St.put, Md.mem, Md.need]
  refine swp_to ⟨[.q 0 13 0 0, .bot, .bot, .q 4 6 0 0, S (lg 0 l), .bot, .bot, .bot, .bot, .bot, .bot, .bot, .bot, .bot, .bot, .bot, .bot, .bot, .bot, .bot, .bot, .bot, .bot, .bot, .bot, .bot, .bot, .bot, .bot, .bot, .bot, .bot, .bot, .bot, .bot, .bot, .bot, .bot, .bot, .bot, .bot, .bot, B false, .bot, .bot, .bot, .bot, .bot, .bot, .bot, .bot, .bot, .bot, .bot, .bot, .bot, .bot, .bot, .bot, .bot, .bot, .bot, .bot, .bot, .bot, .bot, .bot, .bot, .bot, .bot, .bot, .bot], [some (mkM n lm ls l).ob, none, some (mkM n lm ls l).od, gh, some ⟨none, 105, 6, [stA (stO l)]⟩]⟩ (awp_sound (own := [3, 8]) _ _ _ _ _ ?_) ?_
  · by_cases hc : 0 < (stO l).circ.length
    · have h49 := s49 (stO l).place.length (stO l).circ (by have := hI.c10; omega)
      rw [inv_circ' hI hc] at h49
      simp only [wB, awp, binC, cmpC, asP, asQ, asI, obA, lenA, loadA, St.ev, St.step, setS, killS, AV.kill, AV.killL, Mem.kill, AV.cells, AV.flat, AV.single, Nat.reduceAdd, Nat.reduceEqDiff, Nat.reduceLeDiff, Int.reduceAdd, lenK, gtsA_len, decide_eq_true (show 0 < ((stO l).circ.length : Int) by omega)]
      refine acall_v h49 (by simp [AV.pureL, AV.pure, gtsA_pure]) rfl ?_
      simp only [wB, binC, cmpC, asB, asI, St.ev, St.step, setS, killS, AV.kill, AV.killL, Mem.kill]
      refine le_sl' ?_ (by simp [leSl])
      simp [Mch.ob, Mch.od, Mch.cells, mkM, stA]
    · simp only [wB, awp, binC, cmpC, asP, asQ, asB, asI, obA, lenA, loadA, St.ev, St.step, setS, killS, AV.kill, AV.killL, Mem.kill, AV.cells, AV.flat, AV.single, Nat.reduceAdd, Nat.reduceEqDiff, Nat.reduceLeDiff, Int.reduceAdd, lenK, gtsA_len, decide_eq_false (show ¬ 0 < ((stO l).circ.length : Int) by omega)]
      refine le_sl' ?_ (by simp [leSl])
      simp [Mch.ob, Mch.od, Mch.cells, mkM, stA]
  simp only [wB, awp, asB, St.ev, AV.cells, Mch.ob, Mch.od, Mch.cells, mkM, stA]
  refine swp_draw (own := [3, 8]) (.take 0 .plain [] (.take 1 .plain [] (.take 2 .plain [] (.take 3 .reads [] (.take 4 .plain [] (.take 5 .plain [] (.take 6 .plain [] (.take 7 .reads [] (.take 8 .plain [] (.alt 9 (.take 10 .plain [] (.take 11 .plain [] (.take 12 .plain [] (.take 13 .plain [] (.take 14 .plain [] (.take 15 .plain [] (.take 16 .plain [] (.done)))))))) (.nil))))))))))) [⟨45, 1, 0, 0, true⟩, ⟨46, 17592186044416, 1, 0, true⟩, ⟨47, 35184372088832, 2, 0, true⟩, ⟨48, 70368744177664, 4, 0, true⟩, ⟨49, 1, 0, 0, true⟩, ⟨50, 281474976710656, 16, 0, true⟩, ⟨51, 562949953421312, 32, 0, true⟩, ⟨52, 1125899906842624, 64, 0, true⟩, ⟨53, 16, 0, 0, true⟩, ⟨54, 6896136929411072, 392, 0, false⟩, ⟨44, 9007199254740992, 512, 0, true⟩, ⟨55, 8796093022208, 1024, 0, true⟩, ⟨56, 8796093022208, 1024, 0, true⟩, ⟨57, 8796093022208, 1024, 0, true⟩, ⟨6, 18014398509481984, 4095, 0, true⟩, ⟨7, 36028797018963968, 24575, 0, true⟩, ⟨8, 72057594037927936, 65535, 0, true⟩] mo (by kernel_rfl) ?_
  simp only [wB, asP, asQ, obA, loadA, St.ev, setS, AV.cells, AV.flat, AV.single, Nat.reduceAdd, Nat.reduceEqDiff, Nat.reduceLeDiff, Int.reduceAdd, ASch, St.put, Md.mem, Md.need]
  refine acall_mk h27 (by simp [AV.pureL, AV.pure, prsA_pure]) ?_
  simp only [wB, awp, binC, cmpC, asT, asB, asI, asN, St.ev, St.step, setS, killS, AV.kill, AV.killL, Mem.kill, Nat.reduceAdd, Nat.reduceEqDiff, Int.reduceAdd, ASch, St.put, Md.mem, Md.need, List.drop_succ_cons, List.drop_zero, AV.sub, AV.subL, List.take_succ_cons, List.take_zero, AV.up]
  refine swp_le (σ' := ⟨[.q 0 13 0 0, .bot, .bot, .q 4 6 0 0, S (lg 0 l), .q 5 13 0 0, .bot, .bot, .bot, .bot, .bot, .bot, .bot, .bot, .bot, .bot, .bot, .bot, .bot, .bot, .bot, .bot, .bot, .bot, .bot, .bot, .bot, .bot, .bot, .bot, .bot, .bot, .bot, .bot, .bot, .bot, .bot, .bot, .bot, .bot, .bot, .bot, .bot, .bot, .bot, .bot, .bot, .bot, .bot, .bot, .bot, .bot, .bot, .bot, .bot, .bot, .bot, .bot, .bot, .bot, .bot, .bot, .bot, .bot, .bot, .bot, .bot, .bot, .bot, .bot, .bot, .bot], [some (mkM n lm ls l).ob, none, some (mkM n lm ls l).od, gh, some ⟨none, 105, 6, [stA (stO l)]⟩, some ((mkM n lm ls l).obA 7), none, some (mkM n lm ls l).od]⟩) (le_rn [0, 1, 2, 3, 4, 5, 99, 6] (by decide) ?_ (by simp [leSl, AV.sub, AV.subL, prsA_sub, prsA_msub, reF, reG, List.idxOf?, List.findIdx?, List.findIdx?.go])) ?_
  · rw [hgh]
    simp [reM, reF, reG, Mch.ob, Mch.obA, Mch.od, Mch.cells, mkM, stA, AV.sub, AV.subL, prsA_sub, strsA_sub, intsA_sub, gtsA_sub, strsA_msub, List.idxOf?, List.findIdx?, List.findIdx?.go, ghost]
  refine swp_fs (own := [3, 8]) [false, true, false, false, false, false, false, false] ?_
  simp only [wB, St.ev, St.step, setS, killS, AV.kill, AV.killL, Mem.kill]
  have fa := fA [some (mkM n lm ls l).ob, none, some (mkM n lm ls l).od, gh, some ⟨none, 105, 6, [stA (stO l)]⟩] [] h67 rfl (by simp [AV.pure, AV.pureL, intsA_pure, gtsA_pure]) 5 rfl (by
    rw [hgh]
    simp [memA, keepF, keepG, Mch.ob, Mch.obA, Mch.od, Mch.cells, mkM, stA, AV.sub, AV.subL, prsA_sub, strsA_sub, intsA_sub, gtsA_sub, strsA_msub, ghost, liveI, AV.isO, AV.isQ]) rfl
  refine acall_f fa ?_
  have h77 := s77 (stO l) hs.p hs.h hs.c
  simp only [stA] at h77
  simp only [wB, awp, binC, eqC, asP, asQ, asT, asG, asB, asI, asN, obA, loadA, storeA, putsA, mkA, Aw.newRow, St.ev, St.step, setS, killS, AV.kill, AV.killL, Mem.kill, AV.cells, AV.flat, AV.single, AV.cellular, Nat.reduceAdd, Nat.reduceEqDiff, Nat.reduceLeDiff, Int.reduceAdd, asStr, strC, List.drop_zero, AV.sub, keepG, liveI, AV.isQ, List.any_cons, List.any_nil, List.take_succ_cons, List.take_zero, memA, stA]
  refine acall_v h77 (by simp [AV.pureL, AV.pure, intsA_pure, gtsA_pure]) rfl ?_
  simp only [wB, awp, asB, asN, St.ev, St.step, setS, killS, AV.kill, AV.killL, Mem.kill, Nat.reduceEqDiff]
  exact ⟨_, _, memD (mkM n lm ls l), _, Le.refl _, rfl, by rw [hgh]; rfl, rfl, rfl, free_D _ _, rfl, rfl⟩
end Go.Proofs.YtndniceeibflcaaGreatDoor

namespace Go.Proofs.YtndniceeibflcaaGreatDoor
open Aw Mp Go.RowKit
set_option linter.unusedSimpArgs false
set_option maxRecDepth 8000

def rigA (n : Int) (ls : List (Int × Int)) (lm : Int) (os : List By) : AV := .g [I n, .s 2 (prsA ls), I lm, .s 1 (strsA os)]
theorem ok18 : okFn Tryz.prog 18 = true := by kernel_rfl
set_option maxHeartbeats 4000000 in
theorem s18 (n lm : Int) (ls : List (Int × Int)) (l : List By) (hs : ∀ o ∈ l, o.length ≤ 9223372036854775807) : ASpec Tryz.prog 18 [rigA n ls lm l] (fun r Ms => r = B true ∧ Ms = []) := by
  refine aspec_of (own := [1002, 1004, 1007, 1014, 1015, 1016, 1017, 1018, 1019, 1021, 1030]) Tryz.func18 rfl ok18 ?_
  simp only [wB, awp, asN, fillA, putsA, St.ev, St.step, setS, killS, AV.kill, AV.killL, Mem.kill, AV.cells, AV.flat, AV.single, AV.cellular, AV.size, AV.sizeL, AV.pure, AV.pureL, Value.oneCell', Nat.reduceAdd, Nat.reduceEqDiff, Nat.reduceMul, Nat.reduceSub, Nat.reduceLeDiff, Int.reduceAdd, Int.reduceSub, Int.reduceMul, Tryz.ntmps18, rigA]
  refine ⟨⟨by decide, rfl⟩, ?_⟩
  refine acall_os (s22o 3 2 kls (by decide) kvN) rfl ?_
  simp only [wB, awp, asT, asN, St.ev, St.step, setS, killS, AV.kill, AV.killL, Mem.kill, Nat.reduceAdd, Nat.reduceEqDiff, Int.reduceAdd, AV.sub, AV.subL, AV.up, Ob.up, prsA_msub, new_sub]
  refine swp_le (σ' := ⟨[.bot, .p (.g [I n, .s 2 (prsA ls), I lm, .s 1 (strsA l)]) 0, .bot, .q 0 13 0 0, I 0, .bot, .bot, .bot, .bot, .bot, .bot, .bot, .bot, .bot, .bot, .bot, .bot, .bot, .bot, .bot, .bot, .bot, .bot, .bot, .bot, .bot, .bot, .bot, .bot, .bot, .bot, .bot, .bot, .bot, .bot, .bot, .bot, .bot, .bot, .bot, .bot, .bot, .bot, .bot, .bot, .bot, .bot, .bot, .bot, .bot, .bot, .bot, .bot, .bot, .bot, .bot, .bot, .bot, .bot, .bot, .bot, .bot, .bot, .bot, .bot, .bot, .bot, .bot, .bot, .bot, .bot, .bot, .bot, .bot, .bot, .bot, .bot, .bot, .bot, .bot, .bot, .bot, .bot, .bot, .bot, .bot, .bot, .bot, .bot, .bot, .bot, .bot, .bot, .bot, .bot, .bot, .bot, .bot, .bot, .bot, .bot, .bot, .bot, .bot, .bot, .bot, .bot, .bot, .bot, .bot, .bot, .bot, .bot, .bot, .bot, .bot, .bot, .bot, .bot, .bot, .bot, .bot, .bot, .bot, .bot, .bot, .bot, .bot, .bot, .bot, .bot, .bot, .bot, .bot, .bot, .bot, .bot, .bot, .bot, .bot, .bot, .bot, .bot, .bot, .bot, .bot, .bot, .bot, .bot, .bot, .bot, .bot, .bot, .bot, .bot, .bot, .bot, .bot, .bot, .bot, .bot, .bot, .bot, .bot, .bot, .bot, .bot, .bot, .bot, .bot, .bot, .bot, .bot, .bot, .bot, .bot, .bot, .bot, .bot, .bot, .bot, .bot, .bot, .bot, .bot, .bot, .bot, .bot, .bot, .bot, .bot, .bot, .bot, .bot, .bot, .bot, .bot, .bot, .bot, .bot, .bot, .bot, .bot, .bot, .bot, .bot, .bot, .bot, .bot, .bot, .bot, .bot, .bot, .bot, .bot, .bot, .bot, .bot, .bot, .bot, .bot, .bot, .bot, .bot, .bot, .bot, .bot, .bot, .bot, .bot, .bot, .bot, .bot, .bot, .bot, .bot, .bot, .bot, .bot, .bot, .bot, .bot, .bot, .bot, .bot, .bot, .bot, .bot, .bot, .bot, .bot, .bot, .bot, .bot, .bot, .bot, .bot, .bot, .bot, .bot, .bot, .bot, .bot, .bot, .bot, .bot, .bot, .bot, .bot, .bot, .bot, .bot, .bot, .bot, .bot, .bot, .bot, .bot, .bot, .bot, .bot, .bot, .bot, .bot, .bot, .bot, .bot, .bot, .bot, .bot, .bot, .bot, .bot, .bot, .bot, .bot, .bot, .bot, .bot, .bot, .bot, .bot, .bot, .bot, .bot, .bot, .bot, .bot, .bot, .bot, .bot, .bot], memD (mkM 3 2 kls [])⟩) (le_new (by simp [leSl, frz1, AV.sub, AV.subL, prsA_sub, prsA_msub, strsA_sub, strsA_msub])) ?_
  simp only [memD]
  refine swp_fs (own := []) [false, false, false, false, false, false, false, false, true, false, false, false, false, true, false, false, false, false, true, false, false, false, false, true, false, false, false, false, true, false, false, false, false, true, false, false, false, false, true, false, false, false, false, true, false, false, false, false] ?_
  simp only [wB, binC, cmpC, eqC, asG, asB, asI, St.ev, St.step, setS, killS, AV.kill, AV.killL, Mem.kill, isNP, ptrN, asStr, nt32]
  refine acall_f (k24 [] .nil oL0 (by decide)) ?_
  simp only [wB, binC, cmpC, asB, asI, St.ev, St.step, setS, killS, AV.kill, AV.killL, Mem.kill, memD, AV.sub, keepG, liveI, AV.isQ, List.any_cons, List.any_nil, ke1, kd1]
  refine acall_f (k24 [oL0] ka1 oL2 (by decide)) ?_
  simp only [wB, binC, cmpC, asB, asI, St.ev, St.step, setS, killS, AV.kill, AV.killL, Mem.kill, memD, AV.sub, keepG, liveI, AV.isQ, List.any_cons, List.any_nil, ke2, kd2]
  refine acall_f (k24 [oL0, oL2] ka2 oJ (by decide)) ?_
  simp only [wB, binC, cmpC, asB, asI, St.ev, St.step, setS, killS, AV.kill, AV.killL, Mem.kill, memD, AV.sub, keepG, liveI, AV.isQ, List.any_cons, List.any_nil, ke3, kd3]
  refine acall_f (k24 [oL0, oL2] ka2 oM (by decide)) ?_
  simp only [wB, binC, cmpC, asB, asI, St.ev, St.step, setS, killS, AV.kill, AV.killL, Mem.kill, memD, AV.sub, keepG, liveI, AV.isQ, List.any_cons, List.any_nil, ke4, kd4]
  refine acall_f (k24 [oL0, oL2, oM] ka3 oJ (by decide)) ?_
  simp only [wB, binC, cmpC, asB, asI, St.ev, St.step, setS, killS, AV.kill, AV.killL, Mem.kill, memD, AV.sub, keepG, liveI, AV.isQ, List.any_cons, List.any_nil, ke5, kd5]
  refine acall_f (k24 [oL0, oL2, oM] ka3 oC (by decide)) ?_
  simp only [wB, binC, cmpC, asB, asI, St.ev, St.step, setS, killS, AV.kill, AV.killL, Mem.kill, memD, AV.sub, keepG, liveI, AV.isQ, List.any_cons, List.any_nil, ke6, kd6]
  refine acall_f (k24 [oL0, oL2, oM, oC] ka4 oJ (by decide)) ?_
  simp only [wB, binC, cmpC, asB, asI, St.ev, St.step, setS, killS, AV.kill, AV.killL, Mem.kill, memD, AV.sub, keepG, liveI, AV.isQ, List.any_cons, List.any_nil, ke7, kd7]
  refine acall_f (k45 [oL0, oL2, oM, oC, oJ] ka5) ?_
  simp only [wB, St.ev, St.step, setS, killS, AV.kill, AV.killL, Mem.kill, AV.cells, AV.flat, AV.single, AV.cellular, AV.size, AV.pure, AV.pureL, Value.oneCell', Nat.reduceMul, Nat.reduceLeDiff, Int.reduceMul, memD, AV.sub, keepG, liveI, AV.isQ, List.any_cons, List.any_nil, kst]
  refine ⟨⟨by decide, rfl⟩, ?_⟩
  refine acall_v (s57 [2, 2] [2, 2] (by decide) (by decide)) rfl rfl ?_
  simp only [wB, awp, asB, St.ev, St.step, setS, killS, AV.kill, AV.killL, Mem.kill, Nat.reduceAdd, Nat.reduceEqDiff, Int.reduceAdd]
  refine swp_le (σ' := ⟨[.bot, .p (.g [I n, .s 2 (prsA ls), I lm, .s 1 (strsA l)]) 0, .bot, .bot, .bot, .bot, .bot, .bot, .bot, .bot, .bot, .bot, .bot, .bot, .bot, .bot, .bot, .bot, .bot, .bot, .bot, .bot, .bot, .bot, .bot, .bot, .bot, .bot, .bot, .bot, .bot, .bot, .bot, .bot, .bot, .bot, .bot, .bot, .bot, .bot, .bot, .bot, .bot, .bot, .bot, .bot, .bot, .bot, .bot, .bot, .bot, .bot, .bot, .bot, .bot, .bot, .bot, .bot, .bot, .bot, .bot, .bot, .bot, .bot, .bot, .bot, .bot, .bot, .bot, .bot, .bot, .bot, .bot, .bot, .bot, .bot, .bot, .bot, .bot, .bot, .bot, .bot, .bot, .bot, .bot, .bot, .bot, .bot, .bot, .bot, .bot, .bot, .bot, .bot, .bot, .bot, .bot, .bot, .bot, .bot, .bot, .bot, .bot, .bot, .bot, .bot, .bot, .bot, .bot, .bot, .bot, .bot, .bot, .bot, .bot, .bot, .bot, .bot, .bot, .bot, .bot, .bot, .bot, .bot, .bot, .bot, .bot, .bot, .bot, .bot, .bot, .bot, .bot, .bot, .bot, .bot, .bot, .bot, .bot, .bot, .bot, .bot, .bot, .bot, .bot, .bot, .bot, .bot, .bot, .bot, .bot, .bot, .bot, .bot, .bot, .bot, .bot, .bot, .bot, .bot, .bot, .bot, .bot, .bot, .bot, .bot, .bot, .bot, .bot, .bot, .bot, .bot, .bot, .bot, .bot, .bot, .bot, .bot, .bot, .bot, .bot, .bot, .bot, .bot, .bot, .bot, .bot, .bot, .bot, .bot, .bot, .bot, .bot, .bot, .bot, .bot, .bot, .bot, .bot, .bot, .bot, .bot, .bot, .bot, .bot, .bot, .bot, .bot, .bot, .bot, .bot, .bot, .bot, .bot, .bot, .bot, .bot, .bot, .bot, .bot, .bot, .bot, .bot, .bot, .bot, .bot, .bot, .bot, .bot, .bot, .bot, .bot, .bot, .bot, .bot, .bot, .bot, .bot, .bot, .bot, .bot, .bot, .bot, .bot, .bot, .bot, .bot, .bot, .bot, .bot, .bot, .bot, .bot, .bot, .bot, .bot, .bot, .bot, .bot, .bot, .bot, .bot, .bot, .bot, .bot, .bot, .bot, .bot, .bot, .bot, .bot, .bot, .bot, .bot, .bot, .bot, .bot, .bot, .bot, .bot, .bot, .bot, .bot, .bot, .bot, .bot, .bot, .bot, .bot, .bot, .bot, .bot, .bot, .bot, .bot, .bot, .bot, .bot, .bot, .bot, .bot, .bot, .bot, .bot, .bot, .bot, .bot, .bot, .bot, .bot, .bot, .bot], []⟩) (le_cut (Mx := [some (mkM 3 2 kls [oL0, oL2, oM, oC, oJ]).ob, none, some (mkM 3 2 kls [oL0, oL2, oM, oC, oJ]).od]) (by simp [leSl]) rfl (by simp [AV.freeL, AV.free, prsA_free, strsA_free]) rfl) ?_
  refine awp_sound (own := []) _ _ _ _ _ ?_
  simp only [wB, awp, binC, cmpC, asP, asI, lenA, loadA, St.ev, St.step, setS, killS, AV.kill, AV.killL, Mem.kill, AV.cells, AV.flat, AV.single, Nat.reduceAdd, Nat.reduceEqDiff, Nat.reduceLeDiff, Int.reduceAdd, lenK, prsA_len]
  by_cases h100 : (100 : Int) < ls.length
  · simp only [wB, awp, asB, asN, St.ev, St.step, setS, killS, AV.kill, AV.killL, Mem.kill, Nat.reduceAdd, Nat.reduceEqDiff, Int.reduceAdd, decide_eq_true h100]
    exact aend_frz rfl ⟨rfl, rfl⟩
  simp only [wB, awp, binC, cmpC, asP, asB, asI, lenA, loadA, St.ev, St.step, setS, killS, AV.kill, AV.killL, Mem.kill, AV.cells, AV.flat, AV.single, Nat.reduceAdd, Nat.reduceEqDiff, Nat.reduceLeDiff, Int.reduceAdd, lenK, strsA_len, decide_eq_false h100, strsA_len]
  by_cases h300 : (300 : Int) < l.length
  · simp only [wB, awp, asN, St.ev, St.step, setS, killS, AV.kill, AV.killL, Mem.kill, Nat.reduceAdd, Nat.reduceEqDiff, Int.reduceAdd, decide_eq_true h300]
    exact aend_frz rfl ⟨rfl, rfl⟩
  simp only [wB, awp, asP, loadA, St.ev, St.step, setS, killS, AV.kill, AV.killL, Mem.kill, AV.cells, AV.flat, AV.single, Nat.reduceAdd, Nat.reduceEqDiff, Nat.reduceLeDiff, Int.reduceAdd, decide_eq_false h300]
  by_cases h0 : vN n lm ls = 0
  case neg =>
    have h22 := s22e n lm ls (by omega) h0
    simp only [trapA] at h22
    refine acall_v h22 (by simp [AV.pureL, AV.pure, prsA_pure]) rfl ?_
    simp only [wB, awp, asT, asN, St.ev, St.step, setS, killS, AV.kill, AV.killL, Mem.kill, Nat.reduceAdd, Nat.reduceEqDiff, Int.reduceAdd]
    refine awp_sound (own := []) _ _ _ _ _ ?_
    simp only [wB, awp, binC, cmpC, eqC, asG, asB, asI, asN, St.ev, St.step, setS, killS, AV.kill, AV.killL, Mem.kill, Nat.reduceAdd, Nat.reduceEqDiff, Int.reduceAdd, isNP, ptrN, asStr, nt32, decide_eq_false h0]
    exact aend_frz rfl ⟨rfl, rfl⟩
  have h22 := s22o n lm ls (by omega) h0
  have hT := (vN_ok h0).1
  simp only [trapA] at h22
  refine acall_os h22 (by simp [AV.pureL, AV.pure, prsA_pure]) ?_
  simp only [wB, awp, asT, asN, St.ev, St.step, setS, killS, AV.kill, AV.killL, Mem.kill, Nat.reduceAdd, Nat.reduceEqDiff, Int.reduceAdd, List.drop_zero, AV.sub, AV.subL, List.take_succ_cons, List.take_zero, AV.up, Ob.up, prsA_msub, new_sub]
  refine swp_le (σ' := ⟨[.bot, .p (.g [I n, .s 2 (prsA ls), I lm, .s 1 (strsA l)]) 0, .bot, .q 0 13 0 0, I 0, .bot, .bot, .bot, .bot, .bot, .bot, .bot, .bot, .bot, .bot, .bot, .bot, .bot, .bot, .bot, .bot, .bot, .bot, .bot, .bot, .bot, .bot, .bot, .bot, .bot, .bot, .bot, .bot, .bot, .bot, .bot, .bot, .bot, .bot, .bot, .bot, .bot, .bot, .bot, .bot, .bot, .bot, .bot, .bot, .bot, .bot, .bot, .bot, .bot, .bot, .bot, .bot, .bot, .bot, .bot, .bot, .bot, .bot, .bot, .bot, .bot, .bot, .bot, .bot, .bot, .bot, .bot, .bot, .bot, .bot, .bot, .bot, .bot, .bot, .bot, .bot, .bot, .bot, .bot, .bot, .bot, .bot, .bot, .bot, .bot, .bot, .bot, .bot, .bot, .bot, .bot, .bot, .bot, .bot, .bot, .bot, .bot, .bot, .bot, .bot, .bot, .bot, .bot, .bot, .bot, .bot, .bot, .bot, .bot, .bot, .bot, .bot, .bot, .bot, .bot, .bot, .bot, .bot, .bot, .bot, .bot, .bot, .bot, .bot, .bot, .bot, .bot, .bot, .bot, .bot, .bot, .bot, .bot, .bot, .bot, .bot, .bot, .bot, .bot, .bot, .bot, .bot, .bot, .bot, .bot, .bot, .bot, .bot, .bot, .bot, .bot, .bot, .bot, .bot, .bot, .bot, .bot, .bot, .bot, .bot, .bot, .bot, .bot, .bot, .bot, .bot, .bot, .bot, .bot, .bot, .bot, .bot, .bot, .bot, .bot, .bot, .bot, .bot, .bot, .bot, .bot, .bot, .bot, .bot, .bot, .bot, .bot, .bot, .bot, .bot, .bot, .bot, .bot, .bot, .bot, .bot, .bot, .bot, .bot, .bot, .bot, .bot, .bot, .bot, .bot, .bot, .bot, .bot, .bot, .bot, .bot, .bot, .bot, .bot, .bot, .bot, .bot, .bot, .bot, .bot, .bot, .bot, .bot, .bot, .bot, .bot, .bot, .bot, .bot, .bot, .bot, .bot, .bot, .bot, .bot, .bot, .bot, .bot, .bot, .bot, .bot, .bot, .bot, .bot, .bot, .bot, .bot, .bot, .bot, .bot, .bot, .bot, .bot, .bot, .bot, .bot, .bot, .bot, .bot, .bot, .bot, .bot, .bot, .bot, .bot, .bot, .bot, .bot, .bot, .bot, .bot, .bot, .bot, .bot, .bot, .bot, .bot, .bot, .bot, .bot, .bot, .bot, .bot, .bot, .bot, .bot, .bot, .bot, .bot, .bot, .bot, .bot, .bot, .bot, .bot, .bot, .bot, .bot, .bot, .bot, .bot, .bot, .bot, .bot, .bot, .bot, .bot], memD (mkM n lm ls [])⟩) (le_new (by simp [leSl, frz1, AV.sub, AV.subL, prsA_sub, prsA_msub, strsA_sub, strsA_msub])) ?_
  refine awp_sound (own := []) _ _ _ _ _ ?_
  simp only [wB, awp, binC, cmpC, eqC, asG, asB, asI, asN, St.ev, St.step, setS, killS, AV.kill, AV.killL, Mem.kill, Nat.reduceAdd, Nat.reduceEqDiff, Int.reduceAdd, isNP, ptrN, asStr, nt32, memD]
  refine swp_loop' (fun k : Nat => ⟨[.bot, .p (.g [I n, .s 2 (prsA ls), I lm, .s 1 (strsA l)]) 0, .bot, .q 0 13 0 0, .bot, I k, .bot, .bot, .bot, .bot, .bot, .bot, .bot, .bot, .bot, .bot, .bot, .bot, .bot, .bot, .bot, .bot, .bot, .bot, .bot, .bot, .bot, .bot, .bot, .bot, .bot, .bot, .bot, .bot, .bot, .bot, .bot, .bot, .bot, .bot, .bot, .bot, .bot, .bot, .bot, .bot, .bot, .bot, .bot, .bot, .bot, .bot, .bot, .bot, .bot, .bot, .bot, .bot, .bot, .bot, .bot, .bot, .bot, .bot, .bot, .bot, .bot, .bot, .bot, .bot, .bot, .bot, .bot, .bot, .bot, .bot, .bot, .bot, .bot, .bot, .bot, .bot, .bot, .bot, .bot, .bot, .bot, .bot, .bot, .bot, .bot, .bot, .bot, .bot, .bot, .bot, .bot, .bot, .bot, .bot, .bot, .bot, .bot, .bot, .bot, .bot, .bot, .bot, .bot, .bot, .bot, .bot, .bot, .bot, .bot, .bot, .bot, .bot, .bot, .bot, .bot, .bot, .bot, .bot, .bot, .bot, .bot, .bot, .bot, .bot, .bot, .bot, .bot, .bot, .bot, .bot, .bot, .bot, .bot, .bot, .bot, .bot, .bot, .bot, .bot, .bot, .bot, .bot, .bot, .bot, .bot, .bot, .bot, .bot, .bot, .bot, .bot, .bot, .bot, .bot, .bot, .bot, .bot, .bot, .bot, .bot, .bot, .bot, .bot, .bot, .bot, .bot, .bot, .bot, .bot, .bot, .bot, .bot, .bot, .bot, .bot, .bot, .bot, .bot, .bot, .bot, .bot, .bot, .bot, .bot, .bot, .bot, .bot, .bot, .bot, .bot, .bot, .bot, .bot, .bot, .bot, .bot, .bot, .bot, .bot, .bot, .bot, .bot, .bot, .bot, .bot, .bot, .bot, .bot, .bot, .bot, .bot, .bot, .bot, .bot, .bot, .bot, .bot, .bot, .bot, .bot, .bot, .bot, .bot, .bot, .bot, .bot, .bot, .bot, .bot, .bot, .bot, .bot, .bot, .bot, .bot, .bot, .bot, .bot, .bot, .bot, .bot, .bot, .bot, .bot, .bot, .bot, .bot, .bot, .bot, .bot, .bot, .bot, .bot, .bot, .bot, .bot, .bot, .bot, .bot, .bot, .bot, .bot, .bot, .bot, .bot, .bot, .bot, .bot, .bot, .bot, .bot, .bot, .bot, .bot, .bot, .bot, .bot, .bot, .bot, .bot, .bot, .bot, .bot, .bot, .bot, .bot, .bot, .bot, .bot, .bot, .bot, .bot, .bot, .bot, .bot, .bot, .bot, .bot, .bot, .bot, .bot, .bot, .bot, .bot, .bot, .bot], memD (mkM n lm ls (doL n lm ls (l.take k)))⟩) (fun k => k ≤ l.length ∧ k ≤ 40) (fun k => 40 - k) 0 (le_sl' ?_ (by simp [leSl])) ⟨Nat.zero_le _, Nat.zero_le _⟩ ?_
  · simp [doL, memD]
  rintro k ⟨hk, hk40⟩
  have hA := doL_acc n lm ls (l.take k)
  refine awp_sound (own := [1012, 1014, 1015, 1016, 1017, 1018, 1019, 1021, 1030]) _ _ _ _ _ ?_
  simp only [awp, ACond_true, List.contains_nil, List.contains_cons, beq_self_eq_true, nbeq, decide_false, Bool.or_false, Nat.reduceAdd, Nat.reduceEqDiff, Int.reduceAdd]
  refine swp_to ⟨[.bot, .p (.g [I n, .s 2 (prsA ls), I lm, .s 1 (strsA l)]) 0, .bot, .q 0 13 0 0, .bot, I k, .bot, .bot, .bot, .bot, .bot, .bot, .bot, .bot, .bot, .bot, .bot, .bot, .bot, .bot, .bot, .bot, .bot, .bot, .bot, .bot, .bot, .bot, .bot, .bot, .bot, .bot, .bot, .bot, .bot, .bot, .bot, .bot, .bot, .bot, .bot, .bot, .bot, .bot, .bot, .bot, .bot, .bot, .bot, .bot, .bot, .bot, .bot, .bot, .bot, .bot, .bot, .bot, .bot, .bot, .bot, .bot, .bot, .bot, .bot, .bot, .bot, .bot, .bot, .bot, .bot, .bot, .bot, .bot, .bot, .bot, .bot, .bot, .bot, .bot, .bot, .bot, .bot, .bot, .bot, .bot, .bot, .bot, .bot, .bot, .bot, .bot, .bot, .bot, .bot, .bot, .bot, .bot, .bot, .bot, .bot, .bot, .bot, .bot, .bot, .bot, .bot, .bot, .bot, B (decide (k < l.length ∧ k < 40)), .bot, .bot, .bot, .bot, .bot, .bot, .bot, .bot, .bot, .bot, .bot, .bot, .bot, .bot, .bot, .bot, .bot, .bot, .bot, .bot, .bot, .bot, .bot, .bot, .bot, .bot, .bot, .bot, .bot, .bot, .bot, .bot, .bot, .bot, .bot, .bot, .bot, .bot, .bot, .bot, .bot, .bot, .bot, .bot, .bot, .bot, .bot, .bot, .bot, .bot, .bot, .bot, .bot, .bot, .bot, .bot, .bot, .bot, .bot, .bot, .bot, .bot, .bot, .bot, .bot, .bot, .bot, .bot, .bot, .bot, .bot, .bot, .bot, .bot, .bot, .bot, .bot, .bot, .bot, .bot, .bot, .bot, .bot, .bot, .bot, .bot, .bot, .bot, .bot, .bot, .bot, .bot, .bot, .bot, .bot, .bot, .bot, .bot, .bot, .bot, .bot, .bot, .bot, .bot, .bot, .bot, .bot, .bot, .bot, .bot, .bot, .bot, .bot, .bot, .bot, .bot, .bot, .bot, .bot, .bot, .bot, .bot, .bot, .bot, .bot, .bot, .bot, .bot, .bot, .bot, .bot, .bot, .bot, .bot, .bot, .bot, .bot, .bot, .bot, .bot, .bot, .bot, .bot, .bot, .bot, .bot, .bot, .bot, .bot, .bot, .bot, .bot, .bot, .bot, .bot, .bot, .bot, .bot, .bot, .bot, .bot, .bot, .bot, .bot, .bot, .bot, .bot, .bot, .bot, .bot, .bot, .bot, .bot, .bot, .bot, .bot, .bot, .bot, .bot, .bot, .bot, .bot, .bot, .bot, .bot, .bot, .bot, .bot, .bot, .bot, .bot, .bot, .bot, .bot, .bot, .bot, .bot, .bot, .bot, .bot, .bot, .bot], memD (mkM n lm ls (doL n lm ls (l.take k)))⟩ (awp_sound (own := []) _ _ _ _ _ ?_) ?_
  · simp only [wB, awp, binC, cmpC, asP, asI, lenA, loadA, St.ev, St.step, setS, killS, AV.kill, AV.killL, Mem.kill, AV.cells, AV.flat, AV.single, Nat.reduceAdd, Nat.reduceEqDiff, Nat.reduceLeDiff, Int.reduceAdd, lenK, strsA_len, strsA_len]
    by_cases h : k < l.length
    case neg =>
      simp only [wB, asB, St.ev, St.step, setS, killS, AV.kill, AV.killL, Mem.kill, decide_eq_false (show ¬ (k : Int) < l.length by omega)]
      exact le_sl (by simp [leSl, h])
    by_cases h4 : k < 40
    case neg =>
      simp only [wB, binC, cmpC, asB, asI, St.ev, St.step, setS, killS, AV.kill, AV.killL, Mem.kill, decide_eq_true (show (k : Int) < l.length by omega), decide_eq_false (show ¬ (k : Int) < 40 by omega)]
      exact le_sl (by simp [leSl, h4])
    simp only [wB, binC, cmpC, asB, asI, St.ev, St.step, setS, killS, AV.kill, AV.killL, Mem.kill, decide_eq_true (show (k : Int) < l.length by omega), decide_eq_true (show (k : Int) < 40 by omega)]
    exact le_sl (by simp [leSl, h, h4])
  simp only [w_some, awp, asB, St.ev, List.getD_cons_succ, List.getD_cons_zero]
  have hAd : ∀ {d : List By}, Acc n lm ls d → MSpec Tryz.prog 29 [.q 0 13 0 0] (memD (mkM n lm ls d)) (fun r N => r = B true ∧ N = memD (mkM n lm ls d)) := fun h => m29 n lm ls (by omega) _ h0 h
  by_cases hb : k < l.length ∧ k < 40
  case neg =>
    simp only [awp, ACond_true, ACond_false, List.contains_nil, List.contains_cons, if_true, beq_self_eq_true, nbeq, decide_false, Bool.or_false, Bool.or_true, Nat.reduceAdd, Nat.reduceEqDiff, Int.reduceAdd, decide_eq_false hb]
    refine swp_fs (own := []) [false, true, false] ?_
    simp only [wB, St.ev, St.step, setS, killS, AV.kill, AV.killL, Mem.kill, memD]
    refine acall_f (fG (hAd hA) rfl) ?_
    simp only [wB, awp, asN, St.ev, St.step, setS, killS, AV.kill, AV.killL, Mem.kill, memD, AV.sub, keepG, liveI, AV.isQ, List.any_cons, List.any_nil]
    exact aend_frz rfl ⟨rfl, rfl⟩
  simp only [awp, ACond_true, List.contains_nil, List.contains_cons, beq_self_eq_true, nbeq, decide_false, Bool.or_false, Bool.or_true, Nat.reduceAdd, Nat.reduceEqDiff, Int.reduceAdd, decide_eq_true hb]
  obtain ⟨d, hd⟩ : ∃ d, d = doL n lm ls (l.take k) := ⟨_, rfl⟩
  obtain ⟨d2, hd2⟩ : ∃ d2, d2 = doO n lm ls d l[k] := ⟨_, rfl⟩
  obtain ⟨e, he⟩ : ∃ e, e = erO n lm ls d l[k] := ⟨_, rfl⟩
  have hdt := doL_take (n := n) (lm := lm) (ls := ls) hb.1
  rw [← hd, ← hd2] at hdt
  rw [← hd] at hA ⊢
  have hA2 : Acc n lm ls d2 := hd2 ▸ hA.do l[k]
  have hst := stepO hA l[k]
  rw [← hd2] at hst
  have hno : e ≠ 0 → d2 = d := fun g => by rw [hd2, doO_no (he ▸ g)]
  have h24 := f24 n lm ls hT (by omega) d hA l[k] (hs _ (List.getElem_mem hb.1))
  rw [← he, ← hd2] at h24
  have hm := sml_of hA
  have hm2 := sml_of hA2
  have hI := hA.inv.2
  have hI2 := hA2.inv.2
  have f23 : FSpec Tryz.prog 23 [.q 0 13 0 0] (memD (mkM n lm ls d)) (memD (mkM n lm ls d)) (S (lg 0 d)) (memD (mkM n lm ls d)) := fG (m23 _ hm) rfl
  have f44 : FSpec Tryz.prog 44 [.q 0 13 0 0] (memD (mkM n lm ls d)) (memD (mkM n lm ls d)) (.s 1 (intsA (stO d).place)) (memD (mkM n lm ls d)) := fG (m44 _ hm) rfl
  have f45 : FSpec Tryz.prog 45 [.q 0 13 0 0] (memD (mkM n lm ls d)) (memD (mkM n lm ls d)) (.s 1 (intsA (stO d).heats)) (memD (mkM n lm ls d)) := fG (m45 _ hm) rfl
  have f47 : FSpec Tryz.prog 47 [.q 0 13 0 0] (memD (mkM n lm ls d)) (memD (mkM n lm ls d)) (.s 4 (gtsA (stO d).circ)) (memD (mkM n lm ls d)) := fG (m47 _ hm) rfl
  have f46 : FSpec Tryz.prog 46 [.q 0 13 0 0] (memD (mkM n lm ls d)) (memD (mkM n lm ls d)) (.s 1 (intsA (wrmL lm (stO d).heats))) (memD (mkM n lm ls d)) := fG (m46 _ hm) rfl
  have f54 : FSpec Tryz.prog 54 [.q 0 13 0 0] (memD (mkM n lm ls d)) (memD (mkM n lm ls d)) (.t [I (stO d).moves, I (stO d).cools, I (stO d).done]) (memD (mkM n lm ls d)) := fG (m54 _ hm) rfl
  have f23' : FSpec Tryz.prog 23 [.q 0 13 0 0] (memD (mkM n lm ls d2)) (memD (mkM n lm ls d2)) (S (lg 0 d2)) (memD (mkM n lm ls d2)) := fG (m23 _ hm2) rfl
  have f44' : FSpec Tryz.prog 44 [.q 0 13 0 0] (memD (mkM n lm ls d2)) (memD (mkM n lm ls d2)) (.s 1 (intsA (stO d2).place)) (memD (mkM n lm ls d2)) := fG (m44 _ hm2) rfl
  have f45' : FSpec Tryz.prog 45 [.q 0 13 0 0] (memD (mkM n lm ls d2)) (memD (mkM n lm ls d2)) (.s 1 (intsA (stO d2).heats)) (memD (mkM n lm ls d2)) := fG (m45 _ hm2) rfl
  have f47' : FSpec Tryz.prog 47 [.q 0 13 0 0] (memD (mkM n lm ls d2)) (memD (mkM n lm ls d2)) (.s 4 (gtsA (stO d2).circ)) (memD (mkM n lm ls d2)) := fG (m47 _ hm2) rfl
  have f54' : FSpec Tryz.prog 54 [.q 0 13 0 0] (memD (mkM n lm ls d2)) (memD (mkM n lm ls d2)) (.t [I (stO d2).moves, I (stO d2).cools, I (stO d2).done]) (memD (mkM n lm ls d2)) := fG (m54 _ hm2) rfl
  have f59 : FSpec Tryz.prog 59 [.g [I n, .s 2 (prsA ls), I lm, .s 1 (strsA l)], .q 0 13 0 0] (memD (mkM n lm ls d2)) (memD (mkM n lm ls d2)) (B true) (memD (mkM n lm ls d2)) := by
    have := fT (m59 n lm ls l d2 hA2) [] (by
      have h0 : ∀ q, (deadL (memD (mkM n lm ls d2)) q).contains 0 = false := fun q => not_dead rfl
      simp [AV.freeL, AV.free, prsA_free, strsA_free, -List.contains_eq_mem, h0]) (fun F G => rfl)
    simpa using this
  have hnt : e ≠ 0 → stO d2 = stO d := fun g => by rw [hno g]
  refine swp_fs (own := []) [false, true, false, true, false, true, false, true, false, true, false, false, false, false, false] ?_
  simp only [wB, St.ev, St.step, setS, killS, AV.kill, AV.killL, Mem.kill, memD]
  refine acall_f f23 ?_
  simp only [wB, St.ev, St.step, setS, killS, AV.kill, AV.killL, Mem.kill, memD, AV.sub, keepG, liveI, AV.isQ, List.any_cons, List.any_nil]
  refine acall_f f44 ?_
  simp only [wB, St.ev, St.step, setS, killS, AV.kill, AV.killL, Mem.kill, memD, AV.sub, keepG, liveI, AV.isQ, List.any_cons, List.any_nil]
  refine acall_f f45 ?_
  simp only [wB, St.ev, St.step, setS, killS, AV.kill, AV.killL, Mem.kill, memD, AV.sub, keepG, liveI, AV.isQ, List.any_cons, List.any_nil]
  refine acall_f f47 ?_
  simp only [wB, St.ev, St.step, setS, killS, AV.kill, AV.killL, Mem.kill, memD, AV.sub, keepG, liveI, AV.isQ, List.any_cons, List.any_nil]
  refine acall_f f46 ?_
  simp only [wB, awp, asN, St.ev, St.step, setS, killS, AV.kill, AV.killL, Mem.kill, Nat.reduceAdd, Nat.reduceEqDiff, Int.reduceAdd, memD, AV.sub, keepG, liveI, AV.isQ, List.any_cons, List.any_nil]
  refine swp_fs (own := []) [false, true, false, false, false, false, false, false, false] ?_
  simp only [wB, St.ev, St.step, setS, killS, AV.kill, AV.killL, Mem.kill]
  refine acall_f f54 ?_
  simp only [wB, awp, asT, asN, St.ev, St.step, setS, killS, AV.kill, AV.killL, Mem.kill, Nat.reduceAdd, Nat.reduceEqDiff, Int.reduceAdd, memD, AV.sub, keepG, liveI, AV.isQ, List.any_cons, List.any_nil]
  refine swp_fs (own := []) [false, false, false, false, false, false, true, false] ?_
  simp only [wB, idxC, asP, asS, asI, loadA, St.ev, St.step, setS, killS, AV.kill, AV.killL, Mem.kill, AV.cells, AV.flat, AV.single, Nat.reduceAdd, Nat.reduceEqDiff, Nat.reduceLeDiff, Int.reduceAdd, List.drop_succ_cons, List.drop_zero, List.take_succ_cons, List.take_zero, aget_strs hb.1, Int.toNat_natCast]
  refine ⟨by omega, acall_f h24 ?_⟩
  simp only [wB, awp, asN, St.ev, St.step, setS, killS, AV.kill, AV.killL, Mem.kill, Nat.reduceAdd, Nat.reduceEqDiff, Int.reduceAdd, memD, AV.sub, AV.subL, keepG, liveI, AV.isQ, List.any_cons, List.any_nil]
  refine swp_fs (own := []) [false, true, false, false, false, false, false, false, false] ?_
  simp only [wB, St.ev, St.step, setS, killS, AV.kill, AV.killL, Mem.kill]
  refine acall_f f54' ?_
  simp only [wB, awp, asT, asN, St.ev, St.step, setS, killS, AV.kill, AV.killL, Mem.kill, Nat.reduceAdd, Nat.reduceEqDiff, Int.reduceAdd, memD, AV.sub, AV.subL, keepG, liveI, AV.isQ, List.any_cons, List.any_nil]
  refine swp_fs (own := []) [false, true, false, true, false, false] ?_
  simp only [wB, St.ev, St.step, setS, killS, AV.kill, AV.killL, Mem.kill]
  refine acall_f f44' ?_
  simp only [wB, St.ev, St.step, setS, killS, AV.kill, AV.killL, Mem.kill, memD, AV.sub, AV.subL, keepG, liveI, AV.isQ, List.any_cons, List.any_nil]
  refine acall_f f47' ?_
  simp only [wB, awp, asN, St.ev, St.step, setS, killS, AV.kill, AV.killL, Mem.kill, Nat.reduceAdd, Nat.reduceEqDiff, Int.reduceAdd, memD, AV.sub, AV.subL, keepG, liveI, AV.isQ, List.any_cons, List.any_nil]
  obtain ⟨t, ht⟩ : ∃ t, t = stO d := ⟨_, rfl⟩
  obtain ⟨t2, ht2⟩ : ∃ t2, t2 = stO d2 := ⟨_, rfl⟩
  rw [← ht, ← ht2] at hst hnt
  rw [← ht] at hI ⊢
  rw [← ht2] at hI2 f45' ⊢
  have hp4 := hI.p4
  have hhl := hI.hl
  have hc10 := hI.c10
  have hp42 := hI2.p4
  have hhl2 := hI2.hl
  have hc102 := hI2.c10
  have hl1 := hA.inv.1
  have hl2 := hA2.inv.1
  refine swp_to ⟨[.bot, .p (.g [I n, .s 2 (prsA ls), I lm, .s 1 (strsA l)]) 0, .bot, .q 0 13 0 0, .bot, I k, .bot, .s 1 (intsA t.place), .bot, .s 4 (gtsA t.circ), .s 1 (intsA (wrmL lm t.heats)), I t.moves, I t.cools, I t.done, I t2.moves, I t2.cools, I t2.done, .s 1 (intsA t2.place), .s 4 (gtsA t2.circ), .bot, .bot, .bot, .bot, .bot, .bot, .bot, .bot, .bot, .bot, .bot, .bot, .bot, .bot, .bot, .bot, .bot, .bot, .bot, .bot, .bot, .bot, .bot, .bot, .bot, .bot, .bot, .bot, .bot, .bot, .bot, .bot, .bot, .bot, .bot, .bot, .bot, .bot, .bot, .bot, .bot, .bot, .bot, .bot, .bot, .bot, .bot, .bot, .bot, .bot, .bot, .bot, .bot, .bot, .bot, .bot, .bot, .bot, .bot, .bot, .bot, .bot, .bot, .bot, .bot, .bot, .bot, .bot, .bot, .bot, .bot, .bot, .bot, .bot, .bot, .bot, .bot, .bot, .bot, .bot, .bot, .bot, .bot, .bot, .bot, .bot, .bot, .bot, .bot, .bot, .bot, .bot, .bot, .bot, .bot, .bot, .bot, .bot, .bot, .bot, .bot, .bot, .bot, .bot, .bot, .bot, .bot, .bot, .bot, .bot, .bot, .bot, .bot, .bot, .bot, .bot, .bot, .bot, .bot, .bot, .bot, .bot, .bot, .bot, .bot, .bot, .bot, .bot, .bot, .bot, .bot, .bot, .bot, .bot, .bot, .bot, .bot, .bot, .bot, .bot, .bot, .bot, .bot, .bot, .bot, .bot, .bot, .bot, .bot, .bot, .bot, .bot, .bot, .bot, .bot, .bot, .bot, .bot, .bot, .bot, .bot, .bot, .bot, .bot, .bot, .bot, .bot, B false, .bot, .bot, .bot, .bot, .bot, .bot, .bot, .bot, .bot, .bot, .bot, .bot, .bot, .bot, .bot, .bot, .bot, .bot, .bot, .bot, .bot, .bot, .bot, .bot, .bot, .bot, .bot, .bot, .bot, .bot, .bot, .bot, .bot, .bot, .bot, .bot, .bot, .bot, .bot, .bot, .bot, .bot, .bot, .bot, .bot, .bot, .bot, .bot, .bot, .bot, .bot, .bot, .bot, .bot, .bot, .bot, .bot, .bot, .bot, .bot, .bot, .bot, .bot, .bot, .bot, .bot, .bot, .bot, .bot, .bot, .bot, .bot, .bot, .bot, .bot, .bot, .bot, .bot, .bot, .bot, .bot, .bot, .bot, .bot, .bot, .bot, .bot, .bot, .bot, .bot, .bot, .bot, .bot, .bot, .bot, .bot, .bot, .bot, .bot, .bot, .bot, .bot, .bot, .bot, .bot, .bot, .bot, .bot, .bot, .bot, .bot, .bot, .bot, .bot, .bot, .bot, .bot, .bot, .bot, .bot, .bot, .bot, .bot, .bot, .bot], memD (mkM n lm ls d2)⟩ (swp_fs (own := []) [false, false, false, false, true, false, false, false, false, false, false, false, false, false, false, true, false, false, false, false, false, false, false, false, false, false, false, false, false, false, false, false, false, false, false, false, false, false, false, false, false, false] ?_) ?_
  · simp only [wB, binC, cmpC, asI, St.ev, St.step, setS, killS, AV.kill, AV.killL, Mem.kill]
    by_cases he0 : e = 0
    · simp only [wB, asB, St.ev, St.step, setS, killS, AV.kill, AV.killL, Mem.kill, decide_eq_true he0]
      exact le_sl' rfl (by simp [leSl])
    have et := hnt he0
    have ed := hno he0
    simp only [wB, St.ev, St.step, setS, killS, AV.kill, AV.killL, Mem.kill, decide_eq_false he0]
    refine acall_f f23' ?_
    simp only [wB, binC, eqC, asG, asB, asI, St.ev, St.step, setS, killS, AV.kill, AV.killL, Mem.kill, asStr, strC, memD, AV.sub, AV.subL, keepG, liveI, AV.isQ, List.any_cons, List.any_nil, ed, et]
    refine acall_v (s57 _ _ (by omega) (by omega)) (by simp [AV.pureL, AV.pure, intsA_pure]) rfl ?_
    simp only [wB, asB, St.ev, St.step, setS, killS, AV.kill, AV.killL, Mem.kill]
    rw [ed, et] at f45'
    refine acall_f f45' ?_
    simp only [wB, St.ev, St.step, setS, killS, AV.kill, AV.killL, Mem.kill, memD, AV.sub, AV.subL, keepG, liveI, AV.isQ, List.any_cons, List.any_nil]
    refine acall_v (s57 _ _ (by omega) (by omega)) (by simp [AV.pureL, AV.pure, intsA_pure]) rfl ?_
    simp only [wB, asB, St.ev, St.step, setS, killS, AV.kill, AV.killL, Mem.kill]
    refine acall_v (s58 _ _ (by omega) (by omega)) (by simp [AV.pureL, AV.pure, gtsA_pure]) rfl ?_
    simp only [wB, binC, cmpC, asB, asI, St.ev, St.step, setS, killS, AV.kill, AV.killL, Mem.kill, memD]
    rw [et, ed]
    exact le_sl' rfl (by simp [leSl])
  simp only [wB, awp, asB, St.ev, Nat.reduceAdd, Nat.reduceEqDiff, Int.reduceAdd]
  refine swp_fs (own := []) [false, false, false, false, false, false, false, false, false, false, false, false, false, false, false, false, false, false, false, false, false, false, false, false, false, false, false, false, false, false, false, false, false, false, false, false, false, false, false, false, false, false, false, false, false, true, false, false] ?_
  simp only [wB, binC, arithC, cmpC, asB, asI, St.ev, St.step, setS, killS, AV.kill, AV.killL, Mem.kill, isU, memD, decide_eq_false (show ¬ t2.moves < t.moves from by have := hst.mv; omega), decide_eq_false (show ¬ t2.cools < t.cools from by have := hst.co; omega), decide_eq_false (show ¬ t2.done < t.done from by have := hst.dn; omega)]
  have hIm := hI.mv
  have hIc := hI.co
  have hId := hI.dn
  have hJm := hI2.mv
  have hJc := hI2.co
  have hJd := hI2.dn
  have hsm := hst.sum
  have hsl := hst.len
  refine ⟨by unfold lim; omega, by unfold lim; omega, by unfold lim; omega, by unfold lim; omega, by unfold lim; omega, ?_⟩
  simp only [wB, binC, arithC, cmpC, asB, asI, lenA, St.ev, St.step, setS, killS, AV.kill, AV.killL, Mem.kill, isU, lenK, decide_eq_false (show ¬ t.moves + t.cools + t.done + 1 < t2.moves + t2.cools + t2.done by omega), decide_eq_false (show ¬ (t2.place.length : Int) < t.place.length by omega)]
  refine ⟨by unfold lim; omega, ?_⟩
  simp only [wB, asP, loadA, St.ev, St.step, setS, killS, AV.kill, AV.killL, Mem.kill, AV.cells, AV.flat, AV.single, Nat.reduceAdd, Nat.reduceLeDiff, Int.reduceAdd, List.drop_zero, List.take_succ_cons, List.take_zero, decide_eq_false (show ¬ (t.place.length : Int) + 1 < t2.place.length by omega)]
  refine acall_f f59 ?_
  simp only [wB, awp, asB, asN, St.ev, St.step, setS, killS, AV.kill, AV.killL, Mem.kill, Nat.reduceAdd, Nat.reduceEqDiff, Int.reduceAdd, memD, AV.sub, AV.subL, keepG, liveI, AV.isQ, List.any_cons, List.any_nil]
  refine swp_loop' (fun j : Nat => ⟨[.bot, .p (.g [I n, .s 2 (prsA ls), I lm, .s 1 (strsA l)]) 0, .bot, .q 0 13 0 0, .bot, I k, .bot, .s 1 (intsA t.place), .bot, .s 4 (gtsA t.circ), .s 1 (intsA (wrmL lm t.heats)), I t.moves, .bot, I t.done, I t2.moves, .bot, I t2.done, .s 1 (intsA t2.place), .s 4 (gtsA t2.circ), I j, .bot, .bot, .bot, .bot, .bot, .bot, .bot, .bot, .bot, .bot, .bot, .bot, .bot, .bot, .bot, .bot, .bot, .bot, .bot, .bot, .bot, .bot, .bot, .bot, .bot, .bot, .bot, .bot, .bot, .bot, .bot, .bot, .bot, .bot, .bot, .bot, .bot, .bot, .bot, .bot, .bot, .bot, .bot, .bot, .bot, .bot, .bot, .bot, .bot, .bot, .bot, .bot, .bot, .bot, .bot, .bot, .bot, .bot, .bot, .bot, .bot, .bot, .bot, .bot, .bot, .bot, .bot, .bot, .bot, .bot, .bot, .bot, .bot, .bot, .bot, .bot, .bot, .bot, .bot, .bot, .bot, .bot, .bot, .bot, .bot, .bot, .bot, .bot, .bot, .bot, .bot, .bot, .bot, .bot, .bot, .bot, .bot, .bot, .bot, .bot, .bot, .bot, .bot, .bot, .bot, .bot, .bot, .bot, .bot, .bot, .bot, .bot, .bot, .bot, .bot, .bot, .bot, .bot, .bot, .bot, .bot, .bot, .bot, .bot, .bot, .bot, .bot, .bot, .bot, .bot, .bot, .bot, .bot, .bot, .bot, .bot, .bot, .bot, .bot, .bot, .bot, .bot, .bot, .bot, .bot, .bot, .bot, .bot, .bot, .bot, .bot, .bot, .bot, .bot, .bot, .bot, .bot, .bot, .bot, .bot, .bot, .bot, .bot, .bot, .bot, .bot, .bot, .bot, .bot, .bot, .bot, .bot, .bot, .bot, .bot, .bot, .bot, .bot, .bot, .bot, .bot, .bot, .bot, .bot, .bot, .bot, .bot, .bot, .bot, .bot, .bot, .bot, .bot, .bot, .bot, .bot, .bot, .bot, .bot, .bot, .bot, .bot, .bot, .bot, .bot, .bot, .bot, .bot, .bot, .bot, .bot, .bot, .bot, .bot, .bot, .bot, .bot, .bot, .bot, .bot, .bot, .bot, .bot, .bot, .bot, .bot, .bot, .bot, .bot, .bot, .bot, .bot, .bot, .bot, .bot, .bot, .bot, .bot, .bot, .bot, .bot, .bot, .bot, .bot, .bot, .bot, .bot, .bot, .bot, .bot, .bot, .bot, .bot, .bot, .bot, .bot, .bot, .bot, .bot, .bot, .bot, .bot, .bot, .bot, .bot, .bot, .bot, .bot, .bot, .bot, .bot, .bot, .bot, .bot, .bot, .bot, .bot, .bot, .bot, .bot, .bot, .bot, .bot, .bot, .bot, .bot, .bot, .bot, .bot, .bot, .bot, .bot], memD (mkM n lm ls d2)⟩) (fun j => j ≤ t.place.length) (fun j => t.place.length - j) 0 (le_sl' rfl (by simp [leSl])) (Nat.zero_le _) ?_
  intro j hj
  refine awp_sound (own := []) _ _ _ _ _ ?_
  simp only [wB, awp, binC, cmpC, asB, asI, lenA, St.ev, St.step, setS, killS, AV.kill, AV.killL, Mem.kill, Nat.reduceAdd, Int.reduceAdd, lenK]
  by_cases hjl : j < t.place.length
  case neg =>
    simp only [wB, awp, binC, arithC, cmpC, asI, asN, St.ev, St.step, setS, killS, AV.kill, AV.killL, Mem.kill, Nat.reduceAdd, Nat.reduceEqDiff, Int.reduceAdd, isU, decide_eq_false (show ¬ (j : Int) < t.place.length by omega)]
    by_cases hdd : t.done < t2.done
    case neg =>
      simp only [wB, awp, binC, arithC, cmpC, asB, asI, asN, St.ev, St.step, setS, killS, AV.kill, AV.killL, Mem.kill, Nat.reduceAdd, Nat.reduceEqDiff, Int.reduceAdd, isU, decide_eq_false hdd]
      refine ⟨by unfold lim; omega, k + 1, le_sl' ?_ (by simp [leSl]), ⟨hb.1, by omega⟩, by omega⟩
      simp only [hdt]
    obtain ⟨g, hg, hga, hgb⟩ := hst.gate hdd
    have hgl : t2.circ.length = t.circ.length + 1 := by rw [hg]; simp
    have hg0 : t.circ.length < t2.circ.length := by omega
    have hgt : t2.circ.take t.circ.length = t.circ := by rw [hg]; simp
    have hgg : t2.circ[t.circ.length] = g := by simp only [hg]; simp
    simp only [wB, binC, arithC, cmpC, asI, lenA, St.ev, St.step, setS, killS, AV.kill, AV.killL, Mem.kill, isU, lenK, decide_eq_true hdd, gtsA_len]
    refine ⟨by unfold lim; omega, ?_⟩
    simp only [wB, asS, bndA, lenA, St.ev, St.step, setS, killS, AV.kill, AV.killL, Mem.kill, Int.reduceLE, lenK, decide_eq_true (show (t2.circ.length : Int) = t.circ.length + 1 by omega), gtsA_len, Int.toNat_natCast, gtsA_take, hgt]
    refine ⟨by omega, ?_⟩
    rw [List.drop_zero]
    refine acall_v (s58 _ _ (by omega) (by omega)) (by simp [AV.pureL, AV.pure, gtsA_pure]) rfl ?_
    simp only [wB, idxC, asP, asS, asB, asI, lenA, loadA, St.ev, St.step, setS, killS, AV.kill, AV.killL, Mem.kill, AV.cells, AV.flat, AV.single, Nat.reduceAdd, Nat.reduceEqDiff, Nat.reduceLeDiff, Int.reduceAdd, lenK, gtsA_len, aget_gts hg0, Int.toNat_natCast, hgg]
    have hwl := wrm_len lm t.heats
    have hma : memL (wrmL lm t.heats) g.a = false := Bool.eq_false_iff.2 hga
    have hmb : memL (wrmL lm t.heats) g.b = false := Bool.eq_false_iff.2 hgb
    refine ⟨by omega, acall_v (s61 _ _ (by omega)) (by simp [AV.pureL, AV.pure, intsA_pure]) rfl ?_⟩
    simp only [wB, idxC, asP, asS, asB, asI, lenA, loadA, St.ev, St.step, setS, killS, AV.kill, AV.killL, Mem.kill, AV.cells, AV.flat, AV.single, Nat.reduceAdd, Nat.reduceEqDiff, Nat.reduceLeDiff, Int.reduceAdd, lenK, hma, gtsA_len, aget_gts hg0, Int.toNat_natCast, hgg]
    refine ⟨by omega, acall_v (s61 _ _ (by omega)) (by simp [AV.pureL, AV.pure, intsA_pure]) rfl ?_⟩
    simp only [wB, awp, binC, arithC, cmpC, asB, asI, asN, St.ev, St.step, setS, killS, AV.kill, AV.killL, Mem.kill, Nat.reduceAdd, Nat.reduceEqDiff, Int.reduceAdd, isU, hmb]
    refine ⟨by unfold lim; omega, k + 1, le_sl' ?_ (by simp [leSl]), ⟨hb.1, by omega⟩, by omega⟩
    simp only [hdt]
  have hjl2 : j < t2.place.length := by omega
  simp only [awp, ACond_true, decide_eq_true (show (j : Int) < t.place.length by omega)]
  refine swp_draw (own := []) (.take 0 .plain [] (.take 1 .plain [] (.take 2 .reads [] (.take 3 .reads [] (.take 4 .plain [] (.take 5 .plain [] (.take 6 .reads [] (.take 7 .reads [] (.take 8 .plain [] (.take 9 .plain [] (.take 10 .plain [] (.take 11 .plain [] (.take 12 .plain [] (.take 13 .plain [] (.take 14 .plain [] (.take 15 .plain [] (.take 16 .reads [] (.take 17 .plain [] (.take 18 .plain [] (.take 19 .reads [] (.take 20 .reads [] (.take 21 .plain [] (.take 22 .plain [] (.take 23 .reads [] (.take 24 .reads [] (.alt 25 (.take 26 .plain [] (.take 27 .plain [] (.take 28 .plain [] (.done)))) (.nil))))))))))))))))))))))))))) [⟨242, 131072, 0, 0, true⟩, ⟨243, 524288, 0, 0, true⟩, ⟨244, 10601082388670305977499785004457511094964903381253713748729637207755718656, 3, 0, true⟩, ⟨245, 14134776518227074636666380005943348126619871175004951664972849610340958208, 4, 0, true⟩, ⟨246, 128, 0, 0, true⟩, ⟨247, 524288, 0, 0, true⟩, ⟨248, 169617318218724895639996560071320177519438454100059419979674195324091498496, 48, 0, true⟩, ⟨249, 226156424291633194186662080095093570025917938800079226639565593765455331328, 64, 0, true⟩, ⟨250, 480582401619720537646656920202073836305075619950168356609076886751592579072, 136, 0, true⟩, ⟨251, 904625697166532776746648320380374280103671755200316906558262375061821325312, 256, 0, true⟩, ⟨252, 1809251394333065553493296640760748560207343510400633813116524750123642667008, 512, 0, true⟩, ⟨253, 1809251394333065553493296640760748560207343510400633813116524750123642652672, 512, 0, true⟩, ⟨254, 9046256971665327767466483203803742801036717552003169065582623750618213253120, 2560, 0, true⟩, ⟨255, 19901765337663721088426263048368234162280778614406971944281772251360069156864, 5632, 0, true⟩, ⟨256, 30757273703662114409386042892932725523524839676810774822980920752101925060608, 8704, 0, true⟩, ⟨257, 57896044618658097711785492504343953926634992332820282019728792003956564819970, 16384, 0, true⟩, ⟨258, 173688133855974293135356477513031861779904976998460846059186376011869694459904, 49152, 0, true⟩, ⟨259, 57896044618658097711785492504343953926634992332820282019728792003956564951040, 16384, 0, true⟩, ⟨260, 57896044618658097711785492504343953926634992332820282019728792003956565344256, 16384, 0, true⟩, ⟨261, 1447401115466452442794637312608598848165874808320507050493219800098914120499200, 409600, 0, true⟩, ⟨262, 1910569472415717224488921252643350479578954746983069306651050136130566639058944, 540672, 0, true⟩, ⟨263, 57896044618658097711785492504343953926634992332820282019728792003956564820096, 16384, 0, true⟩, ⟨264, 57896044618658097711785492504343953926634992332820282019728792003956565344256, 16384, 0, true⟩, ⟨265, 22289977178183367619037414614172422261754472048135808577595584921523277455687680, 6307840, 0, true⟩, ⟨266, 29700670889371604126145957654728448364363751066736804676120870298029717752643584, 8404992, 0, true⟩, ⟨267, 63280376768193300798981543307247941641812046619772568247563569660324525348225024, 17907712, 0, false⟩, ⟨268, 118628995423630442211448474141400761595675099289948757858424294816107001316114432, 33570816, 0, true⟩, ⟨269, 237201904054036559390738656086937939985983770931075096068641977364960169710059520, 67125760, 0, true⟩, ⟨270, 474286206767441469520500247892226431315554064533974150939431380621162302647828480, 134218240, 0, true⟩] mo (by kernel_rfl) ?_
  simp only [wB, binC, idxC, cmpC, asP, asS, asI, loadA, St.ev, setS, AV.cells, AV.flat, AV.single, ASch, St.put, Md.mem, Md.need, aget_ints hjl, aget_ints hjl2, Int.toNat_natCast]
  refine ⟨by omega, by omega, ?_⟩
  have hnx : lim ((j : Int) + 1) := by unfold lim; omega
  by_cases hx : t2.place[j] = t.place[j]
  case neg =>
    have hat := hst.at' j hjl (by rw [List.getD_eq_getElem?_getD, List.getD_eq_getElem?_getD, List.getElem?_eq_getElem hjl, List.getElem?_eq_getElem hjl2]; exact hx)
    rw [List.getD_eq_getElem?_getD, List.getD_eq_getElem?_getD, List.getElem?_eq_getElem hjl, List.getElem?_eq_getElem hjl2] at hat
    have hlk := lkd_of hat.2
    simp only [Option.getD_some] at hlk
    simp only [wB, binC, arithC, cmpC, asI, St.ev, setS, ASch, St.put, Md.mem, Md.need, isU, decide_eq_false hx]
    refine ⟨by unfold lim; omega, ?_⟩
    simp only [wB, idxC, asP, asS, asI, loadA, St.ev, setS, AV.cells, AV.flat, AV.single, Nat.reduceAdd, Nat.reduceEqDiff, Nat.reduceLeDiff, Int.reduceAdd, ASch, St.put, Md.mem, Md.need, decide_eq_true hat.1, aget_ints hjl, aget_ints hjl2, Int.toNat_natCast]
    refine ⟨by omega, by omega, acall_v (s60 n ls _ _ (by omega)) (by simp [AV.pureL, AV.pure, prsA_pure]) rfl ?_⟩
    simp only [wB, awp, binC, arithC, cmpC, asB, asI, asN, St.ev, St.step, setS, killS, AV.kill, AV.killL, Mem.kill, Nat.reduceAdd, Int.reduceAdd, ASch, St.put, Md.mem, Md.need, isU, hlk]
    exact ⟨hnx, j + 1, le_sl' rfl (by simp [leSl]), hjl, by omega⟩
  simp only [wB, awp, binC, arithC, cmpC, asB, asI, asN, St.ev, St.step, setS, killS, AV.kill, AV.killL, Mem.kill, Nat.reduceAdd, Int.reduceAdd, ASch, St.put, Md.mem, Md.need, isU, decide_eq_true hx]
  exact ⟨hnx, j + 1, le_sl' rfl (by simp [leSl]), hjl, by omega⟩
end Go.Proofs.YtndniceeibflcaaGreatDoor

namespace Go.Proofs.YtndniceeibflcaaGreatDoor
open Aw Go.ChangeShapes Go.WideShapes Go.ChangeAt Go.RowKit Go.Deep Go.Joins Go.Stop
set_option maxRecDepth 100000
section
variable {H : Type} {enc : TypeId × Value → H} {w : World}

theorem tc88 : Tryz.prog.cellsOf 88 = 4 := by kernel_rfl
theorem tc27 : Tryz.prog.cellsOf 27 = 1 := by kernel_rfl
theorem rr88 : Tryz.prog.readableRec 88 = true := by kernel_rfl
theorem lt88 : 88 < Tryz.prog.types.size := of_decide_eq_true (by kernel_rfl)
theorem Tryz.st88 : Tryz.prog.wantsStandIn 88 = false := by kernel_rfl
theorem sa_strs0 {v : Value} {b0 : Nat} {sp : Nat → Bool} {hd : Bool} {fuel : Nat} {x : DataW H × List MemPlace} (hf : DataW.trod enc Tryz.prog w b0 sp hd fuel 27 [v] = some x) : ∃ l : List (List UInt8), RV w noA noHv (.s 1 (l.map S)) v ∧ ∀ o ∈ l, o.length ≤ 9223372036854775807 := by
  rcases open_strings Tryz.underlying27 Tryz.underlying9 tc9 hf with ⟨h1, _⟩ | ⟨a, len', cap', ss, h1, _, hl, hm, hz, _, hcell, hbound⟩
  · injection h1 with h1
    refine ⟨[], ?_, by simp⟩
    rw [h1]
    simp only [RV, R]
    exact ⟨none, 0, [], rfl, Nat.le_refl _, Nat.zero_le _, by simp, by simp [RL], fun h => absurd rfl h⟩
  · injection h1 with h1
    rw [h1]
    have hzl : len' ≤ ss.length := by rw [hz]; split <;> omega
    refine ⟨(ss.take len').map fun s => s.data.toList, s_of_cells (k := 1) (us := ((ss.take len').map fun s => s.data.toList).map fun l => Value.string ⟨l.toArray⟩) (by simp; omega) hl hm (by intro y hy; simp only [List.mem_map] at hy; obtain ⟨q, _, rfl⟩ := hy; rfl) (rl_strs _) (by decide) fun j u hu => ?_, fun o ho => ?_⟩
    · simp only [List.getElem?_map, Option.map_eq_some_iff] at hu
      obtain ⟨l, ⟨z, hz1, rfl⟩, rfl⟩ := hu
      have hj : j < (ss.take len').length := (List.getElem?_eq_some_iff.1 hz1).1
      simp at hj
      have := hcell j (by omega)
      rw [this]
      congr 2
      have e : (ss.take len')[j]? = ss[j]? := by rw [List.getElem?_take, if_pos (by omega)]
      rw [e] at hz1
      rw [List.getD_eq_getElem?_getD, hz1]
      rfl
    · simp only [List.mem_map] at ho
      obtain ⟨s, hs, rfl⟩ := ho
      have := hbound s (List.mem_of_mem_take hs)
      have e : s.size = s.data.size := rfl
      unfold maxLen at this
      simp only [Array.length_toList]
      omega
theorem sa_rig {v : Value} {r : Reach} {b1 b0 : Nat} {sp : Nat → Bool} {hd : Bool} {d : DataW H} {p : List MemPlace} (hv : Value.okWide Tryz.prog w r b1 88 v) (h : DataW.Trod enc Tryz.prog w b0 sp hd 88 v d p) : ∃ n ls lm, ∃ l : List (List UInt8), RV w noA noHv (rigA n ls lm l) v ∧ ∀ o ∈ l, o.length ≤ 9223372036854775807 := by
  obtain ⟨cs, rfl, hsz⟩ := okWide_struct Tryz.underlying88 hv
  obtain ⟨fuel, hf⟩ := h
  obtain ⟨y0, y1, y2, m, _, hl, t0, t1, t2⟩ := trod_struct3 Tryz.underlying88 hf
  have hcs : cs.size = 4 := hsz.trans tc88
  have t0 : DataW.trod enc Tryz.prog w b0 sp hd m 24 ((cs.toList.drop 0).take (Tryz.prog.cellsOf 24)) = some y0 := by simpa [Value.cells] using t0
  have t1 : DataW.trod enc Tryz.prog w b0 sp hd m 3 ((cs.toList.drop 2).take (Tryz.prog.cellsOf 3)) = some y1 := by simpa [Value.cells] using t1
  have t2 : DataW.trod enc Tryz.prog w b0 sp hd m 27 ((cs.toList.drop 3).take (Tryz.prog.cellsOf 27)) = some y2 := by simpa [Value.cells] using t2
  rw [tc24] at t0
  rw [tc3] at t1
  rw [tc27] at t2
  match hcl : cs.toList, (show cs.toList.length = 4 by simpa using hcs) with
  | [c0, c1, c2, c3], _ =>
    rw [hcl] at t0 t1 t2
    simp only [List.drop_zero, List.take_succ_cons, List.take_zero, List.drop_succ_cons] at t0 t1 t2
    obtain ⟨z0, z1, m', _, _, s0, s1⟩ := trod_struct2 Tryz.underlying24 t0
    have s0 : DataW.trod enc Tryz.prog w b0 sp hd m' 3 [c0] = some z0 := by simpa [tc3] using s0
    have s1 : DataW.trod enc Tryz.prog w b0 sp hd m' 22 [c1] = some z1 := by simpa [tc22] using s1
    obtain ⟨n0, e0, _, _⟩ := DataW.trod_int Tryz.underlying3 s0
    obtain ⟨n2, e2, _, _⟩ := DataW.trod_int Tryz.underlying3 t1
    simp at e0 e2
    subst e0
    subst e2
    obtain ⟨ls, hls⟩ := sa_prs Tryz.underlying22 Tryz.underlying79 tc79 rfl rfl rfl rfl rfl s1
    obtain ⟨l, hlo, hlb⟩ := sa_strs0 t2
    refine ⟨n0, ls, n2, l, ?_, hlb⟩
    have : cs = #[.int .i64 n0, c1, .int .i64 n2, c3] := by rw [← Array.toList_inj, hcl]
    subst this
    simp only [rigA, strsA, RV, RL, R]
    simp only [RV] at hls hlo
    exact ⟨_, rfl, [.int .i64 n0], [c1, .int .i64 n2, c3], rfl, ⟨rfl, rfl⟩, [c1], [.int .i64 n2, c3], rfl, hls, [.int .i64 n2], [c3], rfl, ⟨rfl, rfl⟩, [c3], [], rfl, hlo, rfl⟩
end
end Go.Proofs.YtndniceeibflcaaGreatDoor

namespace Go.Proofs.YtndniceeibflcaaGreatDoor
open Aw Go.ChangeShapes Go.WideShapes Go.ChangeAt Go.RowKit Go.Deep Go.Joins

set_option maxRecDepth 100000 in
theorem topMachine_lifted (os : Os) (started : os.Started) (H : Type) (enc : TypeId × Value → H) :
    ReturnsInHanded {} Tryz.checked os 18 .any (fun w args => (Rows.topMachineSpec.pre enc Tryz.prog Tryz.f18 [] false w args ∧ laidMetH Tryz.prog Rows.topMachineRow.laid w) ∧ sizedMet enc Tryz.prog Tryz.f18 (OpenSpec.ofChange Rows.topMachineSpec) false w args)
      (Rows.topMachineSpec.post enc Tryz.prog Tryz.f18 false true false false) := by
  refine returns_laid (C := Tryz.checked) (X := fun w _ => laidMetH Tryz.prog Rows.topMachineRow.laid w) (fun _ _ _ hh h => h.of_heap hh) Tryz.own started (by kernel_rfl) Tryz.func18
    (ChangeSpec.witness_at (enc := enc) (C := Tryz.checked) (os := os) (X := fun w _ => laidMetH Tryz.prog Rows.topMachineRow.laid w) false (laidWorld os) #[.agg #[.int .i64 0, .slice none 0 0, .int .i64 0, .slice none 0 0]] 8 rfl (by kernel_rfl) (by kernel_rfl) (by kernel_rfl) (by kernel_rfl) (by kernel_rfl) (laidWorld_met os _)) ?_
  intro W base args ds gs before hval0 hW hsz hL hsh
  have hval : ∀ (j : Nat) t v, Tryz.f18.params[j]? = some t → args[j]? = some v → Value.okWide Tryz.prog W .any base t v := hval0
  have hG : GOk W := gok_of hL hsh
  have hW' := hW
  obtain ⟨p, q, hA0, hV, rfl, hfz, hnd⟩ := hW
  have hA : DataW.TrodAll enc Tryz.prog W 0 (fun _ => true) true Tryz.f18.params.toList args.toList ds p := hA0
  rw [Tryz.params18] at hA hval hsz
  obtain ⟨v0, d0, rfl, rfl, h0⟩ := trodAll_one hA
  obtain ⟨rfl, rfl⟩ := trodVars_none hV
  obtain ⟨n0, ls0, lm0, l0, r0, b0⟩ := sa_rig (hval 0 88 v0 rfl rfl) h0
  clear hA0 hval0
  simp only [List.append_nil] at hW'
  have hlt : ∀ x ∈ p, x.block < W.heap.size := fun x hx => hW'.lt x (by simpa using hx)
  refine (calls_true (s18 n0 lm0 ls0 l0 b0) (vs := [v0]) (by simp only [RVL]; exact ⟨_, _, rfl, r0, rfl⟩) hG).mono fun e W' ⟨he, hb⟩ => ?_
  subst he
  refine ⟨_, rfl, law_shut hW' hb rfl (fun _ _ _ => trodAll_mk1 (shut_bool Tryz.underlying4 true)) (fun sp hsp => ?_) rfl (ok_one (by kernel_rfl) rfl (okWide_bool_mk Tryz.underlying4 true))⟩
  exact trodAll_mk1 (arg_stays Tryz.laidOut rr88 lt88 h0 hb (fun x hx => hlt x (by simp [hx])) (sp := sp) (fun x hx => hsp x (by simp [hx])))

theorem topMachine_func : Tryz.prog.funcNamed "quadrupole/quadrupoletop.TopMachine" = some 18 := by kernel_rfl
theorem topMachine_k10 : (Rows.topMachineRow.inPlace == Tryz.prog.inPlace 18) = true := by kernel_rfl
theorem topMachine_k11 : (Rows.topMachineRow.unfollowed == Tryz.prog.unfollowed 18) = true := by kernel_rfl
theorem topMachine_k12 : (Rows.topMachineRow.recurses == Tryz.prog.recurses 18) = true := by kernel_rfl
theorem topMachine_k13 : (Rows.topMachineRow.named == Tryz.prog.varsNamed 18) = true := by kernel_rfl
theorem topMachine_closed : joinedFacts Tryz.prog 18 Tryz.f18 Rows.topMachineSpec Rows.topMachineRow = true :=
  joined_of (by kernel_rfl) (by kernel_rfl) (by kernel_rfl) rfl rfl topMachine_k10 topMachine_k11 topMachine_k12 topMachine_k13 (by kernel_rfl) Tryz.keysE rfl Tryz.lifts Tryz.made (by kernel_rfl)
theorem topMachine_goes : false = Rows.topMachineRow.goesBy Tryz.prog := by kernel_rfl
theorem topMachine_row : Rows.TopMachineSaid :=
  OpenClaim.holds_of_wide 18 Tryz.f18 rfl rfl rfl rfl rfl rfl rfl ⟨rfl, rfl, rfl, rfl, rfl⟩ rfl rfl rfl rfl rfl topMachine_func Tryz.func18 topMachine_closed
    (of_decide_eq_true (by kernel_rfl)) (by unfold Func.isWrapper; rw [if_neg (of_decide_eq_false (by kernel_rfl))]; exact ⟨rfl, rfl⟩)
    (fun os started H enc _ => topMachine_lifted os started H enc)

theorem topMachine_holds : Rows.TopMachineCardSaid :=
  Claim7.holds_tied_plain_at .later [] [.data, .data, .data, .data, .handle, .sentinel, .sentinel, .pinned] true (true, "aa03d57e40d7f46a321b7a338959e31570b187a828c7cad4885241d6f19c00d7") true
    topMachine_row (fun _ h => by cases h) (by kernel_rfl) (fun _ h => by cases h) topMachine_row_tie rfl ⟨rfl, rfl⟩ Tryz.mainE rfl
    (fun f fn hf hfn => by
      obtain rfl : f = 18 := Option.some.inj (topMachine_func.symm.trans hf) |>.symm
      obtain rfl : fn = Tryz.f18 := (Option.some.inj (Tryz.func18.symm.trans hfn)).symm
      refine ⟨Tryz.looksE, fun j t ht => ?_⟩
      rw [Tryz.params18] at ht
      have h3 := Array.mem_of_getElem? ht
      simp only [List.mem_toArray, List.mem_cons, List.not_mem_nil, or_false] at h3
      rcases h3 with rfl
      · exact Tryz.st88)
    topMachine_goes
end Go.Proofs.YtndniceeibflcaaGreatDoor
