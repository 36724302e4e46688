/-
  The law MachineLeans: for every input, with the listed variables as the program's text lays them, it answers true, and each argument reads as it did.
-/
import Derived.Test.YtndniceeibflcaaGreatDoorProg
import Derived.WalkKit
import Derived.Lib.ConvBytes
import Derived.LaidEql
import Derived.Lib.ItoaNum
import Derived.Lib.LaidTab
import Derived.KernelRfl
import GoSem.Claims
import GoSem.ClaimJoined
import Derived.Orders
import Derived.Laws.StructEq
import Derived.Maps.Keyed
import Derived.Lib.Strings
import Derived.Maps.AppendAt
import Derived.Laws.Concat
import Derived.MapKept
import Derived.Laws.MakeOwn
import Derived.Scope
import Derived.Laws.BitsLemmas
import Derived.Maps.RangeRun
import Derived.StillTail
import Derived.OrdersIn
import Derived.TacticsIn
import Derived.RangeFuncRecord
import Derived.RangeFuncCalls
import Derived.RangeFuncSeq
import Derived.Lib.Split
import Derived.Lib.AtoiAll
import Derived.Shelf.LaysM
import Derived.Shelf.LaysC
import Derived.Shelf.Strconv.Itoa3
import Derived.Shelf.Strconv.AtoiAll
import Derived.Shelf.Strings.Search3
import Derived.Shelf.Strings.Cut
import Derived.Shelf.Strings.Prefix
import Derived.Shelf.Strings.Split
import Derived.Lib.AppendIntMem
import Derived.Stop.Asserts
import Derived.RowKitTokens
import Derived.Conc.MuLone
import Derived.Test.YtndniceeibflcaaGreatDoorRows
import Derived.Test.YtndniceeibflcaaGreatDoorChecked
import Derived.ChangeSame
import Derived.ChangeVars
import Derived.JoinedOf
import Derived.ProofKit
import Derived.RowKit
import Derived.LaidLaws
import Derived.LaidHandle
import Derived.LaidMore
import Derived.Stop.Joined
import Derived.Stop.LaidErr
import Derived.HandedShaped
import Derived.Shelf.Vars
import Derived.Deep.Slices
import Derived.Deep.Strs
import Derived.Deep.Fields
import Derived.Lib.SmallJoins
import Derived.SliceStrings
import Derived.ChangeMaps5
import Derived.Shelf.RegionOpenPlain
import Derived.Deep.LoopGhost
import Derived.Deep.RegionLaw
import Derived.Lib.Walk
import Derived.Sort.WalkB12
import Derived.Lib.SliceRun
import Derived.Lib.SlicesDelete
import Derived.Test.YtndniceeibflcaaGreatDoorTie
import Derived.Test.YtndniceeibflcaaGreatDoorCards
import Derived.SevenTiedAt
import Derived.Test.YtndniceeibflcaaGreatDoorLaa
import Derived.Test.YtndniceeibflcaaGreatDoorLac
import Derived.Test.YtndniceeibflcaaGreatDoorLad
import Derived.Test.YtndniceeibflcaaGreatDoorLae
import Derived.Test.YtndniceeibflcaaGreatDoorLag
import Derived.Test.YtndniceeibflcaaGreatDoorLaf
import Derived.Test.YtndniceeibflcaaGreatDoorLah
import Derived.Test.YtndniceeibflcaaGreatDoorLai
import Derived.Test.YtndniceeibflcaaGreatDoorLaj
import Derived.Test.YtndniceeibflcaaGreatDoorLal
import Derived.Test.YtndniceeibflcaaGreatDoorLam
import Derived.Test.YtndniceeibflcaaGreatDoorLan
set_option linter.unusedSimpArgs false
set_option linter.unusedVariables false
namespace Go.Proofs.YtndniceeibflcaaGreatDoor
namespace Aw
end Aw
namespace Mp
end Mp
end Go.Proofs.YtndniceeibflcaaGreatDoor
namespace Go.Proofs.YtndniceeibflcaaGreatDoor
open Aw Mp Go.RowKit
set_option linter.unusedSimpArgs false
set_option maxRecDepth 8000

set_option maxHeartbeats 4000000 in
theorem s13 (n lm : Int) (ls : List (Int × Int)) (l : List By) (hs : ∀ o ∈ l, o.length ≤ 9223372036854775807) : ASpec Tryz.prog 13 [labA n ls lm, .s 1 (strsA l)] (fun r Ms => r = B true ∧ Ms = []) := by
  refine aspec_of (own := [5, 1003, 1004, 1007, 1011, 1024, 1025]) Tryz.func13 rfl ok13 ?_
  simp only [wB, awp, asP, asN, loadA, St.ev, St.step, setS, killS, AV.kill, AV.killL, Mem.kill, AV.cells, AV.flat, AV.single, AV.cellular, AV.pure, AV.pureL, Nat.reduceAdd, Nat.reduceEqDiff, Nat.reduceSub, Nat.reduceLeDiff, Int.reduceAdd, Int.reduceSub, Tryz.ntmps13, labA]
  have h20 := s20 n lm ls
  simp only [labA] at h20
  refine acall_v h20 (by simp [AV.pureL, AV.pure, prsA_pure]) rfl ?_
  by_cases h60 : 60 < ls.length
  · simp only [wB, awp, asB, St.ev, St.step, setS, killS, AV.kill, AV.killL, Mem.kill, Nat.reduceAdd, Nat.reduceEqDiff, Int.reduceAdd, decide_eq_true h60]
    refine acall_v s31 rfl rfl ?_
    simp only [wB, awp, asN, St.ev, St.step, setS, killS, AV.kill, AV.killL, Mem.kill, Nat.reduceEqDiff]
    exact aend_frz rfl ⟨rfl, rfl⟩
  simp only [wB, St.ev, St.step, setS, killS, AV.kill, AV.killL, Mem.kill, decide_eq_false h60]
  refine acall_v (s21 l) (by simp [AV.pureL, AV.pure, strsA_pure]) rfl ?_
  by_cases h150 : 150 < l.length
  · simp only [wB, awp, asB, St.ev, St.step, setS, killS, AV.kill, AV.killL, Mem.kill, Nat.reduceAdd, Nat.reduceEqDiff, Int.reduceAdd, decide_eq_true h150]
    refine acall_v s31 rfl rfl ?_
    simp only [wB, awp, asN, St.ev, St.step, setS, killS, AV.kill, AV.killL, Mem.kill, Nat.reduceEqDiff]
    exact aend_frz rfl ⟨rfl, rfl⟩
  simp only [wB, awp, asB, St.ev, St.step, setS, killS, AV.kill, AV.killL, Mem.kill, decide_eq_false h150]
  have h51 := s51 n ls (by omega)
  simp only [trapA] at h51
  refine swp_to ⟨[.bot, .s 1 (strsA l), .p (.g [I n, .s 2 (prsA ls), I lm]) 0, .bot, .bot, .q 1 3 0 0, .bot, .bot, .bot, .bot, .bot, .bot, .bot, .bot, .bot, .bot, .bot, .bot, .bot, .bot, .bot, .bot, .bot, .bot, .bot, .bot, .bot, .bot, .bot, .bot, .bot, .bot, .bot, .bot, .bot, .bot, .bot, .bot, .bot, .bot, .bot, .bot, .bot, .bot, .bot, .bot, .bot, .bot, .bot, .bot, .bot, .bot, .bot, .bot, .bot, .bot, .bot, .bot, .bot, .bot, .bot, .bot, .bot, .bot, .bot, .bot, .bot, .bot, .bot, .bot, .bot, .bot, .bot, .bot, .bot, .bot, .bot, .bot, .bot, .bot, .bot, .bot, .bot, .bot, .bot, .bot, .bot, .bot, .bot, .bot, .bot, .bot, .bot, .bot, .bot, .bot, .bot, .bot, .bot, .bot, .bot, .bot, .bot, .bot, .bot, .bot, .bot, .bot, .bot, .bot, .bot, .bot, .bot, .bot, .bot], [some ⟨none, 79, 2, prsA ls⟩, some ⟨none, 26, 3, [.g [I n, .o 0, I lm]]⟩, none, none, none]⟩ (swp_draw (own := [5]) (.take 0 .plain [] (.take 1 .reads [] (.take 3 .plain [] (.take 4 .reads [] (.alt 2 (.take 5 .plain [] (.alt 6 (.alt 7 (.done) (.nil)) (.nil))) (.alt 6 (.alt 2 (.take 5 .plain [] (.alt 7 (.done) (.nil))) (.nil)) (.nil))))))) [⟨23, 4, 0, 0, true⟩, ⟨24, 4194304, 1, 0, true⟩, ⟨25, 8388608, 2, 0, false⟩, ⟨26, 4, 0, 0, true⟩, ⟨27, 33554432, 8, 0, true⟩, ⟨28, 83886080, 20, 0, true⟩, ⟨6, 0, 0, 0, false⟩, ⟨0, 134217760, 127, 1, false⟩] mo (by kernel_rfl) ?_) ?_
  · simp only [wB, asP, loadA, mkA, Aw.newRow, St.ev, St.step, setS, killS, AV.kill, AV.killL, Mem.kill, AV.cells, AV.flat, AV.single, Nat.reduceAdd, Nat.reduceEqDiff, Nat.reduceLeDiff, Int.reduceAdd, ASch, St.put, Md.mem, Md.need]
    refine ⟨acall_os h51 (by simp [AV.pureL, AV.pure, prsA_pure]) ?_, acall_os h51 (by simp [AV.pureL, AV.pure, prsA_pure]) ?_⟩
    · simp only [wB, asQ, obA, storeA, fillA, putsA, mkA, Aw.newRow, St.ev, St.step, setS, killS, AV.kill, AV.killL, Mem.kill, AV.cells, AV.flat, AV.single, AV.cellular, Value.oneCell', Nat.reduceAdd, Nat.reduceEqDiff, Nat.reduceLeDiff, Int.reduceAdd, ASch, St.put, Md.mem, Md.need, AV.up, Ob.up, AV.sub, AV.subL, prsA_msub]
      exact Le.trans (le_pad 3) (le_sl (by simp [leSl]))
    · simp only [wB, asQ, obA, storeA, fillA, putsA, St.ev, St.step, setS, killS, AV.kill, AV.killL, Mem.kill, AV.cells, AV.flat, AV.single, AV.cellular, Value.oneCell', Nat.reduceAdd, Nat.reduceLeDiff, Int.reduceAdd, ASch, St.put, Md.mem, Md.need, AV.up, Ob.up, AV.sub, AV.subL, prsA_msub]
      refine Le.trans (le_rn (M' := [some ⟨none, 79, 2, prsA ls⟩, some ⟨none, 26, 3, [.g [I n, .o 0, I lm]]⟩]) [1, 0] (by decide) ?_ (by simp [leSl, AV.sub, AV.subL, reF, reG, List.idxOf?, List.findIdx?, List.findIdx?.go])) (le_pad 3)
      simp [reM, reF, reG, AV.sub, AV.subL, prsA_sub, List.idxOf?, List.findIdx?, List.findIdx?.go]
  simp only [awp, ACond_true, List.contains_nil, List.contains_cons, beq_self_eq_true, nbeq, decide_false, Bool.or_false, Bool.or_true, Nat.reduceAdd, Nat.reduceEqDiff, Int.reduceAdd]
  by_cases h0 : vN n lm ls = 0
  case neg =>
    have h43 := s43n n lm ls (by omega) h0 l
    simp only [labA] at h43
    refine awp_sound (own := []) _ _ _ _ _ ?_
    simp only [wB, awp, asP, asQ, obA, loadA, St.ev, St.step, setS, killS, AV.kill, AV.killL, Mem.kill, AV.cells, AV.flat, AV.single, Nat.reduceAdd, Nat.reduceLeDiff, Int.reduceAdd]
    refine acall_ln 0 h43 ?_ rfl rfl ?_
    · simp [frzN, frz, AV.sub, AV.subL, prsA_pure]
    simp only [wB, awp, binC, eqC, asG, asB, asI, asN, St.ev, St.step, setS, killS, AV.kill, AV.killL, Mem.kill, Nat.reduceAdd, Nat.reduceEqDiff, Int.reduceAdd, isNP, ptrN, asStr, nt32]
    refine acall_v s31 rfl rfl ?_
    simp only [wB, awp, asN, St.ev, St.step, setS, killS, AV.kill, AV.killL, Mem.kill, Nat.reduceEqDiff]
    exact aend_frz rfl ⟨rfl, rfl⟩
  have hA := doL_acc n lm ls (l.take 40)
  have h43 := s43 n lm ls (by omega) h0 l hs
  have m43 := m43o n lm ls (by omega) h0 l hs
  simp only [labA] at h43
  generalize doL n lm ls (l.take 40) = d at *
  have hm := sml_of hA
  have h29 := m29 n lm ls (by omega) d h0 hA
  generalize mkM n lm ls d = m at *
  have f43 := fspec_ofH (Mc := [some ⟨none, 79, 2, prsA ls⟩, some ⟨none, 26, 3, [.g [I n, .o 0, I lm]]⟩, none, none, none]) (N := [some ⟨none, 79, 2, prsA ls⟩, some ⟨none, 26, 3, [.g [I n, .o 0, I lm]]⟩, some (m.obA 4), none, some m.od]) m43 (memA 2 m) [1, 2, 3, 4] rfl rfl rfl (told_lab n lm _) ⟨rfl, trivial⟩ rfl rfl rfl (by simp [freeM, prsA_free]) rfl
  refine swp_fs (own := []) [false, false, true, false] ?_
  simp only [wB, asP, asQ, obA, loadA, St.ev, St.step, setS, killS, AV.kill, AV.killL, Mem.kill, AV.cells, AV.flat, AV.single, Nat.reduceAdd, Nat.reduceLeDiff, Int.reduceAdd]
  refine acall_f f43 ?_
  simp only [wB, awp, binC, eqC, asG, asB, asI, asN, St.ev, St.step, setS, killS, AV.kill, AV.killL, Mem.kill, Nat.reduceAdd, Nat.reduceEqDiff, Int.reduceAdd, isNP, ptrN, asStr, nt32, AV.sub, AV.subL, keepF, keepG, liveI, AV.isO, AV.isQ, List.any_cons, List.any_nil, memA]
  refine swp_le (σ' := ⟨[.bot, .s 1 (strsA l), .p (.g [I n, .s 2 (prsA ls), I lm]) 0, .bot, .bot, .q 1 3 0 0, .q 2 13 0 0, .bot, .bot, .bot, .bot, .bot, .bot, .bot, .bot, .bot, .bot, .bot, .bot, .bot, .bot, .bot, .bot, .bot, .bot, .bot, .bot, .bot, .bot, .bot, .bot, .bot, .bot, .bot, .bot, .bot, .bot, .bot, .bot, .bot, .bot, .bot, .bot, .bot, .bot, .bot, .bot, .bot, .bot, .bot, .bot, .bot, .bot, .bot, .bot, .bot, .bot, .bot, .bot, .bot, .bot, .bot, .bot, .bot, .bot, .bot, .bot, .bot, .bot, .bot, .bot, .bot, .bot, .bot, .bot, .bot, .bot, .bot, .bot, .bot, .bot, .bot, .bot, .bot, .bot, .bot, .bot, .bot, .bot, .bot, .bot, .bot, .bot, .bot, .bot, .bot, .bot, .bot, .bot, .bot, .bot, .bot, .bot, .bot, .bot, .bot, .bot, .bot, .bot, .bot, .bot, .bot, .bot, .bot, .bot], [some ⟨none, 79, 2, prsA ls⟩, some ⟨none, 26, 3, [.g [I n, .o 0, I lm]]⟩, some (m.obA 4), none, some m.od]⟩) (le_sl' rfl (by simp [leSl])) ?_
  refine awp_sound (own := []) _ _ _ _ _ ?_
  simp only [wB, awp, asN, St.ev, St.step, setS, killS, AV.kill, AV.killL, Mem.kill, Nat.reduceAdd, Int.reduceAdd]
  refine swp_loop' (fun p : Nat × List (Int × Int) => ⟨[.bot, .s 1 (strsA l), .p (.g [I n, .s 2 (prsA ls), I lm]) 0, .bot, .bot, .q 1 3 0 0, .q 2 13 0 0, I p.1, .bot, .bot, .bot, .bot, .bot, .bot, .bot, .bot, .bot, .bot, .bot, .bot, .bot, .bot, .bot, .bot, .bot, .bot, .bot, .bot, .bot, .bot, .bot, .bot, .bot, .bot, .bot, .bot, .bot, .bot, .bot, .bot, .bot, .bot, .bot, .bot, .bot, .bot, .bot, .bot, .bot, .bot, .bot, .bot, .bot, .bot, .bot, .bot, .bot, .bot, .bot, .bot, .bot, .bot, .bot, .bot, .bot, .bot, .bot, .bot, .bot, .bot, .bot, .bot, .bot, .bot, .bot, .bot, .bot, .bot, .bot, .bot, .bot, .bot, .bot, .bot, .bot, .bot, .bot, .bot, .bot, .bot, .bot, .bot, .bot, .bot, .bot, .bot, .bot, .bot, .bot, .bot, .bot, .bot, .bot, .bot, .bot, .bot, .bot, .bot, .bot, .bot, .bot, .bot, .bot, .bot, .bot], [some ⟨none, 79, 2, prsA p.2⟩, some ⟨none, 26, 3, [.g [I n, .o 0, I lm]]⟩, some (m.obA 4), none, some m.od]⟩) (fun p => p.1 ≤ p.2.length ∧ p.2.length ≤ 60) (fun p => p.2.length - p.1) (0, ls) (le_sl' rfl (by simp [leSl])) ⟨Nat.zero_le _, by show ls.length ≤ 60; omega⟩ ?_
  rintro ⟨k, L⟩ ⟨hk, hL⟩
  refine awp_sound (own := [1011]) _ _ _ _ _ ?_
  simp only [wB, awp, binC, cmpC, asP, asQ, asB, asI, obA, lenA, loadA, St.ev, St.step, setS, killS, AV.kill, AV.killL, Mem.kill, AV.cells, AV.flat, AV.single, Nat.reduceAdd, Nat.reduceEqDiff, Nat.reduceLeDiff, Int.reduceAdd, lenK, prsA_len]
  by_cases h : k < L.length
  · simp only [wB, awp, idxC, asP, asQ, asO, asS, asI, obA, loadA, fillA, St.ev, St.step, setS, killS, AV.kill, AV.killL, Mem.kill, AV.cells, AV.flat, AV.single, Nat.reduceAdd, Nat.reduceEqDiff, Nat.reduceLeDiff, Int.reduceAdd, decide_eq_true (show (k : Int) < L.length by omega)]
    simp only [wB, awp, binC, arithC, cmpC, asI, asN, storeA, putsA, St.ev, St.step, setS, killS, AV.kill, AV.killL, Mem.kill, AV.cells, AV.flat, AV.single, AV.cellular, Nat.reduceAdd, Nat.reduceEqDiff, Nat.reduceLeDiff, Int.reduceAdd, isU, prsA_len, aget_prs h, Int.toNat_natCast]
    refine ⟨by omega, by unfold lim; omega, (k + 1, L.set k (0, 0)), le_sl' ?_ (by simp [leSl]), ⟨by simp; omega, by simpa using hL⟩, by simp; omega⟩
    simp [prsA_set0]
  simp only [awp, ACond_true, ACond_false, List.contains_nil, List.contains_cons, if_true, beq_self_eq_true, nbeq, decide_false, Bool.or_false, Bool.or_true, Nat.reduceAdd, Nat.reduceEqDiff, Int.reduceAdd, decide_eq_false (show ¬ (k : Int) < L.length by omega)]
  refine swp_le (σ' := ⟨[.bot, .s 1 (strsA l), .p (.g [I n, .s 2 (prsA ls), I lm]) 0, .bot, .bot, .bot, .q 0 13 0 0, .bot, .bot, .bot, .bot, .bot, .bot, .bot, .bot, .bot, .bot, .bot, .bot, .bot, .bot, .bot, .bot, .bot, .bot, .bot, .bot, .bot, .bot, .bot, .bot, .bot, .bot, .bot, .bot, .bot, .bot, .bot, .bot, .bot, .bot, .bot, .bot, .bot, .bot, .bot, .bot, .bot, .bot, .bot, .bot, .bot, .bot, .bot, .bot, .bot, .bot, .bot, .bot, .bot, .bot, .bot, .bot, .bot, .bot, .bot, .bot, .bot, .bot, .bot, .bot, .bot, .bot, .bot, .bot, .bot, .bot, .bot, .bot, .bot, .bot, .bot, .bot, .bot, .bot, .bot, .bot, .bot, .bot, .bot, .bot, .bot, .bot, .bot, .bot, .bot, .bot, .bot, .bot, .bot, .bot, .bot, .bot, .bot, .bot, .bot, .bot, .bot, .bot, .bot, .bot, .bot, .bot, .bot, .bot], [some m.ob, none, some m.od, none, none, none]⟩) (Le.trans (le_rn (M' := [some m.ob, none, some m.od]) [2, 99, 4] (by decide) ?_ (by simp [leSl, AV.sub, AV.subL, prsA_sub, prsA_msub, reF, reG, List.idxOf?, List.findIdx?, List.findIdx?.go])) (le_pad 3)) ?_
  · simp [reM, reF, reG, Mch.ob, Mch.obA, Mch.od, Mch.cells, AV.sub, AV.subL, prsA_sub, strsA_sub, intsA_sub, gtsA_sub, strsA_msub, List.idxOf?, List.findIdx?, List.findIdx?.go]
  have f44 := fspec_ofG (Mc := [some m.ob, none, some m.od, none, none, none]) (N := [some m.ob, none, some m.od, some (rowP m.st.place), none, none]) (m44o m hm) [1, 3, 4, 5] rfl (by exact ⟨rfl, rfl, trivial⟩) rfl rfl rfl (by simp [freeM, Mch.ob, Mch.od, Mch.cells, AV.freeL, AV.free, strsA_free]) rfl
  have f45 := fspec_ofG (Mc := [some m.ob, none, some m.od, some (rowP m.st.place), none, none]) (N := [some m.ob, none, some m.od, some (rowP m.st.place), some (rowP m.st.heats), none]) (m45o m hm) [1, 3, 4, 5] rfl (by exact ⟨rfl, rfl, trivial⟩) rfl rfl rfl (by simp [freeM, Mch.ob, Mch.od, Mch.cells, AV.freeL, AV.free, strsA_free]) (by
    simp [combR, keepF, keepG, rowP, intsA_sub, liveI, AV.isO, AV.isQ])
  have f47 := fspec_ofG (Mc := [some m.ob, none, some m.od, some (rowP m.st.place), some (rowP m.st.heats), none]) (N := [some m.ob, none, some m.od, some (rowP m.st.place), some (rowP m.st.heats), some (rowC m.st.circ)]) (m47o m hm) [1, 3, 4, 5] rfl (by exact ⟨rfl, rfl, trivial⟩) rfl rfl rfl (by simp [freeM, Mch.ob, Mch.od, Mch.cells, AV.freeL, AV.free, strsA_free]) (by
    simp [combR, keepF, keepG, rowP, intsA_sub, liveI, AV.isO, AV.isQ])
  refine swp_fs (own := []) [false, true, false, true, false, true, false, false, false] ?_
  simp only [wB, St.ev, St.step, setS, killS, AV.kill, AV.killL, Mem.kill]
  refine acall_f f44 ?_
  simp only [wB, St.ev, St.step, setS, killS, AV.kill, AV.killL, Mem.kill, AV.sub, keepG, liveI, AV.isQ, List.any_cons, List.any_nil]
  refine acall_f f45 ?_
  simp only [wB, St.ev, St.step, setS, killS, AV.kill, AV.killL, Mem.kill, AV.sub, keepF, keepG, liveI, AV.isO, AV.isQ, List.any_cons, List.any_nil]
  refine acall_f f47 ?_
  simp only [wB, awp, asN, St.ev, St.step, setS, killS, AV.kill, AV.killL, Mem.kill, Nat.reduceAdd, Nat.reduceEqDiff, Int.reduceAdd, Int.reduceNeg, AV.sub, keepF, keepG, liveI, AV.isO, AV.isQ, List.any_cons, List.any_nil]
  have hp := hm.p
  have hh := hm.h
  have hc := hm.c
  refine swp_loop' (fun p : Nat × List Int => ⟨[.bot, .s 1 (strsA l), .p (.g [I n, .s 2 (prsA ls), I lm]) 0, .bot, .bot, .bot, .q 0 13 0 0, .bot, .o 3, .o 4, .o 5, I p.1, .bot, .bot, .bot, .bot, .bot, .bot, .bot, .bot, .bot, .bot, .bot, .bot, .bot, .bot, .bot, .bot, .bot, .bot, .bot, .bot, .bot, .bot, .bot, .bot, .bot, .bot, .bot, .bot, .bot, .bot, .bot, .bot, .bot, .bot, .bot, .bot, .bot, .bot, .bot, .bot, .bot, .bot, .bot, .bot, .bot, .bot, .bot, .bot, .bot, .bot, .bot, .bot, .bot, .bot, .bot, .bot, .bot, .bot, .bot, .bot, .bot, .bot, .bot, .bot, .bot, .bot, .bot, .bot, .bot, .bot, .bot, .bot, .bot, .bot, .bot, .bot, .bot, .bot, .bot, .bot, .bot, .bot, .bot, .bot, .bot, .bot, .bot, .bot, .bot, .bot, .bot, .bot, .bot, .bot, .bot, .bot, .bot, .bot, .bot, .bot, .bot, .bot, .bot], [some m.ob, none, some m.od, some (rowP p.2), some (rowP m.st.heats), some (rowC m.st.circ)]⟩) (fun p => p.1 ≤ p.2.length ∧ p.2.length ≤ 1000) (fun p => p.2.length - p.1) (0, m.st.place) (le_sl' rfl (by simp [leSl])) ⟨Nat.zero_le _, hp⟩ ?_
  rintro ⟨k, L⟩ ⟨hk, hL⟩
  refine awp_sound (own := [1024]) _ _ _ _ _ ?_
  simp only [wB, awp, binC, cmpC, asB, asI, lenA, St.ev, St.step, setS, killS, AV.kill, AV.killL, Mem.kill, Nat.reduceAdd, Nat.reduceEqDiff, Int.reduceAdd, lenK, rowP]
  by_cases h : k < L.length
  · simp only [wB, awp, idxC, asQ, asO, asS, asI, obA, St.ev, St.step, setS, killS, AV.kill, AV.killL, Mem.kill, Nat.reduceAdd, Nat.reduceEqDiff, Int.reduceAdd, Int.reduceNeg, decide_eq_true (show (k : Int) < L.length by omega)]
    simp only [wB, awp, binC, arithC, cmpC, asI, asN, storeA, putsA, St.ev, St.step, setS, killS, AV.kill, AV.killL, Mem.kill, AV.cells, AV.flat, AV.single, AV.cellular, Value.oneCell', Nat.reduceAdd, Nat.reduceEqDiff, Nat.reduceLeDiff, Int.reduceAdd, Int.reduceNeg, isU, aget_ints h, Int.toNat_natCast]
    refine ⟨by omega, by unfold lim; omega, (k + 1, L.set k (-9)), le_sl' ?_ (by simp [leSl]), ⟨by simp; omega, by simpa using hL⟩, by simp; omega⟩
    simp [rowP, intsA_set']
  simp only [wB, awp, asN, St.ev, St.step, setS, killS, AV.kill, AV.killL, Mem.kill, Nat.reduceAdd, Nat.reduceEqDiff, Int.reduceAdd, Int.reduceNeg, decide_eq_false (show ¬ (k : Int) < L.length by omega)]
  refine swp_loop' (fun p : Nat × List Int => ⟨[.bot, .s 1 (strsA l), .p (.g [I n, .s 2 (prsA ls), I lm]) 0, .bot, .bot, .bot, .q 0 13 0 0, .bot, .o 3, .o 4, .o 5, .bot, I p.1, .bot, .bot, .bot, .bot, .bot, .bot, .bot, .bot, .bot, .bot, .bot, .bot, .bot, .bot, .bot, .bot, .bot, .bot, .bot, .bot, .bot, .bot, .bot, .bot, .bot, .bot, .bot, .bot, .bot, .bot, .bot, .bot, .bot, .bot, .bot, .bot, .bot, .bot, .bot, .bot, .bot, .bot, .bot, .bot, .bot, .bot, .bot, .bot, .bot, .bot, .bot, .bot, .bot, .bot, .bot, .bot, .bot, .bot, .bot, .bot, .bot, .bot, .bot, .bot, .bot, .bot, .bot, .bot, .bot, .bot, .bot, .bot, .bot, .bot, .bot, .bot, .bot, .bot, .bot, .bot, .bot, .bot, .bot, .bot, .bot, .bot, .bot, .bot, .bot, .bot, .bot, .bot, .bot, .bot, .bot, .bot, .bot, .bot, .bot, .bot, .bot, .bot], [some m.ob, none, some m.od, some (rowP L), some (rowP p.2), some (rowC m.st.circ)]⟩) (fun p => p.1 ≤ p.2.length ∧ p.2.length ≤ 1000) (fun p => p.2.length - p.1) (0, m.st.heats) (le_sl' rfl (by simp [leSl])) ⟨Nat.zero_le _, hh⟩ ?_
  rintro ⟨k2, L2⟩ ⟨hk2, hL2⟩
  refine awp_sound (own := [1024]) _ _ _ _ _ ?_
  simp only [wB, awp, binC, cmpC, asB, asI, lenA, St.ev, St.step, setS, killS, AV.kill, AV.killL, Mem.kill, Nat.reduceAdd, Nat.reduceEqDiff, Int.reduceAdd, lenK, rowP]
  by_cases h2 : k2 < L2.length
  · simp only [wB, awp, idxC, asQ, asO, asS, asI, obA, St.ev, St.step, setS, killS, AV.kill, AV.killL, Mem.kill, Nat.reduceAdd, Nat.reduceEqDiff, Int.reduceAdd, Int.reduceNeg, decide_eq_true (show (k2 : Int) < L2.length by omega)]
    simp only [wB, awp, binC, arithC, cmpC, asI, asN, storeA, putsA, St.ev, St.step, setS, killS, AV.kill, AV.killL, Mem.kill, AV.cells, AV.flat, AV.single, AV.cellular, Value.oneCell', Nat.reduceAdd, Nat.reduceEqDiff, Nat.reduceLeDiff, Int.reduceAdd, Int.reduceNeg, isU, aget_ints h2, Int.toNat_natCast]
    refine ⟨by omega, by unfold lim; omega, (k2 + 1, L2.set k2 (-9)), le_sl' ?_ (by simp [leSl]), ⟨by simp; omega, by simpa using hL2⟩, by simp; omega⟩
    simp [rowP, intsA_set']
  simp only [wB, awp, asN, St.ev, St.step, setS, killS, AV.kill, AV.killL, Mem.kill, Nat.reduceAdd, Nat.reduceEqDiff, Int.reduceAdd, decide_eq_false (show ¬ (k2 : Int) < L2.length by omega)]
  refine swp_loop' (fun p : Nat × List G4 => ⟨[.bot, .s 1 (strsA l), .p (.g [I n, .s 2 (prsA ls), I lm]) 0, .bot, .bot, .bot, .q 0 13 0 0, .bot, .o 3, .o 4, .o 5, .bot, .bot, I p.1, .bot, .bot, .bot, .bot, .bot, .bot, .bot, .bot, .bot, .bot, .bot, .bot, .bot, .bot, .bot, .bot, .bot, .bot, .bot, .bot, .bot, .bot, .bot, .bot, .bot, .bot, .bot, .bot, .bot, .bot, .bot, .bot, .bot, .bot, .bot, .bot, .bot, .bot, .bot, .bot, .bot, .bot, .bot, .bot, .bot, .bot, .bot, .bot, .bot, .bot, .bot, .bot, .bot, .bot, .bot, .bot, .bot, .bot, .bot, .bot, .bot, .bot, .bot, .bot, .bot, .bot, .bot, .bot, .bot, .bot, .bot, .bot, .bot, .bot, .bot, .bot, .bot, .bot, .bot, .bot, .bot, .bot, .bot, .bot, .bot, .bot, .bot, .bot, .bot, .bot, .bot, .bot, .bot, .bot, .bot, .bot, .bot, .bot, .bot, .bot, .bot], [some m.ob, none, some m.od, some (rowP L), some (rowP L2), some (rowC p.2)]⟩) (fun p => p.1 ≤ p.2.length ∧ p.2.length ≤ 1000) (fun p => p.2.length - p.1) (0, m.st.circ) (le_sl' rfl (by simp [leSl])) ⟨Nat.zero_le _, hc⟩ ?_
  rintro ⟨k3, L3⟩ ⟨hk3, hL3⟩
  refine awp_sound (own := [1024]) _ _ _ _ _ ?_
  simp only [wB, awp, binC, cmpC, asB, asI, lenA, St.ev, St.step, setS, killS, AV.kill, AV.killL, Mem.kill, Nat.reduceAdd, Nat.reduceEqDiff, Int.reduceAdd, lenK, rowC, gtsA_len]
  by_cases h3 : k3 < L3.length
  · simp only [wB, awp, idxC, asQ, asO, asS, asI, obA, fillA, St.ev, St.step, setS, killS, AV.kill, AV.killL, Mem.kill, Nat.reduceAdd, Nat.reduceEqDiff, Int.reduceAdd, decide_eq_true (show (k3 : Int) < L3.length by omega)]
    simp only [wB, awp, binC, arithC, cmpC, asI, asN, storeA, putsA, St.ev, St.step, setS, killS, AV.kill, AV.killL, Mem.kill, AV.cells, AV.flat, AV.single, AV.cellular, Nat.reduceAdd, Nat.reduceEqDiff, Nat.reduceLeDiff, Int.reduceAdd, isU, gtsA_len, aget_gts h3, Int.toNat_natCast]
    refine ⟨by omega, by unfold lim; omega, (k3 + 1, L3.set k3 ⟨0, 0, 0, 0⟩), le_sl' ?_ (by simp [leSl]), ⟨by simp; omega, by simpa using hL3⟩, by simp; omega⟩
    simp [rowC, gtsA_set0]
  simp only [awp, ACond_true, ACond_false, List.contains_nil, List.contains_cons, if_true, beq_self_eq_true, nbeq, decide_false, Bool.or_false, Bool.or_true, Nat.reduceAdd, Nat.reduceEqDiff, Int.reduceAdd, decide_eq_false (show ¬ (k3 : Int) < L3.length by omega)]
  refine swp_le (σ' := ⟨[.bot, .s 1 (strsA l), .p (.g [I n, .s 2 (prsA ls), I lm]) 0, .bot, .bot, .bot, .q 0 13 0 0, .bot, .bot, .bot, .bot, .bot, .bot, .bot, .bot, .bot, .bot, .bot, .bot, .bot, .bot, .bot, .bot, .bot, .bot, .bot, .bot, .bot, .bot, .bot, .bot, .bot, .bot, .bot, .bot, .bot, .bot, .bot, .bot, .bot, .bot, .bot, .bot, .bot, .bot, .bot, .bot, .bot, .bot, .bot, .bot, .bot, .bot, .bot, .bot, .bot, .bot, .bot, .bot, .bot, .bot, .bot, .bot, .bot, .bot, .bot, .bot, .bot, .bot, .bot, .bot, .bot, .bot, .bot, .bot, .bot, .bot, .bot, .bot, .bot, .bot, .bot, .bot, .bot, .bot, .bot, .bot, .bot, .bot, .bot, .bot, .bot, .bot, .bot, .bot, .bot, .bot, .bot, .bot, .bot, .bot, .bot, .bot, .bot, .bot, .bot, .bot, .bot, .bot, .bot, .bot, .bot, .bot, .bot, .bot], memD m⟩) (le_rn [0, 99, 2] (by decide) ?_ (by simp [leSl, AV.sub, AV.subL, prsA_sub, prsA_msub, reF, reG, List.idxOf?, List.findIdx?, List.findIdx?.go])) ?_
  · simp [reM, reF, reG, memD, Mch.ob, Mch.od, Mch.cells, AV.sub, AV.subL, prsA_sub, strsA_sub, intsA_sub, gtsA_sub, strsA_msub, List.idxOf?, List.findIdx?, List.findIdx?.go]
  refine awp_sound (own := []) _ _ _ _ _ ?_
  simp only [wB, awp, asP, loadA, St.ev, St.step, setS, killS, AV.kill, AV.killL, Mem.kill, AV.cells, AV.flat, AV.single, Nat.reduceAdd, Nat.reduceLeDiff, Int.reduceAdd, memD, List.drop_zero, List.take_succ_cons, List.take_zero]
  refine acall_mk h43 (by simp [AV.pureL, AV.pure, prsA_pure, strsA_pure]) ?_
  simp only [wB, awp, asN, St.ev, St.step, setS, killS, AV.kill, AV.killL, Mem.kill, Nat.reduceAdd, Nat.reduceEqDiff, Int.reduceAdd, AV.sub, AV.up]
  refine swp_le (σ' := ⟨[.bot, .s 1 (strsA l), .p (.g [I n, .s 2 (prsA ls), I lm]) 0, .bot, .bot, .bot, .q 0 13 0 0, .bot, .bot, .bot, .bot, .bot, .bot, .bot, .q 3 13 0 0, .bot, .bot, .bot, .bot, .bot, .bot, .bot, .bot, .bot, .bot, .bot, .bot, .bot, .bot, .bot, .bot, .bot, .bot, .bot, .bot, .bot, .bot, .bot, .bot, .bot, .bot, .bot, .bot, .bot, .bot, .bot, .bot, .bot, .bot, .bot, .bot, .bot, .bot, .bot, .bot, .bot, .bot, .bot, .bot, .bot, .bot, .bot, .bot, .bot, .bot, .bot, .bot, .bot, .bot, .bot, .bot, .bot, .bot, .bot, .bot, .bot, .bot, .bot, .bot, .bot, .bot, .bot, .bot, .bot, .bot, .bot, .bot, .bot, .bot, .bot, .bot, .bot, .bot, .bot, .bot, .bot, .bot, .bot, .bot, .bot, .bot, .bot, .bot, .bot, .bot, .bot, .bot, .bot, .bot, .bot, .bot, .bot, .bot, .bot, .bot], mem2 m⟩) (le_rn [0, 1, 2, 3, 99, 4] (by decide) ?_ (by simp [leSl, AV.sub, AV.subL, prsA_sub, prsA_msub, strsA_sub, strsA_msub, reF, reG, List.idxOf?, List.findIdx?, List.findIdx?.go])) ?_
  · simp [reM, reF, reG, mem2, Mch.ob, Mch.obA, Mch.od, Mch.cells, AV.sub, AV.subL, prsA_sub, strsA_sub, intsA_sub, gtsA_sub, strsA_msub, List.idxOf?, List.findIdx?, List.findIdx?.go]
  have h44 := m44 m hm
  have h45 := m45 m hm
  have h47 := m47 m hm
  have ga : ∀ {f : FuncId} {x : AV}, MSpec Tryz.prog f [.q 0 13 0 0] (memD m) (fun r N => r = x ∧ N = memD m) → FSpec Tryz.prog f [.q 0 13 0 0] (memD m) [some m.ob, none, some m.od, some (m.obA 5), none, some m.od] x [some m.ob, none, some m.od, some (m.obA 5), none, some m.od] := fun h =>
    fD h [some (m.obA 5), none, some m.od] [1, 3, 4, 5] rfl rfl (by
      simp [memD, keepF, keepG, Mch.ob, Mch.obA, Mch.od, Mch.cells, AV.sub, AV.subL, prsA_sub, strsA_sub, intsA_sub, gtsA_sub, strsA_msub, liveI, AV.isO, AV.isQ])
  have gb : ∀ {f : FuncId} {x : AV}, MSpec Tryz.prog f [.q 0 13 0 0] (memD m) (fun r N => r = x ∧ N = memD m) → x.pure = true → FSpec Tryz.prog f [.q 3 13 0 0] (memA 3 m) [some m.ob, none, some m.od, some (m.obA 5), none, some m.od] x [some m.ob, none, some m.od, some (m.obA 5), none, some m.od] := fun h hx =>
    fA [some m.ob, none, some m.od] [] h rfl hx 3 rfl (by
      simp [memA, keepF, keepG, Mch.ob, Mch.obA, Mch.od, Mch.cells, AV.sub, AV.subL, prsA_sub, strsA_sub, intsA_sub, gtsA_sub, strsA_msub, liveI, AV.isO, AV.isQ]) rfl
  simp only [mem2]
  refine swp_fs (own := []) [false, false, false, false, true, false, true, false, false, false, false, true, false, true, false, false, false, false, true, false, true, false, false, false, false, true, false, false, false, false, false] ?_
  simp only [wB, binC, eqC, asG, asB, asI, St.ev, St.step, setS, killS, AV.kill, AV.killL, Mem.kill, isNP, ptrN, asStr, nt32]
  refine acall_f (ga h44) ?_
  simp only [wB, St.ev, St.step, setS, killS, AV.kill, AV.killL, Mem.kill, Nat.reduceEqDiff, memD, AV.sub, keepG, liveI, AV.isQ, List.any_cons, List.any_nil]
  refine acall_f (gb h44 (by simp [AV.pure, intsA_pure])) ?_
  simp only [wB, St.ev, setS, Nat.reduceAdd, Nat.reduceEqDiff, Int.reduceAdd, AV.sub, keepG, liveI, AV.isQ, List.any_cons, List.any_nil, memA]
  refine acall_v (s52 m.st.place m.st.place (by omega) (by omega)) (by simp [AV.pureL, AV.pure, intsA_pure]) rfl ?_
  simp only [wB, asB, St.ev, St.step, setS, killS, AV.kill, AV.killL, Mem.kill]
  refine acall_f (ga h45) ?_
  simp only [wB, St.ev, St.step, setS, killS, AV.kill, AV.killL, Mem.kill, Nat.reduceEqDiff, memD, AV.sub, keepG, liveI, AV.isQ, List.any_cons, List.any_nil]
  refine acall_f (gb h45 (by simp [AV.pure, intsA_pure])) ?_
  simp only [wB, St.ev, setS, Nat.reduceAdd, Nat.reduceEqDiff, Int.reduceAdd, AV.sub, keepG, liveI, AV.isQ, List.any_cons, List.any_nil, memA]
  refine acall_v (s52 m.st.heats m.st.heats (by omega) (by omega)) (by simp [AV.pureL, AV.pure, intsA_pure]) rfl ?_
  simp only [wB, asB, St.ev, St.step, setS, killS, AV.kill, AV.killL, Mem.kill]
  refine acall_f (ga h47) ?_
  simp only [wB, St.ev, St.step, setS, killS, AV.kill, AV.killL, Mem.kill, Nat.reduceEqDiff, memD, AV.sub, keepG, liveI, AV.isQ, List.any_cons, List.any_nil]
  refine acall_f (gb h47 (by simp [AV.pure, gtsA_pure])) ?_
  simp only [wB, St.ev, setS, Nat.reduceAdd, Nat.reduceEqDiff, Int.reduceAdd, AV.sub, keepG, liveI, AV.isQ, List.any_cons, List.any_nil, memA]
  refine acall_v (s53 m.st.circ m.st.circ (by omega) (by omega)) (by simp [AV.pureL, AV.pure, gtsA_pure]) rfl ?_
  simp only [wB, asB, St.ev, St.step, setS, killS, AV.kill, AV.killL, Mem.kill]
  refine acall_f (ga h29) ?_
  simp only [wB, asB, St.ev, St.step, setS, killS, AV.kill, AV.killL, Mem.kill, Nat.reduceEqDiff, memD, AV.sub, keepG, liveI, AV.isQ, List.any_cons, List.any_nil]
  refine acall_v s31 rfl rfl ?_
  simp only [wB, awp, asB, asN, St.ev, St.step, setS, killS, AV.kill, AV.killL, Mem.kill]
  exact aend_frz rfl ⟨rfl, rfl⟩
end Go.Proofs.YtndniceeibflcaaGreatDoor

namespace Go.Proofs.YtndniceeibflcaaGreatDoor
open Aw Go.ChangeShapes Go.WideShapes Go.ChangeAt Go.RowKit Go.Deep Go.Joins

set_option maxRecDepth 100000 in
theorem machineLeans_lifted (os : Os) (started : os.Started) (H : Type) (enc : TypeId × Value → H) :
    ReturnsInHanded {} Tryz.checked os 13 .any (fun w args => (Rows.machineLeansSpec.pre enc Tryz.prog Tryz.f13 [] false w args ∧ laidMetH Tryz.prog Rows.machineLeansRow.laid w) ∧ sizedMet enc Tryz.prog Tryz.f13 (OpenSpec.ofChange Rows.machineLeansSpec) false w args)
      (Rows.machineLeansSpec.post enc Tryz.prog Tryz.f13 false true false false) := by
  refine returns_laid (C := Tryz.checked) (X := fun w _ => laidMetH Tryz.prog Rows.machineLeansRow.laid w) (fun _ _ _ hh h => h.of_heap hh) Tryz.own started (by kernel_rfl) Tryz.func13
    (ChangeSpec.witness_at (enc := enc) (C := Tryz.checked) (os := os) (X := fun w _ => laidMetH Tryz.prog Rows.machineLeansRow.laid w) false (laidWorld os) #[.agg #[.int .i64 0, .slice none 0 0, .int .i64 0], .slice none 0 0] 8 rfl (by kernel_rfl) (by kernel_rfl) (by kernel_rfl) (by kernel_rfl) (by kernel_rfl) (laidWorld_met os _)) ?_
  intro W base args ds gs before hval0 hW hsz hL hsh
  have hval : ∀ (j : Nat) t v, Tryz.f13.params[j]? = some t → args[j]? = some v → Value.okWide Tryz.prog W .any base t v := hval0
  have hG : GOk W := gok_of hL hsh
  have hW' := hW
  obtain ⟨p, q, hA0, hV, rfl, hfz, hnd⟩ := hW
  have hA : DataW.TrodAll enc Tryz.prog W 0 (fun _ => true) true Tryz.f13.params.toList args.toList ds p := hA0
  rw [Tryz.params13] at hA hval hsz
  obtain ⟨v0, v1, d0, d1, p0, p1, rfl, rfl, rfl, h0, h1⟩ := trodAll_two hA
  obtain ⟨rfl, rfl⟩ := trodVars_none hV
  obtain ⟨n0, ls0, lm0, r0⟩ := sa_lab (hval 0 26 v0 rfl rfl) h0
  obtain ⟨l1, r1, b1⟩ := sa_strs (hval 1 27 v1 rfl rfl) h1
  clear hA0 hval0
  simp only [List.append_nil] at hW'
  have hlt : ∀ x ∈ p0 ++ p1, x.block < W.heap.size := fun x hx => hW'.lt x (by simpa using hx)
  refine (calls_true (s13 n0 lm0 ls0 l1 b1) (vs := [v0, v1]) (by simp only [RVL]; exact ⟨_, _, rfl, r0, _, _, rfl, r1, rfl⟩) hG).mono fun e W' ⟨he, hb⟩ => ?_
  subst he
  refine ⟨_, rfl, law_shut hW' hb rfl (fun _ _ _ => trodAll_mk1 (shut_bool Tryz.underlying4 true)) (fun sp hsp => ?_) rfl (ok_one (by kernel_rfl) rfl (okWide_bool_mk Tryz.underlying4 true))⟩
  exact trodAll_mk2 (arg_stays Tryz.laidOut rr26 lt26 h0 hb (fun x hx => hlt x (by simp [hx])) (sp := sp) (fun x hx => hsp x (by simp [hx])))
    (arg_stays Tryz.laidOut rr27 lt27 h1 hb (fun x hx => hlt x (by simp [hx])) (sp := sp) (fun x hx => hsp x (by simp [hx])))

theorem machineLeans_func : Tryz.prog.funcNamed "quadrupole/quadrupolelaw09.MachineLeans" = some 13 := by kernel_rfl
theorem machineLeans_k10 : (Rows.machineLeansRow.inPlace == Tryz.prog.inPlace 13) = true := by kernel_rfl
theorem machineLeans_k11 : (Rows.machineLeansRow.unfollowed == Tryz.prog.unfollowed 13) = true := by kernel_rfl
theorem machineLeans_k12 : (Rows.machineLeansRow.recurses == Tryz.prog.recurses 13) = true := by kernel_rfl
theorem machineLeans_k13 : (Rows.machineLeansRow.named == Tryz.prog.varsNamed 13) = true := by kernel_rfl
theorem machineLeans_closed : joinedFacts Tryz.prog 13 Tryz.f13 Rows.machineLeansSpec Rows.machineLeansRow = true :=
  joined_of (by kernel_rfl) (by kernel_rfl) (by kernel_rfl) rfl rfl machineLeans_k10 machineLeans_k11 machineLeans_k12 machineLeans_k13 (by kernel_rfl) Tryz.keysE rfl Tryz.lifts Tryz.made (by kernel_rfl)
theorem machineLeans_goes : false = Rows.machineLeansRow.goesBy Tryz.prog := by kernel_rfl
theorem machineLeans_row : Rows.MachineLeansSaid :=
  OpenClaim.holds_of_wide 13 Tryz.f13 rfl rfl rfl rfl rfl rfl rfl ⟨rfl, rfl, rfl, rfl, rfl⟩ rfl rfl rfl rfl rfl machineLeans_func Tryz.func13 machineLeans_closed
    (of_decide_eq_true (by kernel_rfl)) (by unfold Func.isWrapper; rw [if_neg (of_decide_eq_false (by kernel_rfl))]; exact ⟨rfl, rfl⟩)
    (fun os started H enc _ => machineLeans_lifted os started H enc)

theorem machineLeans_holds : Rows.MachineLeansCardSaid :=
  Claim7.holds_tied_plain_at .later [] [.data, .data, .data, .data, .handle, .sentinel, .sentinel, .pinned] true (true, "aa03d57e40d7f46a321b7a338959e31570b187a828c7cad4885241d6f19c00d7") true
    machineLeans_row (fun _ h => by cases h) (by kernel_rfl) (fun _ h => by cases h) machineLeans_row_tie rfl ⟨rfl, rfl⟩ Tryz.mainE rfl
    (fun f fn hf hfn => by
      obtain rfl : f = 13 := Option.some.inj (machineLeans_func.symm.trans hf) |>.symm
      obtain rfl : fn = Tryz.f13 := (Option.some.inj (Tryz.func13.symm.trans hfn)).symm
      refine ⟨Tryz.looksE, fun j t ht => ?_⟩
      rw [Tryz.params13] at ht
      have h3 := Array.mem_of_getElem? ht
      simp only [List.mem_toArray, List.mem_cons, List.not_mem_nil, or_false] at h3
      rcases h3 with rfl | rfl
      · exact Tryz.st26
      · exact Tryz.st27)
    machineLeans_goes
end Go.Proofs.YtndniceeibflcaaGreatDoor
