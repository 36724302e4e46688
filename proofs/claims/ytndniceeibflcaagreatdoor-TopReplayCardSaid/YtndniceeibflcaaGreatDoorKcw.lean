/-
  The law TopReplay: for every input, with the listed variables as the program's text lays them, it answers true, and each argument reads as it did.
-/
import Derived.Test.YtndniceeibflcaaGreatDoorProg
import Derived.WalkKit
import Derived.Lib.ConvBytes
import Derived.LaidEql
import Derived.Lib.ItoaNum
import Derived.Lib.LaidTab
import Derived.KernelRfl
import GoSem.Claims
import GoSem.ClaimJoined
import Derived.Orders
import Derived.Laws.StructEq
import Derived.Maps.Keyed
import Derived.Lib.Strings
import Derived.Maps.AppendAt
import Derived.Laws.Concat
import Derived.MapKept
import Derived.Laws.MakeOwn
import Derived.Scope
import Derived.Laws.BitsLemmas
import Derived.Maps.RangeRun
import Derived.StillTail
import Derived.OrdersIn
import Derived.TacticsIn
import Derived.RangeFuncRecord
import Derived.RangeFuncCalls
import Derived.RangeFuncSeq
import Derived.Lib.Split
import Derived.Lib.AtoiAll
import Derived.Shelf.LaysM
import Derived.Shelf.LaysC
import Derived.Shelf.Strconv.Itoa3
import Derived.Shelf.Strconv.AtoiAll
import Derived.Shelf.Strings.Search3
import Derived.Shelf.Strings.Cut
import Derived.Shelf.Strings.Prefix
import Derived.Shelf.Strings.Split
import Derived.Lib.AppendIntMem
import Derived.Stop.Asserts
import Derived.RowKitTokens
import Derived.Conc.MuLone
import Derived.Test.YtndniceeibflcaaGreatDoorRows
import Derived.Test.YtndniceeibflcaaGreatDoorChecked
import Derived.ChangeSame
import Derived.ChangeVars
import Derived.JoinedOf
import Derived.ProofKit
import Derived.RowKit
import Derived.LaidLaws
import Derived.LaidHandle
import Derived.LaidMore
import Derived.Stop.Joined
import Derived.Stop.LaidErr
import Derived.HandedShaped
import Derived.Shelf.Vars
import Derived.Deep.Slices
import Derived.Deep.Strs
import Derived.Deep.Fields
import Derived.Lib.SmallJoins
import Derived.SliceStrings
import Derived.ChangeMaps5
import Derived.Test.YtndniceeibflcaaGreatDoorTie
import Derived.Test.YtndniceeibflcaaGreatDoorCards
import Derived.SevenTiedAt
import Derived.Test.YtndniceeibflcaaGreatDoorKaa
import Derived.Test.YtndniceeibflcaaGreatDoorKac
import Derived.Test.YtndniceeibflcaaGreatDoorKad
import Derived.Test.YtndniceeibflcaaGreatDoorKae
import Derived.Test.YtndniceeibflcaaGreatDoorKam
import Derived.Test.YtndniceeibflcaaGreatDoorKan
import Derived.Test.YtndniceeibflcaaGreatDoorKbd
import Derived.Test.YtndniceeibflcaaGreatDoorKag
import Derived.Test.YtndniceeibflcaaGreatDoorKbj
import Derived.Test.YtndniceeibflcaaGreatDoorKas
import Derived.Test.YtndniceeibflcaaGreatDoorKau
import Derived.Test.YtndniceeibflcaaGreatDoorKbn
import Derived.Test.YtndniceeibflcaaGreatDoorKbf
import Derived.Test.YtndniceeibflcaaGreatDoorKaf
import Derived.Test.YtndniceeibflcaaGreatDoorKbg
import Derived.Test.YtndniceeibflcaaGreatDoorKbw
import Derived.Test.YtndniceeibflcaaGreatDoorKbo
import Derived.Test.YtndniceeibflcaaGreatDoorKai
import Derived.Test.YtndniceeibflcaaGreatDoorKbs
import Derived.Test.YtndniceeibflcaaGreatDoorKaq
import Derived.Test.YtndniceeibflcaaGreatDoorKca
import Derived.Test.YtndniceeibflcaaGreatDoorKao
import Derived.Test.YtndniceeibflcaaGreatDoorKap
import Derived.Test.YtndniceeibflcaaGreatDoorKcb
import Derived.Test.YtndniceeibflcaaGreatDoorKcc
import Derived.Test.YtndniceeibflcaaGreatDoorKck
import Derived.Test.YtndniceeibflcaaGreatDoorKcg
import Derived.Test.YtndniceeibflcaaGreatDoorKbb
import Derived.Test.YtndniceeibflcaaGreatDoorKay
import Derived.Test.YtndniceeibflcaaGreatDoorKcm
import Derived.Test.YtndniceeibflcaaGreatDoorKbc
import Derived.Test.YtndniceeibflcaaGreatDoorKcv
import Derived.Test.YtndniceeibflcaaGreatDoorKcn
set_option linter.unusedSimpArgs false
set_option linter.unusedVariables false
namespace Go.Proofs.YtndniceeibflcaaGreatDoor
namespace Aw
end Aw
namespace Mp
end Mp
end Go.Proofs.YtndniceeibflcaaGreatDoor
namespace Go.Proofs.YtndniceeibflcaaGreatDoor
open Aw Mp Go.RowKit
set_option linter.unusedSimpArgs false
set_option maxRecDepth 8000

theorem ok30 : okFn Tryz.prog 30 = true := by kernel_rfl
theorem m30 (m : Mch) (hs : Sml m) : MSpec Tryz.prog 30 [.q 0 13 0 0, .q 3 13 0 0] (mem2 m) (fun r N => r = B true ∧ N = mem2 m) := by
  refine mspec_of2 (own := [1001, 1002, 1003, 1011]) Tryz.func30 rfl ok30 ?_
  intro vs
  obtain ⟨gh, hgh⟩ : ∃ gh, gh = some (ghost vs [AV.q 0 13 0 0, AV.q 3 13 0 0]) := ⟨_, rfl⟩
  have hp := hs.p
  have hh := hs.h
  have hc := hs.c
  have ga : ∀ {f : FuncId} {x : AV}, MSpec Tryz.prog f [.q 0 13 0 0] (memD m) (fun r N => r = x ∧ N = memD m) → FSpec Tryz.prog f [.q 0 13 0 0] (memD m) [some m.ob, none, some m.od, some (m.obA 5), none, some m.od, gh] x [some m.ob, none, some m.od, some (m.obA 5), none, some m.od, gh] := fun h =>
    fD h [some (m.obA 5), none, some m.od, gh] [1, 3, 4, 5, 6] rfl rfl (by
      rw [hgh]
      simp [memD, keepF, keepG, Mch.ob, Mch.obA, Mch.od, Mch.cells, AV.sub, AV.subL, prsA_sub, strsA_sub, intsA_sub, gtsA_sub, strsA_msub, ghost, liveI, AV.isO, AV.isQ])
  have gb : ∀ {f : FuncId} {x : AV}, MSpec Tryz.prog f [.q 0 13 0 0] (memD m) (fun r N => r = x ∧ N = memD m) → x.pure = true → FSpec Tryz.prog f [.q 3 13 0 0] (memA 3 m) [some m.ob, none, some m.od, some (m.obA 5), none, some m.od, gh] x [some m.ob, none, some m.od, some (m.obA 5), none, some m.od, gh] := fun h hx =>
    fA [some m.ob, none, some m.od] [gh] h rfl hx 3 rfl (by
      simp [memA, keepF, keepG, Mch.ob, Mch.obA, Mch.od, Mch.cells, AV.sub, AV.subL, prsA_sub, strsA_sub, intsA_sub, gtsA_sub, strsA_msub, ghost, liveI, AV.isO, AV.isQ]) (by
      rw [hgh]
      simp [memA, keepF, keepG, Mch.ob, Mch.obA, Mch.od, Mch.cells, AV.sub, AV.subL, prsA_sub, strsA_sub, intsA_sub, gtsA_sub, strsA_msub, ghost, liveI, AV.isO, AV.isQ])
  have h54 := m54 m hs
  have h44 := m44 m hs
  have h45 := m45 m hs
  have h47 := m47 m hs
  have h23 := m23 m hs
  simp only [wB, awp, asN, St.ev, St.step, setS, killS, AV.kill, AV.killL, Mem.kill, Nat.reduceAdd, Nat.reduceEqDiff, Nat.reduceSub, Int.reduceAdd, Int.reduceSub, Tryz.ntmps30, ← hgh, mem2]
  refine swp_fs (own := []) [false, true, false, false, false, false, false, false, false] ?_
  simp only [wB, St.ev, St.step, setS, killS, AV.kill, AV.killL, Mem.kill]
  refine acall_f (ga h54) ?_
  simp only [wB, awp, asT, asN, St.ev, St.step, setS, killS, AV.kill, AV.killL, Mem.kill, Nat.reduceAdd, Nat.reduceEqDiff, Int.reduceAdd, memD, AV.sub, keepG, liveI, AV.isQ, List.any_cons, List.any_nil]
  refine swp_fs (own := []) [false, true, false, false, false, false, false, false, false] ?_
  simp only [wB, St.ev, St.step, setS, killS, AV.kill, AV.killL, Mem.kill]
  refine acall_f (gb h54 rfl) ?_
  simp only [wB, awp, asT, asN, St.ev, St.step, setS, killS, AV.kill, AV.killL, Mem.kill, Nat.reduceAdd, Nat.reduceEqDiff, Int.reduceAdd, AV.sub, AV.subL, keepG, liveI, AV.isQ, List.any_cons, List.any_nil, memA]
  refine swp_fs (own := []) [false, true, false, true, false, false] ?_
  simp only [wB, St.ev, St.step, setS, killS, AV.kill, AV.killL, Mem.kill]
  refine acall_f (ga h47) ?_
  simp only [wB, St.ev, St.step, setS, killS, AV.kill, AV.killL, Mem.kill, Nat.reduceEqDiff, memD, AV.sub, AV.subL, keepG, liveI, AV.isQ, List.any_cons, List.any_nil]
  refine acall_f (gb h47 (by simp [AV.pure, gtsA_pure])) ?_
  simp only [wB, awp, binC, cmpC, asB, asI, asN, lenA, St.ev, St.step, setS, killS, AV.kill, AV.killL, Mem.kill, Nat.reduceAdd, Nat.reduceEqDiff, Int.reduceAdd, lenK, AV.sub, AV.subL, keepG, liveI, AV.isQ, List.any_cons, List.any_nil, memA, gtsA_len]
  refine swp_loop' (fun k : Nat => ⟨[.q 0 13 0 0, .q 3 13 0 0, .bot, .bot, .bot, I m.st.moves, I m.st.cools, I m.st.done, I m.st.moves, I m.st.cools, I m.st.done, .s 4 (gtsA m.st.circ), .s 4 (gtsA m.st.circ), I k, .bot, .bot, .bot, .bot, .bot, .bot, .bot, .bot, .bot, .bot, .bot, .bot, .bot, .bot, .bot, .bot, .bot, .bot, .bot, .bot, .bot, .bot, .bot, .bot, .bot, .bot, .bot, .bot, .bot, .bot, .bot, .bot, .bot, .bot, .bot, .bot, .bot, .bot, .bot, .bot, .bot, .bot, .bot, .bot, .bot, .bot, .bot, .bot, .bot, .bot, .bot, .bot, .bot, .bot, .bot, .bot, .bot, .bot, .bot, .bot, .bot, .bot, .bot, .bot, .bot, .bot, .bot, .bot, .bot, .bot], [some m.ob, none, some m.od, some (m.obA 5), none, some m.od, gh]⟩) (fun k => k ≤ m.st.circ.length) (fun k => m.st.circ.length - k) 0 (le_sl' ?_ (by simp [leSl])) (Nat.zero_le _) ?_
  · simp
  intro k hk
  refine awp_sound (own := [1011]) _ _ _ _ _ ?_
  simp only [wB, awp, binC, cmpC, asB, asI, lenA, St.ev, St.step, setS, killS, AV.kill, AV.killL, Mem.kill, Nat.reduceAdd, Nat.reduceEqDiff, Int.reduceAdd, lenK, gtsA_len]
  by_cases h : k < m.st.circ.length
  · simp only [awp, ACond_true, decide_eq_true (show (k : Int) < m.st.circ.length by omega)]
    refine swp_draw (own := []) (.take 0 .plain [] (.take 1 .plain [] (.take 2 .reads [] (.take 3 .reads [] (.take 4 .plain [] (.take 5 .plain [] (.take 6 .reads [] (.take 7 .reads [] (.take 8 .plain [] (.done)))))))))) [⟨42, 2048, 0, 0, true⟩, ⟨43, 8192, 0, 0, true⟩, ⟨44, 6597069766656, 3, 0, true⟩, ⟨45, 8796093022208, 4, 0, true⟩, ⟨46, 4096, 0, 0, true⟩, ⟨47, 8192, 0, 0, true⟩, ⟨48, 105553116266496, 48, 0, true⟩, ⟨49, 140737488355328, 64, 0, true⟩, ⟨50, 299067162755072, 136, 0, true⟩] mo (by kernel_rfl) ?_
    simp only [wB, awp, binC, idxC, arithC, cmpC, eqC, asP, asS, asG, asB, asI, asN, loadA, St.ev, St.step, setS, killS, AV.kill, AV.killL, Mem.kill, AV.cells, AV.flat, AV.single, ints, Nat.reduceAdd, Nat.reduceEqDiff, Nat.reduceLeDiff, Int.reduceAdd, ASch, St.put, Md.mem, Md.need, isU, aget_gts h, Int.toNat_natCast]
    exact ⟨by omega, by omega, by unfold lim; omega, k + 1, le_sl' rfl (by simp [leSl]), h, by omega⟩
  simp only [awp, ACond_true, ACond_false, List.contains_nil, List.contains_cons, if_true, beq_self_eq_true, nbeq, decide_false, Bool.or_false, Bool.or_true, Nat.reduceAdd, Nat.reduceEqDiff, Int.reduceAdd, decide_eq_false (show ¬ (k : Int) < m.st.circ.length by omega)]
  refine swp_fs (own := []) [false, true, false, true, false, false, false, true, false, true, false, false, false, false, false, false, false, false, false, false, false, false, false, false, false, false, false, false, false, true, false, true, false, false, false] ?_
  simp only [wB, St.ev, St.step, setS, killS, AV.kill, AV.killL, Mem.kill]
  refine acall_f (ga h44) ?_
  simp only [wB, St.ev, St.step, setS, killS, AV.kill, AV.killL, Mem.kill, Nat.reduceEqDiff, memD, AV.sub, keepG, liveI, AV.isQ, List.any_cons, List.any_nil]
  refine acall_f (gb h44 (by simp [AV.pure, intsA_pure])) ?_
  simp only [wB, St.ev, setS, Nat.reduceAdd, Nat.reduceEqDiff, Int.reduceAdd, AV.sub, keepG, liveI, AV.isQ, List.any_cons, List.any_nil, memA]
  refine acall_v (s52 m.st.place m.st.place (by omega) (by omega)) (by simp [AV.pureL, AV.pure, intsA_pure]) rfl ?_
  simp only [wB, St.ev, St.step, setS, killS, AV.kill, AV.killL, Mem.kill]
  refine acall_f (ga h45) ?_
  simp only [wB, St.ev, St.step, setS, killS, AV.kill, AV.killL, Mem.kill, Nat.reduceEqDiff, memD, AV.sub, keepG, liveI, AV.isQ, List.any_cons, List.any_nil]
  refine acall_f (gb h45 (by simp [AV.pure, intsA_pure])) ?_
  simp only [wB, St.ev, setS, Nat.reduceAdd, Nat.reduceEqDiff, Int.reduceAdd, AV.sub, keepG, liveI, AV.isQ, List.any_cons, List.any_nil, memA]
  refine acall_v (s52 m.st.heats m.st.heats (by omega) (by omega)) (by simp [AV.pureL, AV.pure, intsA_pure]) rfl ?_
  simp only [wB, binC, cmpC, asB, asI, St.ev, St.step, setS, killS, AV.kill, AV.killL, Mem.kill]
  refine acall_f (ga h23) ?_
  simp only [wB, St.ev, St.step, setS, killS, AV.kill, AV.killL, Mem.kill, Nat.reduceEqDiff, memD, AV.sub, keepG, liveI, AV.isQ, List.any_cons, List.any_nil]
  refine acall_f (gb h23 rfl) ?_
  simp only [wB, awp, binC, eqC, asG, asB, asI, asN, St.ev, St.step, setS, killS, AV.kill, AV.killL, Mem.kill, Nat.reduceAdd, Nat.reduceEqDiff, Int.reduceAdd, asStr, strC, AV.sub, keepG, liveI, AV.isQ, List.any_cons, List.any_nil, memA]
  exact ⟨_, _, mem2 m, _, Le.refl _, rfl, by rw [hgh]; rfl, rfl, rfl, by simp [freeM, mem2, Mch.ob, Mch.obA, Mch.od, Mch.cells, AV.freeL, AV.free, strsA_free, Zr], rfl, rfl⟩
end Go.Proofs.YtndniceeibflcaaGreatDoor

namespace Go.Proofs.YtndniceeibflcaaGreatDoor
open Aw Mp Go.RowKit
set_option linter.unusedSimpArgs false
set_option maxRecDepth 8000

theorem f30a (m P : Mch) (hs : Sml m) :
    FSpec Tryz.prog 30 [.q 6 13 0 0, .q 0 13 0 0] [some m.ob, none, some m.od, none, none, none, some (m.obA 8), none, some m.od] [some m.ob, none, some m.od, some (P.obA 5), none, some P.od, some (m.obA 8), none, some m.od] (B true) [some m.ob, none, some m.od, some (P.obA 5), none, some P.od, some (m.obA 8), none, some m.od] := by
  have key := MSpec.ren (aT := [.q 6 13 0 0, .q 0 13 0 0]) (K := [some m.ob, none, some m.od, none, none, none, some (m.obA 8), none, some m.od]) (m30 m hs) [6, 7, 8, 0, 1, 2] (by decide) rfl (by
      simp [reM, reF, reG, mem2, Mch.ob, Mch.obA, Mch.od, Mch.cells, AV.sub, AV.subL, prsA_sub, strsA_sub, intsA_sub, gtsA_sub, strsA_msub, List.idxOf?, List.findIdx?, List.findIdx?.go]) rfl (fun i hi => by simp at hi ⊢; omega) (fun i hi => by
      match i, hi with
      | 0, hi => simp at hi
      | 1, hi => simp at hi
      | 2, hi => simp at hi
      | 3, _ => exact .inr rfl
      | 4, _ => exact .inr rfl
      | 5, _ => exact .inr rfl
      | 6, hi => simp at hi
      | 7, hi => simp at hi
      | 8, hi => simp at hi
      | i + 9, _ => exact .inl rfl)
  have hM : baM [6, 7, 8, 0, 1, 2] 9 (mem2 m) = [some m.ob, none, some m.od, none, none, none, some (m.obA 8), none, some m.od] := by
    simp [baM, baF, baG, mem2, Mch.ob, Mch.obA, Mch.od, Mch.cells, AV.sub, AV.subL, prsA_sub, strsA_sub, intsA_sub, gtsA_sub, strsA_msub, List.range_succ, List.idxOf?, List.findIdx?, List.findIdx?.go]
  rw [show ([some m.ob, none, some m.od, none, none, none, some (m.obA 8), none, some m.od] : Mem).length = 9 from rfl, hM] at key
  refine fspec_of key [1, 3, 4, 5, 7] rfl ⟨rfl, rfl, rfl, rfl, trivial⟩ rfl rfl ?_ ?_
  · simp [freeM, Mch.ob, Mch.obA, Mch.od, Mch.cells, AV.freeL, AV.free, strsA_free]
  · simp [combR, keepF, keepG, Mch.ob, Mch.obA, Mch.od, Mch.cells, AV.sub, AV.subL, prsA_sub, strsA_sub, intsA_sub, gtsA_sub, strsA_msub, liveI, AV.isO, AV.isQ]
theorem f30b (m P : Mch) (hs : Sml m) :
    FSpec Tryz.prog 30 [.q 3 13 0 0, .q 0 13 0 0] (mem2 m) [some m.ob, none, some m.od, some (m.obA 5), none, some m.od, some (P.obA 8), none, some P.od] (B true) [some m.ob, none, some m.od, some (m.obA 5), none, some m.od, some (P.obA 8), none, some P.od] := by
  have key := MSpec.ren (aT := [.q 3 13 0 0, .q 0 13 0 0]) (K := mem2 m) (m30 m hs) [3, 4, 5, 0, 1, 2] (by decide) rfl (by
      simp [reM, reF, reG, mem2, Mch.ob, Mch.obA, Mch.od, Mch.cells, AV.sub, AV.subL, prsA_sub, strsA_sub, intsA_sub, gtsA_sub, strsA_msub, List.idxOf?, List.findIdx?, List.findIdx?.go]) rfl (fun i hi => by simp [mem2] at hi ⊢; omega) (fun i hi => by
      match i, hi with
      | 0, hi => simp at hi
      | 1, hi => simp at hi
      | 2, hi => simp at hi
      | 3, hi => simp at hi
      | 4, hi => simp at hi
      | 5, hi => simp at hi
      | i + 6, _ => exact .inl rfl)
  have hM : baM [3, 4, 5, 0, 1, 2] 6 (mem2 m) = mem2 m := by
    simp [baM, baF, baG, mem2, Mch.ob, Mch.obA, Mch.od, Mch.cells, AV.sub, AV.subL, prsA_sub, strsA_sub, intsA_sub, gtsA_sub, strsA_msub, List.range_succ, List.idxOf?, List.findIdx?, List.findIdx?.go]
  rw [show (mem2 m).length = 6 from rfl, hM] at key
  refine fspec_of key [1, 4, 6, 7, 8] rfl ⟨rfl, rfl, rfl, rfl, trivial⟩ rfl rfl ?_ ?_
  · simp [freeM, mem2, Mch.ob, Mch.obA, Mch.od, Mch.cells, AV.freeL, AV.free, strsA_free]
  · simp [combR, mem2, keepF, keepG, Mch.ob, Mch.obA, Mch.od, Mch.cells, AV.sub, AV.subL, prsA_sub, strsA_sub, intsA_sub, gtsA_sub, strsA_msub, liveI, AV.isO, AV.isQ]
end Go.Proofs.YtndniceeibflcaaGreatDoor

namespace Go.Proofs.YtndniceeibflcaaGreatDoor
open Aw Mp Go.RowKit
set_option linter.unusedSimpArgs false
set_option maxRecDepth 8000

theorem kSum : sumB (-1) [] = 1000002 := by decide
theorem ok4 : okFn Tryz.prog 4 = true := by kernel_rfl
set_option maxHeartbeats 2000000 in
theorem s4 (n lm : Int) (ls : List (Int × Int)) (l : List By) (hs : ∀ o ∈ l, o.length ≤ 9223372036854775807) (pick : Int) (hpk : lim pick) : ASpec Tryz.prog 4 [labA n ls lm, .s 1 (strsA l), I pick] (fun r Ms => r = B true ∧ Ms = []) := by
  refine aspec_of (own := [9, 1006, 1012, 1014, 1015, 1018, 1020, 1021, 1026, 1028]) Tryz.func4 rfl ok4 ?_
  have h20 := s20 n lm ls
  simp only [labA] at h20
  simp only [wB, awp, asN, St.ev, St.step, setS, killS, AV.kill, AV.killL, Mem.kill, AV.cellular, AV.pure, AV.pureL, Nat.reduceAdd, Nat.reduceEqDiff, Nat.reduceSub, Int.reduceAdd, Int.reduceSub, Int.reduceNeg, Tryz.ntmps4, labA]
  refine acall_v (s28 (-1) [] (by decide)) rfl rfl ?_
  simp only [wB, awp, binC, cmpC, asP, asB, asI, loadA, St.ev, St.step, setS, killS, AV.kill, AV.killL, Mem.kill, AV.cells, AV.flat, AV.single, Nat.reduceAdd, Nat.reduceEqDiff, Nat.reduceLeDiff, Int.reduceAdd, Int.reduceNeg, kSum]
  refine acall_v h20 (by simp [AV.pureL, AV.pure, prsA_pure]) rfl ?_
  by_cases h60 : 60 < ls.length
  · simp only [wB, awp, asB, asN, St.ev, St.step, setS, killS, AV.kill, AV.killL, Mem.kill, Nat.reduceAdd, Nat.reduceEqDiff, Int.reduceAdd, decide_eq_true h60]
    exact aend_frz rfl ⟨rfl, rfl⟩
  simp only [wB, St.ev, St.step, setS, killS, AV.kill, AV.killL, Mem.kill, decide_eq_false h60]
  refine acall_v (s21 l) (by simp [AV.pureL, AV.pure, strsA_pure]) rfl ?_
  by_cases h150 : 150 < l.length
  · simp only [wB, awp, asB, asN, St.ev, St.step, setS, killS, AV.kill, AV.killL, Mem.kill, Nat.reduceAdd, Nat.reduceEqDiff, Int.reduceAdd, decide_eq_true h150]
    exact aend_frz rfl ⟨rfl, rfl⟩
  simp only [wB, awp, asP, asB, loadA, St.ev, St.step, setS, killS, AV.kill, AV.killL, Mem.kill, AV.cells, AV.flat, AV.single, Nat.reduceAdd, Nat.reduceEqDiff, Nat.reduceLeDiff, Int.reduceAdd, decide_eq_false h150]
  by_cases h0 : vN n lm ls = 0
  case neg =>
    have h22 := s22e n lm ls (by omega) h0
    simp only [trapA] at h22
    refine acall_v h22 (by simp [AV.pureL, AV.pure, prsA_pure]) rfl ?_
    simp only [wB, awp, asT, asN, St.ev, St.step, setS, killS, AV.kill, AV.killL, Mem.kill, Nat.reduceAdd, Nat.reduceEqDiff, Int.reduceAdd]
    refine awp_sound (own := []) _ _ _ _ _ ?_
    simp only [wB, awp, binC, cmpC, eqC, asG, asB, asI, asN, St.ev, St.step, setS, killS, AV.kill, AV.killL, Mem.kill, Nat.reduceAdd, Nat.reduceEqDiff, Int.reduceAdd, isNP, ptrN, asStr, nt32, decide_eq_false h0]
    exact aend_frz rfl ⟨rfl, rfl⟩
  have h22 := s22o n lm ls (by omega) h0
  have hT := (vN_ok h0).1
  simp only [trapA] at h22
  refine acall_os h22 (by simp [AV.pureL, AV.pure, prsA_pure]) ?_
  simp only [wB, awp, asT, asN, St.ev, St.step, setS, killS, AV.kill, AV.killL, Mem.kill, Nat.reduceAdd, Nat.reduceEqDiff, Int.reduceAdd, List.drop_zero, AV.sub, AV.subL, List.take_succ_cons, List.take_zero, AV.up, Ob.up, prsA_msub, new_sub]
  refine swp_le (σ' := ⟨[.bot, .s 1 (strsA l), I pick, .p (.g [I n, .s 2 (prsA ls), I lm]) 0, .bot, .bot, .bot, .q 0 13 0 0, I 0, .bot, .bot, .bot, .bot, .bot, .bot, .bot, .bot, .bot, .bot, .bot, .bot, .bot, .bot, .bot, .bot, .bot, .bot, .bot, .bot, .bot, .bot, .bot, .bot, .bot, .bot, .bot, .bot, .bot, .bot, .bot, .bot, .bot, .bot, .bot, .bot, .bot, .bot, .bot, .bot, .bot, .bot, .bot, .bot, .bot, .bot, .bot, .bot, .bot, .bot, .bot, .bot, .bot, .bot, .bot, .bot, .bot, .bot, .bot, .bot, .bot, .bot, .bot, .bot, .bot, .bot, .bot, .bot, .bot, .bot, .bot, .bot, .bot, .bot, .bot, .bot, .bot, .bot, .bot, .bot, .bot, .bot, .bot, .bot, .bot, .bot, .bot, .bot, .bot, .bot, .bot, .bot, .bot, .bot, .bot, .bot, .bot, .bot, .bot, .bot, .bot, .bot, .bot, .bot, .bot, .bot, .bot, .bot, .bot, .bot, .bot, .bot, .bot, .bot, .bot, .bot, .bot, .bot, .bot, .bot, .bot, .bot, .bot, .bot, .bot, .bot, .bot, .bot, .bot, .bot, .bot, .bot, .bot, .bot, .bot, .bot, .bot, .bot, .bot, .bot, .bot, .bot, .bot, .bot, .bot, .bot, .bot, .bot, .bot, .bot, .bot, .bot, .bot, .bot, .bot, .bot, .bot, .bot, .bot, .bot, .bot, .bot, .bot, .bot, .bot, .bot, .bot, .bot, .bot, .bot, .bot, .bot, .bot, .bot, .bot, .bot, .bot, .bot, .bot, .bot, .bot], memD (mkM n lm ls [])⟩) (le_new (by simp [leSl, frz1, AV.sub, prsA_sub, prsA_msub])) ?_
  refine awp_sound (own := []) _ _ _ _ _ ?_
  simp only [wB, awp, binC, cmpC, eqC, asG, asB, asI, asN, Aw.newRow, St.ev, St.step, setS, killS, AV.kill, AV.killL, Mem.kill, Nat.reduceAdd, Nat.reduceEqDiff, Int.reduceAdd, isNP, ptrN, asStr, nt32, memD]
  refine swp_loop' (fun k : Nat => ⟨[.bot, .s 1 (strsA l), I pick, .p (.g [I n, .s 2 (prsA ls), I lm]) 0, .bot, .bot, .bot, .q 0 13 0 0, .bot, .o 3, I k, .bot, .bot, .bot, .bot, .bot, .bot, .bot, .bot, .bot, .bot, .bot, .bot, .bot, .bot, .bot, .bot, .bot, .bot, .bot, .bot, .bot, .bot, .bot, .bot, .bot, .bot, .bot, .bot, .bot, .bot, .bot, .bot, .bot, .bot, .bot, .bot, .bot, .bot, .bot, .bot, .bot, .bot, .bot, .bot, .bot, .bot, .bot, .bot, .bot, .bot, .bot, .bot, .bot, .bot, .bot, .bot, .bot, .bot, .bot, .bot, .bot, .bot, .bot, .bot, .bot, .bot, .bot, .bot, .bot, .bot, .bot, .bot, .bot, .bot, .bot, .bot, .bot, .bot, .bot, .bot, .bot, .bot, .bot, .bot, .bot, .bot, .bot, .bot, .bot, .bot, .bot, .bot, .bot, .bot, .bot, .bot, .bot, .bot, .bot, .bot, .bot, .bot, .bot, .bot, .bot, .bot, .bot, .bot, .bot, .bot, .bot, .bot, .bot, .bot, .bot, .bot, .bot, .bot, .bot, .bot, .bot, .bot, .bot, .bot, .bot, .bot, .bot, .bot, .bot, .bot, .bot, .bot, .bot, .bot, .bot, .bot, .bot, .bot, .bot, .bot, .bot, .bot, .bot, .bot, .bot, .bot, .bot, .bot, .bot, .bot, .bot, .bot, .bot, .bot, .bot, .bot, .bot, .bot, .bot, .bot, .bot, .bot, .bot, .bot, .bot, .bot, .bot, .bot, .bot, .bot, .bot, .bot, .bot, .bot, .bot, .bot, .bot, .bot, .bot], memD (mkM n lm ls (doL n lm ls (l.take k))) ++ [some ⟨none, 9, 1, strsA (doL n lm ls (l.take k))⟩]⟩) (fun k => k ≤ l.length ∧ k ≤ 40) (fun k => 40 - k) 0 (le_sl' ?_ (by simp [leSl])) ⟨Nat.zero_le _, Nat.zero_le _⟩ ?_
  · simp [doL, memD, strsA]
  rintro k ⟨hk, hk40⟩
  have hA := doL_acc n lm ls (l.take k)
  refine awp_sound (own := [9, 1010, 1012]) _ _ _ _ _ ?_
  simp only [awp, ACond_true, List.contains_nil, List.contains_cons, beq_self_eq_true, nbeq, decide_false, Bool.or_false, Bool.or_true, Nat.reduceAdd, Nat.reduceEqDiff, Int.reduceAdd]
  refine swp_to ⟨[.bot, .s 1 (strsA l), I pick, .p (.g [I n, .s 2 (prsA ls), I lm]) 0, .bot, .bot, .bot, .q 0 13 0 0, .bot, .o 3, I k, .bot, .bot, .bot, .bot, .bot, .bot, .bot, .bot, .bot, .bot, .bot, .bot, .bot, .bot, .bot, .bot, .bot, .bot, .bot, .bot, .bot, .bot, .bot, .bot, .bot, .bot, .bot, .bot, .bot, .bot, .bot, .bot, .bot, .bot, .bot, .bot, .bot, .bot, .bot, .bot, .bot, .bot, .bot, .bot, .bot, B (decide (k < l.length ∧ k < 40)), .bot, .bot, .bot, .bot, .bot, .bot, .bot, .bot, .bot, .bot, .bot, .bot, .bot, .bot, .bot, .bot, .bot, .bot, .bot, .bot, .bot, .bot, .bot, .bot, .bot, .bot, .bot, .bot, .bot, .bot, .bot, .bot, .bot, .bot, .bot, .bot, .bot, .bot, .bot, .bot, .bot, .bot, .bot, .bot, .bot, .bot, .bot, .bot, .bot, .bot, .bot, .bot, .bot, .bot, .bot, .bot, .bot, .bot, .bot, .bot, .bot, .bot, .bot, .bot, .bot, .bot, .bot, .bot, .bot, .bot, .bot, .bot, .bot, .bot, .bot, .bot, .bot, .bot, .bot, .bot, .bot, .bot, .bot, .bot, .bot, .bot, .bot, .bot, .bot, .bot, .bot, .bot, .bot, .bot, .bot, .bot, .bot, .bot, .bot, .bot, .bot, .bot, .bot, .bot, .bot, .bot, .bot, .bot, .bot, .bot, .bot, .bot, .bot, .bot, .bot, .bot, .bot, .bot, .bot, .bot, .bot, .bot, .bot, .bot, .bot, .bot, .bot, .bot, .bot, .bot, .bot, .bot, .bot], memD (mkM n lm ls (doL n lm ls (l.take k))) ++ [some ⟨none, 9, 1, strsA (doL n lm ls (l.take k))⟩]⟩ (awp_sound (own := []) _ _ _ _ _ ?_) ?_
  · simp only [wB, awp, binC, cmpC, asI, lenA, St.ev, St.step, setS, killS, AV.kill, AV.killL, Mem.kill, Nat.reduceAdd, Int.reduceAdd, lenK, strsA_len, strsA_len]
    by_cases h : k < l.length
    case neg =>
      simp only [wB, asB, St.ev, St.step, setS, killS, AV.kill, AV.killL, Mem.kill, decide_eq_false (show ¬ (k : Int) < l.length by omega)]
      exact le_sl (by simp [leSl, h])
    by_cases h4 : k < 40
    case neg =>
      simp only [wB, binC, cmpC, asB, asI, St.ev, St.step, setS, killS, AV.kill, AV.killL, Mem.kill, decide_eq_true (show (k : Int) < l.length by omega), decide_eq_false (show ¬ (k : Int) < 40 by omega)]
      exact le_sl (by simp [leSl, h4])
    simp only [wB, binC, cmpC, asB, asI, St.ev, St.step, setS, killS, AV.kill, AV.killL, Mem.kill, decide_eq_true (show (k : Int) < l.length by omega), decide_eq_true (show (k : Int) < 40 by omega)]
    exact le_sl (by simp [leSl, h, h4])
  simp only [w_some, awp, asB, St.ev, List.getD_cons_succ, List.getD_cons_zero]
  by_cases hb : k < l.length ∧ k < 40
  · simp only [awp, ACond_true, List.contains_nil, List.contains_cons, beq_self_eq_true, nbeq, decide_false, Bool.or_false, Bool.or_true, Nat.reduceAdd, Nat.reduceEqDiff, Int.reduceAdd, decide_eq_true hb]
    refine swp_fs (own := [9]) [false, false, false, false, false, true, false] ?_
    simp only [wB, idxC, asP, asS, asI, loadA, St.ev, St.step, setS, killS, AV.kill, AV.killL, Mem.kill, AV.cells, AV.flat, AV.single, memD, aget_strs hb.1, Int.toNat_natCast]
    refine ⟨by omega, acall_f (f24T n lm ls hT (by omega) _ hA l[k] (hs _ (List.getElem_mem hb.1)) [some ⟨none, 9, 1, strsA (doL n lm ls (l.take k))⟩] (tS _ _)) ?_⟩
    simp only [wB, awp, binC, cmpC, asB, asI, St.ev, St.step, setS, killS, AV.kill, AV.killL, Mem.kill, memD, AV.sub, keepF, keepG, liveI, AV.isO, AV.isQ, List.any_cons, List.any_nil]
    have hdt := doL_take (n := n) (lm := lm) (ls := ls) hb.1
    by_cases he : erO n lm ls (doL n lm ls (l.take k)) l[k] = 0
    · rw [doO_ok he] at hdt
      simp only [wB, awp, binC, idxC, arithC, cmpC, asP, asO, asS, asI, asN, obA, loadA, St.ev, St.step, setS, killS, AV.kill, AV.killL, Mem.kill, AV.cells, AV.flat, AV.single, AV.cellular, AV.size, AV.pure, AV.pureL, Value.oneCell', Nat.reduceAdd, Nat.reduceEqDiff, Nat.reduceMul, Nat.reduceLeDiff, Int.reduceAdd, Int.reduceMul, isU, strsA_len, decide_eq_true he, strsA_len, aget_strs hb.1, Int.toNat_natCast]
      have hl100 := hA.inv.1
      refine ⟨by omega, ⟨by decide, rfl⟩, ⟨by decide, by omega⟩, by unfold lim; omega, k + 1, le_sl' ?_ (by simp [leSl]), ⟨hb.1, hb.2⟩, by omega⟩
      rw [hdt, doO_ok he, strsA_kill, strsA_app]
      simp [memD, Mch.ob, Mch.od, Mch.cells, AV.killL, AV.kill, strsA_kill, mkM]
    · rw [doO_no he] at hdt
      simp only [wB, awp, binC, arithC, cmpC, asI, asN, St.ev, St.step, setS, killS, AV.kill, AV.killL, Mem.kill, Nat.reduceAdd, Nat.reduceEqDiff, Int.reduceAdd, isU, decide_eq_false he]
      refine ⟨by unfold lim; omega, k + 1, le_sl' ?_ (by simp [leSl]), ⟨hb.1, hb.2⟩, by omega⟩
      rw [hdt, doO_no he]
      simp [memD]
  simp only [awp, ACond_true, ACond_false, List.contains_nil, List.contains_cons, if_true, beq_self_eq_true, nbeq, decide_false, Bool.or_false, Bool.or_true, Nat.reduceAdd, Nat.reduceEqDiff, Int.reduceAdd, decide_eq_false hb]
  have hsm := lg_small hA
  have hl100 := hA.inv.1
  generalize doL n lm ls (l.take k) = D at *
  refine swp_le (σ' := ⟨[.bot, .bot, I pick, .p (.g [I n, .s 2 (prsA ls), I lm]) 0, .bot, .bot, .bot, .q 0 13 0 0, .bot, .s 1 (strsA D), .bot, .bot, .bot, .bot, .bot, .bot, .bot, .bot, .bot, .bot, .bot, .bot, .bot, .bot, .bot, .bot, .bot, .bot, .bot, .bot, .bot, .bot, .bot, .bot, .bot, .bot, .bot, .bot, .bot, .bot, .bot, .bot, .bot, .bot, .bot, .bot, .bot, .bot, .bot, .bot, .bot, .bot, .bot, .bot, .bot, .bot, .bot, .bot, .bot, .bot, .bot, .bot, .bot, .bot, .bot, .bot, .bot, .bot, .bot, .bot, .bot, .bot, .bot, .bot, .bot, .bot, .bot, .bot, .bot, .bot, .bot, .bot, .bot, .bot, .bot, .bot, .bot, .bot, .bot, .bot, .bot, .bot, .bot, .bot, .bot, .bot, .bot, .bot, .bot, .bot, .bot, .bot, .bot, .bot, .bot, .bot, .bot, .bot, .bot, .bot, .bot, .bot, .bot, .bot, .bot, .bot, .bot, .bot, .bot, .bot, .bot, .bot, .bot, .bot, .bot, .bot, .bot, .bot, .bot, .bot, .bot, .bot, .bot, .bot, .bot, .bot, .bot, .bot, .bot, .bot, .bot, .bot, .bot, .bot, .bot, .bot, .bot, .bot, .bot, .bot, .bot, .bot, .bot, .bot, .bot, .bot, .bot, .bot, .bot, .bot, .bot, .bot, .bot, .bot, .bot, .bot, .bot, .bot, .bot, .bot, .bot, .bot, .bot, .bot, .bot, .bot, .bot, .bot, .bot, .bot, .bot, .bot, .bot, .bot, .bot, .bot, .bot, .bot, .bot, .bot], memD (mkM n lm ls D)⟩) (Le.trans (le_frz 3 rfl (strsA_pure D)) (le_cut (Mx := [none]) ?_ ?_ rfl ?_)) ?_
  · simp [leSl, frz1, AV.sub, AV.subL, prsA_sub, prsA_msub]
  · simp [frzM, memD, Mch.ob, Mch.od, Mch.cells, mkM, AV.sub, AV.subL, intsA_sub, gtsA_sub, prsA_sub, strsA_sub, strsA_msub]
  · simp [freeM, memD, Mch.ob, Mch.od, Mch.cells, AV.freeL, AV.free, strsA_free]
  have h26 := s26 D
  rw [wr_ok hl100 hA.ords] at h26
  obtain ⟨e1, k2, hk2, e2⟩ := keep_at pick D.length (by omega)
  have hAk := hA.cut k2
  have h26k := s26 (D.take k2)
  rw [wr_ok (by simp; omega) hAk.ords] at h26k
  have h27k := s27l (by omega) h0 hAk
  have h27 := s27l (by omega) h0 hA
  have hkl : (D.take k2).length = k2 := by simp; omega
  rw [hkl] at h27k
  have hsm2 := lg_small hAk
  refine awp_sound (own := []) _ _ _ _ _ ?_
  simp only [wB, awp, St.ev, St.step, setS, killS, AV.kill, AV.killL, Mem.kill, Nat.reduceAdd, Int.reduceAdd]
  refine acall_v h26 (by simp [AV.pureL, AV.pure, strsA_pure]) rfl ?_
  simp only [wB, awp, asT, asN, St.ev, St.step, setS, killS, AV.kill, AV.killL, Mem.kill, Nat.reduceAdd, Nat.reduceEqDiff, Int.reduceAdd]
  refine swp_fs (own := []) [false, false, false, false, false, true, false, false] ?_
  simp only [wB, binC, cmpC, asI, St.ev, St.step, setS, killS, AV.kill, AV.killL, Mem.kill, memD]
  have h23 : FSpec Tryz.prog 23 [.q 0 13 0 0] (memD (mkM n lm ls D)) (memD (mkM n lm ls D)) (S (lg 0 D)) (memD (mkM n lm ls D)) := fG (m23 _ (sml_of hA)) rfl
  refine acall_f h23 ?_
  simp only [wB, awp, binC, arithC, cmpC, eqC, asG, asB, asI, asN, lenA, St.ev, St.step, setS, killS, AV.kill, AV.killL, Mem.kill, Nat.reduceAdd, Nat.reduceEqDiff, Int.reduceAdd, isU, asStr, strC, arithU, lenK, io3, io46, strsA_len, memD, AV.sub, AV.subL, keepG, liveI, AV.isQ, List.any_cons, List.any_nil, strsA_len]
  refine ⟨by unfold lim; omega, by rw [e1]; omega, ?_⟩
  rw [e1, e2]
  refine swp_s ?_
  simp only [List.toList_toArray]
  refine sops_pre (own := []) [_, _, _] rfl ?_
  simp only [wB, awp, asP, St.ev, St.step, setS, killS, AV.kill, AV.killL, Mem.kill, Nat.reduceAdd, Nat.reduceEqDiff, Int.reduceAdd]
  refine sops_op (hop_slice3 (some 98) rfl rfl rfl rfl ti27 rfl ti9 rfl rfl rfl rfl (by omega) (by rw [strsA_len]; omega)) ?_
  simp only [setS, List.set_cons_succ, List.set_cons_zero, Nat.reduceAdd, Int.reduceAdd, strsA_take, Int.toNat_natCast]
  refine sops_pre (own := []) [_, _, _, _, _, _] rfl ?_
  simp only [wB, St.ev]
  refine acall_v h26k (by simp [AV.pureL, AV.pure, strsA_pure]) rfl ?_
  simp only [wB, asT, asN, St.ev, St.step, setS, killS, AV.kill, AV.killL, Mem.kill, Nat.reduceAdd, Int.reduceAdd]
  refine sops_end ?_
  simp only [wB, asP, loadA, St.ev, St.step, setS, killS, AV.kill, AV.killL, Mem.kill, AV.cells, AV.flat, AV.single, Nat.reduceAdd, Nat.reduceEqDiff, Nat.reduceLeDiff, Int.reduceAdd]
  refine acall_mk h27k (by simp [AV.pureL, AV.pure, prsA_pure]) ?_
  simp only [wB, awp, asT, asN, St.ev, St.step, setS, killS, AV.kill, AV.killL, Mem.kill, Nat.reduceAdd, Nat.reduceEqDiff, Int.reduceAdd, List.drop_zero, AV.sub, AV.subL, List.take_succ_cons, List.take_zero, AV.up]
  refine swp_le (σ' := ⟨[.bot, .bot, .bot, .p (.g [I n, .s 2 (prsA ls), I lm]) 0, .bot, .bot, .bot, .q 0 13 0 0, I 0, .s 1 (strsA D), .bot, S (lg 0 D), I k2, S (lg 0 (D.take k2)), .q 3 13 0 0, I k2, I 0, .bot, .bot, .bot, .bot, .bot, .bot, .bot, .bot, .bot, .bot, .bot, .bot, .bot, .bot, .bot, .bot, .bot, .bot, .bot, .bot, .bot, .bot, .bot, .bot, .bot, .bot, .bot, .bot, .bot, .bot, .bot, .bot, .bot, .bot, .bot, .bot, .bot, .bot, .bot, .bot, .bot, .bot, .bot, .bot, .bot, .bot, .bot, .bot, .bot, .bot, .bot, .bot, .bot, .bot, .bot, .bot, .bot, .bot, .bot, .bot, .bot, .bot, .bot, .bot, .bot, .bot, .bot, .bot, .bot, .bot, .bot, .bot, .bot, .bot, .bot, .bot, .bot, .bot, .bot, .bot, .bot, .bot, .bot, .bot, .bot, .bot, .bot, .bot, .bot, .bot, .bot, .bot, .bot, .bot, .bot, .bot, .bot, .bot, .bot, .bot, .bot, .bot, .bot, .bot, .bot, .bot, .bot, .bot, .bot, .bot, .bot, .bot, .bot, .bot, .bot, .bot, .bot, .bot, .bot, .bot, .bot, .bot, .bot, .bot, .bot, .bot, .bot, .bot, .bot, .bot, .bot, .bot, .bot, .bot, .bot, .bot, .bot, .bot, .bot, .bot, .bot, .bot, .bot, .bot, .bot, .bot, .bot, .bot, .bot, .bot, .bot, .bot, .bot, .bot, .bot, .bot, .bot, .bot, .bot, .bot, .bot, .bot, .bot, .bot, .bot, .bot, .bot, .bot, .bot, .bot, .bot, .bot, .bot], [some (mkM n lm ls D).ob, none, some (mkM n lm ls D).od, some ((mkM n lm ls (D.take k2)).obA 5), none, some (mkM n lm ls (D.take k2)).od]⟩) (le_rn [0, 1, 2, 3, 99, 4] (by decide) ?_ (by simp [leSl, AV.sub, AV.subL, prsA_sub, prsA_msub, strsA_sub, strsA_msub, reF, reG, List.idxOf?, List.findIdx?, List.findIdx?.go])) ?_
  · simp [reM, reF, reG, Mch.ob, Mch.obA, Mch.od, Mch.cells, mkM, AV.sub, AV.subL, prsA_sub, strsA_sub, intsA_sub, gtsA_sub, strsA_msub, List.idxOf?, List.findIdx?, List.findIdx?.go]
  refine awp_sound (own := []) _ _ _ _ _ ?_
  simp only [wB, awp, asP, loadA, St.ev, St.step, setS, killS, AV.kill, AV.killL, Mem.kill, AV.cells, AV.flat, AV.single, Nat.reduceAdd, Nat.reduceEqDiff, Nat.reduceLeDiff, Int.reduceAdd]
  refine acall_mk h27 (by simp [AV.pureL, AV.pure, prsA_pure]) ?_
  simp only [wB, awp, asT, asN, St.ev, St.step, setS, killS, AV.kill, AV.killL, Mem.kill, Nat.reduceAdd, Nat.reduceEqDiff, Int.reduceAdd, List.drop_zero, AV.sub, AV.subL, List.take_succ_cons, List.take_zero, AV.up]
  refine swp_le (σ' := ⟨[.bot, .bot, .bot, .bot, .bot, .bot, .bot, .q 0 13 0 0, I 0, .s 1 (strsA D), .bot, .bot, I k2, S (lg 0 (D.take k2)), .q 3 13 0 0, I k2, I 0, .q 6 13 0 0, I D.length, I 0, .bot, .bot, .bot, .bot, .bot, .bot, .bot, .bot, .bot, .bot, .bot, .bot, .bot, .bot, .bot, .bot, .bot, .bot, .bot, .bot, .bot, .bot, .bot, .bot, .bot, .bot, .bot, .bot, .bot, .bot, .bot, .bot, .bot, .bot, .bot, .bot, .bot, .bot, .bot, .bot, .bot, .bot, .bot, .bot, .bot, .bot, .bot, .bot, .bot, .bot, .bot, .bot, .bot, .bot, .bot, .bot, .bot, .bot, .bot, .bot, .bot, .bot, .bot, .bot, .bot, .bot, .bot, .bot, .bot, .bot, .bot, .bot, .bot, .bot, .bot, .bot, .bot, .bot, .bot, .bot, .bot, .bot, .bot, .bot, .bot, .bot, .bot, .bot, .bot, .bot, .bot, .bot, .bot, .bot, .bot, .bot, .bot, .bot, .bot, .bot, .bot, .bot, .bot, .bot, .bot, .bot, .bot, .bot, .bot, .bot, .bot, .bot, .bot, .bot, .bot, .bot, .bot, .bot, .bot, .bot, .bot, .bot, .bot, .bot, .bot, .bot, .bot, .bot, .bot, .bot, .bot, .bot, .bot, .bot, .bot, .bot, .bot, .bot, .bot, .bot, .bot, .bot, .bot, .bot, .bot, .bot, .bot, .bot, .bot, .bot, .bot, .bot, .bot, .bot, .bot, .bot, .bot, .bot, .bot, .bot, .bot, .bot, .bot, .bot, .bot, .bot, .bot, .bot, .bot, .bot], [some (mkM n lm ls D).ob, none, some (mkM n lm ls D).od, some ((mkM n lm ls (D.take k2)).obA 5), none, some (mkM n lm ls (D.take k2)).od, some ((mkM n lm ls D).obA 8), none, some (mkM n lm ls D).od]⟩) (le_rn [0, 1, 2, 3, 4, 5, 6, 99, 7] (by decide) ?_ (by simp [leSl, AV.sub, AV.subL, prsA_sub, prsA_msub, strsA_sub, strsA_msub, reF, reG, List.idxOf?, List.findIdx?, List.findIdx?.go])) ?_
  · simp [reM, reF, reG, Mch.ob, Mch.obA, Mch.od, Mch.cells, mkM, AV.sub, AV.subL, prsA_sub, strsA_sub, intsA_sub, gtsA_sub, strsA_msub, List.idxOf?, List.findIdx?, List.findIdx?.go]
  refine swp_fs (own := []) [false, false, false, false, false, false, false, false, false, false, false, false, false, false, false, false, false, false, false, false, false, false, false, false, false, false, false, false, false, false, false, true, false, false, false, false, false, true, false, false, false, false, true, false, false, false, false, false, true, false, false] ?_
  simp only [wB, binC, cmpC, eqC, asG, asB, asI, lenA, St.ev, St.step, setS, killS, AV.kill, AV.killL, Mem.kill, isNP, ptrN, asStr, lenK, nt32, strsA_len, strsA_len]
  obtain ⟨m, hm⟩ : ∃ m, m = mkM n lm ls D := ⟨_, rfl⟩
  obtain ⟨P, hP⟩ : ∃ P, P = mkM n lm ls (D.take k2) := ⟨_, rfl⟩
  have hsm1 : Sml m := by rw [hm]; exact sml_of hA
  have h23P : MSpec Tryz.prog 23 [.q 0 13 0 0] (memD P) (fun r N => r = S (lg 0 (D.take k2)) ∧ N = memD P) := by rw [hP]; exact m23 _ (sml_of hAk)
  have h29P : MSpec Tryz.prog 29 [.q 0 13 0 0] (memD P) (fun r N => r = B true ∧ N = memD P) := by rw [hP]; exact m29 n lm ls (by omega) _ h0 hAk
  have h29m : MSpec Tryz.prog 29 [.q 0 13 0 0] (memD m) (fun r N => r = B true ∧ N = memD m) := by rw [hm]; exact m29 n lm ls (by omega) _ h0 hA
  rw [← hm, ← hP]
  have fP : ∀ {f : FuncId} {ars : List AV} {x : AV} {P' : Mch}, MSpec Tryz.prog f (.q 0 13 0 0 :: ars) (memD P) (fun r N => r = x ∧ N = memD P') → AV.pureL ars = true → x.pure = true → FSpec Tryz.prog f (.q 3 13 0 0 :: ars) (memA 3 P) [some m.ob, none, some m.od, some (P.obA 5), none, some P.od, some (m.obA 8), none, some m.od] x [some m.ob, none, some m.od, some (P'.obA 5), none, some P'.od, some (m.obA 8), none, some m.od] := fun h ha hx =>
    fA [some m.ob, none, some m.od] [some (m.obA 8), none, some m.od] h ha hx 3 rfl (by
      simp [memA, keepF, keepG, Mch.ob, Mch.obA, Mch.od, Mch.cells, AV.sub, AV.subL, prsA_sub, strsA_sub, intsA_sub, gtsA_sub, strsA_msub, liveI, AV.isO, AV.isQ]) (by
      simp [memA, keepF, keepG, Mch.ob, Mch.obA, Mch.od, Mch.cells, AV.sub, AV.subL, prsA_sub, strsA_sub, intsA_sub, gtsA_sub, strsA_msub, liveI, AV.isO, AV.isQ])
  refine acall_f (fP h23P rfl rfl) ?_
  simp only [wB, binC, eqC, asG, asB, asI, St.ev, St.step, setS, killS, AV.kill, AV.killL, Mem.kill, Nat.reduceAdd, Nat.reduceEqDiff, Int.reduceAdd, asStr, strC, AV.sub, keepG, liveI, AV.isQ, List.any_cons, List.any_nil, memA]
  refine acall_f (fP h29P rfl rfl) ?_
  simp only [wB, asB, St.ev, St.step, setS, killS, AV.kill, AV.killL, Mem.kill, Nat.reduceAdd, Nat.reduceEqDiff, Int.reduceAdd, AV.sub, keepG, liveI, AV.isQ, List.any_cons, List.any_nil, memA]
  have f29m : FSpec Tryz.prog 29 [.q 6 13 0 0] (memA 6 m) [some m.ob, none, some m.od, some (P.obA 5), none, some P.od, some (m.obA 8), none, some m.od] (B true) [some m.ob, none, some m.od, some (P.obA 5), none, some P.od, some (m.obA 8), none, some m.od] :=
    fA [some m.ob, none, some m.od, some (P.obA 5), none, some P.od] [] h29m rfl rfl 6 rfl (by
      simp [memA, keepF, keepG, Mch.ob, Mch.obA, Mch.od, Mch.cells, AV.sub, AV.subL, prsA_sub, strsA_sub, intsA_sub, gtsA_sub, strsA_msub, liveI, AV.isO, AV.isQ]) rfl
  refine acall_f f29m ?_
  simp only [wB, asB, St.ev, St.step, setS, killS, AV.kill, AV.killL, Mem.kill, Nat.reduceAdd, Nat.reduceEqDiff, Int.reduceAdd, AV.sub, keepG, liveI, AV.isQ, List.any_cons, List.any_nil, memA]
  refine acall_f (f30a m P hsm1) ?_
  simp only [wB, awp, asB, asN, St.ev, St.step, setS, killS, AV.kill, AV.killL, Mem.kill, Nat.reduceAdd, Nat.reduceEqDiff, Int.reduceAdd, AV.sub, keepG, liveI, AV.isQ, List.any_cons, List.any_nil]
  refine swp_loop' (fun j : Nat => ⟨[.bot, .bot, .bot, .bot, .bot, .bot, .bot, .q 0 13 0 0, .bot, .s 1 (strsA D), .bot, .bot, .bot, .bot, .q 3 13 0 0, .bot, .bot, .bot, .bot, .bot, I j, .bot, .bot, .bot, .bot, .bot, .bot, .bot, .bot, .bot, .bot, .bot, .bot, .bot, .bot, .bot, .bot, .bot, .bot, .bot, .bot, .bot, .bot, .bot, .bot, .bot, .bot, .bot, .bot, .bot, .bot, .bot, .bot, .bot, .bot, .bot, .bot, .bot, .bot, .bot, .bot, .bot, .bot, .bot, .bot, .bot, .bot, .bot, .bot, .bot, .bot, .bot, .bot, .bot, .bot, .bot, .bot, .bot, .bot, .bot, .bot, .bot, .bot, .bot, .bot, .bot, .bot, .bot, .bot, .bot, .bot, .bot, .bot, .bot, .bot, .bot, .bot, .bot, .bot, .bot, .bot, .bot, .bot, .bot, .bot, .bot, .bot, .bot, .bot, .bot, .bot, .bot, .bot, .bot, .bot, .bot, .bot, .bot, .bot, .bot, .bot, .bot, .bot, .bot, .bot, .bot, .bot, .bot, .bot, .bot, .bot, .bot, .bot, .bot, .bot, .bot, .bot, .bot, .bot, .bot, .bot, .bot, .bot, .bot, .bot, .bot, .bot, .bot, .bot, .bot, .bot, .bot, .bot, .bot, .bot, .bot, .bot, .bot, .bot, .bot, .bot, .bot, .bot, .bot, .bot, .bot, .bot, .bot, .bot, .bot, .bot, .bot, .bot, .bot, .bot, .bot, .bot, .bot, .bot, .bot, .bot, .bot, .bot, .bot, .bot, .bot, .bot, .bot, .bot, .bot], [some m.ob, none, some m.od, some ((mkM n lm ls (D.take j)).obA 5), none, some (mkM n lm ls (D.take j)).od, some (m.obA 8), none, some m.od]⟩) (fun j => j ≤ D.length) (fun j => D.length - j) k2 (le_sl' ?_ (by simp [leSl])) hk2 ?_
  · simp [hP]
  intro j hj
  refine awp_sound (own := [1026, 1028]) _ _ _ _ _ ?_
  simp only [wB, awp, binC, cmpC, asB, asI, lenA, St.ev, St.step, setS, killS, AV.kill, AV.killL, Mem.kill, Nat.reduceAdd, Nat.reduceEqDiff, Int.reduceAdd, lenK, strsA_len, strsA_len]
  by_cases h : j < D.length
  · obtain ⟨hAj, hej⟩ := hA.at j h
    have hdj : doO n lm ls (D.take j) D[j] = D.take (j + 1) := by rw [doO_ok hej, List.take_append_getElem]
    have hoj := (ordB_iff _).1 (hA.ords _ (List.getElem_mem h))
    have h24 := m24 n lm ls (D.take j) hAj hT (by omega) D[j] (by omega)
    rw [hej, hdj] at h24
    have f24j := fA [some m.ob, none, some m.od] [some (m.obA 8), none, some m.od] h24 rfl rfl 3 rfl (by
      simp [memA, keepF, keepG, Mch.ob, Mch.obA, Mch.od, Mch.cells, AV.sub, AV.subL, prsA_sub, strsA_sub, intsA_sub, gtsA_sub, strsA_msub, liveI, AV.isO, AV.isQ]) (by
      simp [memA, keepF, keepG, Mch.ob, Mch.obA, Mch.od, Mch.cells, AV.sub, AV.subL, prsA_sub, strsA_sub, intsA_sub, gtsA_sub, strsA_msub, liveI, AV.isO, AV.isQ])
    simp only [awp, ACond_true, List.contains_nil, List.contains_cons, beq_self_eq_true, nbeq, decide_false, Bool.or_false, Nat.reduceAdd, Nat.reduceEqDiff, Int.reduceAdd, decide_eq_true (show (j : Int) < D.length by omega)]
    refine swp_fs (own := []) [false, false, false, false, false, true, false] ?_
    simp only [wB, idxC, asP, asS, asI, loadA, St.ev, St.step, setS, killS, AV.kill, AV.killL, Mem.kill, AV.cells, AV.flat, AV.single, aget_strs h, Int.toNat_natCast]
    refine ⟨by omega, acall_f f24j ?_⟩
    simp only [wB, awp, binC, arithC, cmpC, asB, asI, asN, St.ev, St.step, setS, killS, AV.kill, AV.killL, Mem.kill, Nat.reduceAdd, Nat.reduceEqDiff, Int.reduceAdd, isU, AV.sub, keepG, liveI, AV.isQ, List.any_cons, List.any_nil, memA]
    exact ⟨by unfold lim; omega, j + 1, le_sl' rfl (by simp [leSl]), h, by omega⟩
  simp only [awp, ACond_true, ACond_false, List.contains_nil, List.contains_cons, if_true, beq_self_eq_true, nbeq, decide_false, Bool.or_false, Bool.or_true, Nat.reduceAdd, Nat.reduceEqDiff, Int.reduceAdd, decide_eq_false (show ¬ (j : Int) < D.length by omega)]
  obtain rfl : j = D.length := by omega
  rw [List.take_length, ← hm]
  refine swp_fs (own := []) [false, false, true, false] ?_
  simp only [wB, St.ev, St.step, setS, killS, AV.kill, AV.killL, Mem.kill]
  refine acall_f (f30b m m hsm1) ?_
  simp only [wB, awp, asN, St.ev, St.step, setS, killS, AV.kill, AV.killL, Mem.kill, Nat.reduceEqDiff, AV.sub, keepG, liveI, AV.isQ, List.any_cons, List.any_nil, mem2]
  exact aend_frz rfl ⟨rfl, rfl⟩
end Go.Proofs.YtndniceeibflcaaGreatDoor

namespace Go.Proofs.YtndniceeibflcaaGreatDoor
open Aw Go.ChangeShapes Go.WideShapes Go.ChangeAt Go.RowKit Go.Deep Go.Joins

set_option maxRecDepth 100000 in
theorem topReplay_lifted (os : Os) (started : os.Started) (H : Type) (enc : TypeId × Value → H) :
    ReturnsInHanded {} Tryz.checked os 4 .any (fun w args => (Rows.topReplaySpec.pre enc Tryz.prog Tryz.f4 [] false w args ∧ laidMetH Tryz.prog Rows.topReplayRow.laid w) ∧ sizedMet enc Tryz.prog Tryz.f4 (OpenSpec.ofChange Rows.topReplaySpec) false w args)
      (Rows.topReplaySpec.post enc Tryz.prog Tryz.f4 false true false false) := by
  refine returns_laid (C := Tryz.checked) (X := fun w _ => laidMetH Tryz.prog Rows.topReplayRow.laid w) (fun _ _ _ hh h => h.of_heap hh) Tryz.own started (by kernel_rfl) Tryz.func4
    (ChangeSpec.witness_at (enc := enc) (C := Tryz.checked) (os := os) (X := fun w _ => laidMetH Tryz.prog Rows.topReplayRow.laid w) false (laidWorld os) #[.agg #[.int .i64 0, .slice none 0 0, .int .i64 0], .slice none 0 0, .int .i64 0] 8 rfl (by kernel_rfl) (by kernel_rfl) (by kernel_rfl) (by kernel_rfl) (by kernel_rfl) (laidWorld_met os _)) ?_
  intro W base args ds gs before hval0 hW hsz hL hsh
  have hval : ∀ (j : Nat) t v, Tryz.f4.params[j]? = some t → args[j]? = some v → Value.okWide Tryz.prog W .any base t v := hval0
  have hG : GOk W := gok_of hL hsh
  have hW' := hW
  obtain ⟨p, q, hA0, hV, rfl, hfz, hnd⟩ := hW
  have hA : DataW.TrodAll enc Tryz.prog W 0 (fun _ => true) true Tryz.f4.params.toList args.toList ds p := hA0
  rw [Tryz.params4] at hA hval hsz
  obtain ⟨v0, v1, v2, d0, d1, d2, p0, p1, p2, rfl, rfl, rfl, h0, h1, h2⟩ := trodAll_three hA
  obtain ⟨rfl, rfl⟩ := trodVars_none hV
  obtain ⟨n0, ls0, lm0, r0⟩ := sa_lab (hval 0 26 v0 rfl rfl) h0
  obtain ⟨l1, r1, b1⟩ := sa_strs (hval 1 27 v1 rfl rfl) h1
  obtain ⟨n2, r2, b2⟩ := sa_int (hval 2 3 v2 rfl rfl) h2
  clear hA0 hval0
  simp only [List.append_nil] at hW'
  have hlt : ∀ x ∈ p0 ++ p1 ++ p2, x.block < W.heap.size := fun x hx => hW'.lt x (by simpa using hx)
  refine (calls_true (s4 n0 lm0 ls0 l1 b1 n2 b2) (vs := [v0, v1, v2]) (by simp only [RVL]; exact ⟨_, _, rfl, r0, _, _, rfl, r1, _, _, rfl, r2, rfl⟩) hG).mono fun e W' ⟨he, hb⟩ => ?_
  subst he
  refine ⟨_, rfl, law_shut hW' hb rfl (fun _ _ _ => trodAll_mk1 (shut_bool Tryz.underlying4 true)) (fun sp hsp => ?_) rfl (ok_one (by kernel_rfl) rfl (okWide_bool_mk Tryz.underlying4 true))⟩
  have g := trodAll_mk3 (arg_stays Tryz.laidOut rr26 lt26 h0 hb (fun x hx => hlt x (by simp [hx])) (sp := sp) (fun x hx => hsp x (by simp [hx])))
    (arg_stays Tryz.laidOut rr27 lt27 h1 hb (fun x hx => hlt x (by simp [hx])) (sp := sp) (fun x hx => hsp x (by simp [hx])))
    (arg_stays Tryz.laidOut rr3 lt3 h2 hb (fun x hx => hlt x (by simp [hx])) (sp := sp) (fun x hx => hsp x (by simp [hx])))
  rw [← List.append_assoc] at g
  exact g

theorem topReplay_func : Tryz.prog.funcNamed "quadrupole/quadrupoletop.TopReplay" = some 4 := by kernel_rfl
theorem topReplay_k10 : (Rows.topReplayRow.inPlace == Tryz.prog.inPlace 4) = true := by kernel_rfl
theorem topReplay_k11 : (Rows.topReplayRow.unfollowed == Tryz.prog.unfollowed 4) = true := by kernel_rfl
theorem topReplay_k12 : (Rows.topReplayRow.recurses == Tryz.prog.recurses 4) = true := by kernel_rfl
theorem topReplay_k13 : (Rows.topReplayRow.named == Tryz.prog.varsNamed 4) = true := by kernel_rfl
theorem topReplay_closed : joinedFacts Tryz.prog 4 Tryz.f4 Rows.topReplaySpec Rows.topReplayRow = true :=
  joined_of (by kernel_rfl) (by kernel_rfl) (by kernel_rfl) rfl rfl topReplay_k10 topReplay_k11 topReplay_k12 topReplay_k13 (by kernel_rfl) Tryz.keysE rfl Tryz.lifts Tryz.made (by kernel_rfl)
theorem topReplay_goes : false = Rows.topReplayRow.goesBy Tryz.prog := by kernel_rfl
theorem topReplay_row : Rows.TopReplaySaid :=
  OpenClaim.holds_of_wide 4 Tryz.f4 rfl rfl rfl rfl rfl rfl rfl ⟨rfl, rfl, rfl, rfl, rfl⟩ rfl rfl rfl rfl rfl topReplay_func Tryz.func4 topReplay_closed
    (of_decide_eq_true (by kernel_rfl)) (by unfold Func.isWrapper; rw [if_neg (of_decide_eq_false (by kernel_rfl))]; exact ⟨rfl, rfl⟩)
    (fun os started H enc _ => topReplay_lifted os started H enc)

theorem topReplay_holds : Rows.TopReplayCardSaid :=
  Claim7.holds_tied_plain_at .later [] [.data, .data, .data, .data, .handle, .sentinel, .sentinel, .pinned] true (true, "aa03d57e40d7f46a321b7a338959e31570b187a828c7cad4885241d6f19c00d7") true
    topReplay_row (fun _ h => by cases h) (by kernel_rfl) (fun _ h => by cases h) topReplay_row_tie rfl ⟨rfl, rfl⟩ Tryz.mainE rfl
    (fun f fn hf hfn => by
      obtain rfl : f = 4 := Option.some.inj (topReplay_func.symm.trans hf) |>.symm
      obtain rfl : fn = Tryz.f4 := (Option.some.inj (Tryz.func4.symm.trans hfn)).symm
      refine ⟨Tryz.looksE, fun j t ht => ?_⟩
      rw [Tryz.params4] at ht
      have h3 := Array.mem_of_getElem? ht
      simp only [List.mem_toArray, List.mem_cons, List.not_mem_nil, or_false] at h3
      rcases h3 with rfl | rfl | rfl
      · exact Tryz.st26
      · exact Tryz.st27
      · exact Tryz.st3)
    topReplay_goes
end Go.Proofs.YtndniceeibflcaaGreatDoor
