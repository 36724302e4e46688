/-
  The law MachineOrders: for every input, with the listed variables as the program's text lays them, it answers true, and each argument reads as it did.
-/
import Derived.Test.YtndniceeibflcaaGreatDoorProg
import Derived.WalkKit
import Derived.Lib.ConvBytes
import Derived.LaidEql
import Derived.Lib.ItoaNum
import Derived.Lib.LaidTab
import Derived.KernelRfl
import GoSem.Claims
import GoSem.ClaimJoined
import Derived.Orders
import Derived.Laws.StructEq
import Derived.Maps.Keyed
import Derived.Lib.Strings
import Derived.Maps.AppendAt
import Derived.Laws.Concat
import Derived.MapKept
import Derived.Laws.MakeOwn
import Derived.Scope
import Derived.Laws.BitsLemmas
import Derived.Maps.RangeRun
import Derived.StillTail
import Derived.OrdersIn
import Derived.TacticsIn
import Derived.RangeFuncRecord
import Derived.RangeFuncCalls
import Derived.RangeFuncSeq
import Derived.Lib.Split
import Derived.Lib.AtoiAll
import Derived.Shelf.LaysM
import Derived.Shelf.LaysC
import Derived.Shelf.Strconv.Itoa3
import Derived.Shelf.Strconv.AtoiAll
import Derived.Shelf.Strings.Search3
import Derived.Shelf.Strings.Cut
import Derived.Shelf.Strings.Prefix
import Derived.Shelf.Strings.Split
import Derived.Lib.AppendIntMem
import Derived.Stop.Asserts
import Derived.RowKitTokens
import Derived.Conc.MuLone
import Derived.Test.YtndniceeibflcaaGreatDoorRows
import Derived.Test.YtndniceeibflcaaGreatDoorChecked
import Derived.ChangeSame
import Derived.ChangeVars
import Derived.JoinedOf
import Derived.ProofKit
import Derived.RowKit
import Derived.LaidLaws
import Derived.LaidHandle
import Derived.LaidMore
import Derived.Stop.Joined
import Derived.Stop.LaidErr
import Derived.HandedShaped
import Derived.Shelf.Vars
import Derived.Deep.Slices
import Derived.Deep.Strs
import Derived.Deep.Fields
import Derived.Lib.SmallJoins
import Derived.SliceStrings
import Derived.ChangeMaps5
import Derived.Test.YtndniceeibflcaaGreatDoorTie
import Derived.Test.YtndniceeibflcaaGreatDoorCards
import Derived.SevenTiedAt
import Derived.Test.YtndniceeibflcaaGreatDoorKaa
import Derived.Test.YtndniceeibflcaaGreatDoorKal
import Derived.Test.YtndniceeibflcaaGreatDoorKac
import Derived.Test.YtndniceeibflcaaGreatDoorKad
import Derived.Test.YtndniceeibflcaaGreatDoorKae
import Derived.Test.YtndniceeibflcaaGreatDoorKag
import Derived.Test.YtndniceeibflcaaGreatDoorKau
import Derived.Test.YtndniceeibflcaaGreatDoorKbn
import Derived.Test.YtndniceeibflcaaGreatDoorKaf
import Derived.Test.YtndniceeibflcaaGreatDoorKbw
import Derived.Test.YtndniceeibflcaaGreatDoorKbo
import Derived.Test.YtndniceeibflcaaGreatDoorKai
import Derived.Test.YtndniceeibflcaaGreatDoorKca
import Derived.Test.YtndniceeibflcaaGreatDoorKap
import Derived.Test.YtndniceeibflcaaGreatDoorKce
import Derived.Test.YtndniceeibflcaaGreatDoorKch
import Derived.Test.YtndniceeibflcaaGreatDoorKbk
import Derived.Test.YtndniceeibflcaaGreatDoorKcm
set_option linter.unusedSimpArgs false
set_option linter.unusedVariables false
namespace Go.Proofs.YtndniceeibflcaaGreatDoor
namespace Aw
end Aw
namespace Mp
end Mp
end Go.Proofs.YtndniceeibflcaaGreatDoor
namespace Go.Proofs.YtndniceeibflcaaGreatDoor
open Aw Mp Go.RowKit
set_option linter.unusedSimpArgs false
set_option maxRecDepth 8000

theorem t55' (n lm : Int) (ls : List (Int × Int)) (l m : List By) : ∀ F G, ([some (o55 n lm ls l), some (o55 n lm ls m)].map fun c : Option Ob => c.map fun ob => { ob with xs := AV.subL F G ob.xs }) = [some (o55 n lm ls l), some (o55 n lm ls m)] := fun F G => by
  simp [o55, AV.subL, AV.sub, prsA_sub, strsA_sub]
theorem ok7 : okFn Tryz.prog 7 = true := by kernel_rfl
theorem s7 (n lm : Int) (ls : List (Int × Int)) (l : List By) (hs : ∀ o ∈ l, o.length ≤ 9223372036854775807) : ASpec Tryz.prog 7 [labA n ls lm, .s 1 (strsA l)] (fun r Ms => r = B true ∧ Ms = []) := by
  refine aspec_of (own := [7, 10, 1004, 1009, 1015]) Tryz.func7 rfl ok7 ?_
  simp only [wB, awp, asP, asN, loadA, St.ev, St.step, setS, killS, AV.kill, AV.killL, Mem.kill, AV.cells, AV.flat, AV.single, AV.cellular, AV.pure, AV.pureL, Nat.reduceAdd, Nat.reduceEqDiff, Nat.reduceSub, Nat.reduceLeDiff, Int.reduceAdd, Int.reduceSub, Tryz.ntmps7, labA]
  have h20 := s20 n lm ls
  simp only [labA] at h20
  refine acall_v h20 (by simp [AV.pureL, AV.pure, prsA_pure]) rfl ?_
  by_cases h60 : 60 < ls.length
  · simp only [wB, awp, asB, St.ev, St.step, setS, killS, AV.kill, AV.killL, Mem.kill, Nat.reduceAdd, Nat.reduceEqDiff, Int.reduceAdd, decide_eq_true h60]
    refine acall_v s31 rfl rfl ?_
    simp only [wB, awp, asN, St.ev, St.step, setS, killS, AV.kill, AV.killL, Mem.kill, Nat.reduceEqDiff]
    exact aend_frz rfl ⟨rfl, rfl⟩
  simp only [wB, St.ev, St.step, setS, killS, AV.kill, AV.killL, Mem.kill, decide_eq_false h60]
  refine acall_v (s21 l) (by simp [AV.pureL, AV.pure, strsA_pure]) rfl ?_
  by_cases h150 : 150 < l.length
  · simp only [wB, awp, asB, St.ev, St.step, setS, killS, AV.kill, AV.killL, Mem.kill, Nat.reduceAdd, Nat.reduceEqDiff, Int.reduceAdd, decide_eq_true h150]
    refine acall_v s31 rfl rfl ?_
    simp only [wB, awp, asN, St.ev, St.step, setS, killS, AV.kill, AV.killL, Mem.kill, Nat.reduceEqDiff]
    exact aend_frz rfl ⟨rfl, rfl⟩
  simp only [wB, awp, asP, asB, loadA, St.ev, St.step, setS, killS, AV.kill, AV.killL, Mem.kill, AV.cells, AV.flat, AV.single, Nat.reduceAdd, Nat.reduceEqDiff, Nat.reduceLeDiff, Int.reduceAdd, decide_eq_false h150]
  by_cases h0 : vN n lm ls = 0
  case neg =>
    have h22 := s22e n lm ls (by omega) h0
    have h34 := s34e n lm ls (by omega) h0
    simp only [trapA] at h22 h34
    refine acall_v h22 (by simp [AV.pureL, AV.pure, prsA_pure]) rfl ?_
    simp only [wB, awp, asT, asN, St.ev, St.step, setS, killS, AV.kill, AV.killL, Mem.kill, Nat.reduceAdd, Nat.reduceEqDiff, Int.reduceAdd]
    refine awp_sound (own := [7, 1009]) _ _ _ _ _ ?_
    simp only [wB, awp, asP, loadA, St.ev, St.step, setS, killS, AV.kill, AV.killL, Mem.kill, AV.cells, AV.flat, AV.single, Nat.reduceAdd, Nat.reduceEqDiff, Nat.reduceLeDiff, Int.reduceAdd]
    refine acall_v h34 (by simp [AV.pureL, AV.pure, prsA_pure]) rfl ?_
    simp only [wB, awp, binC, cmpC, eqC, asQ, asT, asG, asB, asI, asN, obA, storeA, putsA, mkA, Aw.newRow, St.ev, St.step, setS, killS, AV.kill, AV.killL, Mem.kill, AV.cells, AV.flat, AV.single, AV.cellular, Nat.reduceAdd, Nat.reduceEqDiff, Nat.reduceLeDiff, Int.reduceAdd, isNP, ptrN, asStr, nt32, rf0, decide_eq_false h0]
    refine acall_v s31 rfl rfl ?_
    simp only [wB, awp, asB, asN, St.ev, St.step, setS, killS, AV.kill, AV.killL, Mem.kill, Nat.reduceEqDiff]
    exact aend_frz rfl ⟨rfl, rfl⟩
  have h22 := s22o n lm ls (by omega) h0
  have h34 := s34o n lm ls (by omega) h0
  have hT := (vN_ok h0).1
  simp only [trapA] at h22 h34
  refine acall_os h22 (by simp [AV.pureL, AV.pure, prsA_pure]) ?_
  simp only [wB, awp, asT, asN, St.ev, St.step, setS, killS, AV.kill, AV.killL, Mem.kill, Nat.reduceAdd, Nat.reduceEqDiff, Int.reduceAdd, List.drop_zero, AV.sub, AV.subL, List.take_succ_cons, List.take_zero, AV.up, Ob.up, prsA_msub, new_sub]
  refine swp_le (σ' := ⟨[.bot, .s 1 (strsA l), .p (.g [I n, .s 2 (prsA ls), I lm]) 0, .bot, .bot, .q 0 13 0 0, I 0, .bot, .bot, .bot, .bot, .bot, .bot, .bot, .bot, .bot, .bot, .bot, .bot, .bot, .bot, .bot, .bot, .bot, .bot, .bot, .bot, .bot, .bot, .bot, .bot, .bot, .bot, .bot, .bot, .bot, .bot, .bot, .bot, .bot, .bot, .bot, .bot, .bot, .bot, .bot, .bot, .bot, .bot, .bot, .bot, .bot, .bot, .bot, .bot, .bot, .bot, .bot, .bot, .bot, .bot, .bot, .bot, .bot, .bot, .bot, .bot, .bot, .bot, .bot, .bot, .bot, .bot, .bot, .bot, .bot, .bot, .bot, .bot, .bot, .bot, .bot, .bot, .bot], memD (mkM n lm ls [])⟩) (le_new (by simp [leSl, frz1, AV.sub, prsA_sub, prsA_msub])) ?_
  refine awp_sound (own := [7, 1009]) _ _ _ _ _ ?_
  simp only [wB, awp, asP, loadA, St.ev, St.step, setS, killS, AV.kill, AV.killL, Mem.kill, AV.cells, AV.flat, AV.single, Nat.reduceAdd, Nat.reduceEqDiff, Nat.reduceLeDiff, Int.reduceAdd, memD]
  refine acall_v h34 (by simp [AV.pureL, AV.pure, prsA_pure]) (by simp [AV.pure, AV.pureL, prsA_pure, rfA, strsA]) ?_
  simp only [wB, awp, binC, cmpC, asQ, asT, asB, asI, asN, obA, storeA, putsA, mkA, Aw.newRow, St.ev, St.step, setS, killS, AV.kill, AV.killL, Mem.kill, AV.cells, AV.flat, AV.single, AV.cellular, Nat.reduceAdd, Nat.reduceEqDiff, Nat.reduceLeDiff, Int.reduceAdd, rfA]
  refine swp_fs (own := [7]) [false, false, false, false, false, true, false, false] ?_
  simp only [wB, binC, eqC, asP, asQ, asG, asB, asI, obA, loadA, St.ev, St.step, setS, killS, AV.kill, AV.killL, Mem.kill, AV.cells, AV.flat, AV.single, Nat.reduceAdd, Nat.reduceLeDiff, Int.reduceAdd, isNP, ptrN, asStr, nt32, List.drop_zero, List.take_succ_cons, List.take_zero]
  refine acall_f (f37 n lm ls (by omega) [] .nil [some (o55 n lm ls [])] (t55 _ _ _ _)) ?_
  simp only [wB, awp, asB, asN, St.ev, St.step, setS, killS, AV.kill, AV.killL, Mem.kill, Nat.reduceAdd, Nat.reduceEqDiff, Int.reduceAdd, memD, AV.sub, AV.subL, keepG, liveI, AV.isQ, List.any_cons, List.any_nil, o55]
  refine swp_loop' (fun k : Nat => ⟨[.bot, .s 1 (strsA l), .bot, .bot, .bot, .q 0 13 0 0, .bot, .q 3 4 0 0, .bot, I k, .bot, .bot, .bot, .bot, .bot, .bot, .bot, .bot, .bot, .bot, .bot, .bot, .bot, .bot, .bot, .bot, .bot, .bot, .bot, .bot, .bot, .bot, .bot, .bot, .bot, .bot, .bot, .bot, .bot, .bot, .bot, .bot, .bot, .bot, .bot, .bot, .bot, .bot, .bot, .bot, .bot, .bot, .bot, .bot, .bot, .bot, .bot, .bot, .bot, .bot, .bot, .bot, .bot, .bot, .bot, .bot, .bot, .bot, .bot, .bot, .bot, .bot, .bot, .bot, .bot, .bot, .bot, .bot, .bot, .bot, .bot, .bot, .bot, .bot], memD (mkM n lm ls (doL n lm ls (l.take k))) ++ [some (o55 n lm ls (doL n lm ls (l.take k)))]⟩) (fun k => k ≤ l.length) (fun k => l.length - k) 0 (le_sl' ?_ (by simp [leSl])) (Nat.zero_le _) ?_
  · simp [o55, doL, memD]
  intro k hk
  have hA := doL_acc n lm ls (l.take k)
  refine awp_sound (own := [7, 10, 1015]) _ _ _ _ _ ?_
  simp only [wB, awp, binC, cmpC, asB, asI, lenA, St.ev, St.step, setS, killS, AV.kill, AV.killL, Mem.kill, Nat.reduceAdd, Nat.reduceEqDiff, Int.reduceAdd, lenK, strsA_len, strsA_len]
  by_cases h : k < l.length
  case neg =>
    have h' : ¬ (k : Int) < l.length := by omega
    simp only [wB, awp, Nat.reduceAdd, Nat.reduceEqDiff, Int.reduceAdd, decide_eq_false h']
    refine acall_v s31 rfl rfl ?_
    simp only [wB, awp, asN, St.ev, St.step, setS, killS, AV.kill, AV.killL, Mem.kill, Nat.reduceEqDiff]
    exact aend_frz rfl ⟨rfl, rfl⟩
  have h' : (k : Int) < l.length := by omega
  simp only [awp, ACond_true, decide_eq_true h']
  have h35 := s35 n lm ls _ hA (by omega) l[k] (hs _ (List.getElem_mem h))
  have h24 := f24T n lm ls hT (by omega) _ hA l[k] (hs _ (List.getElem_mem h)) [some (o55 n lm ls (doL n lm ls (l.take k))), some (o55 n lm ls (doL n lm ls (l.take (k + 1))))] (t55' _ _ _ _ _)
  have hA1 := doL_acc n lm ls (l.take (k + 1))
  have h37 := f37 n lm ls (by omega) _ hA1 [some (o55 n lm ls (doL n lm ls (l.take k))), some (o55 n lm ls (doL n lm ls (l.take (k + 1))))] (t55' _ _ _ _ _)
  rw [← doL_take h] at h35 h24
  obtain ⟨e, he⟩ : ∃ e, e = erO n lm ls (doL n lm ls (l.take k)) l[k] := ⟨_, rfl⟩
  rw [← he] at h35 h24
  simp only [rfA] at h35
  refine swp_to ⟨[.bot, .s 1 (strsA l), .bot, .bot, .bot, .q 0 13 0 0, .bot, .q 3 4 0 0, .bot, I k, .q 4 4 0 0, I e, .bot, .bot, .bot, .bot, .bot, .bot, .bot, .bot, .bot, .bot, .bot, .bot, .bot, .bot, .bot, .bot, .bot, .bot, .bot, .bot, .bot, .bot, .bot, .bot, .bot, .bot, .bot, .bot, .bot, .bot, .bot, .bot, .bot, .bot, .bot, .bot, .bot, .bot, .bot, .bot, .bot, .bot, .bot, .bot, .bot, .bot, .bot, .bot, .bot, .bot, .bot, .bot, .bot, .bot, .bot, .bot, .bot, .bot, .bot, .bot, .bot, .bot, .bot, .bot, .bot, .bot, .bot, .bot, .bot, .bot, .bot, .bot], memD (mkM n lm ls (doL n lm ls (l.take k))) ++ [some (o55 n lm ls (doL n lm ls (l.take k))), some (o55 n lm ls (doL n lm ls (l.take (k + 1))))]⟩ (swp_draw (own := [7, 10]) (.take 0 .reads [] (.take 1 .plain [] (.take 2 .plain [] (.take 3 .reads [] (.take 4 .reads [] (.alt 5 (.take 6 .plain [] (.take 7 .plain [] (.take 8 .plain [] (.alt 9 (.alt 10 (.take 11 .plain [] (.done)) (.nil)) (.nil))))) (.alt 9 (.alt 5 (.take 6 .plain [] (.take 7 .plain [] (.take 8 .plain [] (.alt 10 (.take 11 .plain [] (.done)) (.nil))))) (.nil)) (.nil)))))))) [⟨61, 128, 0, 0, true⟩, ⟨62, 2, 0, 0, true⟩, ⟨63, 512, 0, 0, true⟩, ⟨64, 6917529027641081856, 6, 0, true⟩, ⟨65, 9223372036854775808, 8, 0, true⟩, ⟨66, 19599665578316398592, 17, 0, false⟩, ⟨60, 36893488147419103232, 32, 0, true⟩, ⟨67, 576460752303423488, 64, 0, true⟩, ⟨68, 576460752303423488, 64, 0, true⟩, ⟨11, 0, 0, 0, false⟩, ⟨0, 73786976294838207488, 767, 1, false⟩, ⟨12, 147573952589676412928, 2047, 0, true⟩] mo (by kernel_rfl) ?_) ?_
  · simp only [wB, idxC, asP, asQ, asS, asI, obA, loadA, mkA, Aw.newRow, St.ev, St.step, setS, killS, AV.kill, AV.killL, Mem.kill, AV.cells, AV.flat, AV.single, Nat.reduceAdd, Nat.reduceEqDiff, Nat.reduceLeDiff, Int.reduceAdd, ASch, St.put, Md.mem, Md.need, memD, List.drop_zero, List.take_succ_cons, List.take_zero, o55, aget_strs h, Int.toNat_natCast]
    repeat' (first
      | refine And.intro ?_ ?_
      | omega
      | (refine acall_v h35 (by simp [AV.pureL, AV.pure, prsA_pure, strsA_pure]) (by simp [AV.pure, AV.pureL, prsA_pure, strsA_pure]) ?_; simp only [wB, asQ, asT, asN, obA, storeA, putsA, mkA, Aw.newRow, St.ev, St.step, setS, killS, AV.kill, AV.killL, Mem.kill, AV.cells, AV.flat, AV.single, AV.cellular, Nat.reduceAdd, Nat.reduceEqDiff, Nat.reduceLeDiff, Int.reduceAdd, ASch, St.put, Md.mem, Md.need]))
    all_goals exact le_sl (by simp [leSl])
  simp only [awp, ACond_true, List.cons_append, List.nil_append, List.contains_nil, List.contains_cons, beq_self_eq_true, nbeq, decide_false, Bool.or_false, Bool.or_true, Nat.reduceAdd, Nat.reduceEqDiff, Int.reduceAdd, memD, List.cons_append, List.nil_append]
  refine swp_fs (own := [7, 10]) [false, false, false, false, false, true, false, false, false, false, false, true, false, false] ?_
  simp only [wB, idxC, asP, asS, asI, loadA, St.ev, St.step, setS, killS, AV.kill, AV.killL, Mem.kill, AV.cells, AV.flat, AV.single, o55, aget_strs h, Int.toNat_natCast]
  refine ⟨by omega, acall_f h24 ?_⟩
  simp only [wB, binC, cmpC, asP, asQ, asI, obA, loadA, St.ev, St.step, setS, killS, AV.kill, AV.killL, Mem.kill, AV.cells, AV.flat, AV.single, Nat.reduceAdd, Nat.reduceEqDiff, Nat.reduceLeDiff, Int.reduceAdd, memD, List.drop_zero, AV.sub, keepG, liveI, AV.isQ, List.any_cons, List.any_nil, List.take_succ_cons, List.take_zero, o55]
  refine acall_f h37 ?_
  simp only [wB, awp, binC, arithC, cmpC, asP, asQ, asB, asI, asN, obA, loadA, storeA, putsA, St.ev, St.step, setS, killS, AV.kill, AV.killL, Mem.kill, AV.cells, AV.flat, AV.single, AV.cellular, Nat.reduceAdd, Nat.reduceEqDiff, Nat.reduceLeDiff, Int.reduceAdd, isU, memD, List.drop_zero, AV.sub, AV.subL, keepG, liveI, AV.isQ, List.any_cons, List.any_nil, List.take_succ_cons, List.take_zero, o55]
  refine ⟨by unfold lim; omega, k + 1, le_cut (Mx := [some (o55 n lm ls (doL n lm ls (l.take (k + 1))))]) (by simp [leSl]) ?_ rfl ?_, h, by omega⟩
  · simp [o55, memD]
  · simp [freeM, o55, memD, Mch.ob, Mch.od, Mch.cells, AV.freeL, AV.free, strsA_free]
end Go.Proofs.YtndniceeibflcaaGreatDoor

namespace Go.Proofs.YtndniceeibflcaaGreatDoor
open Aw Go.ChangeShapes Go.WideShapes Go.ChangeAt Go.RowKit Go.Deep Go.Joins

set_option maxRecDepth 100000 in
theorem machineOrders_lifted (os : Os) (started : os.Started) (H : Type) (enc : TypeId × Value → H) :
    ReturnsInHanded {} Tryz.checked os 7 .any (fun w args => (Rows.machineOrdersSpec.pre enc Tryz.prog Tryz.f7 [] false w args ∧ laidMetH Tryz.prog Rows.machineOrdersRow.laid w) ∧ sizedMet enc Tryz.prog Tryz.f7 (OpenSpec.ofChange Rows.machineOrdersSpec) false w args)
      (Rows.machineOrdersSpec.post enc Tryz.prog Tryz.f7 false true false false) := by
  refine returns_laid (C := Tryz.checked) (X := fun w _ => laidMetH Tryz.prog Rows.machineOrdersRow.laid w) (fun _ _ _ hh h => h.of_heap hh) Tryz.own started (by kernel_rfl) Tryz.func7
    (ChangeSpec.witness_at (enc := enc) (C := Tryz.checked) (os := os) (X := fun w _ => laidMetH Tryz.prog Rows.machineOrdersRow.laid w) false (laidWorld os) #[.agg #[.int .i64 0, .slice none 0 0, .int .i64 0], .slice none 0 0] 8 rfl (by kernel_rfl) (by kernel_rfl) (by kernel_rfl) (by kernel_rfl) (by kernel_rfl) (laidWorld_met os _)) ?_
  intro W base args ds gs before hval0 hW hsz hL hsh
  have hval : ∀ (j : Nat) t v, Tryz.f7.params[j]? = some t → args[j]? = some v → Value.okWide Tryz.prog W .any base t v := hval0
  have hG : GOk W := gok_of hL hsh
  have hW' := hW
  obtain ⟨p, q, hA0, hV, rfl, hfz, hnd⟩ := hW
  have hA : DataW.TrodAll enc Tryz.prog W 0 (fun _ => true) true Tryz.f7.params.toList args.toList ds p := hA0
  rw [Tryz.params7] at hA hval hsz
  obtain ⟨v0, v1, d0, d1, p0, p1, rfl, rfl, rfl, h0, h1⟩ := trodAll_two hA
  obtain ⟨rfl, rfl⟩ := trodVars_none hV
  obtain ⟨n0, ls0, lm0, r0⟩ := sa_lab (hval 0 26 v0 rfl rfl) h0
  obtain ⟨l1, r1, b1⟩ := sa_strs (hval 1 27 v1 rfl rfl) h1
  clear hA0 hval0
  simp only [List.append_nil] at hW'
  have hlt : ∀ x ∈ p0 ++ p1, x.block < W.heap.size := fun x hx => hW'.lt x (by simpa using hx)
  refine (calls_true (s7 n0 lm0 ls0 l1 b1) (vs := [v0, v1]) (by simp only [RVL]; exact ⟨_, _, rfl, r0, _, _, rfl, r1, rfl⟩) hG).mono fun e W' ⟨he, hb⟩ => ?_
  subst he
  refine ⟨_, rfl, law_shut hW' hb rfl (fun _ _ _ => trodAll_mk1 (shut_bool Tryz.underlying4 true)) (fun sp hsp => ?_) rfl (ok_one (by kernel_rfl) rfl (okWide_bool_mk Tryz.underlying4 true))⟩
  exact trodAll_mk2 (arg_stays Tryz.laidOut rr26 lt26 h0 hb (fun x hx => hlt x (by simp [hx])) (sp := sp) (fun x hx => hsp x (by simp [hx])))
    (arg_stays Tryz.laidOut rr27 lt27 h1 hb (fun x hx => hlt x (by simp [hx])) (sp := sp) (fun x hx => hsp x (by simp [hx])))

theorem machineOrders_func : Tryz.prog.funcNamed "quadrupole/quadrupolelaw09.MachineOrders" = some 7 := by kernel_rfl
theorem machineOrders_k10 : (Rows.machineOrdersRow.inPlace == Tryz.prog.inPlace 7) = true := by kernel_rfl
theorem machineOrders_k11 : (Rows.machineOrdersRow.unfollowed == Tryz.prog.unfollowed 7) = true := by kernel_rfl
theorem machineOrders_k12 : (Rows.machineOrdersRow.recurses == Tryz.prog.recurses 7) = true := by kernel_rfl
theorem machineOrders_k13 : (Rows.machineOrdersRow.named == Tryz.prog.varsNamed 7) = true := by kernel_rfl
theorem machineOrders_closed : joinedFacts Tryz.prog 7 Tryz.f7 Rows.machineOrdersSpec Rows.machineOrdersRow = true :=
  joined_of (by kernel_rfl) (by kernel_rfl) (by kernel_rfl) rfl rfl machineOrders_k10 machineOrders_k11 machineOrders_k12 machineOrders_k13 (by kernel_rfl) Tryz.keysE rfl Tryz.lifts Tryz.made (by kernel_rfl)
theorem machineOrders_goes : false = Rows.machineOrdersRow.goesBy Tryz.prog := by kernel_rfl
theorem machineOrders_row : Rows.MachineOrdersSaid :=
  OpenClaim.holds_of_wide 7 Tryz.f7 rfl rfl rfl rfl rfl rfl rfl ⟨rfl, rfl, rfl, rfl, rfl⟩ rfl rfl rfl rfl rfl machineOrders_func Tryz.func7 machineOrders_closed
    (of_decide_eq_true (by kernel_rfl)) (by unfold Func.isWrapper; rw [if_neg (of_decide_eq_false (by kernel_rfl))]; exact ⟨rfl, rfl⟩)
    (fun os started H enc _ => machineOrders_lifted os started H enc)

theorem machineOrders_holds : Rows.MachineOrdersCardSaid :=
  Claim7.holds_tied_plain_at .later [] [.data, .data, .data, .data, .handle, .sentinel, .sentinel, .pinned] true (true, "aa03d57e40d7f46a321b7a338959e31570b187a828c7cad4885241d6f19c00d7") true
    machineOrders_row (fun _ h => by cases h) (by kernel_rfl) (fun _ h => by cases h) machineOrders_row_tie rfl ⟨rfl, rfl⟩ Tryz.mainE rfl
    (fun f fn hf hfn => by
      obtain rfl : f = 7 := Option.some.inj (machineOrders_func.symm.trans hf) |>.symm
      obtain rfl : fn = Tryz.f7 := (Option.some.inj (Tryz.func7.symm.trans hfn)).symm
      refine ⟨Tryz.looksE, fun j t ht => ?_⟩
      rw [Tryz.params7] at ht
      have h3 := Array.mem_of_getElem? ht
      simp only [List.mem_toArray, List.mem_cons, List.not_mem_nil, or_false] at h3
      rcases h3 with rfl | rfl
      · exact Tryz.st26
      · exact Tryz.st27)
    machineOrders_goes
end Go.Proofs.YtndniceeibflcaaGreatDoor
