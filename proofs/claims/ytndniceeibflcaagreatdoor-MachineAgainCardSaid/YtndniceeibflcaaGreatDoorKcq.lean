/-
  Parts of several texts in one: MyC.
-/
import Derived.Test.YtndniceeibflcaaGreatDoorProg
import Derived.WalkKit
import Derived.Lib.ConvBytes
import Derived.LaidEql
import Derived.Lib.ItoaNum
import Derived.Lib.LaidTab
import Derived.KernelRfl
import GoSem.Claims
import GoSem.ClaimJoined
import Derived.Orders
import Derived.Laws.StructEq
import Derived.Maps.Keyed
import Derived.Lib.Strings
import Derived.Maps.AppendAt
import Derived.Laws.Concat
import Derived.MapKept
import Derived.Laws.MakeOwn
import Derived.Scope
import Derived.Laws.BitsLemmas
import Derived.Maps.RangeRun
import Derived.StillTail
import Derived.OrdersIn
import Derived.TacticsIn
import Derived.RangeFuncRecord
import Derived.RangeFuncCalls
import Derived.RangeFuncSeq
import Derived.Lib.Split
import Derived.Lib.AtoiAll
import Derived.Shelf.LaysM
import Derived.Shelf.LaysC
import Derived.Shelf.Strconv.Itoa3
import Derived.Shelf.Strconv.AtoiAll
import Derived.Shelf.Strings.Search3
import Derived.Shelf.Strings.Cut
import Derived.Shelf.Strings.Prefix
import Derived.Shelf.Strings.Split
import Derived.Lib.AppendIntMem
import Derived.Stop.Asserts
import Derived.RowKitTokens
import Derived.Conc.MuLone
import Derived.Test.YtndniceeibflcaaGreatDoorRows
import Derived.Test.YtndniceeibflcaaGreatDoorChecked
import Derived.ChangeSame
import Derived.ChangeVars
import Derived.JoinedOf
import Derived.ProofKit
import Derived.RowKit
import Derived.LaidLaws
import Derived.LaidHandle
import Derived.LaidMore
import Derived.Stop.Joined
import Derived.Stop.LaidErr
import Derived.HandedShaped
import Derived.Shelf.Vars
import Derived.Deep.Slices
import Derived.Deep.Strs
import Derived.Deep.Fields
import Derived.Lib.SmallJoins
import Derived.SliceStrings
import Derived.ChangeMaps5
import Derived.Test.YtndniceeibflcaaGreatDoorKaa
import Derived.Test.YtndniceeibflcaaGreatDoorKac
import Derived.Test.YtndniceeibflcaaGreatDoorKad
import Derived.Test.YtndniceeibflcaaGreatDoorKae
import Derived.Test.YtndniceeibflcaaGreatDoorKag
import Derived.Test.YtndniceeibflcaaGreatDoorKau
import Derived.Test.YtndniceeibflcaaGreatDoorKai
import Derived.Test.YtndniceeibflcaaGreatDoorKca
import Derived.Test.YtndniceeibflcaaGreatDoorKap
import Derived.Test.YtndniceeibflcaaGreatDoorKay
set_option linter.unusedSimpArgs false
set_option linter.unusedVariables false
namespace Go.Proofs.YtndniceeibflcaaGreatDoor
namespace Aw
end Aw
namespace Mp
end Mp
end Go.Proofs.YtndniceeibflcaaGreatDoor
namespace Go.Proofs.YtndniceeibflcaaGreatDoor
open Aw Mp Go.RowKit
set_option linter.unusedSimpArgs false
set_option maxRecDepth 8000

theorem ok43 : okFn Tryz.prog 43 = true := by kernel_rfl
theorem s43n (n lm : Int) (ls : List (Int × Int)) (hls : ls.length ≤ 100000) (h0 : vN n lm ls ≠ 0) (l : List By) : ASpec Tryz.prog 43 [labA n ls lm, .s 1 (strsA l)] (fun r Ms => r = .v (.pointer none) ∧ Ms = []) := by
  refine aspec_of (own := []) Tryz.func43 rfl ok43 ?_
  have h22 := s22e n lm ls hls h0
  simp only [trapA] at h22
  simp only [wB, awp, asP, asN, loadA, St.ev, St.step, setS, killS, AV.kill, AV.killL, Mem.kill, AV.cells, AV.flat, AV.single, AV.cellular, AV.pure, AV.pureL, Nat.reduceAdd, Nat.reduceEqDiff, Nat.reduceSub, Nat.reduceLeDiff, Int.reduceAdd, Int.reduceSub, Tryz.ntmps43, labA]
  refine acall_v h22 (by simp [AV.pureL, AV.pure, prsA_pure]) rfl ?_
  simp only [wB, awp, binC, cmpC, asT, asB, asI, asN, St.ev, St.step, setS, killS, AV.kill, AV.killL, Mem.kill, Nat.reduceAdd, Int.reduceAdd, decide_eq_false h0]
  exact aend_frz rfl ⟨rfl, rfl⟩
theorem s43 (n lm : Int) (ls : List (Int × Int)) (hls : ls.length ≤ 100000) (h0 : vN n lm ls = 0) (l : List By) (hs : ∀ o ∈ l, o.length ≤ 9223372036854775807) : ASpec Tryz.prog 43 [labA n ls lm, .s 1 (strsA l)] (fun r Ms => r = .q 0 13 0 0 ∧ Ms = [(mkM n lm ls (doL n lm ls (l.take 40))).obA 1, (mkM n lm ls (doL n lm ls (l.take 40))).od]) := by
  refine aspec_of (own := [1002, 1007]) Tryz.func43 rfl ok43 ?_
  have h22 := s22o n lm ls hls h0
  have hT := (vN_ok h0).1
  simp only [trapA] at h22
  simp only [wB, awp, asP, asN, loadA, St.ev, St.step, setS, killS, AV.kill, AV.killL, Mem.kill, AV.cells, AV.flat, AV.single, AV.cellular, AV.pure, AV.pureL, Nat.reduceAdd, Nat.reduceEqDiff, Nat.reduceSub, Nat.reduceLeDiff, Int.reduceAdd, Int.reduceSub, Tryz.ntmps43, labA]
  refine acall_os h22 (by simp [AV.pureL, AV.pure, prsA_pure]) ?_
  simp only [wB, awp, asT, asN, St.ev, St.step, setS, killS, AV.kill, AV.killL, Mem.kill, Nat.reduceAdd, Nat.reduceEqDiff, Int.reduceAdd, List.drop_zero, AV.sub, AV.subL, List.take_succ_cons, List.take_zero, AV.up, Ob.up, prsA_msub, new_sub]
  refine swp_le (σ' := ⟨[.bot, .s 1 (strsA l), .bot, .bot, .bot, .q 0 13 0 0, I 0, .bot, .bot, .bot, .bot, .bot, .bot, .bot, .bot, .bot, .bot, .bot, .bot, .bot, .bot, .bot, .bot, .bot, .bot, .bot, .bot, .bot, .bot, .bot, .bot, .bot, .bot, .bot, .bot, .bot, .bot, .bot, .bot], memD (mkM n lm ls [])⟩) (le_new (by simp [leSl, frz1, AV.sub])) ?_
  refine awp_sound (own := [1007]) _ _ _ _ _ ?_
  simp only [wB, awp, binC, cmpC, eqC, asG, asB, asI, asN, St.ev, St.step, setS, killS, AV.kill, AV.killL, Mem.kill, Nat.reduceAdd, Nat.reduceEqDiff, Int.reduceAdd, isNP, ptrN, asStr, nt32]
  refine swp_loop' (fun k : Nat => ⟨[.bot, .s 1 (strsA l), .bot, .bot, .bot, .q 0 13 0 0, .bot, I k, .bot, .bot, .bot, .bot, .bot, .bot, .bot, .bot, .bot, .bot, .bot, .bot, .bot, .bot, .bot, .bot, .bot, .bot, .bot, .bot, .bot, .bot, .bot, .bot, .bot, .bot, .bot, .bot, .bot, .bot, .bot], memD (mkM n lm ls (doL n lm ls (l.take k)))⟩) (fun k => k ≤ l.length ∧ k ≤ 40) (fun k => 40 - k) 0 (le_sl' ?_ (by simp [leSl])) ⟨Nat.zero_le _, Nat.zero_le _⟩ ?_
  · simp [doL]
  rintro k ⟨hk, hk4⟩
  have hA := doL_acc n lm ls (l.take k)
  refine awp_sound (own := [1007]) _ _ _ _ _ ?_
  simp only [wB, awp, binC, cmpC, asI, lenA, St.ev, St.step, setS, killS, AV.kill, AV.killL, Mem.kill, Nat.reduceAdd, Nat.reduceEqDiff, Int.reduceAdd, lenK, strsA_len, strsA_len]
  by_cases h : k < l.length
  case neg =>
    have h' : ¬ (k : Int) < l.length := by omega
    simp only [wB, awp, asB, asN, St.ev, St.step, setS, killS, AV.kill, AV.killL, Mem.kill, Nat.reduceAdd, Nat.reduceEqDiff, Int.reduceAdd, decide_eq_false h']
    have e : l.take k = l.take 40 := by rw [List.take_of_length_le (by omega), List.take_of_length_le (by omega)]
    rw [e]
    refine aend_ren [0, 2] (by decide) [(mkM n lm ls (doL n lm ls (l.take 40))).obA 1, (mkM n lm ls (doL n lm ls (l.take 40))).od] rfl (mk_ren _) ⟨rfl, rfl⟩
  have h' : (k : Int) < l.length := by omega
  by_cases h4 : k < 40
  case neg =>
    have h4' : ¬ (k : Int) < 40 := by omega
    simp only [wB, awp, binC, cmpC, asB, asI, asN, St.ev, St.step, setS, killS, AV.kill, AV.killL, Mem.kill, Nat.reduceAdd, Nat.reduceEqDiff, Int.reduceAdd, decide_eq_true h', decide_eq_false h4']
    have e : l.take k = l.take 40 := by rw [show k = 40 by omega]
    rw [e]
    refine aend_ren [0, 2] (by decide) [(mkM n lm ls (doL n lm ls (l.take 40))).obA 1, (mkM n lm ls (doL n lm ls (l.take 40))).od] rfl (mk_ren _) ⟨rfl, rfl⟩
  have h4' : (k : Int) < 40 := by omega
  simp only [wB, awp, binC, cmpC, asB, asI, St.ev, St.step, setS, killS, AV.kill, AV.killL, Mem.kill, Nat.reduceAdd, Int.reduceAdd, decide_eq_true h', decide_eq_true h4']
  refine swp_fs (own := []) [false, false, false, false, false, true] ?_
  simp only [wB, idxC, asP, asS, asI, loadA, St.ev, St.step, setS, killS, AV.kill, AV.killL, Mem.kill, AV.cells, AV.flat, AV.single, memD, aget_strs h, Int.toNat_natCast]
  refine ⟨by omega, acall_f (f24 n lm ls hT (by omega) _ hA l[k] (hs _ (List.getElem_mem h))) ?_⟩
  simp only [wB, awp, binC, arithC, cmpC, asI, asN, St.ev, St.step, setS, killS, AV.kill, AV.killL, Mem.kill, Nat.reduceAdd, Nat.reduceEqDiff, Int.reduceAdd, isU, memD, AV.sub, keepG, liveI, AV.isQ, List.any_cons, List.any_nil]
  refine ⟨by unfold lim; omega, k + 1, le_sl' ?_ (by simp [leSl]), ⟨h, h4⟩, by omega⟩
  simp [doL_take h, memD]
end Go.Proofs.YtndniceeibflcaaGreatDoor
