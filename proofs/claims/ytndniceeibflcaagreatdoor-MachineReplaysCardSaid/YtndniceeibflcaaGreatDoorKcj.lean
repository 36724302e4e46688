/-
  The law MachineReplays: for every input, with the listed variables as the program's text lays them, it answers true, and each argument reads as it did.
-/
import Derived.Test.YtndniceeibflcaaGreatDoorProg
import Derived.WalkKit
import Derived.Lib.ConvBytes
import Derived.LaidEql
import Derived.Lib.ItoaNum
import Derived.Lib.LaidTab
import Derived.KernelRfl
import GoSem.Claims
import GoSem.ClaimJoined
import Derived.Orders
import Derived.Laws.StructEq
import Derived.Maps.Keyed
import Derived.Lib.Strings
import Derived.Maps.AppendAt
import Derived.Laws.Concat
import Derived.MapKept
import Derived.Laws.MakeOwn
import Derived.Scope
import Derived.Laws.BitsLemmas
import Derived.Maps.RangeRun
import Derived.StillTail
import Derived.OrdersIn
import Derived.TacticsIn
import Derived.RangeFuncRecord
import Derived.RangeFuncCalls
import Derived.RangeFuncSeq
import Derived.Lib.Split
import Derived.Lib.AtoiAll
import Derived.Shelf.LaysM
import Derived.Shelf.LaysC
import Derived.Shelf.Strconv.Itoa3
import Derived.Shelf.Strconv.AtoiAll
import Derived.Shelf.Strings.Search3
import Derived.Shelf.Strings.Cut
import Derived.Shelf.Strings.Prefix
import Derived.Shelf.Strings.Split
import Derived.Lib.AppendIntMem
import Derived.Stop.Asserts
import Derived.RowKitTokens
import Derived.Conc.MuLone
import Derived.Test.YtndniceeibflcaaGreatDoorRows
import Derived.Test.YtndniceeibflcaaGreatDoorChecked
import Derived.ChangeSame
import Derived.ChangeVars
import Derived.JoinedOf
import Derived.ProofKit
import Derived.RowKit
import Derived.LaidLaws
import Derived.LaidHandle
import Derived.LaidMore
import Derived.Stop.Joined
import Derived.Stop.LaidErr
import Derived.HandedShaped
import Derived.Shelf.Vars
import Derived.Deep.Slices
import Derived.Deep.Strs
import Derived.Deep.Fields
import Derived.Lib.SmallJoins
import Derived.SliceStrings
import Derived.ChangeMaps5
import Derived.Test.YtndniceeibflcaaGreatDoorTie
import Derived.Test.YtndniceeibflcaaGreatDoorCards
import Derived.SevenTiedAt
import Derived.Test.YtndniceeibflcaaGreatDoorKaa
import Derived.Test.YtndniceeibflcaaGreatDoorKal
import Derived.Test.YtndniceeibflcaaGreatDoorKac
import Derived.Test.YtndniceeibflcaaGreatDoorKad
import Derived.Test.YtndniceeibflcaaGreatDoorKae
import Derived.Test.YtndniceeibflcaaGreatDoorKag
import Derived.Test.YtndniceeibflcaaGreatDoorKav
import Derived.Test.YtndniceeibflcaaGreatDoorKaw
import Derived.Test.YtndniceeibflcaaGreatDoorKax
import Derived.Test.YtndniceeibflcaaGreatDoorKau
import Derived.Test.YtndniceeibflcaaGreatDoorKbe
import Derived.Test.YtndniceeibflcaaGreatDoorKaf
import Derived.Test.YtndniceeibflcaaGreatDoorKbh
import Derived.Test.YtndniceeibflcaaGreatDoorKbw
import Derived.Test.YtndniceeibflcaaGreatDoorKai
import Derived.Test.YtndniceeibflcaaGreatDoorKby
import Derived.Test.YtndniceeibflcaaGreatDoorKap
import Derived.Test.YtndniceeibflcaaGreatDoorKce
import Derived.Test.YtndniceeibflcaaGreatDoorKch
import Derived.Test.YtndniceeibflcaaGreatDoorKbk
import Derived.Test.YtndniceeibflcaaGreatDoorKaz
import Derived.Test.YtndniceeibflcaaGreatDoorKci
import Derived.Test.YtndniceeibflcaaGreatDoorKbc
set_option linter.unusedSimpArgs false
set_option linter.unusedVariables false
namespace Go.Proofs.YtndniceeibflcaaGreatDoor
namespace Aw
end Aw
namespace Mp
end Mp
end Go.Proofs.YtndniceeibflcaaGreatDoor
namespace Go.Proofs.YtndniceeibflcaaGreatDoor
open Aw Mp Go.RowKit
set_option linter.unusedSimpArgs false
set_option maxRecDepth 8000

theorem rpL_ok {n lm : Int} {ls : List (Int × Int)} : ∀ (r d : List By), Acc n lm ls d → (rpL n lm ls d r).2 = 0 → Acc n lm ls (d ++ r) ∧ (rpL n lm ls d r).1 = (d ++ r).length
  | [], d, h, _ => by simpa [rpL] using h
  | o :: r, d, h, he => by
    rw [rpL] at he ⊢
    split at he
    · rename_i h0
      rw [if_pos h0]
      have := rpL_ok r (d ++ [o]) (.snoc h h0) he
      simpa using this
    · exact absurd he (by assumption)
end Go.Proofs.YtndniceeibflcaaGreatDoor

namespace Go.Proofs.YtndniceeibflcaaGreatDoor
open Aw Mp Go.RowKit
set_option linter.unusedSimpArgs false
set_option maxRecDepth 8000

def rpD (n lm : Int) (ls : List (Int × Int)) (t : By) : AV := if (rpO n lm ls t).2 = 0 then rfA n lm ls (rd 100 0 t).1 else rf0
theorem ok42 : okFn Tryz.prog 42 = true := by kernel_rfl
theorem s42 (n lm : Int) (ls : List (Int × Int)) (hls : ls.length ≤ 100000) (t : By) (ht : t.length ≤ 1000000) : ASpec Tryz.prog 42 [trapA n ls, I lm, S t] (fun r Ms => r = .t [rpD n lm ls t, I (rpO n lm ls t).1, I (rpO n lm ls t).2] ∧ Ms = []) := by
  refine aspec_of (own := [3, 6, 9, 14]) Tryz.func42 rfl ok42 ?_
  simp only [wB, awp, asP, asQ, asN, obA, loadA, mkA, Aw.newRow, St.ev, St.step, setS, killS, AV.kill, AV.killL, Mem.kill, AV.cells, AV.flat, AV.single, AV.cellular, AV.size, AV.sizeL, Nat.reduceAdd, Nat.reduceEqDiff, Nat.reduceSub, Nat.reduceLeDiff, Int.reduceAdd, Int.reduceSub, Tryz.ntmps42, trapA]
  by_cases h0 : vN n lm ls = 0
  case neg =>
    have h34 := s34e n lm ls hls h0
    simp only [trapA] at h34
    refine acall_v h34 (by simp [AV.pureL, AV.pure, prsA_pure]) rfl ?_
    simp only [wB, awp, binC, cmpC, asQ, asT, asB, asI, asN, obA, storeA, fillA, putsA, mkA, Aw.newRow, St.ev, St.step, setS, killS, AV.kill, AV.killL, Mem.kill, AV.cells, AV.flat, AV.single, AV.cellular, Nat.reduceAdd, Nat.reduceEqDiff, Nat.reduceLeDiff, Int.reduceAdd, rf0, decide_eq_false h0]
    refine aend_frz rfl ⟨?_, rfl⟩
    have e : rpO n lm ls t = (0, vN n lm ls) := by unfold rpO; rw [if_pos h0]
    unfold rpD
    rw [e, if_neg h0]
    rfl
  have h34 := s34o n lm ls hls h0
  simp only [trapA] at h34
  refine acall_v h34 (by simp [AV.pureL, AV.pure, prsA_pure]) (by simp [AV.pure, AV.pureL, prsA_pure, rfA, strsA]) ?_
  simp only [wB, awp, binC, cmpC, asQ, asT, asB, asI, asN, obA, storeA, putsA, mkA, Aw.newRow, St.ev, St.step, setS, killS, AV.kill, AV.killL, Mem.kill, AV.cells, AV.flat, AV.single, AV.cellular, Nat.reduceAdd, Nat.reduceEqDiff, Nat.reduceLeDiff, Int.reduceAdd, rfA]
  refine acall_v (s38 t ht) rfl (by simp [AV.pure, AV.pureL, strsA_pure]) ?_
  simp only [wB, awp, binC, eqC, asT, asG, asB, asI, asN, St.ev, St.step, setS, killS, AV.kill, AV.killL, Mem.kill, Nat.reduceAdd, Nat.reduceEqDiff, Int.reduceAdd, asStr, strC]
  have hrl := rd_len 100 0 t
  have hro := rd_ord 100 0 t
  have hE : rpO n lm ls t = if (rd 100 0 t).2 ≠ [] then (0, 10) else rpL n lm ls [] (rd 100 0 t).1 := by unfold rpO; rw [if_neg (by omega)]
  have hD : rpD n lm ls t = if (rpO n lm ls t).2 = 0 then rfA n lm ls (rd 100 0 t).1 else rf0 := rfl
  generalize (rd 100 0 t).1 = l at *
  generalize (rd 100 0 t).2 = u at *
  by_cases h1 : u = []
  case neg =>
    simp only [wB, awp, asQ, asN, obA, storeA, fillA, putsA, St.ev, St.step, setS, killS, AV.kill, AV.killL, Mem.kill, AV.cells, AV.flat, AV.single, AV.cellular, Nat.reduceAdd, Nat.reduceEqDiff, Nat.reduceLeDiff, Int.reduceAdd, decide_eq_false h1]
    refine aend_frz rfl ⟨?_, rfl⟩
    rw [hD, hE, if_pos h1]
    rfl
  rw [if_neg (fun g => g h1)] at hE
  subst h1
  simp only [wB, awp, asN, St.ev, St.step, setS, killS, AV.kill, AV.killL, Mem.kill, Nat.reduceAdd, Nat.reduceEqDiff, Int.reduceAdd]
  refine swp_loop' (fun k : Nat => ⟨[.bot, .bot, .bot, .q 0 2 0 0, .bot, .bot, .q 1 4 0 0, .bot, .bot, .q 2 4 0 0, .bot, .s 1 (strsA l), .bot, I k, .bot, .bot, .bot, .bot, .bot, .bot, .bot, .bot, .bot, .bot, .bot, .bot, .bot, .bot, .bot, .bot, .bot, .bot, .bot, .bot, .bot, .bot, .bot, .bot, .bot, .bot, .bot, .bot, .bot, .bot, .bot, .bot, .bot, .bot, .bot, .bot, .bot, .bot, .bot, .bot, .bot, .bot, .bot, .bot], [some ⟨none, 24, 2, [trapA n ls]⟩, some ⟨none, 55, 4, [rf0]⟩, some ⟨none, 55, 4, [rfA n lm ls (l.take k)]⟩]⟩) (fun k => k ≤ l.length ∧ Acc n lm ls (l.take k) ∧ rpL n lm ls [] l = rpL n lm ls (l.take k) (l.drop k)) (fun k => l.length - k) 0 (le_sl' ?_ (by simp [leSl])) ⟨Nat.zero_le _, by simpa using Acc.nil, by simp⟩ ?_
  · simp [rfA, rf0, trapA]
  rintro k ⟨hk, hA, hR⟩
  refine awp_sound (own := [3, 6, 9, 14]) _ _ _ _ _ ?_
  simp only [wB, awp, binC, cmpC, asB, asI, lenA, St.ev, St.step, setS, killS, AV.kill, AV.killL, Mem.kill, Nat.reduceAdd, Nat.reduceEqDiff, Int.reduceAdd, lenK, strsA_len, rfA, rf0, trapA, strsA_len]
  by_cases h : k < l.length
  case neg =>
    have h' : ¬ (k : Int) < l.length := by omega
    obtain rfl : k = l.length := by omega
    simp only [wB, awp, asP, asQ, asN, obA, lenA, loadA, storeA, putsA, St.ev, St.step, setS, killS, AV.kill, AV.killL, Mem.kill, AV.cells, AV.flat, AV.single, AV.cellular, Nat.reduceAdd, Nat.reduceEqDiff, Nat.reduceLeDiff, Int.reduceAdd, lenK, strsA_len, decide_eq_false h', strsA_len]
    refine aend_frz rfl ⟨?_, rfl⟩
    rw [hD, hE, hR, List.take_length, List.drop_length]
    rfl
  have h' : (k : Int) < l.length := by omega
  simp only [awp, ACond_true, decide_eq_true h']
  have h35 := s35 n lm ls (l.take k) hA (by omega) l[k] (by have := (ordB_iff _).1 (hro _ (List.getElem_mem h)); omega)
  obtain ⟨e, he⟩ : ∃ e, e = erO n lm ls (l.take k) l[k] := ⟨_, rfl⟩
  rw [← he] at h35
  refine swp_to ⟨[.bot, .bot, .bot, .q 0 2 0 0, .bot, .bot, .q 1 4 0 0, .bot, .bot, .q 2 4 0 0, .bot, .s 1 (strsA l), .bot, I k, .q 3 4 0 0, I e, .bot, .bot, .bot, .bot, .bot, .bot, .bot, .bot, .bot, .bot, .bot, .bot, .bot, .bot, .bot, .bot, .bot, .bot, .bot, .bot, .bot, .bot, .bot, .bot, .bot, .bot, .bot, .bot, .bot, .bot, .bot, .bot, .bot, .bot, .bot, .bot, .bot, .bot, .bot, .bot, .bot, .bot], [some ⟨none, 24, 2, [trapA n ls]⟩, some ⟨none, 55, 4, [rf0]⟩, some ⟨none, 55, 4, [rfA n lm ls (l.take k)]⟩, some ⟨none, 55, 4, [rfA n lm ls (doO n lm ls (l.take k) l[k])]⟩]⟩ (swp_draw (own := [3, 6, 9, 14]) (.take 0 .reads [] (.take 1 .plain [] (.take 2 .plain [] (.take 3 .reads [] (.take 4 .reads [] (.alt 5 (.take 6 .plain [] (.take 7 .plain [] (.take 8 .plain [] (.alt 9 (.alt 10 (.take 11 .plain [] (.done)) (.nil)) (.nil))))) (.alt 9 (.alt 5 (.take 6 .plain [] (.take 7 .plain [] (.take 8 .plain [] (.alt 10 (.take 11 .plain [] (.done)) (.nil))))) (.nil)) (.nil)))))))) [⟨42, 512, 0, 0, true⟩, ⟨43, 2048, 0, 0, true⟩, ⟨44, 8192, 0, 0, true⟩, ⟨45, 13194139533312, 6, 0, true⟩, ⟨46, 17592186044416, 8, 0, true⟩, ⟨47, 37383395344384, 17, 0, false⟩, ⟨41, 70368744177664, 32, 0, true⟩, ⟨48, 1099511627776, 64, 0, true⟩, ⟨49, 1099511627776, 64, 0, true⟩, ⟨15, 0, 0, 0, false⟩, ⟨0, 140737488371712, 767, 1, false⟩, ⟨16, 281474976710656, 2047, 0, true⟩] mo (by kernel_rfl) ?_) ?_
  · simp only [rfA] at h35
    simp only [wB, idxC, asP, asQ, asS, asI, obA, loadA, mkA, Aw.newRow, St.ev, St.step, setS, killS, AV.kill, AV.killL, Mem.kill, AV.cells, AV.flat, AV.single, Nat.reduceAdd, Nat.reduceEqDiff, Nat.reduceLeDiff, Int.reduceAdd, ASch, St.put, Md.mem, Md.need, aget_strs h, Int.toNat_natCast]
    repeat' (first
      | refine And.intro ?_ ?_
      | omega
      | (refine acall_v h35 (by simp [AV.pureL, AV.pure, prsA_pure, strsA_pure]) (by simp [AV.pure, AV.pureL, prsA_pure, strsA_pure]) ?_; simp only [wB, asQ, asT, asN, obA, storeA, putsA, mkA, Aw.newRow, St.ev, St.step, setS, killS, AV.kill, AV.killL, Mem.kill, AV.cells, AV.flat, AV.single, AV.cellular, Nat.reduceAdd, Nat.reduceEqDiff, Nat.reduceLeDiff, Int.reduceAdd, ASch, St.put, Md.mem, Md.need]))
    all_goals
      refine le_sl' ?_ (by simp [leSl])
      simp [rfA, rf0, trapA]
  simp only [wB, awp, binC, cmpC, asB, asI, St.ev, St.step, setS, killS, AV.kill, AV.killL, Mem.kill, Nat.reduceAdd, Nat.reduceEqDiff, Int.reduceAdd]
  by_cases h1 : e = 0
  case neg =>
    simp only [wB, awp, asQ, obA, storeA, fillA, putsA, St.ev, St.step, setS, killS, AV.kill, AV.killL, Mem.kill, AV.cells, AV.flat, AV.single, AV.cellular, Nat.reduceAdd, Nat.reduceEqDiff, Int.reduceAdd, decide_eq_false h1]
    refine aend_frz rfl ⟨?_, rfl⟩
    have hx : rpO n lm ls t = (k, e) := by rw [hE, hR, rpL_at h, ← he, if_neg h1]
    rw [hD, hx, if_neg h1]
    rfl
  simp only [wB, awp, binC, arithC, cmpC, asP, asQ, asI, asN, obA, loadA, storeA, putsA, St.ev, St.step, setS, killS, AV.kill, AV.killL, Mem.kill, AV.cells, AV.flat, AV.single, AV.cellular, Nat.reduceAdd, Nat.reduceEqDiff, Nat.reduceLeDiff, Int.reduceAdd, isU, decide_eq_true h1, rfA, rf0, trapA]
  have hd : doO n lm ls (l.take k) l[k] = l.take (k + 1) := by rw [doO_ok (he.symm.trans h1), List.take_append_getElem]
  refine ⟨by unfold lim; omega, k + 1, le_cut (Mx := [some ⟨none, 55, 4, [rfA n lm ls (doO n lm ls (l.take k) l[k])]⟩]) (by simp [leSl]) ?_ rfl ?_, ⟨h, acc_snoc h hA (he.symm.trans h1), ?_⟩, by omega⟩
  · simp [rfA, rf0, trapA, hd]
  · simp [freeM, rfA, rf0, trapA, AV.freeL, AV.free]
  · rw [hR, rpL_at h, ← he, if_pos h1]
end Go.Proofs.YtndniceeibflcaaGreatDoor

namespace Go.Proofs.YtndniceeibflcaaGreatDoor
open Aw Mp Go.RowKit
set_option linter.unusedSimpArgs false
set_option maxRecDepth 8000

theorem rpO_ok {n lm : Int} {ls : List (Int × Int)} {t : By} (h : (rpO n lm ls t).2 = 0) : vN n lm ls = 0 ∧ (rd 100 0 t).2 = [] ∧ Acc n lm ls (rd 100 0 t).1 ∧ (rpO n lm ls t).1 = (rd 100 0 t).1.length := by
  unfold rpO at h ⊢
  by_cases h0 : vN n lm ls = 0
  case neg => rw [if_pos h0] at h; exact absurd h h0
  rw [if_neg (fun g => g h0)] at h ⊢
  by_cases h1 : (rd 100 0 t).2 = []
  case neg => rw [if_pos h1] at h; cases h
  rw [if_neg (fun g => g h1)] at h ⊢
  have := rpL_ok (rd 100 0 t).1 [] .nil h
  exact ⟨h0, h1, this⟩
theorem ok11 : okFn Tryz.prog 11 = true := by kernel_rfl
theorem s11 (n lm : Int) (ls : List (Int × Int)) (t : By) : ASpec Tryz.prog 11 [labA n ls lm, S t] (fun r Ms => r = B true ∧ Ms = []) := by
  refine aspec_of (own := [8, 1004, 1009]) Tryz.func11 rfl ok11 ?_
  simp only [wB, awp, asP, asN, loadA, St.ev, St.step, setS, killS, AV.kill, AV.killL, Mem.kill, AV.cells, AV.flat, AV.single, AV.cellular, AV.pure, AV.pureL, Nat.reduceAdd, Nat.reduceEqDiff, Nat.reduceSub, Nat.reduceLeDiff, Int.reduceAdd, Int.reduceSub, Tryz.ntmps11, labA]
  have h20 := s20 n lm ls
  simp only [labA] at h20
  refine acall_v h20 (by simp [AV.pureL, AV.pure, prsA_pure]) rfl ?_
  by_cases h60 : 60 < ls.length
  · simp only [wB, awp, asB, St.ev, St.step, setS, killS, AV.kill, AV.killL, Mem.kill, Nat.reduceAdd, Nat.reduceEqDiff, Int.reduceAdd, decide_eq_true h60]
    refine acall_v s31 rfl rfl ?_
    simp only [wB, awp, asN, St.ev, St.step, setS, killS, AV.kill, AV.killL, Mem.kill, Nat.reduceEqDiff]
    exact aend_frz rfl ⟨rfl, rfl⟩
  simp only [wB, awp, binC, cmpC, asB, asI, lenA, St.ev, St.step, setS, killS, AV.kill, AV.killL, Mem.kill, lenK, decide_eq_false h60]
  by_cases h6 : (6000 : Int) < t.length
  · simp only [wB, awp, Nat.reduceAdd, Nat.reduceEqDiff, Int.reduceAdd, decide_eq_true h6]
    refine acall_v s31 rfl rfl ?_
    simp only [wB, awp, asN, St.ev, St.step, setS, killS, AV.kill, AV.killL, Mem.kill, Nat.reduceEqDiff]
    exact aend_frz rfl ⟨rfl, rfl⟩
  simp only [wB, awp, asP, loadA, St.ev, St.step, setS, killS, AV.kill, AV.killL, Mem.kill, AV.cells, AV.flat, AV.single, Nat.reduceAdd, Nat.reduceEqDiff, Nat.reduceLeDiff, Int.reduceAdd, decide_eq_false h6]
  have h27 := s27 n lm ls (by omega) t (by omega)
  have h42 := s42 n lm ls (by omega) t (by omega)
  simp only [trapA] at h27 h42
  unfold rpP rpM at h27
  unfold rpD at h42
  by_cases h0 : (rpO n lm ls t).2 = 0
  case neg =>
    rw [if_neg h0, if_neg h0] at h27
    rw [if_neg h0] at h42
    refine acall_v h27 (by simp [AV.pureL, AV.pure, prsA_pure]) rfl ?_
    simp only [wB, awp, asT, asN, St.ev, St.step, setS, killS, AV.kill, AV.killL, Mem.kill, Nat.reduceAdd, Nat.reduceEqDiff, Int.reduceAdd]
    refine awp_sound (own := [8, 1009]) _ _ _ _ _ ?_
    simp only [wB, awp, asP, loadA, St.ev, St.step, setS, killS, AV.kill, AV.killL, Mem.kill, AV.cells, AV.flat, AV.single, Nat.reduceAdd, Nat.reduceEqDiff, Nat.reduceLeDiff, Int.reduceAdd]
    refine acall_v h42 (by simp [AV.pureL, AV.pure, prsA_pure]) rfl ?_
    simp only [wB, awp, binC, cmpC, eqC, asQ, asT, asG, asB, asI, asN, obA, storeA, putsA, mkA, Aw.newRow, St.ev, St.step, setS, killS, AV.kill, AV.killL, Mem.kill, AV.cells, AV.flat, AV.single, AV.cellular, Nat.reduceAdd, Nat.reduceEqDiff, Nat.reduceLeDiff, Int.reduceAdd, isNP, ptrN, asStr, nt32, rf0, decide_eq_false h0]
    refine acall_v s31 rfl rfl ?_
    simp only [wB, awp, asB, asN, St.ev, St.step, setS, killS, AV.kill, AV.killL, Mem.kill, Nat.reduceEqDiff]
    exact aend_frz rfl ⟨rfl, rfl⟩
  rw [if_pos h0, if_pos h0, h0] at h27
  rw [if_pos h0, h0] at h42
  obtain ⟨_, _, hA, _⟩ := rpO_ok h0
  generalize (rd 100 0 t).1 = l at *
  refine acall_mk h27 (by simp [AV.pureL, AV.pure, prsA_pure]) ?_
  simp only [wB, awp, asT, asN, St.ev, St.step, setS, killS, AV.kill, AV.killL, Mem.kill, Nat.reduceAdd, Nat.reduceEqDiff, Int.reduceAdd, List.drop_zero, AV.sub, AV.subL, List.take_succ_cons, List.take_zero, AV.up]
  refine swp_le (σ' := ⟨[.bot, S t, .p (.g [I n, .s 2 (prsA ls), I lm]) 0, .bot, .bot, .q 0 13 0 0, I (rpO n lm ls t).1, I 0, .bot, .bot, .bot, .bot, .bot, .bot, .bot, .bot, .bot, .bot, .bot, .bot, .bot, .bot, .bot, .bot, .bot, .bot, .bot, .bot, .bot, .bot, .bot, .bot, .bot, .bot, .bot, .bot, .bot, .bot, .bot, .bot, .bot, .bot, .bot, .bot, .bot, .bot, .bot, .bot, .bot, .bot, .bot, .bot, .bot, .bot, .bot, .bot, .bot, .bot, .bot, .bot, .bot, .bot, .bot, .bot], memD (mkM n lm ls l)⟩) (le_mk (by simp [leSl, AV.sub, AV.subL, prsA_sub, prsA_msub, reF, reG, List.idxOf?, List.findIdx?, List.findIdx?.go])) ?_
  refine awp_sound (own := [8, 1009]) _ _ _ _ _ ?_
  simp only [wB, awp, asP, loadA, St.ev, St.step, setS, killS, AV.kill, AV.killL, Mem.kill, AV.cells, AV.flat, AV.single, Nat.reduceAdd, Nat.reduceEqDiff, Nat.reduceLeDiff, Int.reduceAdd, memD]
  refine acall_v h42 (by simp [AV.pureL, AV.pure, prsA_pure]) (by simp [AV.pure, AV.pureL, prsA_pure, strsA_pure, rfA]) ?_
  simp only [wB, awp, binC, cmpC, asQ, asT, asB, asI, asN, obA, storeA, putsA, mkA, Aw.newRow, St.ev, St.step, setS, killS, AV.kill, AV.killL, Mem.kill, AV.cells, AV.flat, AV.single, AV.cellular, Nat.reduceAdd, Nat.reduceEqDiff, Nat.reduceLeDiff, Int.reduceAdd, rfA]
  refine swp_fs (own := [8]) [false, false, false, false, false, true, false, false, false, false, false] ?_
  simp only [wB, binC, eqC, asP, asQ, asG, asB, asI, obA, loadA, St.ev, St.step, setS, killS, AV.kill, AV.killL, Mem.kill, AV.cells, AV.flat, AV.single, Nat.reduceAdd, Nat.reduceLeDiff, Int.reduceAdd, isNP, ptrN, asStr, nt32, List.drop_zero, List.take_succ_cons, List.take_zero]
  refine acall_f (f37 n lm ls (by omega) l hA [some (o55 n lm ls l)] (t55 _ _ _ _)) ?_
  simp only [wB, asB, St.ev, St.step, setS, killS, AV.kill, AV.killL, Mem.kill, Nat.reduceEqDiff, memD, AV.sub, AV.subL, keepG, liveI, AV.isQ, List.any_cons, List.any_nil, o55]
  refine acall_v s31 rfl rfl ?_
  simp only [wB, awp, asB, asN, St.ev, St.step, setS, killS, AV.kill, AV.killL, Mem.kill, Nat.reduceEqDiff]
  exact aend_frz rfl ⟨rfl, rfl⟩
end Go.Proofs.YtndniceeibflcaaGreatDoor

namespace Go.Proofs.YtndniceeibflcaaGreatDoor
open Aw Go.ChangeShapes Go.WideShapes Go.ChangeAt Go.RowKit Go.Deep Go.Joins

set_option maxRecDepth 100000 in
theorem machineReplays_lifted (os : Os) (started : os.Started) (H : Type) (enc : TypeId × Value → H) :
    ReturnsInHanded {} Tryz.checked os 11 .any (fun w args => (Rows.machineReplaysSpec.pre enc Tryz.prog Tryz.f11 [] false w args ∧ laidMetH Tryz.prog Rows.machineReplaysRow.laid w) ∧ sizedMet enc Tryz.prog Tryz.f11 (OpenSpec.ofChange Rows.machineReplaysSpec) false w args)
      (Rows.machineReplaysSpec.post enc Tryz.prog Tryz.f11 false true false false) := by
  refine returns_laid (C := Tryz.checked) (X := fun w _ => laidMetH Tryz.prog Rows.machineReplaysRow.laid w) (fun _ _ _ hh h => h.of_heap hh) Tryz.own started (by kernel_rfl) Tryz.func11
    (ChangeSpec.witness_at (enc := enc) (C := Tryz.checked) (os := os) (X := fun w _ => laidMetH Tryz.prog Rows.machineReplaysRow.laid w) false (laidWorld os) #[.agg #[.int .i64 0, .slice none 0 0, .int .i64 0], .string ⟨#[]⟩] 8 rfl (by kernel_rfl) (by kernel_rfl) (by kernel_rfl) (by kernel_rfl) (by kernel_rfl) (laidWorld_met os _)) ?_
  intro W base args ds gs before hval0 hW hsz hL hsh
  have hval : ∀ (j : Nat) t v, Tryz.f11.params[j]? = some t → args[j]? = some v → Value.okWide Tryz.prog W .any base t v := hval0
  have hG : GOk W := gok_of hL hsh
  have hW' := hW
  obtain ⟨p, q, hA0, hV, rfl, hfz, hnd⟩ := hW
  have hA : DataW.TrodAll enc Tryz.prog W 0 (fun _ => true) true Tryz.f11.params.toList args.toList ds p := hA0
  rw [Tryz.params11] at hA hval hsz
  obtain ⟨v0, v1, d0, d1, p0, p1, rfl, rfl, rfl, h0, h1⟩ := trodAll_two hA
  obtain ⟨rfl, rfl⟩ := trodVars_none hV
  obtain ⟨n0, ls0, lm0, r0⟩ := sa_lab (hval 0 26 v0 rfl rfl) h0
  obtain ⟨o1, r1, e1, b1⟩ := sa_str (hval 1 9 v1 rfl rfl) h1
  have w1 : o1.length ≤ reachBytes := by
    subst e1
    simp only [List.append_nil, List.cons_append, List.nil_append, DataW.weightsEach, DataW.weights, List.all_append, List.all_cons, List.all_nil, Bool.and_true, Bool.and_eq_true, decide_eq_true_eq] at hsz
    omega
  unfold reachBytes at w1
  clear hA0 hval0
  simp only [List.append_nil] at hW'
  have hlt : ∀ x ∈ p0 ++ p1, x.block < W.heap.size := fun x hx => hW'.lt x (by simpa using hx)
  refine (calls_true (s11 n0 lm0 ls0 o1) (vs := [v0, v1]) (by simp only [RVL]; exact ⟨_, _, rfl, r0, _, _, rfl, r1, rfl⟩) hG).mono fun e W' ⟨he, hb⟩ => ?_
  subst he
  refine ⟨_, rfl, law_shut hW' hb rfl (fun _ _ _ => trodAll_mk1 (shut_bool Tryz.underlying4 true)) (fun sp hsp => ?_) rfl (ok_one (by kernel_rfl) rfl (okWide_bool_mk Tryz.underlying4 true))⟩
  exact trodAll_mk2 (arg_stays Tryz.laidOut rr26 lt26 h0 hb (fun x hx => hlt x (by simp [hx])) (sp := sp) (fun x hx => hsp x (by simp [hx])))
    (arg_stays Tryz.laidOut rr9 lt9 h1 hb (fun x hx => hlt x (by simp [hx])) (sp := sp) (fun x hx => hsp x (by simp [hx])))

theorem machineReplays_func : Tryz.prog.funcNamed "quadrupole/quadrupolelaw09.MachineReplays" = some 11 := by kernel_rfl
theorem machineReplays_k10 : (Rows.machineReplaysRow.inPlace == Tryz.prog.inPlace 11) = true := by kernel_rfl
theorem machineReplays_k11 : (Rows.machineReplaysRow.unfollowed == Tryz.prog.unfollowed 11) = true := by kernel_rfl
theorem machineReplays_k12 : (Rows.machineReplaysRow.recurses == Tryz.prog.recurses 11) = true := by kernel_rfl
theorem machineReplays_k13 : (Rows.machineReplaysRow.named == Tryz.prog.varsNamed 11) = true := by kernel_rfl
theorem machineReplays_closed : joinedFacts Tryz.prog 11 Tryz.f11 Rows.machineReplaysSpec Rows.machineReplaysRow = true :=
  joined_of (by kernel_rfl) (by kernel_rfl) (by kernel_rfl) rfl rfl machineReplays_k10 machineReplays_k11 machineReplays_k12 machineReplays_k13 (by kernel_rfl) Tryz.keysE rfl Tryz.lifts Tryz.made (by kernel_rfl)
theorem machineReplays_goes : false = Rows.machineReplaysRow.goesBy Tryz.prog := by kernel_rfl
theorem machineReplays_row : Rows.MachineReplaysSaid :=
  OpenClaim.holds_of_wide 11 Tryz.f11 rfl rfl rfl rfl rfl rfl rfl ⟨rfl, rfl, rfl, rfl, rfl⟩ rfl rfl rfl rfl rfl machineReplays_func Tryz.func11 machineReplays_closed
    (of_decide_eq_true (by kernel_rfl)) (by unfold Func.isWrapper; rw [if_neg (of_decide_eq_false (by kernel_rfl))]; exact ⟨rfl, rfl⟩)
    (fun os started H enc _ => machineReplays_lifted os started H enc)

theorem machineReplays_holds : Rows.MachineReplaysCardSaid :=
  Claim7.holds_tied_plain_at .later [] [.data, .data, .data, .data, .handle, .sentinel, .sentinel, .pinned] true (true, "aa03d57e40d7f46a321b7a338959e31570b187a828c7cad4885241d6f19c00d7") true
    machineReplays_row (fun _ h => by cases h) (by kernel_rfl) (fun _ h => by cases h) machineReplays_row_tie rfl ⟨rfl, rfl⟩ Tryz.mainE rfl
    (fun f fn hf hfn => by
      obtain rfl : f = 11 := Option.some.inj (machineReplays_func.symm.trans hf) |>.symm
      obtain rfl : fn = Tryz.f11 := (Option.some.inj (Tryz.func11.symm.trans hfn)).symm
      refine ⟨Tryz.looksE, fun j t ht => ?_⟩
      rw [Tryz.params11] at ht
      have h3 := Array.mem_of_getElem? ht
      simp only [List.mem_toArray, List.mem_cons, List.not_mem_nil, or_false] at h3
      rcases h3 with rfl | rfl
      · exact Tryz.st26
      · exact Tryz.st9)
    machineReplays_goes
end Go.Proofs.YtndniceeibflcaaGreatDoor
