/-
  The law MachineRuns: for every input, with the listed variables as the program's text lays them, it answers true, and each argument reads as it did.
-/
import Derived.Test.YtndniceeibflcaaGreatDoorProg
import Derived.WalkKit
import Derived.Lib.ConvBytes
import Derived.LaidEql
import Derived.Lib.ItoaNum
import Derived.Lib.LaidTab
import Derived.KernelRfl
import GoSem.Claims
import GoSem.ClaimJoined
import Derived.Orders
import Derived.Laws.StructEq
import Derived.Maps.Keyed
import Derived.Lib.Strings
import Derived.Maps.AppendAt
import Derived.Laws.Concat
import Derived.MapKept
import Derived.Laws.MakeOwn
import Derived.Scope
import Derived.Laws.BitsLemmas
import Derived.Maps.RangeRun
import Derived.StillTail
import Derived.OrdersIn
import Derived.TacticsIn
import Derived.RangeFuncRecord
import Derived.RangeFuncCalls
import Derived.RangeFuncSeq
import Derived.Lib.Split
import Derived.Lib.AtoiAll
import Derived.Shelf.LaysM
import Derived.Shelf.LaysC
import Derived.Shelf.Strconv.Itoa3
import Derived.Shelf.Strconv.AtoiAll
import Derived.Shelf.Strings.Search3
import Derived.Shelf.Strings.Cut
import Derived.Shelf.Strings.Prefix
import Derived.Shelf.Strings.Split
import Derived.Lib.AppendIntMem
import Derived.Stop.Asserts
import Derived.RowKitTokens
import Derived.Conc.MuLone
import Derived.Test.YtndniceeibflcaaGreatDoorRows
import Derived.Test.YtndniceeibflcaaGreatDoorChecked
import Derived.ChangeSame
import Derived.ChangeVars
import Derived.JoinedOf
import Derived.ProofKit
import Derived.RowKit
import Derived.LaidLaws
import Derived.LaidHandle
import Derived.LaidMore
import Derived.Stop.Joined
import Derived.Stop.LaidErr
import Derived.HandedShaped
import Derived.Shelf.Vars
import Derived.Deep.Slices
import Derived.Deep.Strs
import Derived.Deep.Fields
import Derived.Lib.SmallJoins
import Derived.SliceStrings
import Derived.ChangeMaps5
import Derived.Test.YtndniceeibflcaaGreatDoorTie
import Derived.Test.YtndniceeibflcaaGreatDoorCards
import Derived.SevenTiedAt
import Derived.Test.YtndniceeibflcaaGreatDoorKaa
import Derived.Test.YtndniceeibflcaaGreatDoorKal
import Derived.Test.YtndniceeibflcaaGreatDoorKac
import Derived.Test.YtndniceeibflcaaGreatDoorKad
import Derived.Test.YtndniceeibflcaaGreatDoorKae
import Derived.Test.YtndniceeibflcaaGreatDoorKag
import Derived.Test.YtndniceeibflcaaGreatDoorKau
import Derived.Test.YtndniceeibflcaaGreatDoorKbn
import Derived.Test.YtndniceeibflcaaGreatDoorKaf
import Derived.Test.YtndniceeibflcaaGreatDoorKbw
import Derived.Test.YtndniceeibflcaaGreatDoorKbo
import Derived.Test.YtndniceeibflcaaGreatDoorKai
import Derived.Test.YtndniceeibflcaaGreatDoorKbr
import Derived.Test.YtndniceeibflcaaGreatDoorKca
import Derived.Test.YtndniceeibflcaaGreatDoorKao
import Derived.Test.YtndniceeibflcaaGreatDoorKap
import Derived.Test.YtndniceeibflcaaGreatDoorKcb
import Derived.Test.YtndniceeibflcaaGreatDoorKce
import Derived.Test.YtndniceeibflcaaGreatDoorKbk
set_option linter.unusedSimpArgs false
set_option linter.unusedVariables false
namespace Go.Proofs.YtndniceeibflcaaGreatDoor
namespace Aw
end Aw
namespace Mp
end Mp
end Go.Proofs.YtndniceeibflcaaGreatDoor
namespace Go.Proofs.YtndniceeibflcaaGreatDoor
open Aw Mp Go.RowKit
set_option linter.unusedSimpArgs false
set_option maxRecDepth 8000

/-- the errors of orders, one by one, and the orders that were done. -/
def ersL (n lm : Int) (ls : List (Int × Int)) : List By → List By → List Int
  | _, [] => []
  | d, o :: r => erO n lm ls d o :: ersL n lm ls (doO n lm ls d o) r
theorem ersL_len {n lm : Int} {ls : List (Int × Int)} : ∀ (l d : List By), (ersL n lm ls d l).length = l.length
  | [], _ => rfl
  | o :: r, d => by simp [ersL, ersL_len r]
theorem ersL_take {n lm : Int} {ls : List (Int × Int)} {l : List By} {k : Nat} (h : k < l.length) : ersL n lm ls [] (l.take (k + 1)) = ersL n lm ls [] (l.take k) ++ [erO n lm ls (doL n lm ls (l.take k)) l[k]] := by
  rw [← List.take_append_getElem h]
  suffices g : ∀ (p d : List By) (o : By), ersL n lm ls d (p ++ [o]) = ersL n lm ls d p ++ [erO n lm ls (p.foldl (doO n lm ls) d) o] from g _ _ _
  intro p
  induction p with
  | nil => exact fun d o => rfl
  | cons q r ih => exact fun d o => by simp [ersL, ih]
theorem ersL_at {n lm : Int} {ls : List (Int × Int)} {l : List By} {k : Nat} (h : k < l.length) : (ersL n lm ls [] l)[k]'(by rw [ersL_len]; exact h) = erO n lm ls (doL n lm ls (l.take k)) l[k] := by
  suffices g : ∀ (l d : List By) (k : Nat) (h : k < l.length), (ersL n lm ls d l)[k]? = some (erO n lm ls ((l.take k).foldl (doO n lm ls) d) l[k]) by
    have := g l [] k h
    rw [List.getElem?_eq_getElem (by rw [ersL_len]; exact h)] at this
    exact Option.some.inj this
  intro l
  induction l with
  | nil => intro d k h; simp at h
  | cons o r ih =>
    intro d k h
    cases k with
    | zero => simp [ersL]
    | succ k => simpa [ersL] using ih (doO n lm ls d o) k (by simpa using h)
end Go.Proofs.YtndniceeibflcaaGreatDoor

namespace Go.Proofs.YtndniceeibflcaaGreatDoor
open Aw Mp Go.RowKit
set_option linter.unusedSimpArgs false
set_option maxRecDepth 8000

theorem ok33 : okFn Tryz.prog 33 = true := by kernel_rfl
/-- the error of a run. -/
def vR (n lm : Int) (ls : List (Int × Int)) (l : List By) : Int := if vN n lm ls ≠ 0 then vN n lm ls else if 100 < l.length then 3 else 0
theorem s33e (n lm : Int) (ls : List (Int × Int)) (hls : ls.length ≤ 100000) (l : List By) (he : vR n lm ls l ≠ 0) : ASpec Tryz.prog 33 [trapA n ls, I lm, .s 1 (strsA l)] (fun r Ms => r = .t [.s 1 [], S [], I (vR n lm ls l)] ∧ Ms = []) := by
  refine aspec_of (own := [6]) Tryz.func33 rfl ok33 ?_
  simp only [wB, awp, asP, asN, loadA, Aw.newRow, St.ev, St.step, setS, killS, AV.kill, AV.killL, Mem.kill, AV.cells, AV.flat, AV.single, AV.cellular, AV.pure, AV.pureL, Nat.reduceAdd, Nat.reduceEqDiff, Nat.reduceSub, Nat.reduceLeDiff, Int.reduceAdd, Int.reduceSub, Tryz.ntmps33, trapA]
  by_cases h0 : vN n lm ls = 0
  case neg =>
    have h22 := s22e n lm ls hls h0
    simp only [trapA] at h22
    refine acall_v h22 (by simp [AV.pureL, AV.pure, prsA_pure]) rfl ?_
    simp only [wB, awp, binC, cmpC, asT, asB, asI, asN, Aw.newRow, St.ev, St.step, setS, killS, AV.kill, AV.killL, Mem.kill, Nat.reduceAdd, Nat.reduceEqDiff, Int.reduceAdd, decide_eq_false h0]
    refine aend_frz rfl ⟨?_, rfl⟩
    unfold vR
    rw [if_pos h0]
    rfl
  have h22 := s22o n lm ls hls h0
  simp only [trapA] at h22
  refine acall_os h22 (by simp [AV.pureL, AV.pure, prsA_pure]) ?_
  simp only [wB, awp, binC, cmpC, asT, asB, asI, asN, lenA, St.ev, St.step, setS, killS, AV.kill, AV.killL, Mem.kill, Nat.reduceAdd, Nat.reduceEqDiff, Int.reduceAdd, lenK, strsA_len, AV.sub, AV.subL, AV.up, Ob.up, prsA_msub, strsA_len]
  have h1 : 100 < l.length := by
    unfold vR at he
    rw [if_neg (fun g => g h0)] at he
    exact Classical.byContradiction fun g => he (if_neg g)
  simp only [wB, awp, asN, Aw.newRow, St.ev, St.step, setS, killS, AV.kill, AV.killL, Mem.kill, Nat.reduceAdd, Nat.reduceEqDiff, Int.reduceAdd, decide_eq_true (show (100 : Int) < l.length by omega)]
  refine aend_frz rfl ⟨?_, rfl⟩
  unfold vR
  rw [if_neg (fun g => g h0), if_pos h1]
  rfl
theorem s33 (n lm : Int) (ls : List (Int × Int)) (hls : ls.length ≤ 100000) (l : List By) (hs : ∀ o ∈ l, o.length ≤ 9223372036854775807) (he : vR n lm ls l = 0) : ASpec Tryz.prog 33 [trapA n ls, I lm, .s 1 (strsA l)] (fun r Ms => r = .t [.s 1 (intsA (ersL n lm ls [] l)), S (lg 0 (doL n lm ls l)), I 0] ∧ Ms = []) := by
  have h0 : vN n lm ls = 0 := by
    refine Classical.byContradiction fun g => ?_
    unfold vR at he
    rw [if_pos g] at he
    exact g he
  have h100 : l.length ≤ 100 := by
    refine Classical.byContradiction fun g => ?_
    unfold vR at he
    rw [if_neg (fun g => g h0), if_pos (by omega)] at he
    cases he
  have hT := (vN_ok h0).1
  refine aspec_of (own := [11, 1002, 1010, 1012]) Tryz.func33 rfl ok33 ?_
  simp only [wB, awp, asP, asN, loadA, St.ev, St.step, setS, killS, AV.kill, AV.killL, Mem.kill, AV.cells, AV.flat, AV.single, AV.cellular, AV.pure, AV.pureL, Nat.reduceAdd, Nat.reduceEqDiff, Nat.reduceSub, Nat.reduceLeDiff, Int.reduceAdd, Int.reduceSub, Tryz.ntmps33, trapA]
  have h22 := s22o n lm ls hls h0
  simp only [trapA] at h22
  refine acall_os h22 (by simp [AV.pureL, AV.pure, prsA_pure]) ?_
  simp only [wB, awp, asT, asN, St.ev, St.step, setS, killS, AV.kill, AV.killL, Mem.kill, Nat.reduceAdd, Nat.reduceEqDiff, Int.reduceAdd, AV.sub, AV.subL, AV.up, Ob.up, prsA_msub, new_sub]
  refine swp_le (σ' := ⟨[.bot, .bot, .s 1 (strsA l), .bot, .bot, .bot, .bot, .bot, .bot, .q 0 13 0 0, I 0, .bot, .bot, .bot, .bot, .bot, .bot, .bot, .bot, .bot, .bot, .bot, .bot, .bot, .bot, .bot, .bot, .bot, .bot, .bot, .bot, .bot, .bot, .bot, .bot, .bot, .bot, .bot, .bot, .bot, .bot, .bot], memD (mkM n lm ls [])⟩) (le_new (by simp [leSl, frz1, AV.sub])) ?_
  refine awp_sound (own := [11, 1010, 1012]) _ _ _ _ _ ?_
  simp only [wB, awp, binC, cmpC, asB, asI, asN, lenA, Aw.newRow, St.ev, St.step, setS, killS, AV.kill, AV.killL, Mem.kill, Nat.reduceAdd, Nat.reduceEqDiff, Int.reduceAdd, lenK, strsA_len, strsA_len, decide_eq_false (show ¬ (100 : Int) < l.length by omega)]
  refine swp_loop' (fun k : Nat => ⟨[.bot, .bot, .bot, .bot, .bot, .bot, .bot, .bot, .bot, .q 0 13 0 0, .bot, .o 3, .bot, .bot, .bot, .bot, .bot, .bot, .bot, .bot, .bot, .bot, .bot, .bot, .bot, .bot, .s 1 (strsA l), I l.length, I k, .bot, .bot, .bot, .bot, .bot, .bot, .bot, .bot, .bot, .bot, .bot, .bot, .bot], memD (mkM n lm ls (doL n lm ls (l.take k))) ++ [some ⟨none, 33, 1, intsA (ersL n lm ls [] (l.take k))⟩]⟩) (fun k => k ≤ l.length) (fun k => l.length - k) 0 (le_sl' ?_ (by simp [leSl, memD])) (Nat.zero_le _) ?_
  · simp [doL, ersL, memD, intsA]
  intro k hk
  refine awp_sound (own := [11, 1010, 1012]) _ _ _ _ _ ?_
  simp only [wB, awp, binC, cmpC, asB, asI, St.ev, St.step, setS, killS, AV.kill, AV.killL, Mem.kill, Nat.reduceAdd, Nat.reduceEqDiff, Int.reduceAdd]
  have hA := doL_acc n lm ls (l.take k)
  by_cases h : k < l.length
  case neg =>
    have h' : ¬ (k : Int) < l.length := by omega
    obtain rfl : k = l.length := by omega
    simp only [awp, ACond_true, ACond_false, List.contains_nil, List.contains_cons, if_true, beq_self_eq_true, nbeq, decide_false, Bool.or_false, Bool.or_true, Nat.reduceAdd, Nat.reduceEqDiff, Int.reduceAdd, decide_eq_false h']
    rw [List.take_length] at *
    refine swp_fs (own := [11]) [false, false, true, false, false, false] ?_
    simp only [wB, St.ev, St.step, setS, killS, AV.kill, AV.killL, Mem.kill, memD]
    have h23 := fD (m23 _ (sml_of hA)) [some ⟨none, 33, 1, intsA (ersL n lm ls [] l)⟩] [1, 3] rfl rfl (by simp [intsA_sub])
    refine acall_f h23 ?_
    simp only [wB, awp, asN, St.ev, St.step, setS, killS, AV.kill, AV.killL, Mem.kill, Nat.reduceEqDiff, memD, AV.sub, keepF, keepG, liveI, AV.isO, AV.isQ, List.any_cons, List.any_nil]
    refine aend_frz rfl ⟨?_, rfl⟩
    simp [frz, AV.sub, AV.subL, intsA_pure, mkM]
  have h' : (k : Int) < l.length := by omega
  simp only [wB, awp, idxC, asP, asS, asI, asN, loadA, St.ev, St.step, setS, killS, AV.kill, AV.killL, Mem.kill, AV.cells, AV.flat, AV.single, Nat.reduceAdd, Nat.reduceEqDiff, Int.reduceAdd, decide_eq_true h', aget_strs h, Int.toNat_natCast]
  refine ⟨by omega, swp_fs (own := [11]) [false, false, false, true, false, false, false] ?_⟩
  simp only [wB, St.ev, St.step, setS, killS, AV.kill, AV.killL, Mem.kill, memD]
  have h24 := fD (m24 n lm ls _ hA hT (by omega) l[k] (hs _ (List.getElem_mem h))) [some ⟨none, 33, 1, intsA (ersL n lm ls [] (l.take k))⟩] [1, 3] rfl rfl (by simp [intsA_sub])
  refine acall_f h24 ?_
  simp only [wB, awp, binC, arithC, cmpC, asO, asS, asI, asN, obA, St.ev, St.step, setS, killS, AV.kill, AV.killL, Mem.kill, AV.cells, AV.flat, AV.single, AV.cellular, AV.size, AV.pure, AV.pureL, Value.oneCell', Nat.reduceAdd, Nat.reduceEqDiff, Nat.reduceMul, Nat.reduceLeDiff, Int.reduceAdd, Int.reduceMul, isU, memD, AV.sub, keepF, keepG, liveI, AV.isO, AV.isQ, List.any_cons, List.any_nil]
  have hel := ersL_len (n := n) (lm := lm) (ls := ls) (l.take k) []
  rw [List.length_take] at hel
  refine ⟨⟨by decide, rfl⟩, ⟨by decide, by omega⟩, by unfold lim; omega, k + 1, le_sl' ?_ (by simp [leSl]), h, by omega⟩
  rw [doL_take h, ersL_take h, intsA_kill, intsA_app]
  simp [Mch.ob, Mch.od, Mch.cells, AV.killL, AV.kill, strsA_kill, mkM]
end Go.Proofs.YtndniceeibflcaaGreatDoor

namespace Go.Proofs.YtndniceeibflcaaGreatDoor
open Aw Mp Go.RowKit
set_option linter.unusedSimpArgs false
set_option maxRecDepth 8000

theorem ok6 : okFn Tryz.prog 6 = true := by kernel_rfl
theorem s6 (n lm : Int) (ls : List (Int × Int)) (l : List By) (hs : ∀ o ∈ l, o.length ≤ 9223372036854775807) : ASpec Tryz.prog 6 [labA n ls lm, .s 1 (strsA l)] (fun r Ms => r = B true ∧ Ms = []) := by
  refine aspec_of (own := [8, 11]) Tryz.func6 rfl ok6 ?_
  simp only [wB, awp, asP, asN, loadA, St.ev, St.step, setS, killS, AV.kill, AV.killL, Mem.kill, AV.cells, AV.flat, AV.single, AV.cellular, AV.pure, AV.pureL, Nat.reduceAdd, Nat.reduceEqDiff, Nat.reduceSub, Nat.reduceLeDiff, Int.reduceAdd, Int.reduceSub, Tryz.ntmps6, labA]
  have h20 := s20 n lm ls
  simp only [labA] at h20
  refine acall_v h20 (by simp [AV.pureL, AV.pure, prsA_pure]) rfl ?_
  by_cases h60 : 60 < ls.length
  · simp only [wB, awp, asB, St.ev, St.step, setS, killS, AV.kill, AV.killL, Mem.kill, Nat.reduceAdd, Nat.reduceEqDiff, Int.reduceAdd, decide_eq_true h60]
    refine acall_v s31 rfl rfl ?_
    simp only [wB, awp, asN, St.ev, St.step, setS, killS, AV.kill, AV.killL, Mem.kill, Nat.reduceEqDiff]
    exact aend_frz rfl ⟨rfl, rfl⟩
  simp only [wB, St.ev, St.step, setS, killS, AV.kill, AV.killL, Mem.kill, decide_eq_false h60]
  refine acall_v (s21 l) (by simp [AV.pureL, AV.pure, strsA_pure]) rfl ?_
  by_cases h150 : 150 < l.length
  · simp only [wB, awp, asB, St.ev, St.step, setS, killS, AV.kill, AV.killL, Mem.kill, Nat.reduceAdd, Nat.reduceEqDiff, Int.reduceAdd, decide_eq_true h150]
    refine acall_v s31 rfl rfl ?_
    simp only [wB, awp, asN, St.ev, St.step, setS, killS, AV.kill, AV.killL, Mem.kill, Nat.reduceEqDiff]
    exact aend_frz rfl ⟨rfl, rfl⟩
  simp only [wB, awp, asP, asB, loadA, St.ev, St.step, setS, killS, AV.kill, AV.killL, Mem.kill, AV.cells, AV.flat, AV.single, Nat.reduceAdd, Nat.reduceEqDiff, Nat.reduceLeDiff, Int.reduceAdd, decide_eq_false h150]
  by_cases hv : vR n lm ls l = 0
  case neg =>
    have h33 := s33e n lm ls (by omega) l hv
    simp only [trapA] at h33
    refine acall_v h33 (by simp [AV.pureL, AV.pure, prsA_pure, strsA_pure]) rfl ?_
    simp only [wB, awp, asP, asT, asN, loadA, St.ev, St.step, setS, killS, AV.kill, AV.killL, Mem.kill, AV.cells, AV.flat, AV.single, Nat.reduceAdd, Nat.reduceEqDiff, Nat.reduceLeDiff, Int.reduceAdd]
    by_cases h0 : vN n lm ls = 0
    case neg =>
      have h34 := s34e n lm ls (by omega) h0
      have hvv : vR n lm ls l = vN n lm ls := by unfold vR; rw [if_pos h0]
      simp only [trapA] at h34
      refine acall_v h34 (by simp [AV.pureL, AV.pure, prsA_pure]) rfl ?_
      simp only [wB, awp, binC, cmpC, eqC, asQ, asT, asG, asB, asI, asN, obA, lenA, storeA, putsA, mkA, Aw.newRow, St.ev, St.step, setS, killS, AV.kill, AV.killL, Mem.kill, AV.cells, AV.flat, AV.single, AV.cellular, Nat.reduceAdd, Nat.reduceEqDiff, Nat.reduceLeDiff, Int.reduceAdd, asStr, strC, lenK, rf0, decide_eq_false h0, hvv, Int.natCast_zero]
      refine acall_v s31 rfl rfl ?_
      simp only [wB, awp, asB, asN, St.ev, St.step, setS, killS, AV.kill, AV.killL, Mem.kill, Nat.reduceEqDiff]
      exact aend_frz rfl ⟨rfl, rfl⟩
    have h34 := s34o n lm ls (by omega) h0
    simp only [trapA] at h34
    refine acall_v h34 (by simp [AV.pureL, AV.pure, prsA_pure]) (by simp [AV.pure, AV.pureL, prsA_pure, rfA, strsA]) ?_
    have h100 : 100 < l.length := by
      refine Classical.byContradiction fun g => hv ?_
      unfold vR
      rw [if_neg (fun g => g h0), if_neg g]
    have hvv : vR n lm ls l = 3 := by unfold vR; rw [if_neg (fun g => g h0), if_pos h100]
    simp only [wB, awp, binC, cmpC, eqC, asQ, asT, asG, asB, asI, asN, obA, lenA, storeA, putsA, mkA, Aw.newRow, St.ev, St.step, setS, killS, AV.kill, AV.killL, Mem.kill, AV.cells, AV.flat, AV.single, AV.cellular, Nat.reduceAdd, Nat.reduceEqDiff, Nat.reduceLeDiff, Int.reduceAdd, Int.reduceEq, asStr, strC, lenK, strsA_len, rfA, strsA_len, hvv, Int.natCast_zero, decide_eq_true (show (100 : Int) < l.length by omega)]
    refine acall_v s31 rfl rfl ?_
    simp only [wB, awp, asB, asN, St.ev, St.step, setS, killS, AV.kill, AV.killL, Mem.kill, Nat.reduceEqDiff]
    exact aend_frz rfl ⟨rfl, rfl⟩
  have h0 : vN n lm ls = 0 := by
    refine Classical.byContradiction fun g => ?_
    unfold vR at hv
    rw [if_pos g] at hv
    exact g hv
  have h100 : ¬ 100 < l.length := by
    intro g
    unfold vR at hv
    rw [if_neg (fun g => g h0), if_pos g] at hv
    cases hv
  have h33 := s33 n lm ls (by omega) l hs hv
  simp only [trapA] at h33
  refine acall_v h33 (by simp [AV.pureL, AV.pure, prsA_pure, strsA_pure]) (by simp [AV.pureL, AV.pure, intsA_pure]) ?_
  simp only [wB, awp, asP, asT, asN, loadA, St.ev, St.step, setS, killS, AV.kill, AV.killL, Mem.kill, AV.cells, AV.flat, AV.single, Nat.reduceAdd, Nat.reduceEqDiff, Nat.reduceLeDiff, Int.reduceAdd]
  have h34 := s34o n lm ls (by omega) h0
  simp only [trapA] at h34
  refine acall_v h34 (by simp [AV.pureL, AV.pure, prsA_pure]) (by simp [AV.pure, AV.pureL, prsA_pure, rfA, strsA]) ?_
  have hel := ersL_len (n := n) (lm := lm) (ls := ls) l []
  simp only [wB, awp, binC, cmpC, asQ, asT, asB, asI, asN, obA, lenA, storeA, putsA, mkA, Aw.newRow, St.ev, St.step, setS, killS, AV.kill, AV.killL, Mem.kill, AV.cells, AV.flat, AV.single, AV.cellular, Nat.reduceAdd, Nat.reduceEqDiff, Nat.reduceLeDiff, Int.reduceAdd, lenK, strsA_len, rfA, strsA_len, hel, decide_eq_false (show ¬ (100 : Int) < l.length by omega)]
  refine swp_loop' (fun k : Nat => ⟨[.bot, .s 1 (strsA l), .bot, .bot, .bot, .s 1 (intsA (ersL n lm ls [] l)), S (lg 0 (doL n lm ls l)), .bot, .q 0 4 0 0, .bot, I k, .bot, .bot, .bot, .bot, .bot, .bot, .bot, .bot, .bot, .bot, .bot, .bot, .bot, .bot, .bot, .bot, .bot, .bot, .bot, .bot, .bot, .bot, .bot, .bot, .bot, .bot, .bot, .bot, .bot, .bot, .bot, .bot, .bot, .bot, .bot, .bot, .bot, .bot, .bot, .bot, .bot, .bot, .bot, .bot, .bot, .bot, .bot, .bot, .bot, .bot, .bot, .bot, .bot, .bot, .bot, .bot, .bot, .bot, .bot, .bot, .bot, .bot, .bot, .bot, .bot, .bot, .bot, .bot, .bot, .bot, .bot, .bot, .bot, .bot, .bot, .bot, .bot, .bot, .bot, .bot, .bot, .bot, .bot, .bot], [some ⟨none, 55, 4, [rfA n lm ls (doL n lm ls (l.take k))]⟩]⟩) (fun k => k ≤ l.length) (fun k => l.length - k) 0 (le_sl' ?_ (by simp [leSl])) (Nat.zero_le _) ?_
  · simp [rfA, doL]
  intro k hk
  have hA := doL_acc n lm ls (l.take k)
  refine awp_sound (own := [8, 11]) _ _ _ _ _ ?_
  simp only [wB, awp, binC, cmpC, asB, asI, lenA, St.ev, St.step, setS, killS, AV.kill, AV.killL, Mem.kill, Nat.reduceAdd, Nat.reduceEqDiff, Int.reduceAdd, lenK, strsA_len, rfA, strsA_len]
  by_cases h : k < l.length
  case neg =>
    have h' : ¬ (k : Int) < l.length := by omega
    obtain rfl : k = l.length := by omega
    rw [List.take_length] at *
    simp only [wB, awp, asP, asQ, obA, loadA, St.ev, St.step, setS, killS, AV.kill, AV.killL, Mem.kill, AV.cells, AV.flat, AV.single, Nat.reduceAdd, Nat.reduceEqDiff, Nat.reduceLeDiff, Int.reduceAdd, decide_eq_false h']
    refine acall_v (s36 _ (by have := hA.inv.1; omega) hA.ords) (by simp [AV.pureL, AV.pure, strsA_pure]) rfl ?_
    simp only [wB, binC, eqC, asG, asB, asI, St.ev, St.step, setS, killS, AV.kill, AV.killL, Mem.kill, asStr, strC]
    refine acall_v s31 rfl rfl ?_
    simp only [wB, awp, asB, asN, St.ev, St.step, setS, killS, AV.kill, AV.killL, Mem.kill, Nat.reduceEqDiff]
    exact aend_frz rfl ⟨rfl, rfl⟩
  have h' : (k : Int) < l.length := by omega
  simp only [awp, ACond_true, decide_eq_true h']
  have h35 := s35 n lm ls _ hA (by omega) l[k] (hs _ (List.getElem_mem h))
  rw [← doL_take h] at h35
  have hat := ersL_at (n := n) (lm := lm) (ls := ls) h
  have hke : k < (ersL n lm ls [] l).length := by rw [hel]; exact h
  obtain ⟨e, he⟩ : ∃ e, e = erO n lm ls (doL n lm ls (l.take k)) l[k] := ⟨_, rfl⟩
  rw [← he] at h35 hat
  simp only [rfA] at h35
  refine swp_to ⟨[.bot, .s 1 (strsA l), .bot, .bot, .bot, .s 1 (intsA (ersL n lm ls [] l)), S (lg 0 (doL n lm ls l)), .bot, .q 0 4 0 0, .bot, I k, .q 1 4 0 0, I e, .bot, .bot, .bot, .bot, .bot, .bot, .bot, .bot, .bot, .bot, .bot, .bot, .bot, .bot, .bot, .bot, .bot, .bot, .bot, .bot, .bot, .bot, .bot, .bot, .bot, .bot, .bot, .bot, .bot, .bot, .bot, .bot, .bot, .bot, .bot, .bot, .bot, .bot, .bot, .bot, .bot, .bot, .bot, .bot, .bot, .bot, .bot, .bot, .bot, .bot, .bot, .bot, .bot, .bot, .bot, .bot, .bot, .bot, .bot, .bot, .bot, .bot, .bot, .bot, .bot, .bot, .bot, .bot, .bot, .bot, .bot, .bot, .bot, .bot, .bot, .bot, .bot, .bot, .bot, .bot, .bot, .bot], [some ⟨none, 55, 4, [rfA n lm ls (doL n lm ls (l.take k))]⟩, some ⟨none, 55, 4, [rfA n lm ls (doL n lm ls (l.take (k + 1)))]⟩]⟩ (swp_draw (own := [8, 11]) (.take 0 .reads [] (.take 1 .plain [] (.take 2 .plain [] (.take 3 .reads [] (.take 4 .reads [] (.alt 5 (.take 6 .plain [] (.take 7 .plain [] (.take 8 .plain [] (.alt 9 (.alt 10 (.take 11 .plain [] (.done)) (.nil)) (.nil))))) (.alt 9 (.alt 5 (.take 6 .plain [] (.take 7 .plain [] (.take 8 .plain [] (.alt 10 (.take 11 .plain [] (.done)) (.nil))))) (.nil)) (.nil)))))))) [⟨73, 256, 0, 0, true⟩, ⟨74, 2, 0, 0, true⟩, ⟨75, 1024, 0, 0, true⟩, ⟨76, 28334198897217871282176, 6, 0, true⟩, ⟨77, 37778931862957161709568, 8, 0, true⟩, ⟨78, 80280230208783968632832, 17, 0, false⟩, ⟨72, 151115727451828646838272, 32, 0, true⟩, ⟨79, 2361183241434822606848, 64, 0, true⟩, ⟨80, 2361183241434822606848, 64, 0, true⟩, ⟨12, 0, 0, 0, false⟩, ⟨0, 302231454903657293678592, 767, 1, false⟩, ⟨13, 604462909807314587353088, 2047, 0, true⟩] mo (by kernel_rfl) ?_) ?_
  · simp only [wB, idxC, asP, asQ, asS, asI, obA, loadA, mkA, Aw.newRow, St.ev, St.step, setS, killS, AV.kill, AV.killL, Mem.kill, AV.cells, AV.flat, AV.single, Nat.reduceAdd, Nat.reduceEqDiff, Nat.reduceLeDiff, Int.reduceAdd, ASch, St.put, Md.mem, Md.need, aget_strs h, Int.toNat_natCast]
    repeat' (first
      | refine And.intro ?_ ?_
      | omega
      | (refine acall_v h35 (by simp [AV.pureL, AV.pure, prsA_pure, strsA_pure]) (by simp [AV.pure, AV.pureL, prsA_pure, strsA_pure]) ?_; simp only [wB, asQ, asT, asN, obA, storeA, putsA, mkA, Aw.newRow, St.ev, St.step, setS, killS, AV.kill, AV.killL, Mem.kill, AV.cells, AV.flat, AV.single, AV.cellular, Nat.reduceAdd, Nat.reduceEqDiff, Nat.reduceLeDiff, Int.reduceAdd, ASch, St.put, Md.mem, Md.need]))
    all_goals
      refine le_sl' ?_ (by simp [leSl])
      simp [rfA]
  simp only [wB, awp, binC, idxC, arithC, cmpC, asP, asQ, asS, asB, asI, asN, obA, loadA, storeA, putsA, St.ev, St.step, setS, killS, AV.kill, AV.killL, Mem.kill, AV.cells, AV.flat, AV.single, AV.cellular, Nat.reduceAdd, Nat.reduceEqDiff, Nat.reduceLeDiff, Int.reduceAdd, isU, rfA, aget_ints hke, Int.toNat_natCast, hat]
  refine ⟨by omega, by unfold lim; omega, k + 1, le_cut (Mx := [some ⟨none, 55, 4, [rfA n lm ls (doL n lm ls (l.take (k + 1)))]⟩]) (by simp [leSl]) ?_ rfl ?_, h, by omega⟩
  · simp [rfA]
  · simp [freeM, rfA, AV.freeL, AV.free]
end Go.Proofs.YtndniceeibflcaaGreatDoor

namespace Go.Proofs.YtndniceeibflcaaGreatDoor
open Aw Go.ChangeShapes Go.WideShapes Go.ChangeAt Go.RowKit Go.Deep Go.Joins

set_option maxRecDepth 100000 in
theorem machineRuns_lifted (os : Os) (started : os.Started) (H : Type) (enc : TypeId × Value → H) :
    ReturnsInHanded {} Tryz.checked os 6 .any (fun w args => (Rows.machineRunsSpec.pre enc Tryz.prog Tryz.f6 [] false w args ∧ laidMetH Tryz.prog Rows.machineRunsRow.laid w) ∧ sizedMet enc Tryz.prog Tryz.f6 (OpenSpec.ofChange Rows.machineRunsSpec) false w args)
      (Rows.machineRunsSpec.post enc Tryz.prog Tryz.f6 false true false false) := by
  refine returns_laid (C := Tryz.checked) (X := fun w _ => laidMetH Tryz.prog Rows.machineRunsRow.laid w) (fun _ _ _ hh h => h.of_heap hh) Tryz.own started (by kernel_rfl) Tryz.func6
    (ChangeSpec.witness_at (enc := enc) (C := Tryz.checked) (os := os) (X := fun w _ => laidMetH Tryz.prog Rows.machineRunsRow.laid w) false (laidWorld os) #[.agg #[.int .i64 0, .slice none 0 0, .int .i64 0], .slice none 0 0] 8 rfl (by kernel_rfl) (by kernel_rfl) (by kernel_rfl) (by kernel_rfl) (by kernel_rfl) (laidWorld_met os _)) ?_
  intro W base args ds gs before hval0 hW hsz hL hsh
  have hval : ∀ (j : Nat) t v, Tryz.f6.params[j]? = some t → args[j]? = some v → Value.okWide Tryz.prog W .any base t v := hval0
  have hG : GOk W := gok_of hL hsh
  have hW' := hW
  obtain ⟨p, q, hA0, hV, rfl, hfz, hnd⟩ := hW
  have hA : DataW.TrodAll enc Tryz.prog W 0 (fun _ => true) true Tryz.f6.params.toList args.toList ds p := hA0
  rw [Tryz.params6] at hA hval hsz
  obtain ⟨v0, v1, d0, d1, p0, p1, rfl, rfl, rfl, h0, h1⟩ := trodAll_two hA
  obtain ⟨rfl, rfl⟩ := trodVars_none hV
  obtain ⟨n0, ls0, lm0, r0⟩ := sa_lab (hval 0 26 v0 rfl rfl) h0
  obtain ⟨l1, r1, b1⟩ := sa_strs (hval 1 27 v1 rfl rfl) h1
  clear hA0 hval0
  simp only [List.append_nil] at hW'
  have hlt : ∀ x ∈ p0 ++ p1, x.block < W.heap.size := fun x hx => hW'.lt x (by simpa using hx)
  refine (calls_true (s6 n0 lm0 ls0 l1 b1) (vs := [v0, v1]) (by simp only [RVL]; exact ⟨_, _, rfl, r0, _, _, rfl, r1, rfl⟩) hG).mono fun e W' ⟨he, hb⟩ => ?_
  subst he
  refine ⟨_, rfl, law_shut hW' hb rfl (fun _ _ _ => trodAll_mk1 (shut_bool Tryz.underlying4 true)) (fun sp hsp => ?_) rfl (ok_one (by kernel_rfl) rfl (okWide_bool_mk Tryz.underlying4 true))⟩
  exact trodAll_mk2 (arg_stays Tryz.laidOut rr26 lt26 h0 hb (fun x hx => hlt x (by simp [hx])) (sp := sp) (fun x hx => hsp x (by simp [hx])))
    (arg_stays Tryz.laidOut rr27 lt27 h1 hb (fun x hx => hlt x (by simp [hx])) (sp := sp) (fun x hx => hsp x (by simp [hx])))

theorem machineRuns_func : Tryz.prog.funcNamed "quadrupole/quadrupolelaw09.MachineRuns" = some 6 := by kernel_rfl
theorem machineRuns_k10 : (Rows.machineRunsRow.inPlace == Tryz.prog.inPlace 6) = true := by kernel_rfl
theorem machineRuns_k11 : (Rows.machineRunsRow.unfollowed == Tryz.prog.unfollowed 6) = true := by kernel_rfl
theorem machineRuns_k12 : (Rows.machineRunsRow.recurses == Tryz.prog.recurses 6) = true := by kernel_rfl
theorem machineRuns_k13 : (Rows.machineRunsRow.named == Tryz.prog.varsNamed 6) = true := by kernel_rfl
theorem machineRuns_closed : joinedFacts Tryz.prog 6 Tryz.f6 Rows.machineRunsSpec Rows.machineRunsRow = true :=
  joined_of (by kernel_rfl) (by kernel_rfl) (by kernel_rfl) rfl rfl machineRuns_k10 machineRuns_k11 machineRuns_k12 machineRuns_k13 (by kernel_rfl) Tryz.keysE rfl Tryz.lifts Tryz.made (by kernel_rfl)
theorem machineRuns_goes : false = Rows.machineRunsRow.goesBy Tryz.prog := by kernel_rfl
theorem machineRuns_row : Rows.MachineRunsSaid :=
  OpenClaim.holds_of_wide 6 Tryz.f6 rfl rfl rfl rfl rfl rfl rfl ⟨rfl, rfl, rfl, rfl, rfl⟩ rfl rfl rfl rfl rfl machineRuns_func Tryz.func6 machineRuns_closed
    (of_decide_eq_true (by kernel_rfl)) (by unfold Func.isWrapper; rw [if_neg (of_decide_eq_false (by kernel_rfl))]; exact ⟨rfl, rfl⟩)
    (fun os started H enc _ => machineRuns_lifted os started H enc)

theorem machineRuns_holds : Rows.MachineRunsCardSaid :=
  Claim7.holds_tied_plain_at .later [] [.data, .data, .data, .data, .handle, .sentinel, .sentinel, .pinned] true (true, "aa03d57e40d7f46a321b7a338959e31570b187a828c7cad4885241d6f19c00d7") true
    machineRuns_row (fun _ h => by cases h) (by kernel_rfl) (fun _ h => by cases h) machineRuns_row_tie rfl ⟨rfl, rfl⟩ Tryz.mainE rfl
    (fun f fn hf hfn => by
      obtain rfl : f = 6 := Option.some.inj (machineRuns_func.symm.trans hf) |>.symm
      obtain rfl : fn = Tryz.f6 := (Option.some.inj (Tryz.func6.symm.trans hfn)).symm
      refine ⟨Tryz.looksE, fun j t ht => ?_⟩
      rw [Tryz.params6] at ht
      have h3 := Array.mem_of_getElem? ht
      simp only [List.mem_toArray, List.mem_cons, List.not_mem_nil, or_false] at h3
      rcases h3 with rfl | rfl
      · exact Tryz.st26
      · exact Tryz.st27)
    machineRuns_goes
end Go.Proofs.YtndniceeibflcaaGreatDoor
