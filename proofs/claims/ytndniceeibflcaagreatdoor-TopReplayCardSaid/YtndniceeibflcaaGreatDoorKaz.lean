/-
  Parts of several texts in one: MxA, MyB, MyD.
-/
import Derived.Test.YtndniceeibflcaaGreatDoorProg
import Derived.WalkKit
import Derived.Lib.ConvBytes
import Derived.LaidEql
import Derived.Lib.ItoaNum
import Derived.Lib.LaidTab
import Derived.KernelRfl
import GoSem.Claims
import GoSem.ClaimJoined
import Derived.Orders
import Derived.Laws.StructEq
import Derived.Maps.Keyed
import Derived.Lib.Strings
import Derived.Maps.AppendAt
import Derived.Laws.Concat
import Derived.MapKept
import Derived.Laws.MakeOwn
import Derived.Scope
import Derived.Laws.BitsLemmas
import Derived.Maps.RangeRun
import Derived.StillTail
import Derived.OrdersIn
import Derived.TacticsIn
import Derived.RangeFuncRecord
import Derived.RangeFuncCalls
import Derived.RangeFuncSeq
import Derived.Lib.Split
import Derived.Lib.AtoiAll
import Derived.Shelf.LaysM
import Derived.Shelf.LaysC
import Derived.Shelf.Strconv.Itoa3
import Derived.Shelf.Strconv.AtoiAll
import Derived.Shelf.Strings.Search3
import Derived.Shelf.Strings.Cut
import Derived.Shelf.Strings.Prefix
import Derived.Shelf.Strings.Split
import Derived.Lib.AppendIntMem
import Derived.Stop.Asserts
import Derived.RowKitTokens
import Derived.Conc.MuLone
import Derived.Test.YtndniceeibflcaaGreatDoorRows
import Derived.Test.YtndniceeibflcaaGreatDoorChecked
import Derived.ChangeSame
import Derived.ChangeVars
import Derived.JoinedOf
import Derived.ProofKit
import Derived.RowKit
import Derived.LaidLaws
import Derived.LaidHandle
import Derived.LaidMore
import Derived.Stop.Joined
import Derived.Stop.LaidErr
import Derived.HandedShaped
import Derived.Shelf.Vars
import Derived.Deep.Slices
import Derived.Deep.Strs
import Derived.Deep.Fields
import Derived.Lib.SmallJoins
import Derived.SliceStrings
import Derived.ChangeMaps5
import Derived.Test.YtndniceeibflcaaGreatDoorKaa
import Derived.Test.YtndniceeibflcaaGreatDoorKac
import Derived.Test.YtndniceeibflcaaGreatDoorKad
import Derived.Test.YtndniceeibflcaaGreatDoorKae
import Derived.Test.YtndniceeibflcaaGreatDoorKag
import Derived.Test.YtndniceeibflcaaGreatDoorKav
import Derived.Test.YtndniceeibflcaaGreatDoorKaw
import Derived.Test.YtndniceeibflcaaGreatDoorKax
import Derived.Test.YtndniceeibflcaaGreatDoorKau
import Derived.Test.YtndniceeibflcaaGreatDoorKai
import Derived.Test.YtndniceeibflcaaGreatDoorKap
import Derived.Test.YtndniceeibflcaaGreatDoorKay
set_option linter.unusedSimpArgs false
set_option linter.unusedVariables false
namespace Go.Proofs.YtndniceeibflcaaGreatDoor
namespace Aw
end Aw
namespace Mp
end Mp
end Go.Proofs.YtndniceeibflcaaGreatDoor
namespace Go.Proofs.YtndniceeibflcaaGreatDoor
open Aw Mp Go.RowKit
set_option linter.unusedSimpArgs false
set_option maxRecDepth 8000

/-- orders that are done one by one: how many are done, and the error of the next one. -/
def rpL (n lm : Int) (ls : List (Int × Int)) : List By → List By → Nat × Int
  | d, [] => (d.length, 0)
  | d, o :: r => if erO n lm ls d o = 0 then rpL n lm ls (d ++ [o]) r else (d.length, erO n lm ls d o)
end Go.Proofs.YtndniceeibflcaaGreatDoor

namespace Go.Proofs.YtndniceeibflcaaGreatDoor
open Aw Mp Go.RowKit
set_option linter.unusedSimpArgs false
set_option maxRecDepth 8000

/-- a log is replayed: the number of orders, and the error. -/
def rpO (n lm : Int) (ls : List (Int × Int)) (t : By) : Nat × Int := if vN n lm ls ≠ 0 then (0, vN n lm ls) else if (rd 100 0 t).2 ≠ [] then (0, 10) else rpL n lm ls [] (rd 100 0 t).1
theorem acc_snoc {n lm : Int} {ls : List (Int × Int)} {l : List By} {k : Nat} (h : k < l.length) (hA : Acc n lm ls (l.take k)) (he : erO n lm ls (l.take k) l[k] = 0) : Acc n lm ls (l.take (k + 1)) := by
  rw [← List.take_append_getElem h]
  exact .snoc hA he
theorem rpL_at {n lm : Int} {ls : List (Int × Int)} {l : List By} {k : Nat} (h : k < l.length) : rpL n lm ls (l.take k) (l.drop k) = if erO n lm ls (l.take k) l[k] = 0 then rpL n lm ls (l.take (k + 1)) (l.drop (k + 1)) else (k, erO n lm ls (l.take k) l[k]) := by
  rw [List.drop_eq_getElem_cons h, rpL, List.take_append_getElem]
  simp only [List.length_take, Nat.min_eq_left (Nat.le_of_lt h)]
end Go.Proofs.YtndniceeibflcaaGreatDoor

namespace Go.Proofs.YtndniceeibflcaaGreatDoor
open Aw Mp Go.RowKit
set_option linter.unusedSimpArgs false
set_option maxRecDepth 8000

theorem ok27 : okFn Tryz.prog 27 = true := by kernel_rfl
/-- a log is replayed: the machine's pointer, and its objects. -/
def rpP (n lm : Int) (ls : List (Int × Int)) (t : By) : AV := if (rpO n lm ls t).2 = 0 then .q 0 13 0 0 else .v (.pointer none)
def rpM (n lm : Int) (ls : List (Int × Int)) (t : By) : List Ob := if (rpO n lm ls t).2 = 0 then [(mkM n lm ls (rd 100 0 t).1).obA 1, (mkM n lm ls (rd 100 0 t).1).od] else []
theorem s27 (n lm : Int) (ls : List (Int × Int)) (hls : ls.length ≤ 100000) (t : By) (ht : t.length ≤ 1000000) : ASpec Tryz.prog 27 [trapA n ls, I lm, S t] (fun r Ms => r = .t [rpP n lm ls t, I (rpO n lm ls t).1, I (rpO n lm ls t).2] ∧ Ms = rpM n lm ls t) := by
  refine aspec_of (own := [1002, 1010]) Tryz.func27 rfl ok27 ?_
  simp only [wB, awp, asP, asN, loadA, St.ev, St.step, setS, killS, AV.kill, AV.killL, Mem.kill, AV.cells, AV.flat, AV.single, AV.cellular, AV.pure, AV.pureL, Nat.reduceAdd, Nat.reduceEqDiff, Nat.reduceSub, Nat.reduceLeDiff, Int.reduceAdd, Int.reduceSub, Tryz.ntmps27, trapA]
  have hrl := rd_len 100 0 t
  have hro := rd_ord 100 0 t
  have s19t := s19 t ht
  have hE : rpO n lm ls t = if vN n lm ls ≠ 0 then (0, vN n lm ls) else if (rd 100 0 t).2 ≠ [] then (0, 10) else rpL n lm ls [] (rd 100 0 t).1 := rfl
  have hP : rpP n lm ls t = if (rpO n lm ls t).2 = 0 then .q 0 13 0 0 else .v (.pointer none) := rfl
  have hM : rpM n lm ls t = if (rpO n lm ls t).2 = 0 then [(mkM n lm ls (rd 100 0 t).1).obA 1, (mkM n lm ls (rd 100 0 t).1).od] else [] := rfl
  generalize (rd 100 0 t).1 = l at *
  generalize (rd 100 0 t).2 = u at *
  by_cases h0 : vN n lm ls = 0
  case neg =>
    have h22 := s22e n lm ls hls h0
    simp only [trapA] at h22
    refine acall_v h22 (by simp [AV.pureL, AV.pure, prsA_pure]) rfl ?_
    simp only [wB, awp, asT, asN, St.ev, St.step, setS, killS, AV.kill, AV.killL, Mem.kill, Nat.reduceAdd, Nat.reduceEqDiff, Int.reduceAdd, decide_eq_false h0]
    refine awp_sound (own := [1010]) _ _ _ _ _ ?_
    simp only [wB, awp, binC, cmpC, asB, asI, asN, St.ev, St.step, setS, killS, AV.kill, AV.killL, Mem.kill, Nat.reduceAdd, Nat.reduceEqDiff, Int.reduceAdd, decide_eq_false h0]
    have hx : rpO n lm ls t = (0, vN n lm ls) := by rw [hE, if_pos h0]
    rw [hx, if_neg h0] at hP hM
    refine aend_frz rfl ⟨?_, hM.symm⟩
    rw [hP, hx]
    rfl
  have h22 := s22o n lm ls hls h0
  have hT := (vN_ok h0).1
  simp only [trapA] at h22
  refine acall_os h22 (by simp [AV.pureL, AV.pure, prsA_pure]) ?_
  simp only [wB, awp, asT, asN, St.ev, St.step, setS, killS, AV.kill, AV.killL, Mem.kill, Nat.reduceAdd, Nat.reduceEqDiff, Int.reduceAdd, AV.sub, AV.subL, AV.up, Ob.up, prsA_msub, new_sub]
  refine swp_le (σ' := ⟨[.bot, .bot, S t, .bot, .bot, .bot, .bot, .bot, .bot, .q 0 13 0 0, I 0, .bot, .bot, .bot, .bot, .bot, .bot, .bot, .bot, .bot, .bot, .bot, .bot, .bot, .bot, .bot, .bot, .bot, .bot, .bot, .bot, .bot, .bot, .bot, .bot, .bot, .bot, .bot, .bot, .bot, .bot, .bot, .bot, .bot, .bot, .bot, .bot, .bot, .bot, .bot], memD (mkM n lm ls [])⟩) (le_new (by simp [leSl, frz1, AV.sub])) ?_
  refine awp_sound (own := [1010]) _ _ _ _ _ ?_
  simp only [wB, awp, binC, cmpC, asB, asI, St.ev, St.step, setS, killS, AV.kill, AV.killL, Mem.kill, Nat.reduceAdd, Nat.reduceEqDiff, Int.reduceAdd]
  refine acall_v s19t rfl (by simp [AV.pure, AV.pureL, strsA_pure]) ?_
  simp only [wB, awp, binC, eqC, asT, asG, asB, asI, asN, St.ev, St.step, setS, killS, AV.kill, AV.killL, Mem.kill, Nat.reduceAdd, Nat.reduceEqDiff, Int.reduceAdd, asStr, strC]
  rw [if_neg (fun g => g h0)] at hE
  by_cases h1 : u = []
  case neg =>
    simp only [wB, awp, asN, St.ev, St.step, setS, killS, AV.kill, AV.killL, Mem.kill, Nat.reduceAdd, Nat.reduceEqDiff, Int.reduceAdd, decide_eq_false h1]
    have hx : rpO n lm ls t = (0, 10) := by rw [hE, if_pos h1]
    rw [hx, if_neg (by decide)] at hP hM
    refine aend_frz rfl ⟨?_, hM.symm⟩
    rw [hP, hx]
    rfl
  rw [if_neg (fun g => g h1)] at hE
  subst h1
  simp only [wB, awp, lenA, St.ev, St.step, setS, killS, AV.kill, AV.killL, Mem.kill, Nat.reduceAdd, Nat.reduceEqDiff, Int.reduceAdd, lenK, strsA_len, strsA_len]
  refine swp_loop' (fun k : Nat => ⟨[.bot, .bot, .bot, .bot, .bot, .bot, .bot, .bot, .bot, .q 0 13 0 0, .bot, .s 1 (strsA l), .bot, .bot, .bot, .bot, .bot, .bot, .bot, .bot, .bot, .bot, .bot, .bot, .bot, .bot, .bot, .bot, .bot, .bot, .bot, .bot, .s 1 (strsA l), I l.length, I k, .bot, .bot, .bot, .bot, .bot, .bot, .bot, .bot, .bot, .bot, .bot, .bot, .bot, .bot, .bot], memD (mkM n lm ls (l.take k))⟩) (fun k => k ≤ l.length ∧ Acc n lm ls (l.take k) ∧ rpL n lm ls [] l = rpL n lm ls (l.take k) (l.drop k)) (fun k => l.length - k) 0 (le_sl' ?_ (by simp [leSl])) ⟨Nat.zero_le _, by simpa using Acc.nil, by simp⟩ ?_
  · simp
  rintro k ⟨hk, hA, hR⟩
  refine awp_sound (own := [1010]) _ _ _ _ _ ?_
  simp only [wB, awp, binC, cmpC, asB, asI, St.ev, St.step, setS, killS, AV.kill, AV.killL, Mem.kill, Nat.reduceAdd, Nat.reduceEqDiff, Int.reduceAdd]
  by_cases h : k < l.length
  case neg =>
    have h' : ¬ (k : Int) < l.length := by omega
    obtain rfl : k = l.length := by omega
    simp only [wB, awp, asN, lenA, St.ev, St.step, setS, killS, AV.kill, AV.killL, Mem.kill, Nat.reduceAdd, Nat.reduceEqDiff, Int.reduceAdd, lenK, strsA_len, decide_eq_false h', strsA_len]
    rw [List.take_length] at *
    rw [List.drop_length] at hR
    have hx : rpO n lm ls t = (l.length, 0) := hE.trans hR
    rw [hx, if_pos rfl] at hP hM
    refine aend_ren [0, 2] (by decide) [(mkM n lm ls l).obA 1, (mkM n lm ls l).od] rfl (mk_ren _) ⟨?_, hM.symm⟩
    rw [hP, hx]
    rfl
  have h' : (k : Int) < l.length := by omega
  simp only [wB, awp, idxC, asP, asS, asI, asN, loadA, St.ev, St.step, setS, killS, AV.kill, AV.killL, Mem.kill, AV.cells, AV.flat, AV.single, Nat.reduceAdd, Nat.reduceEqDiff, Int.reduceAdd, decide_eq_true h', aget_strs h, Int.toNat_natCast]
  obtain ⟨e, he⟩ : ∃ e, e = erO n lm ls (l.take k) l[k] := ⟨_, rfl⟩
  have h24 := f24 n lm ls hT (by omega) _ hA l[k] (by have := (ordB_iff _).1 (hro _ (List.getElem_mem h)); omega)
  rw [← he] at h24
  refine ⟨by omega, swp_fs (own := []) [false, false, true, false] ?_⟩
  simp only [wB, St.ev, St.step, setS, killS, AV.kill, AV.killL, Mem.kill, memD]
  refine acall_f h24 ?_
  simp only [wB, awp, binC, cmpC, asB, asI, asN, St.ev, St.step, setS, killS, AV.kill, AV.killL, Mem.kill, Nat.reduceAdd, Nat.reduceEqDiff, Int.reduceAdd, memD, AV.sub, keepG, liveI, AV.isQ, List.any_cons, List.any_nil]
  by_cases h1 : e = 0
  case neg =>
    simp only [wB, awp, asN, St.ev, St.step, setS, killS, AV.kill, AV.killL, Mem.kill, Nat.reduceAdd, Nat.reduceEqDiff, Int.reduceAdd, decide_eq_false h1]
    have hx : rpO n lm ls t = (k, e) := by rw [hE, hR, rpL_at h, ← he, if_neg h1]
    rw [hx, if_neg h1] at hP hM
    refine aend_frz rfl ⟨?_, hM.symm⟩
    rw [hP, hx]
    rfl
  have hd : doO n lm ls (l.take k) l[k] = l.take (k + 1) := by rw [doO_ok (he.symm.trans h1), List.take_append_getElem]
  simp only [wB, awp, binC, arithC, cmpC, asI, St.ev, St.step, setS, killS, AV.kill, AV.killL, Mem.kill, Nat.reduceAdd, Nat.reduceEqDiff, Int.reduceAdd, isU, decide_eq_true h1]
  refine ⟨by unfold lim; omega, k + 1, le_sl' ?_ (by simp [leSl]), ⟨h, acc_snoc h hA (he.symm.trans h1), ?_⟩, by omega⟩
  · simp [hd, memD]
  · rw [hR, rpL_at h, ← he, if_pos h1]
end Go.Proofs.YtndniceeibflcaaGreatDoor
