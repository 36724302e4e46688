/-
  The law MachineRight: for every input, with the listed variables as the program's text lays them, it answers true, and each argument reads as it did.
-/
import Derived.Test.YtndniceeibflcaaGreatDoorProg
import Derived.WalkKit
import Derived.Lib.ConvBytes
import Derived.LaidEql
import Derived.Lib.ItoaNum
import Derived.Lib.LaidTab
import Derived.KernelRfl
import GoSem.Claims
import GoSem.ClaimJoined
import Derived.Orders
import Derived.Laws.StructEq
import Derived.Maps.Keyed
import Derived.Lib.Strings
import Derived.Maps.AppendAt
import Derived.Laws.Concat
import Derived.MapKept
import Derived.Laws.MakeOwn
import Derived.Scope
import Derived.Laws.BitsLemmas
import Derived.Maps.RangeRun
import Derived.StillTail
import Derived.OrdersIn
import Derived.TacticsIn
import Derived.RangeFuncRecord
import Derived.RangeFuncCalls
import Derived.RangeFuncSeq
import Derived.Lib.Split
import Derived.Lib.AtoiAll
import Derived.Shelf.LaysM
import Derived.Shelf.LaysC
import Derived.Shelf.Strconv.Itoa3
import Derived.Shelf.Strconv.AtoiAll
import Derived.Shelf.Strings.Search3
import Derived.Shelf.Strings.Cut
import Derived.Shelf.Strings.Prefix
import Derived.Shelf.Strings.Split
import Derived.Lib.AppendIntMem
import Derived.Stop.Asserts
import Derived.RowKitTokens
import Derived.Conc.MuLone
import Derived.Test.YtndniceeibflcaaGreatDoorRows
import Derived.Test.YtndniceeibflcaaGreatDoorChecked
import Derived.ChangeSame
import Derived.ChangeVars
import Derived.JoinedOf
import Derived.ProofKit
import Derived.RowKit
import Derived.LaidLaws
import Derived.LaidHandle
import Derived.LaidMore
import Derived.Stop.Joined
import Derived.Stop.LaidErr
import Derived.HandedShaped
import Derived.Shelf.Vars
import Derived.Deep.Slices
import Derived.Deep.Strs
import Derived.Deep.Fields
import Derived.Lib.SmallJoins
import Derived.SliceStrings
import Derived.ChangeMaps5
import Derived.Test.YtndniceeibflcaaGreatDoorTie
import Derived.Test.YtndniceeibflcaaGreatDoorCards
import Derived.SevenTiedAt
import Derived.Test.YtndniceeibflcaaGreatDoorKa
import Derived.Test.YtndniceeibflcaaGreatDoorKc
import Derived.Test.YtndniceeibflcaaGreatDoorKd
import Derived.Test.YtndniceeibflcaaGreatDoorKe
import Derived.Test.YtndniceeibflcaaGreatDoorKg
import Derived.Test.YtndniceeibflcaaGreatDoorKm
import Derived.Test.YtndniceeibflcaaGreatDoorKs
import Derived.Test.YtndniceeibflcaaGreatDoorKf
import Derived.Test.YtndniceeibflcaaGreatDoorKI
import Derived.Test.YtndniceeibflcaaGreatDoorKv
import Derived.Test.YtndniceeibflcaaGreatDoorKi
import Derived.Test.YtndniceeibflcaaGreatDoorKF
import Derived.Test.YtndniceeibflcaaGreatDoorKJ
import Derived.Test.YtndniceeibflcaaGreatDoorKl
import Derived.Test.YtndniceeibflcaaGreatDoorKK
set_option linter.unusedSimpArgs false
set_option linter.unusedVariables false
namespace Go.Proofs.YtndniceeibflcaaGreatDoor
namespace Aw
end Aw
namespace Mp
end Mp
end Go.Proofs.YtndniceeibflcaaGreatDoor
namespace Go.Proofs.YtndniceeibflcaaGreatDoor
open Aw Mp Go.RowKit
set_option linter.unusedSimpArgs false

theorem intsA_take (l : List Int) (k : Nat) : (intsA l).take k = intsA (l.take k) := by simp [intsA]
end Go.Proofs.YtndniceeibflcaaGreatDoor

namespace Go.Proofs.YtndniceeibflcaaGreatDoor
open Aw Mp Go.RowKit
set_option linter.unusedSimpArgs false

theorem ok116 : okFn Tryz.prog 116 = true := by kernel_rfl
theorem s116 (n : Int) (ls : List (Int × Int)) (z : Int) : ASpec Tryz.prog 116 [I z, .p (trapA n ls) 0] (fun r Ms => r = B (!decide (0 ≤ z ∧ z < n)) ∧ Ms = []) := by
  refine aspec_of (own := []) Tryz.func116 rfl ok116 ?_
  simp only [wB, awp, asP, asN, loadA, St.ev, St.step, setS, killS, AV.kill, AV.killL, Mem.kill, AV.cells, AV.flat, AV.single, Nat.reduceAdd, Nat.reduceSub, Nat.reduceLeDiff, Int.reduceAdd, Int.reduceSub, Tryz.ntmps116, trapA]
  refine acall_v (s117 n ls z) rfl rfl ?_
  simp only [wB, awp, asB, asN, St.ev, St.step, setS, killS, AV.kill, AV.killL, Mem.kill]
  exact aend_frz rfl ⟨rfl, rfl⟩

/-- the first error of a place in a right trap. -/
def vP (n : Int) (l : List Int) : Int := if 4 < l.length then 3 else if ∀ z ∈ l, 0 ≤ z ∧ z < n then (if l.Nodup then 0 else 6) else 1

theorem ok86 : okFn Tryz.prog 86 = true := by kernel_rfl
theorem s86 (n : Int) (ls : List (Int × Int)) (l : List Int) (hl : l.length ≤ 1000000) : ASpec Tryz.prog 86 [trapA n ls, .s 1 (intsA l)] (fun r Ms => r = I (vP n l) ∧ Ms = []) := by
  refine aspec_of (own := []) Tryz.func86 rfl ok86 ?_
  simp only [wB, awp, binC, cmpC, asB, asI, asN, lenA, St.ev, St.step, setS, killS, AV.kill, AV.killL, Mem.kill, AV.cellular, AV.pure, AV.pureL, Nat.reduceAdd, Nat.reduceSub, Int.reduceAdd, Int.reduceSub, lenK, Tryz.ntmps86, trapA]
  by_cases h0 : (4 : Int) < l.length
  · simp only [wB, awp, asN, St.ev, St.step, setS, killS, AV.kill, AV.killL, Mem.kill, Nat.reduceAdd, Int.reduceAdd, decide_eq_true h0]
    exact aend_frz rfl ⟨by rw [vP, if_pos (by omega)]; rfl, rfl⟩
  simp only [wB, awp, St.ev, St.step, setS, killS, AV.kill, AV.killL, Mem.kill, AV.single, AV.cellular, Value.oneCell', Nat.reduceAdd, Int.reduceAdd, decide_eq_false h0]
  refine ⟨rfl, acall_v (s75 l (fun z => !decide (0 ≤ z ∧ z < n)) 116 [.p (trapA n ls) 0] hl rfl (fun z _ => s116 n ls z)) rfl rfl ?_⟩
  by_cases ha : ∀ z ∈ l, 0 ≤ z ∧ z < n
  · have hb : (l.any fun z => !decide (0 ≤ z ∧ z < n)) = false := by
      rw [List.any_eq_false]; intro z hz; simp [ha z hz]
    simp only [wB, awp, asB, lenA, St.ev, St.step, setS, killS, AV.kill, AV.killL, Mem.kill, Nat.reduceAdd, Int.reduceAdd, lenK, hb]
    refine swp_loop' (fun k : Nat => ⟨[.bot, .s 1 (intsA l), .bot, .bot, .bot, .bot, .bot, .bot, .bot, .bot, .bot, .bot, .bot, .s 1 (intsA l), I l.length, I k, .bot, .bot, .bot, .bot, .bot, .bot, .bot, .bot, .bot, .bot], []⟩) (fun k => k ≤ l.length ∧ ∀ j, j < k → ∀ h : j < l.length, l[j] ∉ l.take j) (fun k => l.length - k) 0 (le_sl (by simp [leSl, intsA_len])) ⟨Nat.zero_le _, by omega⟩ ?_
    rintro k ⟨hk, hno⟩
    refine awp_sound (own := []) _ _ _ _ _ ?_
    simp only [wB, awp, binC, cmpC, asB, asI, St.ev, St.step, setS, killS, AV.kill, AV.killL, Mem.kill, Nat.reduceAdd, Int.reduceAdd]
    by_cases h : k < l.length
    · have h' : (k : Int) < (l.length : Int) := by omega
      simp only [wB, awp, idxC, asP, asS, asI, asN, bndA, loadA, St.ev, St.step, setS, killS, AV.kill, AV.killL, Mem.kill, AV.cells, AV.flat, AV.single, Nat.reduceAdd, Int.reduceAdd, Int.reduceLE, decide_eq_true h', aget_ints h, bndA, intsA_take, List.drop_zero, Int.toNat_natCast]
      refine ⟨by omega, by omega, acall_v (s102 (l.take k) l[k] (by simp only [List.length_take]; omega)) rfl rfl ?_⟩
      by_cases hm : l[k] ∈ l.take k
      · simp only [wB, awp, asB, asN, St.ev, St.step, setS, killS, AV.kill, AV.killL, Mem.kill, Nat.reduceAdd, Int.reduceAdd, (memL_eq _ _).2 hm]
        refine aend_frz rfl ⟨?_, rfl⟩
        rw [vP, if_neg (by omega), if_pos ha, if_neg (not_nodup h hm)]
        rfl
      · have hm' : memL (l.take k) l[k] = false := by rw [Bool.eq_false_iff, ne_eq, memL_eq]; exact hm
        simp only [wB, awp, binC, arithC, cmpC, asB, asI, St.ev, St.step, setS, killS, AV.kill, AV.killL, Mem.kill, Nat.reduceAdd, Int.reduceAdd, isU, hm']
        exact ⟨by unfold lim; omega, k + 1, le_sl (by simp [leSl]), ⟨h, upto hno fun _ => hm⟩, by omega⟩
    · have h' : ¬ (k : Int) < (l.length : Int) := by omega
      simp only [wB, awp, asN, St.ev, St.step, setS, killS, AV.kill, AV.killL, Mem.kill, Nat.reduceAdd, Int.reduceAdd, decide_eq_false h']
      refine aend_frz rfl ⟨?_, rfl⟩
      rw [vP, if_neg (by omega), if_pos ha, if_pos (nodup_of fun j hj => hno j (by omega) hj)]
      rfl
  · have hb : (l.any fun z => !decide (0 ≤ z ∧ z < n)) = true := by
      rw [List.any_eq_true]
      simp only [Classical.not_forall] at ha
      obtain ⟨z, hz, hn⟩ := ha
      exact ⟨z, hz, by simp only [decide_eq_false hn, Bool.not_false]⟩
    simp only [wB, awp, asB, asN, St.ev, St.step, setS, killS, AV.kill, AV.killL, Mem.kill, Nat.reduceAdd, Int.reduceAdd, hb]
    refine aend_frz rfl ⟨?_, rfl⟩
    rw [vP, if_neg (by omega), if_neg ha]
    rfl
end Go.Proofs.YtndniceeibflcaaGreatDoor

namespace Go.Proofs.YtndniceeibflcaaGreatDoor
open Aw Mp Go.RowKit
set_option linter.unusedSimpArgs false

/-- the first error of a trap and a place. -/
def vTP (n : Int) (ls : List (Int × Int)) (l : List Int) : Int := if vT n ls = 0 then vP n l else vT n ls
theorem ok48 : okFn Tryz.prog 48 = true := by kernel_rfl
theorem s48 (n : Int) (ls : List (Int × Int)) (l : List Int) (hls : ls.length ≤ 1000000) (hl : l.length ≤ 1000000) : ASpec Tryz.prog 48 [trapA n ls, .s 1 (intsA l)] (fun r Ms => r = I (vTP n ls l) ∧ Ms = []) := by
  refine aspec_of (own := []) Tryz.func48 rfl ok48 ?_
  simp only [wB, awp, asP, asN, loadA, St.ev, St.step, setS, killS, AV.kill, AV.killL, Mem.kill, AV.cells, AV.flat, AV.single, AV.cellular, AV.pure, AV.pureL, Nat.reduceAdd, Nat.reduceSub, Nat.reduceLeDiff, Int.reduceAdd, Int.reduceSub, Tryz.ntmps48, trapA]
  refine acall_v (s65 n ls hls) rfl rfl ?_
  by_cases h : vT n ls = 0
  · simp only [wB, awp, binC, cmpC, asP, asB, asI, asN, loadA, St.ev, St.step, setS, killS, AV.kill, AV.killL, Mem.kill, AV.cells, AV.flat, AV.single, Nat.reduceAdd, Nat.reduceLeDiff, Int.reduceAdd, decide_eq_true h]
    refine acall_v (s86 n ls l hl) rfl rfl ?_
    simp only [wB, awp, asN, St.ev, St.step, setS, killS, AV.kill, AV.killL, Mem.kill]
    exact aend_frz rfl ⟨by rw [vTP, if_pos h]; rfl, rfl⟩
  · simp only [wB, awp, binC, cmpC, asB, asI, asN, St.ev, St.step, setS, killS, AV.kill, AV.killL, Mem.kill, Nat.reduceAdd, Int.reduceAdd, decide_eq_false h]
    exact aend_frz rfl ⟨by rw [vTP, if_neg h]; rfl, rfl⟩
end Go.Proofs.YtndniceeibflcaaGreatDoor

namespace Go.Proofs.YtndniceeibflcaaGreatDoor
open Aw Mp Go.RowKit
set_option linter.unusedSimpArgs false

theorem ok120 : okFn Tryz.prog 120 = true := by kernel_rfl
theorem s120 (n : Int) (g : G4) : ASpec Tryz.prog 120 [I n, gA g] (fun r Ms => r = B (okG n g) ∧ Ms = []) := by
  refine aspec_of (own := []) Tryz.func120 rfl ok120 ?_
  simp only [wB, awp, binC, cmpC, asP, asI, asN, loadA, St.ev, St.step, setS, killS, AV.kill, AV.killL, Mem.kill, AV.cells, AV.flat, AV.single, AV.cellular, AV.pure, AV.pureL, Nat.reduceAdd, Nat.reduceEqDiff, Nat.reduceSub, Nat.reduceLeDiff, Int.reduceAdd, Int.reduceSub, Tryz.ntmps120, gA]
  by_cases c1 : g.t < 1
  · simp only [wB, awp, asB, asN, St.ev, St.step, setS, killS, AV.kill, AV.killL, Mem.kill, Nat.reduceAdd, Int.reduceAdd, decide_eq_true c1]
    exact aend_frz rfl ⟨by rw [show okG n g = false from decide_eq_false (by omega)]; rfl, rfl⟩
  simp only [wB, awp, binC, cmpC, asP, asB, asI, loadA, St.ev, St.step, setS, killS, AV.kill, AV.killL, Mem.kill, AV.cells, AV.flat, AV.single, Nat.reduceAdd, Nat.reduceEqDiff, Nat.reduceLeDiff, Int.reduceAdd, decide_eq_false c1]
  by_cases c2 : 16 ≤ g.t
  · simp only [wB, awp, asN, St.ev, St.step, setS, killS, AV.kill, AV.killL, Mem.kill, Nat.reduceAdd, Int.reduceAdd, decide_eq_true c2]
    exact aend_frz rfl ⟨by rw [show okG n g = false from decide_eq_false (by omega)]; rfl, rfl⟩
  simp only [wB, awp, binC, cmpC, asP, asB, asI, asN, loadA, St.ev, St.step, setS, killS, AV.kill, AV.killL, Mem.kill, AV.cells, AV.flat, AV.single, Nat.reduceAdd, Nat.reduceEqDiff, Nat.reduceLeDiff, Int.reduceAdd, decide_eq_false c2]
  by_cases c3 : g.k = 0
  · simp only [wB, awp, binC, cmpC, asP, asB, asI, loadA, St.ev, St.step, setS, killS, AV.kill, AV.killL, Mem.kill, AV.cells, AV.flat, AV.single, Nat.reduceAdd, Nat.reduceEqDiff, Nat.reduceLeDiff, Int.reduceAdd, Int.reduceNeg, decide_eq_true c3]
    by_cases c4 : 0 ≤ g.a
    · simp only [wB, binC, cmpC, asP, asB, asI, loadA, St.ev, St.step, setS, killS, AV.kill, AV.killL, Mem.kill, AV.cells, AV.flat, AV.single, Nat.reduceAdd, Nat.reduceEqDiff, Nat.reduceLeDiff, Int.reduceAdd, Int.reduceNeg, decide_eq_true c4]
      by_cases c5 : g.a < n
      · simp only [wB, awp, binC, cmpC, asP, asB, asI, asN, loadA, St.ev, St.step, setS, killS, AV.kill, AV.killL, Mem.kill, AV.cells, AV.flat, AV.single, Nat.reduceAdd, Nat.reduceEqDiff, Nat.reduceLeDiff, Int.reduceAdd, Int.reduceNeg, decide_eq_true c5]
        exact aend_frz rfl ⟨by rw [show okG n g = decide (g.b = -1) by unfold okG; apply decide_eq_decide.2; omega]; rfl, rfl⟩
      · simp only [wB, awp, asB, asN, St.ev, St.step, setS, killS, AV.kill, AV.killL, Mem.kill, Int.reduceNeg, decide_eq_false c5]
        exact aend_frz rfl ⟨by rw [show okG n g = false from decide_eq_false (by omega)]; rfl, rfl⟩
    · simp only [wB, awp, asB, asN, St.ev, St.step, setS, killS, AV.kill, AV.killL, Mem.kill, Int.reduceNeg, decide_eq_false c4]
      exact aend_frz rfl ⟨by rw [show okG n g = false from decide_eq_false (by omega)]; rfl, rfl⟩
  simp only [wB, awp, binC, cmpC, asB, asI, asN, St.ev, St.step, setS, killS, AV.kill, AV.killL, Mem.kill, Nat.reduceAdd, Int.reduceAdd, decide_eq_false c3]
  by_cases c3' : g.k = 1
  · simp only [wB, awp, binC, cmpC, asP, asI, loadA, St.ev, St.step, setS, killS, AV.kill, AV.killL, Mem.kill, AV.cells, AV.flat, AV.single, Nat.reduceAdd, Nat.reduceEqDiff, Nat.reduceLeDiff, Int.reduceAdd, Int.reduceNeg, decide_eq_true c3']
    by_cases c4 : 0 ≤ g.a
    · simp only [wB, binC, cmpC, asP, asB, asI, loadA, St.ev, St.step, setS, killS, AV.kill, AV.killL, Mem.kill, AV.cells, AV.flat, AV.single, Nat.reduceAdd, Nat.reduceEqDiff, Nat.reduceLeDiff, Int.reduceAdd, Int.reduceNeg, decide_eq_true c4]
      by_cases c5 : g.a < n
      · simp only [wB, awp, binC, cmpC, asP, asB, asI, asN, loadA, St.ev, St.step, setS, killS, AV.kill, AV.killL, Mem.kill, AV.cells, AV.flat, AV.single, Nat.reduceAdd, Nat.reduceEqDiff, Nat.reduceLeDiff, Int.reduceAdd, Int.reduceNeg, decide_eq_true c5]
        exact aend_frz rfl ⟨by rw [show okG n g = decide (g.b = -1) by unfold okG; apply decide_eq_decide.2; omega]; rfl, rfl⟩
      · simp only [wB, awp, asB, asN, St.ev, St.step, setS, killS, AV.kill, AV.killL, Mem.kill, Int.reduceNeg, decide_eq_false c5]
        exact aend_frz rfl ⟨by rw [show okG n g = false from decide_eq_false (by omega)]; rfl, rfl⟩
    · simp only [wB, awp, asB, asN, St.ev, St.step, setS, killS, AV.kill, AV.killL, Mem.kill, Int.reduceNeg, decide_eq_false c4]
      exact aend_frz rfl ⟨by rw [show okG n g = false from decide_eq_false (by omega)]; rfl, rfl⟩
  simp only [wB, awp, binC, cmpC, asB, asI, asN, St.ev, St.step, setS, killS, AV.kill, AV.killL, Mem.kill, Nat.reduceAdd, Int.reduceAdd, decide_eq_false c3']
  by_cases c3'' : g.k = 2
  · simp only [wB, awp, binC, cmpC, asP, asI, loadA, St.ev, St.step, setS, killS, AV.kill, AV.killL, Mem.kill, AV.cells, AV.flat, AV.single, Nat.reduceAdd, Nat.reduceEqDiff, Nat.reduceLeDiff, Int.reduceAdd, decide_eq_true c3'']
    by_cases c4 : 0 ≤ g.a
    · simp only [wB, binC, cmpC, asP, asB, asI, loadA, St.ev, St.step, setS, killS, AV.kill, AV.killL, Mem.kill, AV.cells, AV.flat, AV.single, Nat.reduceAdd, Nat.reduceEqDiff, Nat.reduceLeDiff, Int.reduceAdd, decide_eq_true c4]
      by_cases c5 : g.a < g.b
      · simp only [wB, awp, binC, cmpC, asP, asB, asI, asN, loadA, St.ev, St.step, setS, killS, AV.kill, AV.killL, Mem.kill, AV.cells, AV.flat, AV.single, Nat.reduceAdd, Nat.reduceEqDiff, Nat.reduceLeDiff, Int.reduceAdd, decide_eq_true c5]
        exact aend_frz rfl ⟨by rw [show okG n g = decide (g.b < n) by unfold okG; apply decide_eq_decide.2; omega]; rfl, rfl⟩
      · simp only [wB, awp, asB, asN, St.ev, St.step, setS, killS, AV.kill, AV.killL, Mem.kill, decide_eq_false c5]
        exact aend_frz rfl ⟨by rw [show okG n g = false from decide_eq_false (by omega)]; rfl, rfl⟩
    · simp only [wB, awp, asB, asN, St.ev, St.step, setS, killS, AV.kill, AV.killL, Mem.kill, decide_eq_false c4]
      exact aend_frz rfl ⟨by rw [show okG n g = false from decide_eq_false (by omega)]; rfl, rfl⟩
  simp only [wB, awp, asN, St.ev, St.step, setS, killS, AV.kill, AV.killL, Mem.kill, Nat.reduceAdd, Int.reduceAdd, decide_eq_false c3'']
  exact aend_frz rfl ⟨by rw [show okG n g = false from decide_eq_false (by omega)]; rfl, rfl⟩

def idxG {α : Type} (l : List α) (p : α → Bool) : Int := match l.findIdx? p with | some i => (i : Int) | none => -1
theorem idxG_some {α : Type} {l : List α} {p : α → Bool} {k : Nat} (h : k < l.length) (hno : ∀ j, j < k → ∀ h : j < l.length, p l[j] = false) (hx : p l[k] = true) : idxG l p = k := by
  have : l.findIdx? p = some k := by
    rw [List.findIdx?_eq_some_iff_getElem]
    exact ⟨h, hx, fun j hj => by rw [hno j hj (by omega)]; simp⟩
  simp [idxG, this]
theorem idxG_none {α : Type} {l : List α} {p : α → Bool} (hno : ∀ j, ∀ h : j < l.length, p l[j] = false) : idxG l p = -1 := by
  have : l.findIdx? p = none := by
    rw [List.findIdx?_eq_none_iff]
    intro y hy
    obtain ⟨j, hj, rfl⟩ := List.mem_iff_getElem.1 hy
    exact hno j hj
  simp [idxG, this]
theorem idxG_any {α : Type} (l : List α) (p : α → Bool) : decide (0 ≤ idxG l p) = l.any p := by
  unfold idxG
  cases h : l.findIdx? p with
  | none =>
    rw [List.findIdx?_eq_none_iff] at h
    have : l.any p = false := by rw [List.any_eq_false]; intro x hx; rw [h x hx]; simp
    simp [this]
  | some i =>
    rw [List.findIdx?_eq_some_iff_getElem] at h
    obtain ⟨hi, hx, _⟩ := h
    have : l.any p = true := List.any_eq_true.2 ⟨_, List.getElem_mem hi, hx⟩
    simp [this]
theorem ok150 : okFn Tryz.prog 150 = true := by kernel_rfl
theorem s150 (l : List G4) (p : G4 → Bool) (f : FuncId) (cap : List AV) (hl : l.length ≤ 1000000) (hc : AV.pureL cap = true) (hs : ∀ z, ASpec Tryz.prog f (gA z :: cap) (fun r Ms => r = B (p z) ∧ Ms = [])) :
    ASpec Tryz.prog 150 [.s 4 (gtsA l), .f (.func f) cap] (fun r Ms => r = I (idxG l p) ∧ Ms = []) := by
  refine aspec_of (own := []) Tryz.func150 rfl ok150 ?_
  simp only [wB, awp, asN, lenA, St.ev, St.step, setS, killS, AV.kill, AV.killL, Mem.kill, Nat.reduceAdd, Nat.reduceSub, Int.reduceAdd, Int.reduceSub, lenK, Tryz.ntmps150]
  refine swp_loop' (fun k : Nat => ⟨[.s 4 (gtsA l), .f (.func f) cap, .bot, .bot, .bot, .bot, .bot, I l.length, I k, .bot, .bot, .bot, .bot, .bot, .bot, .bot, .bot, .bot, .bot], []⟩) (fun k => k ≤ l.length ∧ ∀ j, j < k → ∀ h : j < l.length, p l[j] = false) (fun k => l.length - k) 0 (le_sl (by simp [leSl, gtsA_len])) ⟨Nat.zero_le _, by omega⟩ ?_
  rintro k ⟨hk, hno⟩
  refine awp_sound (own := []) _ _ _ _ _ ?_
  simp only [wB, awp, binC, cmpC, asB, asI, St.ev, St.step, setS, killS, AV.kill, AV.killL, Mem.kill, Nat.reduceAdd, Int.reduceAdd]
  by_cases h : k < l.length
  · have h' : (k : Int) < (l.length : Int) := by omega
    simp only [wB, awp, idxC, asP, asS, asF, asI, asN, loadA, St.ev, St.step, setS, killS, AV.kill, AV.killL, Mem.kill, AV.cells, AV.flat, AV.single, Nat.reduceAdd, Nat.reduceLeDiff, Int.reduceAdd, decide_eq_true h', aget_gts h, Int.toNat_natCast]
    refine ⟨by omega, acall_v (hs l[k]) (by simp [AV.pureL, AV.pure, gA, hc]) rfl ?_⟩
    cases hx : p l[k] with
    | true =>
      simp only [wB, awp, asB, asN, St.ev, St.step, setS, killS, AV.kill, AV.killL, Mem.kill, Nat.reduceAdd, Int.reduceAdd]
      exact aend_frz rfl ⟨by rw [idxG_some h hno hx]; rfl, rfl⟩
    | false =>
      simp only [wB, awp, binC, arithC, cmpC, asB, asI, St.ev, St.step, setS, killS, AV.kill, AV.killL, Mem.kill, Nat.reduceAdd, Int.reduceAdd, isU]
      exact ⟨by unfold lim; omega, k + 1, le_sl (by simp [leSl, gtsA_len]), ⟨h, upto hno fun _ => hx⟩, by omega⟩
  · have h' : ¬ (k : Int) < (l.length : Int) := by omega
    simp only [wB, awp, asN, St.ev, St.step, setS, killS, AV.kill, AV.killL, Mem.kill, Nat.reduceAdd, Int.reduceAdd, Int.reduceNeg, decide_eq_false h']
    exact aend_frz rfl ⟨by rw [idxG_none fun j hj => hno j (by omega) hj]; rfl, rfl⟩

theorem ok118 : okFn Tryz.prog 118 = true := by kernel_rfl
theorem s118 (l : List G4) (p : G4 → Bool) (f : FuncId) (cap : List AV) (hl : l.length ≤ 1000000) (hc : AV.pureL cap = true) (hs : ∀ z, ASpec Tryz.prog f (gA z :: cap) (fun r Ms => r = B (p z) ∧ Ms = [])) :
    ASpec Tryz.prog 118 [.s 4 (gtsA l), .f (.func f) cap] (fun r Ms => r = B (l.any p) ∧ Ms = []) := by
  refine aspec_of (own := []) Tryz.func118 rfl ok118 ?_
  simp only [wB, awp, asN, St.ev, St.step, setS, killS, AV.kill, AV.killL, Mem.kill, Nat.reduceAdd, Nat.reduceSub, Int.reduceAdd, Int.reduceSub, Tryz.ntmps118]
  refine acall_v (s150 l p f cap hl hc hs) (by simp [AV.pureL, AV.pure, hc]) rfl ?_
  simp only [wB, awp, binC, cmpC, asI, asN, St.ev, St.step, setS, killS, AV.kill, AV.killL, Mem.kill, idxG_any]
  exact aend_frz rfl ⟨rfl, rfl⟩

theorem ok119 : okFn Tryz.prog 119 = true := by kernel_rfl
theorem s119 (n : Int) (g : G4) : ASpec Tryz.prog 119 [gA g, .p (I n) 0] (fun r Ms => r = B (!okG n g) ∧ Ms = []) := by
  refine aspec_of (own := []) Tryz.func119 rfl ok119 ?_
  simp only [wB, awp, asP, asN, loadA, St.ev, St.step, setS, killS, AV.kill, AV.killL, Mem.kill, AV.cells, AV.flat, AV.single, AV.cellular, AV.pure, AV.pureL, Nat.reduceAdd, Nat.reduceSub, Nat.reduceLeDiff, Int.reduceAdd, Int.reduceSub, Tryz.ntmps119, gA]
  refine acall_v (s120 n g) rfl rfl ?_
  simp only [wB, awp, asB, asN, St.ev, St.step, setS, killS, AV.kill, AV.killL, Mem.kill]
  exact aend_frz rfl ⟨rfl, rfl⟩

/-- the error of gates. -/
def vG (n : Int) (c : List G4) : Int := if ∀ g ∈ c, okG n g = true then 0 else 1
theorem ok87 : okFn Tryz.prog 87 = true := by kernel_rfl
theorem s87 (n : Int) (c : List G4) (hl : c.length ≤ 1000000) : ASpec Tryz.prog 87 [I n, .s 4 (gtsA c)] (fun r Ms => r = I (vG n c) ∧ Ms = []) := by
  refine aspec_of (own := []) Tryz.func87 rfl ok87 ?_
  simp only [wB, awp, asN, St.ev, St.step, setS, killS, AV.kill, AV.killL, Mem.kill, AV.single, AV.cellular, AV.pure, Value.oneCell', Nat.reduceAdd, Nat.reduceSub, Int.reduceAdd, Int.reduceSub, Tryz.ntmps87]
  refine ⟨rfl, acall_v (s118 c (fun g => !okG n g) 119 [.p (I n) 0] hl rfl (fun g => s119 n g)) rfl rfl ?_⟩
  by_cases ha : ∀ g ∈ c, okG n g = true
  · have hb : (c.any fun g => !okG n g) = false := by
      rw [List.any_eq_false]; intro z hz; simp [ha z hz]
    simp only [wB, awp, asB, asN, St.ev, St.step, setS, killS, AV.kill, AV.killL, Mem.kill, Nat.reduceAdd, Int.reduceAdd, hb]
    exact aend_frz rfl ⟨by rw [vG, if_pos ha]; rfl, rfl⟩
  · have hb : (c.any fun g => !okG n g) = true := by
      simp only [Classical.not_forall] at ha
      obtain ⟨g, hg, hn⟩ := ha
      exact List.any_eq_true.2 ⟨g, hg, by simpa using hn⟩
    simp only [wB, awp, asB, asN, St.ev, St.step, setS, killS, AV.kill, AV.killL, Mem.kill, Nat.reduceAdd, Int.reduceAdd, hb]
    exact aend_frz rfl ⟨by rw [vG, if_neg ha]; rfl, rfl⟩

/-- the first error of a circuit. -/
def vC (n : Int) (c : List G4) : Int := if n < 1 ∨ 4 < n then 1 else if 10 < c.length then 3 else vG n c
theorem ok49 : okFn Tryz.prog 49 = true := by kernel_rfl
theorem s49 (n : Int) (c : List G4) (hl : c.length ≤ 1000000) : ASpec Tryz.prog 49 [I n, .s 4 (gtsA c)] (fun r Ms => r = I (vC n c) ∧ Ms = []) := by
  refine aspec_of (own := []) Tryz.func49 rfl ok49 ?_
  simp only [wB, awp, binC, cmpC, asI, asN, St.ev, St.step, setS, killS, AV.kill, AV.killL, Mem.kill, Nat.reduceAdd, Nat.reduceSub, Int.reduceAdd, Int.reduceSub, Tryz.ntmps49]
  by_cases h1 : n < 1
  · simp only [wB, awp, asB, asN, St.ev, St.step, setS, killS, AV.kill, AV.killL, Mem.kill, Nat.reduceAdd, Int.reduceAdd, decide_eq_true h1]
    exact aend_frz rfl ⟨by rw [vC, if_pos (.inl h1)]; rfl, rfl⟩
  simp only [wB, awp, binC, cmpC, asB, asI, St.ev, St.step, setS, killS, AV.kill, AV.killL, Mem.kill, decide_eq_false h1]
  by_cases h2 : 4 < n
  · simp only [wB, awp, asN, St.ev, St.step, setS, killS, AV.kill, AV.killL, Mem.kill, Nat.reduceAdd, Int.reduceAdd, decide_eq_true h2]
    exact aend_frz rfl ⟨by rw [vC, if_pos (.inr h2)]; rfl, rfl⟩
  simp only [wB, awp, binC, cmpC, asB, asI, lenA, St.ev, St.step, setS, killS, AV.kill, AV.killL, Mem.kill, Nat.reduceAdd, Int.reduceAdd, lenK, decide_eq_false h2, gtsA_len]
  by_cases h3 : (10 : Int) < c.length
  · simp only [wB, awp, asN, St.ev, St.step, setS, killS, AV.kill, AV.killL, Mem.kill, Nat.reduceAdd, Int.reduceAdd, decide_eq_true h3]
    exact aend_frz rfl ⟨by rw [vC, if_neg (by omega), if_pos (by omega)]; rfl, rfl⟩
  simp only [wB, awp, St.ev, St.step, setS, killS, AV.kill, AV.killL, Mem.kill, Nat.reduceAdd, Int.reduceAdd, decide_eq_false h3]
  refine acall_v (s87 n c hl) rfl rfl ?_
  simp only [wB, awp, asN, St.ev, St.step, setS, killS, AV.kill, AV.killL, Mem.kill]
  exact aend_frz rfl ⟨by rw [vC, if_neg (by omega), if_neg (by omega)]; rfl, rfl⟩

end Go.Proofs.YtndniceeibflcaaGreatDoor

namespace Go.Proofs.YtndniceeibflcaaGreatDoor
open Aw Mp Go.RowKit
set_option linter.unusedSimpArgs false

theorem InvS.emp {n : Int} {c : Nat} {s : MS} (h : InvS n c s) (h0 : s.place = []) : s.circ = [] := by
  cases hc : s.circ with
  | nil => rfl
  | cons g r =>
    have := h.cok g (by rw [hc]; simp)
    rw [h0] at this
    unfold okG at this
    have := of_decide_eq_true this
    simp at this
    omega
end Go.Proofs.YtndniceeibflcaaGreatDoor

namespace Go.Proofs.YtndniceeibflcaaGreatDoor
open Aw Mp Go.RowKit
set_option linter.unusedSimpArgs false
set_option maxRecDepth 8000

theorem inv_place {n : Int} {ls : List (Int × Int)} {c : Nat} {s : MS} (h : InvS n c s) (hT : vT n ls = 0) : vTP n ls s.place = 0 := by
  unfold vTP vP
  rw [if_pos hT, if_neg (by have := h.p4; omega), if_pos h.pin, if_pos h.pnd]
theorem inv_circ {n : Int} {c : Nat} {s : MS} (h : InvS n c s) (h0 : 0 < s.place.length) : vC s.place.length s.circ = 0 := by
  unfold vC vG
  rw [if_neg (by have := h.p4; omega), if_neg (by have := h.c10; omega), if_pos h.cok]
theorem wrm_mem (lm : Int) (l : List Int) (i : Nat) (hi : i < l.length) : memL (wrmL lm l) (i : Int) = decide (lm < l[i]) := by
  unfold memL wrmL upL
  have hg : l.getD ((i : Int)).toNat 0 = l[i] := by rw [Int.toNat_natCast, List.getD_eq_getElem?_getD, List.getElem?_eq_getElem hi]; rfl
  apply decide_eq_decide.2
  simp only [List.mem_filter, List.mem_map, List.mem_range, decide_eq_true_eq]
  constructor
  · rintro ⟨_, h⟩; rwa [hg] at h
  · exact fun h => ⟨⟨i, hi, rfl⟩, by rwa [hg]⟩
end Go.Proofs.YtndniceeibflcaaGreatDoor

namespace Go.Proofs.YtndniceeibflcaaGreatDoor
open Aw Mp Go.RowKit
set_option linter.unusedSimpArgs false
set_option maxRecDepth 8000

theorem ok43 : okFn Tryz.prog 43 = true := by kernel_rfl
theorem s43n (n lm : Int) (ls : List (Int × Int)) (hls : ls.length ≤ 100000) (h0 : vN n lm ls ≠ 0) (l : List By) : ASpec Tryz.prog 43 [labA n ls lm, .s 1 (strsA l)] (fun r Ms => r = .v (.pointer none) ∧ Ms = []) := by
  refine aspec_of (own := []) Tryz.func43 rfl ok43 ?_
  have h22 := s22e n lm ls hls h0
  simp only [trapA] at h22
  simp only [wB, awp, asP, asN, loadA, St.ev, St.step, setS, killS, AV.kill, AV.killL, Mem.kill, AV.cells, AV.flat, AV.single, AV.cellular, AV.pure, AV.pureL, Nat.reduceAdd, Nat.reduceEqDiff, Nat.reduceSub, Nat.reduceLeDiff, Int.reduceAdd, Int.reduceSub, Tryz.ntmps43, labA]
  refine acall_v h22 (by simp [AV.pureL, AV.pure, prsA_pure]) rfl ?_
  simp only [wB, awp, binC, cmpC, asT, asB, asI, asN, St.ev, St.step, setS, killS, AV.kill, AV.killL, Mem.kill, Nat.reduceAdd, Int.reduceAdd, decide_eq_false h0]
  exact aend_frz rfl ⟨rfl, rfl⟩
theorem s43 (n lm : Int) (ls : List (Int × Int)) (hls : ls.length ≤ 100000) (h0 : vN n lm ls = 0) (l : List By) (hs : ∀ o ∈ l, o.length ≤ 9223372036854775807) : ASpec Tryz.prog 43 [labA n ls lm, .s 1 (strsA l)] (fun r Ms => r = .q 0 13 0 0 ∧ Ms = [(mkM n lm ls (doL n lm ls (l.take 40))).obA 1, (mkM n lm ls (doL n lm ls (l.take 40))).od]) := by
  refine aspec_of (own := [1002, 1007]) Tryz.func43 rfl ok43 ?_
  have h22 := s22o n lm ls hls h0
  have hT := (vN_ok h0).1
  simp only [trapA] at h22
  simp only [wB, awp, asP, asN, loadA, St.ev, St.step, setS, killS, AV.kill, AV.killL, Mem.kill, AV.cells, AV.flat, AV.single, AV.cellular, AV.pure, AV.pureL, Nat.reduceAdd, Nat.reduceEqDiff, Nat.reduceSub, Nat.reduceLeDiff, Int.reduceAdd, Int.reduceSub, Tryz.ntmps43, labA]
  refine acall_os h22 (by simp [AV.pureL, AV.pure, prsA_pure]) ?_
  simp only [wB, awp, asT, asN, St.ev, St.step, setS, killS, AV.kill, AV.killL, Mem.kill, Nat.reduceAdd, Nat.reduceEqDiff, Int.reduceAdd, List.drop_zero, AV.sub, AV.subL, List.take_succ_cons, List.take_zero, AV.up, Ob.up, prsA_msub, new_sub]
  refine swp_le (σ' := ⟨[.bot, .s 1 (strsA l), .bot, .bot, .bot, .q 0 13 0 0, I 0, .bot, .bot, .bot, .bot, .bot, .bot, .bot, .bot, .bot, .bot, .bot, .bot, .bot, .bot, .bot, .bot, .bot, .bot, .bot, .bot, .bot, .bot, .bot, .bot, .bot, .bot, .bot, .bot, .bot, .bot, .bot, .bot], memD (mkM n lm ls [])⟩) (le_new (by simp [leSl, frz1, AV.sub])) ?_
  refine awp_sound (own := [1007]) _ _ _ _ _ ?_
  simp only [wB, awp, binC, cmpC, eqC, asG, asB, asI, asN, St.ev, St.step, setS, killS, AV.kill, AV.killL, Mem.kill, Nat.reduceAdd, Nat.reduceEqDiff, Int.reduceAdd, isNP, ptrN, asStr, nt32]
  refine swp_loop' (fun k : Nat => ⟨[.bot, .s 1 (strsA l), .bot, .bot, .bot, .q 0 13 0 0, .bot, I k, .bot, .bot, .bot, .bot, .bot, .bot, .bot, .bot, .bot, .bot, .bot, .bot, .bot, .bot, .bot, .bot, .bot, .bot, .bot, .bot, .bot, .bot, .bot, .bot, .bot, .bot, .bot, .bot, .bot, .bot, .bot], memD (mkM n lm ls (doL n lm ls (l.take k)))⟩) (fun k => k ≤ l.length ∧ k ≤ 40) (fun k => 40 - k) 0 (le_sl' ?_ (by simp [leSl])) ⟨Nat.zero_le _, Nat.zero_le _⟩ ?_
  · simp [doL]
  rintro k ⟨hk, hk4⟩
  have hA := doL_acc n lm ls (l.take k)
  refine awp_sound (own := [1007]) _ _ _ _ _ ?_
  simp only [wB, awp, binC, cmpC, asI, lenA, St.ev, St.step, setS, killS, AV.kill, AV.killL, Mem.kill, Nat.reduceAdd, Nat.reduceEqDiff, Int.reduceAdd, lenK, strsA_len, strsA_len]
  by_cases h : k < l.length
  case neg =>
    have h' : ¬ (k : Int) < l.length := by omega
    simp only [wB, awp, asB, asN, St.ev, St.step, setS, killS, AV.kill, AV.killL, Mem.kill, Nat.reduceAdd, Nat.reduceEqDiff, Int.reduceAdd, decide_eq_false h']
    have e : l.take k = l.take 40 := by rw [List.take_of_length_le (by omega), List.take_of_length_le (by omega)]
    rw [e]
    refine aend_ren [0, 2] (by decide) [(mkM n lm ls (doL n lm ls (l.take 40))).obA 1, (mkM n lm ls (doL n lm ls (l.take 40))).od] rfl (mk_ren _) ⟨rfl, rfl⟩
  have h' : (k : Int) < l.length := by omega
  by_cases h4 : k < 40
  case neg =>
    have h4' : ¬ (k : Int) < 40 := by omega
    simp only [wB, awp, binC, cmpC, asB, asI, asN, St.ev, St.step, setS, killS, AV.kill, AV.killL, Mem.kill, Nat.reduceAdd, Nat.reduceEqDiff, Int.reduceAdd, decide_eq_true h', decide_eq_false h4']
    have e : l.take k = l.take 40 := by rw [show k = 40 by omega]
    rw [e]
    refine aend_ren [0, 2] (by decide) [(mkM n lm ls (doL n lm ls (l.take 40))).obA 1, (mkM n lm ls (doL n lm ls (l.take 40))).od] rfl (mk_ren _) ⟨rfl, rfl⟩
  have h4' : (k : Int) < 40 := by omega
  simp only [wB, awp, binC, cmpC, asB, asI, St.ev, St.step, setS, killS, AV.kill, AV.killL, Mem.kill, Nat.reduceAdd, Int.reduceAdd, decide_eq_true h', decide_eq_true h4']
  refine swp_fs (own := []) [false, false, false, false, false, true] ?_
  simp only [wB, idxC, asP, asS, asI, loadA, St.ev, St.step, setS, killS, AV.kill, AV.killL, Mem.kill, AV.cells, AV.flat, AV.single, memD, aget_strs h, Int.toNat_natCast]
  refine ⟨by omega, acall_f (f24 n lm ls hT (by omega) _ hA l[k] (hs _ (List.getElem_mem h))) ?_⟩
  simp only [wB, awp, binC, arithC, cmpC, asI, asN, St.ev, St.step, setS, killS, AV.kill, AV.killL, Mem.kill, Nat.reduceAdd, Nat.reduceEqDiff, Int.reduceAdd, isU, memD, AV.sub, keepG, liveI, AV.isQ, List.any_cons, List.any_nil]
  refine ⟨by unfold lim; omega, k + 1, le_sl' ?_ (by simp [leSl]), ⟨h, h4⟩, by omega⟩
  simp [doL_take h, memD]
end Go.Proofs.YtndniceeibflcaaGreatDoor

namespace Go.Proofs.YtndniceeibflcaaGreatDoor
open Aw Mp Go.RowKit
set_option linter.unusedSimpArgs false
set_option maxRecDepth 8000

theorem fG {m m' : Mch} {f : FuncId} {ars : List AV} {x : AV} (h : MSpec Tryz.prog f (.q 0 13 0 0 :: ars) (memD m) (fun r N => r = x ∧ N = memD m')) (ha : AV.pureL ars = true) : FSpec Tryz.prog f (.q 0 13 0 0 :: ars) (memD m) (memD m) x (memD m') := by
  have := fT h [] (q0_free _ _ _ ha) (fun F G => rfl)
  simpa using this
theorem ok12 : okFn Tryz.prog 12 = true := by kernel_rfl
theorem s12 (n lm : Int) (ls : List (Int × Int)) (l : List By) (hs : ∀ o ∈ l, o.length ≤ 9223372036854775807) : ASpec Tryz.prog 12 [labA n ls lm, .s 1 (strsA l)] (fun r Ms => r = B true ∧ Ms = []) := by
  refine aspec_of (own := [1004, 1006]) Tryz.func12 rfl ok12 ?_
  have h20 := s20 n lm ls
  simp only [labA] at h20
  simp only [wB, awp, asP, asN, loadA, St.ev, St.step, setS, killS, AV.kill, AV.killL, Mem.kill, AV.cells, AV.flat, AV.single, AV.cellular, AV.pure, AV.pureL, Nat.reduceAdd, Nat.reduceEqDiff, Nat.reduceSub, Nat.reduceLeDiff, Int.reduceAdd, Int.reduceSub, Tryz.ntmps12, labA]
  refine acall_v h20 (by simp [AV.pureL, AV.pure, prsA_pure]) rfl ?_
  by_cases h60 : 60 < ls.length
  · simp only [wB, awp, asB, St.ev, St.step, setS, killS, AV.kill, AV.killL, Mem.kill, Nat.reduceAdd, Nat.reduceEqDiff, Int.reduceAdd, decide_eq_true h60]
    refine acall_v s31 rfl rfl ?_
    simp only [wB, awp, asN, St.ev, St.step, setS, killS, AV.kill, AV.killL, Mem.kill, Nat.reduceEqDiff]
    exact aend_frz rfl ⟨rfl, rfl⟩
  simp only [wB, St.ev, St.step, setS, killS, AV.kill, AV.killL, Mem.kill, decide_eq_false h60]
  refine acall_v (s21 l) (by simp [AV.pureL, AV.pure, strsA_pure]) rfl ?_
  by_cases h150 : 150 < l.length
  · simp only [wB, awp, asB, St.ev, St.step, setS, killS, AV.kill, AV.killL, Mem.kill, Nat.reduceAdd, Nat.reduceEqDiff, Int.reduceAdd, decide_eq_true h150]
    refine acall_v s31 rfl rfl ?_
    simp only [wB, awp, asN, St.ev, St.step, setS, killS, AV.kill, AV.killL, Mem.kill, Nat.reduceEqDiff]
    exact aend_frz rfl ⟨rfl, rfl⟩
  simp only [wB, awp, asP, asB, loadA, St.ev, St.step, setS, killS, AV.kill, AV.killL, Mem.kill, AV.cells, AV.flat, AV.single, Nat.reduceAdd, Nat.reduceEqDiff, Nat.reduceLeDiff, Int.reduceAdd, decide_eq_false h150]
  by_cases h0 : vN n lm ls = 0
  case neg =>
    have h43 := s43n n lm ls (by omega) h0 l
    simp only [labA] at h43
    refine acall_v h43 (by simp [AV.pureL, AV.pure, prsA_pure, strsA_pure]) rfl ?_
    simp only [wB, awp, asN, St.ev, St.step, setS, killS, AV.kill, AV.killL, Mem.kill, Nat.reduceAdd, Nat.reduceEqDiff, Int.reduceAdd]
    refine awp_sound (own := []) _ _ _ _ _ ?_
    simp only [wB, awp, binC, eqC, asG, asB, asI, St.ev, St.step, setS, killS, AV.kill, AV.killL, Mem.kill, Nat.reduceAdd, Nat.reduceEqDiff, Int.reduceAdd, isNP, ptrN, asStr, nt32]
    refine acall_v s31 rfl rfl ?_
    simp only [wB, awp, asN, St.ev, St.step, setS, killS, AV.kill, AV.killL, Mem.kill, Nat.reduceEqDiff]
    exact aend_frz rfl ⟨rfl, rfl⟩
  have h43 := s43 n lm ls (by omega) h0 l hs
  have hA := doL_acc n lm ls (l.take 40)
  generalize doL n lm ls (l.take 40) = d at *
  simp only [labA] at h43
  refine acall_mk h43 (by simp [AV.pureL, AV.pure, prsA_pure, strsA_pure]) ?_
  simp only [wB, awp, asN, St.ev, St.step, setS, killS, AV.kill, AV.killL, Mem.kill, Nat.reduceAdd, Nat.reduceEqDiff, Int.reduceAdd, AV.sub, AV.up]
  refine swp_le (σ' := ⟨[.bot, .bot, .p (.g [I n, .s 2 (prsA ls), I lm]) 0, .bot, .bot, .q 0 13 0 0, .bot, .bot, .bot, .bot, .bot, .bot, .bot, .bot, .bot, .bot, .bot, .bot, .bot, .bot, .bot, .bot, .bot, .bot, .bot, .bot, .bot, .bot, .bot, .bot, .bot, .bot, .bot, .bot, .bot, .bot, .bot, .bot, .bot, .bot, .bot, .bot, .bot, .bot, .bot, .bot, .bot, .bot, .bot, .bot, .bot, .bot, .bot, .bot, .bot, .bot, .bot, .bot, .bot, .bot, .bot, .bot, .bot, .bot, .bot, .bot, .bot, .bot, .bot, .bot, .bot, .bot, .bot, .bot, .bot, .bot, .bot, .bot, .bot, .bot, .bot, .bot, .bot, .bot, .bot, .bot, .bot, .bot, .bot, .bot, .bot, .bot, .bot, .bot, .bot, .bot], memD (mkM n lm ls d)⟩) (le_mk (by simp [leSl, AV.sub, AV.subL, prsA_sub, prsA_msub, reF, reG, List.idxOf?, List.findIdx?, List.findIdx?.go])) ?_
  refine awp_sound (own := []) _ _ _ _ _ ?_
  simp only [wB, awp, binC, eqC, asG, asB, asI, St.ev, St.step, setS, killS, AV.kill, AV.killL, Mem.kill, Nat.reduceAdd, Nat.reduceEqDiff, Int.reduceAdd, isNP, ptrN, asStr, nt32, memD]
  obtain ⟨hT, hlm, _⟩ := vN_ok h0
  have hm := sml_of hA
  have hI := hA.inv.2
  have hp4 := hI.p4
  have hhl := hI.hl
  have hc10 := hI.c10
  have hwl := wrm_len lm (stO d).heats
  refine swp_fs (own := []) [false, true, false, true, false, true, false, true, false, false, false, false] ?_
  simp only [wB, St.ev, St.step, setS, killS, AV.kill, AV.killL, Mem.kill]
  refine acall_f (fG (m44 _ hm) rfl) ?_
  simp only [wB, St.ev, St.step, setS, killS, AV.kill, AV.killL, Mem.kill, memD, AV.sub, keepG, liveI, AV.isQ, List.any_cons, List.any_nil]
  refine acall_f (fG (m45 _ hm) rfl) ?_
  simp only [wB, St.ev, St.step, setS, killS, AV.kill, AV.killL, Mem.kill, memD, AV.sub, keepG, liveI, AV.isQ, List.any_cons, List.any_nil]
  refine acall_f (fG (m46 _ hm) rfl) ?_
  simp only [wB, St.ev, St.step, setS, killS, AV.kill, AV.killL, Mem.kill, memD, AV.sub, keepG, liveI, AV.isQ, List.any_cons, List.any_nil]
  refine acall_f (fG (m47 _ hm) rfl) ?_
  simp only [wB, awp, asP, asN, loadA, St.ev, St.step, setS, killS, AV.kill, AV.killL, Mem.kill, AV.cells, AV.flat, AV.single, Nat.reduceAdd, Nat.reduceEqDiff, Nat.reduceLeDiff, Int.reduceAdd, memD, List.drop_zero, AV.sub, keepG, liveI, AV.isQ, List.any_cons, List.any_nil, List.take_succ_cons, List.take_zero]
  have est : (mkM n lm ls d).st = stO d := rfl
  have elm : (mkM n lm ls d).lim = lm := rfl
  rw [est, elm]
  have h48 := s48 n ls (stO d).place (by omega) (by omega)
  rw [inv_place hI hT] at h48
  simp only [trapA] at h48
  generalize stO d = t at *
  refine acall_v h48 (by simp [AV.pureL, AV.pure, prsA_pure, intsA_pure]) rfl ?_
  have hw : ∀ k, (h : k < t.heats.length) → 0 ≤ t.heats[k] ∧ t.heats[k] ≤ 1000 := fun k h => hI.hin _ (List.getElem_mem h)
  by_cases hp : t.place.length = 0
  all_goals
    first
    | (have hcl : t.circ.length = 0 := by rw [hI.emp (List.length_eq_zero_iff.1 hp)]; rfl
       simp only [wB, awp, binC, cmpC, asB, asI, asN, lenA, St.ev, St.step, setS, killS, AV.kill, AV.killL, Mem.kill, Nat.reduceAdd, Nat.reduceEqDiff, Int.reduceAdd, Int.reduceLT, lenK, gtsA_len, hhl, hp, hcl, Int.natCast_zero])
    | (have h49 := s49 t.place.length t.circ (by omega)
       rw [inv_circ hI (by omega)] at h49
       simp only [wB, awp, binC, cmpC, asB, asI, lenA, St.ev, St.step, setS, killS, AV.kill, AV.killL, Mem.kill, Nat.reduceAdd, Nat.reduceEqDiff, Int.reduceAdd, lenK, hhl, decide_eq_false (show ¬ (t.place.length : Int) = 0 by omega), decide_eq_true (show 0 < (t.place.length : Int) by omega)]
       refine acall_v h49 (by simp [AV.pureL, AV.pure, gtsA_pure]) rfl ?_
       simp only [wB, awp, binC, cmpC, asB, asI, asN, St.ev, St.step, setS, killS, AV.kill, AV.killL, Mem.kill, Nat.reduceAdd, Nat.reduceEqDiff, Int.reduceAdd])
    refine swp_loop' (fun k : Nat => ⟨[.bot, .bot, .p (.g [I n, .s 2 (prsA ls), I lm]) 0, .bot, .bot, .bot, .bot, .s 1 (intsA t.heats), .s 1 (intsA (wrmL lm t.heats)), .bot, I k, .bot, .bot, .bot, .bot, .bot, .bot, .bot, .bot, .bot, .bot, .bot, .bot, .bot, .bot, .bot, .bot, .bot, .bot, .bot, .bot, .bot, .bot, .bot, .bot, .bot, .bot, .bot, .bot, .bot, .bot, .bot, .bot, .bot, .bot, .bot, .bot, .bot, .bot, .bot, .bot, .bot, .bot, .bot, .bot, .bot, .bot, .bot, .bot, .bot, .bot, .bot, .bot, .bot, .bot, .bot, .bot, .bot, .bot, .bot, .bot, .bot, .bot, .bot, .bot, .bot, .bot, .bot, .bot, .bot, .bot, .bot, .bot, .bot, .bot, .bot, .bot, .bot, .bot, .bot, .bot, .bot, .bot, .bot, .bot, .bot], memD (mkM n lm ls d)⟩) (fun k => k ≤ t.heats.length) (fun k => t.heats.length - k) 0 (le_sl' ?_ (by simp [leSl])) (Nat.zero_le _) ?_
    · simp [memD]
    intro k hk
    refine awp_sound (own := []) _ _ _ _ _ ?_
    simp only [wB, awp, binC, cmpC, asB, asI, lenA, St.ev, St.step, setS, killS, AV.kill, AV.killL, Mem.kill, Nat.reduceAdd, Int.reduceAdd, lenK]
    by_cases h : k < t.heats.length
    case neg =>
      have h' : ¬ (k : Int) < t.heats.length := by omega
      simp only [wB, awp, Nat.reduceAdd, Nat.reduceEqDiff, Int.reduceAdd, decide_eq_false h']
      refine acall_v s31 rfl rfl ?_
      simp only [wB, awp, asN, St.ev, St.step, setS, killS, AV.kill, AV.killL, Mem.kill, Nat.reduceEqDiff]
      exact aend_frz rfl ⟨rfl, rfl⟩
    have h' : (k : Int) < t.heats.length := by omega
    simp only [awp, ACond_true, decide_eq_true h']
    refine swp_draw (own := []) (.take 0 .plain [] (.take 1 .plain [] (.take 2 .reads [] (.take 3 .reads [] (.take 4 .plain [] (.take 5 .plain [] (.take 6 .plain [] (.take 7 .plain [] (.take 8 .reads [] (.take 9 .reads [] (.take 10 .plain [] (.take 11 .plain [] (.take 12 .plain [] (.take 13 .plain [] (.take 14 .plain [] (.take 16 .plain [] (.take 17 .plain [] (.take 18 .reads [] (.take 19 .reads [] (.take 20 .plain [] (.take 21 .reads [] (.take 22 .plain [] (.alt 15 (.take 23 .plain [] (.take 24 .plain [] (.done))) (.nil)))))))))))))))))))))))) [⟨71, 128, 0, 0, true⟩, ⟨72, 1024, 0, 0, true⟩, ⟨73, 3541774862152233910272, 3, 0, true⟩, ⟨74, 4722366482869645213696, 4, 0, true⟩, ⟨75, 9444732965739290427392, 8, 0, true⟩, ⟨76, 18889465931478580854784, 16, 0, true⟩, ⟨77, 37778931862957161709696, 32, 0, true⟩, ⟨78, 37778931862957161710592, 32, 0, true⟩, ⟨79, 264452523040700131966976, 224, 0, true⟩, ⟨80, 340010386766614455386112, 288, 0, true⟩, ⟨81, 642241841670271749062656, 544, 0, true⟩, ⟨82, 1246704751477586336415744, 1056, 0, true⟩, ⟨83, 2417851639229258349412352, 2080, 0, true⟩, ⟨84, 4835703278458516698824960, 4096, 0, true⟩, ⟨85, 4835703278458516698825728, 4096, 0, true⟩, ⟨86, 33849922949209616891772928, 28672, 0, false⟩, ⟨87, 4835703278458516698824832, 4096, 0, true⟩, ⟨88, 4835703278458516698825728, 4096, 0, true⟩, ⟨89, 236949460644467318242410496, 200704, 0, true⟩, ⟨90, 314320713099803585423605760, 266240, 0, true⟩, ⟨91, 4835703278458516698824708, 4096, 0, true⟩, ⟨92, 1242775742563838791597948928, 1052672, 0, true⟩, ⟨93, 3099685801491909203946635264, 2625536, 0, true⟩, ⟨94, 4995281486647647749885919232, 4231168, 0, true⟩, ⟨95, 9908356017561500715891818496, 8392704, 0, true⟩] mo (by kernel_rfl) ?_
    simp only [wB, binC, idxC, cmpC, asP, asS, asI, loadA, St.ev, setS, AV.cells, AV.flat, AV.single, ASch, St.put, Md.mem, Md.need, aget_ints h, Int.toNat_natCast]
    obtain ⟨h1, h2⟩ := hw k h
    refine ⟨by omega, ?_⟩
    simp only [wB, binC, idxC, cmpC, asP, asS, asB, asI, loadA, St.ev, setS, AV.cells, AV.flat, AV.single, ASch, St.put, Md.mem, Md.need, aget_ints h, Int.toNat_natCast, decide_eq_false (show ¬ t.heats[k] < 0 by omega)]
    refine ⟨by omega, ?_⟩
    simp only [wB, binC, idxC, cmpC, asP, asS, asI, loadA, St.ev, setS, AV.cells, AV.flat, AV.single, Nat.reduceAdd, Nat.reduceEqDiff, Nat.reduceLeDiff, Int.reduceAdd, ASch, St.put, Md.mem, Md.need, aget_ints h, Int.toNat_natCast, decide_eq_false (show ¬ 1000 < t.heats[k] by omega)]
    have h50 := s50 (wrmL lm t.heats) k (by omega)
    rw [wrm_mem lm t.heats k h] at h50
    refine ⟨by omega, acall_v h50 (by simp [AV.pureL, AV.pure, intsA_pure]) rfl ?_⟩
    simp only [wB, awp, binC, arithC, cmpC, eqC, asB, asI, asN, St.ev, St.step, setS, killS, AV.kill, AV.killL, Mem.kill, Nat.reduceAdd, Int.reduceAdd, ASch, St.put, Md.mem, Md.need, isU]
    exact ⟨by unfold lim; omega, k + 1, le_sl' rfl (by simp [leSl]), h, by omega⟩
end Go.Proofs.YtndniceeibflcaaGreatDoor

namespace Go.Proofs.YtndniceeibflcaaGreatDoor
open Aw Go.ChangeShapes Go.WideShapes Go.ChangeAt Go.RowKit Go.Deep Go.Joins

set_option maxRecDepth 100000 in
theorem machineRight_lifted (os : Os) (started : os.Started) (H : Type) (enc : TypeId × Value → H) :
    ReturnsInHanded {} Tryz.checked os 12 .any (fun w args => (Rows.machineRightSpec.pre enc Tryz.prog Tryz.f12 [] false w args ∧ laidMetH Tryz.prog Rows.machineRightRow.laid w) ∧ sizedMet enc Tryz.prog Tryz.f12 (OpenSpec.ofChange Rows.machineRightSpec) false w args)
      (Rows.machineRightSpec.post enc Tryz.prog Tryz.f12 false true false false) := by
  refine returns_laid (C := Tryz.checked) (X := fun w _ => laidMetH Tryz.prog Rows.machineRightRow.laid w) (fun _ _ _ hh h => h.of_heap hh) Tryz.own started (by kernel_rfl) Tryz.func12
    (ChangeSpec.witness_at (enc := enc) (C := Tryz.checked) (os := os) (X := fun w _ => laidMetH Tryz.prog Rows.machineRightRow.laid w) false (laidWorld os) #[.agg #[.int .i64 0, .slice none 0 0, .int .i64 0], .slice none 0 0] 8 rfl (by kernel_rfl) (by kernel_rfl) (by kernel_rfl) (by kernel_rfl) (by kernel_rfl) (laidWorld_met os _)) ?_
  intro W base args ds gs before hval0 hW hsz hL hsh
  have hval : ∀ (j : Nat) t v, Tryz.f12.params[j]? = some t → args[j]? = some v → Value.okWide Tryz.prog W .any base t v := hval0
  have hG : GOk W := gok_of hL hsh
  have hW' := hW
  obtain ⟨p, q, hA0, hV, rfl, hfz, hnd⟩ := hW
  have hA : DataW.TrodAll enc Tryz.prog W 0 (fun _ => true) true Tryz.f12.params.toList args.toList ds p := hA0
  rw [Tryz.params12] at hA hval hsz
  obtain ⟨v0, v1, d0, d1, p0, p1, rfl, rfl, rfl, h0, h1⟩ := trodAll_two hA
  obtain ⟨rfl, rfl⟩ := trodVars_none hV
  obtain ⟨n0, ls0, lm0, r0⟩ := sa_lab (hval 0 26 v0 rfl rfl) h0
  obtain ⟨l1, r1, b1⟩ := sa_strs (hval 1 27 v1 rfl rfl) h1
  clear hA0 hval0
  simp only [List.append_nil] at hW'
  have hlt : ∀ x ∈ p0 ++ p1, x.block < W.heap.size := fun x hx => hW'.lt x (by simpa using hx)
  refine (calls_true (s12 n0 lm0 ls0 l1 b1) (vs := [v0, v1]) (by simp only [RVL]; exact ⟨_, _, rfl, r0, _, _, rfl, r1, rfl⟩) hG).mono fun e W' ⟨he, hb⟩ => ?_
  subst he
  refine ⟨_, rfl, law_shut hW' hb rfl (fun _ _ _ => trodAll_mk1 (shut_bool Tryz.underlying4 true)) (fun sp hsp => ?_) rfl (ok_one (by kernel_rfl) rfl (okWide_bool_mk Tryz.underlying4 true))⟩
  exact trodAll_mk2 (arg_stays Tryz.laidOut rr26 lt26 h0 hb (fun x hx => hlt x (by simp [hx])) (sp := sp) (fun x hx => hsp x (by simp [hx])))
    (arg_stays Tryz.laidOut rr27 lt27 h1 hb (fun x hx => hlt x (by simp [hx])) (sp := sp) (fun x hx => hsp x (by simp [hx])))

theorem machineRight_func : Tryz.prog.funcNamed "quadrupole/quadrupolelaw09.MachineRight" = some 12 := by kernel_rfl
theorem machineRight_k10 : (Rows.machineRightRow.inPlace == Tryz.prog.inPlace 12) = true := by kernel_rfl
theorem machineRight_k11 : (Rows.machineRightRow.unfollowed == Tryz.prog.unfollowed 12) = true := by kernel_rfl
theorem machineRight_k12 : (Rows.machineRightRow.recurses == Tryz.prog.recurses 12) = true := by kernel_rfl
theorem machineRight_k13 : (Rows.machineRightRow.named == Tryz.prog.varsNamed 12) = true := by kernel_rfl
theorem machineRight_closed : joinedFacts Tryz.prog 12 Tryz.f12 Rows.machineRightSpec Rows.machineRightRow = true :=
  joined_of (by kernel_rfl) (by kernel_rfl) (by kernel_rfl) rfl rfl machineRight_k10 machineRight_k11 machineRight_k12 machineRight_k13 (by kernel_rfl) Tryz.keysE rfl Tryz.lifts Tryz.made (by kernel_rfl)
theorem machineRight_goes : false = Rows.machineRightRow.goesBy Tryz.prog := by kernel_rfl
theorem machineRight_row : Rows.MachineRightSaid :=
  OpenClaim.holds_of_wide 12 Tryz.f12 rfl rfl rfl rfl rfl rfl rfl ⟨rfl, rfl, rfl, rfl, rfl⟩ rfl rfl rfl rfl rfl machineRight_func Tryz.func12 machineRight_closed
    (of_decide_eq_true (by kernel_rfl)) (by unfold Func.isWrapper; rw [if_neg (of_decide_eq_false (by kernel_rfl))]; exact ⟨rfl, rfl⟩)
    (fun os started H enc _ => machineRight_lifted os started H enc)

theorem machineRight_holds : Rows.MachineRightCardSaid :=
  Claim7.holds_tied_plain_at .later [] [.data, .data, .data, .data, .handle, .sentinel, .sentinel, .pinned] true (true, "aa03d57e40d7f46a321b7a338959e31570b187a828c7cad4885241d6f19c00d7") true
    machineRight_row (fun _ h => by cases h) (by kernel_rfl) (fun _ h => by cases h) machineRight_row_tie rfl ⟨rfl, rfl⟩ Tryz.mainE rfl
    (fun f fn hf hfn => by
      obtain rfl : f = 12 := Option.some.inj (machineRight_func.symm.trans hf) |>.symm
      obtain rfl : fn = Tryz.f12 := (Option.some.inj (Tryz.func12.symm.trans hfn)).symm
      refine ⟨Tryz.looksE, fun j t ht => ?_⟩
      rw [Tryz.params12] at ht
      have h3 := Array.mem_of_getElem? ht
      simp only [List.mem_toArray, List.mem_cons, List.not_mem_nil, or_false] at h3
      rcases h3 with rfl | rfl
      · exact Tryz.st26
      · exact Tryz.st27)
    machineRight_goes
end Go.Proofs.YtndniceeibflcaaGreatDoor
