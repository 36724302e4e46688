/-
  Parts of several texts in one: MzA, MzB, MzC, McA, MqC, MxC, MyJ.
-/
import Derived.Test.YtndniceeibflcaaGreatDoorProg
import Derived.WalkKit
import Derived.Lib.ConvBytes
import Derived.LaidEql
import Derived.Lib.ItoaNum
import Derived.Lib.LaidTab
import Derived.KernelRfl
import GoSem.Claims
import GoSem.ClaimJoined
import Derived.Orders
import Derived.Laws.StructEq
import Derived.Maps.Keyed
import Derived.Lib.Strings
import Derived.Maps.AppendAt
import Derived.Laws.Concat
import Derived.MapKept
import Derived.Laws.MakeOwn
import Derived.Scope
import Derived.Laws.BitsLemmas
import Derived.Maps.RangeRun
import Derived.StillTail
import Derived.OrdersIn
import Derived.TacticsIn
import Derived.RangeFuncRecord
import Derived.RangeFuncCalls
import Derived.RangeFuncSeq
import Derived.Lib.Split
import Derived.Lib.AtoiAll
import Derived.Shelf.LaysM
import Derived.Shelf.LaysC
import Derived.Shelf.Strconv.Itoa3
import Derived.Shelf.Strconv.AtoiAll
import Derived.Shelf.Strings.Search3
import Derived.Shelf.Strings.Cut
import Derived.Shelf.Strings.Prefix
import Derived.Shelf.Strings.Split
import Derived.Lib.AppendIntMem
import Derived.Stop.Asserts
import Derived.RowKitTokens
import Derived.Conc.MuLone
import Derived.Test.YtndniceeibflcaaGreatDoorRows
import Derived.Test.YtndniceeibflcaaGreatDoorChecked
import Derived.ChangeSame
import Derived.ChangeVars
import Derived.JoinedOf
import Derived.ProofKit
import Derived.RowKit
import Derived.LaidLaws
import Derived.LaidHandle
import Derived.LaidMore
import Derived.Stop.Joined
import Derived.Stop.LaidErr
import Derived.HandedShaped
import Derived.Shelf.Vars
import Derived.Deep.Slices
import Derived.Deep.Strs
import Derived.Deep.Fields
import Derived.Lib.SmallJoins
import Derived.SliceStrings
import Derived.ChangeMaps5
import Derived.Test.YtndniceeibflcaaGreatDoorKaa
import Derived.Test.YtndniceeibflcaaGreatDoorKac
import Derived.Test.YtndniceeibflcaaGreatDoorKad
import Derived.Test.YtndniceeibflcaaGreatDoorKae
import Derived.Test.YtndniceeibflcaaGreatDoorKag
import Derived.Test.YtndniceeibflcaaGreatDoorKai
import Derived.Test.YtndniceeibflcaaGreatDoorKaq
import Derived.Test.YtndniceeibflcaaGreatDoorKap
import Derived.Test.YtndniceeibflcaaGreatDoorKar
set_option linter.unusedSimpArgs false
set_option linter.unusedVariables false
namespace Go.Proofs.YtndniceeibflcaaGreatDoor
namespace Aw
end Aw
namespace Mp
end Mp
end Go.Proofs.YtndniceeibflcaaGreatDoor
namespace Go.Proofs.YtndniceeibflcaaGreatDoor
open Aw Mp Go.RowKit
set_option linter.unusedSimpArgs false

theorem intsA_take (l : List Int) (k : Nat) : (intsA l).take k = intsA (l.take k) := by simp [intsA]
end Go.Proofs.YtndniceeibflcaaGreatDoor

namespace Go.Proofs.YtndniceeibflcaaGreatDoor
open Aw Mp Go.RowKit
set_option linter.unusedSimpArgs false

theorem ok116 : okFn Tryz.prog 116 = true := by kernel_rfl
theorem s116 (n : Int) (ls : List (Int × Int)) (z : Int) : ASpec Tryz.prog 116 [I z, .p (trapA n ls) 0] (fun r Ms => r = B (!decide (0 ≤ z ∧ z < n)) ∧ Ms = []) := by
  refine aspec_of (own := []) Tryz.func116 rfl ok116 ?_
  simp only [wB, awp, asP, asN, loadA, St.ev, St.step, setS, killS, AV.kill, AV.killL, Mem.kill, AV.cells, AV.flat, AV.single, Nat.reduceAdd, Nat.reduceSub, Nat.reduceLeDiff, Int.reduceAdd, Int.reduceSub, Tryz.ntmps116, trapA]
  refine acall_v (s117 n ls z) rfl rfl ?_
  simp only [wB, awp, asB, asN, St.ev, St.step, setS, killS, AV.kill, AV.killL, Mem.kill]
  exact aend_frz rfl ⟨rfl, rfl⟩

/-- the first error of a place in a right trap. -/
def vP (n : Int) (l : List Int) : Int := if 4 < l.length then 3 else if ∀ z ∈ l, 0 ≤ z ∧ z < n then (if l.Nodup then 0 else 6) else 1

theorem ok86 : okFn Tryz.prog 86 = true := by kernel_rfl
theorem s86 (n : Int) (ls : List (Int × Int)) (l : List Int) (hl : l.length ≤ 1000000) : ASpec Tryz.prog 86 [trapA n ls, .s 1 (intsA l)] (fun r Ms => r = I (vP n l) ∧ Ms = []) := by
  refine aspec_of (own := []) Tryz.func86 rfl ok86 ?_
  simp only [wB, awp, binC, cmpC, asB, asI, asN, lenA, St.ev, St.step, setS, killS, AV.kill, AV.killL, Mem.kill, AV.cellular, AV.pure, AV.pureL, Nat.reduceAdd, Nat.reduceSub, Int.reduceAdd, Int.reduceSub, lenK, Tryz.ntmps86, trapA]
  by_cases h0 : (4 : Int) < l.length
  · simp only [wB, awp, asN, St.ev, St.step, setS, killS, AV.kill, AV.killL, Mem.kill, Nat.reduceAdd, Int.reduceAdd, decide_eq_true h0]
    exact aend_frz rfl ⟨by rw [vP, if_pos (by omega)]; rfl, rfl⟩
  simp only [wB, awp, St.ev, St.step, setS, killS, AV.kill, AV.killL, Mem.kill, AV.single, AV.cellular, Value.oneCell', Nat.reduceAdd, Int.reduceAdd, decide_eq_false h0]
  refine ⟨rfl, acall_v (s75 l (fun z => !decide (0 ≤ z ∧ z < n)) 116 [.p (trapA n ls) 0] hl rfl (fun z _ => s116 n ls z)) rfl rfl ?_⟩
  by_cases ha : ∀ z ∈ l, 0 ≤ z ∧ z < n
  · have hb : (l.any fun z => !decide (0 ≤ z ∧ z < n)) = false := by
      rw [List.any_eq_false]; intro z hz; simp [ha z hz]
    simp only [wB, awp, asB, lenA, St.ev, St.step, setS, killS, AV.kill, AV.killL, Mem.kill, Nat.reduceAdd, Int.reduceAdd, lenK, hb]
    refine swp_loop' (fun k : Nat => ⟨[.bot, .s 1 (intsA l), .bot, .bot, .bot, .bot, .bot, .bot, .bot, .bot, .bot, .bot, .bot, .s 1 (intsA l), I l.length, I k, .bot, .bot, .bot, .bot, .bot, .bot, .bot, .bot, .bot, .bot], []⟩) (fun k => k ≤ l.length ∧ ∀ j, j < k → ∀ h : j < l.length, l[j] ∉ l.take j) (fun k => l.length - k) 0 (le_sl (by simp [leSl, intsA_len])) ⟨Nat.zero_le _, by omega⟩ ?_
    rintro k ⟨hk, hno⟩
    refine awp_sound (own := []) _ _ _ _ _ ?_
    simp only [wB, awp, binC, cmpC, asB, asI, St.ev, St.step, setS, killS, AV.kill, AV.killL, Mem.kill, Nat.reduceAdd, Int.reduceAdd]
    by_cases h : k < l.length
    · have h' : (k : Int) < (l.length : Int) := by omega
      simp only [wB, awp, idxC, asP, asS, asI, asN, bndA, loadA, St.ev, St.step, setS, killS, AV.kill, AV.killL, Mem.kill, AV.cells, AV.flat, AV.single, Nat.reduceAdd, Int.reduceAdd, Int.reduceLE, decide_eq_true h', aget_ints h, bndA, intsA_take, List.drop_zero, Int.toNat_natCast]
      refine ⟨by omega, by omega, acall_v (s102 (l.take k) l[k] (by simp only [List.length_take]; omega)) rfl rfl ?_⟩
      by_cases hm : l[k] ∈ l.take k
      · simp only [wB, awp, asB, asN, St.ev, St.step, setS, killS, AV.kill, AV.killL, Mem.kill, Nat.reduceAdd, Int.reduceAdd, (memL_eq _ _).2 hm]
        refine aend_frz rfl ⟨?_, rfl⟩
        rw [vP, if_neg (by omega), if_pos ha, if_neg (not_nodup h hm)]
        rfl
      · have hm' : memL (l.take k) l[k] = false := by rw [Bool.eq_false_iff, ne_eq, memL_eq]; exact hm
        simp only [wB, awp, binC, arithC, cmpC, asB, asI, St.ev, St.step, setS, killS, AV.kill, AV.killL, Mem.kill, Nat.reduceAdd, Int.reduceAdd, isU, hm']
        exact ⟨by unfold lim; omega, k + 1, le_sl (by simp [leSl]), ⟨h, upto hno fun _ => hm⟩, by omega⟩
    · have h' : ¬ (k : Int) < (l.length : Int) := by omega
      simp only [wB, awp, asN, St.ev, St.step, setS, killS, AV.kill, AV.killL, Mem.kill, Nat.reduceAdd, Int.reduceAdd, decide_eq_false h']
      refine aend_frz rfl ⟨?_, rfl⟩
      rw [vP, if_neg (by omega), if_pos ha, if_pos (nodup_of fun j hj => hno j (by omega) hj)]
      rfl
  · have hb : (l.any fun z => !decide (0 ≤ z ∧ z < n)) = true := by
      rw [List.any_eq_true]
      simp only [Classical.not_forall] at ha
      obtain ⟨z, hz, hn⟩ := ha
      exact ⟨z, hz, by simp only [decide_eq_false hn, Bool.not_false]⟩
    simp only [wB, awp, asB, asN, St.ev, St.step, setS, killS, AV.kill, AV.killL, Mem.kill, Nat.reduceAdd, Int.reduceAdd, hb]
    refine aend_frz rfl ⟨?_, rfl⟩
    rw [vP, if_neg (by omega), if_neg ha]
    rfl
end Go.Proofs.YtndniceeibflcaaGreatDoor

namespace Go.Proofs.YtndniceeibflcaaGreatDoor
open Aw Mp Go.RowKit
set_option linter.unusedSimpArgs false

/-- the first error of a trap and a place. -/
def vTP (n : Int) (ls : List (Int × Int)) (l : List Int) : Int := if vT n ls = 0 then vP n l else vT n ls
theorem ok48 : okFn Tryz.prog 48 = true := by kernel_rfl
theorem s48 (n : Int) (ls : List (Int × Int)) (l : List Int) (hls : ls.length ≤ 1000000) (hl : l.length ≤ 1000000) : ASpec Tryz.prog 48 [trapA n ls, .s 1 (intsA l)] (fun r Ms => r = I (vTP n ls l) ∧ Ms = []) := by
  refine aspec_of (own := []) Tryz.func48 rfl ok48 ?_
  simp only [wB, awp, asP, asN, loadA, St.ev, St.step, setS, killS, AV.kill, AV.killL, Mem.kill, AV.cells, AV.flat, AV.single, AV.cellular, AV.pure, AV.pureL, Nat.reduceAdd, Nat.reduceSub, Nat.reduceLeDiff, Int.reduceAdd, Int.reduceSub, Tryz.ntmps48, trapA]
  refine acall_v (s65 n ls hls) rfl rfl ?_
  by_cases h : vT n ls = 0
  · simp only [wB, awp, binC, cmpC, asP, asB, asI, asN, loadA, St.ev, St.step, setS, killS, AV.kill, AV.killL, Mem.kill, AV.cells, AV.flat, AV.single, Nat.reduceAdd, Nat.reduceLeDiff, Int.reduceAdd, decide_eq_true h]
    refine acall_v (s86 n ls l hl) rfl rfl ?_
    simp only [wB, awp, asN, St.ev, St.step, setS, killS, AV.kill, AV.killL, Mem.kill]
    exact aend_frz rfl ⟨by rw [vTP, if_pos h]; rfl, rfl⟩
  · simp only [wB, awp, binC, cmpC, asB, asI, asN, St.ev, St.step, setS, killS, AV.kill, AV.killL, Mem.kill, Nat.reduceAdd, Int.reduceAdd, decide_eq_false h]
    exact aend_frz rfl ⟨by rw [vTP, if_neg h]; rfl, rfl⟩
end Go.Proofs.YtndniceeibflcaaGreatDoor

namespace Go.Proofs.YtndniceeibflcaaGreatDoor
open Aw Mp Go.RowKit
set_option linter.unusedSimpArgs false

theorem ok120 : okFn Tryz.prog 120 = true := by kernel_rfl
theorem s120 (n : Int) (g : G4) : ASpec Tryz.prog 120 [I n, gA g] (fun r Ms => r = B (okG n g) ∧ Ms = []) := by
  refine aspec_of (own := []) Tryz.func120 rfl ok120 ?_
  simp only [wB, awp, binC, cmpC, asP, asI, asN, loadA, St.ev, St.step, setS, killS, AV.kill, AV.killL, Mem.kill, AV.cells, AV.flat, AV.single, AV.cellular, AV.pure, AV.pureL, Nat.reduceAdd, Nat.reduceEqDiff, Nat.reduceSub, Nat.reduceLeDiff, Int.reduceAdd, Int.reduceSub, Tryz.ntmps120, gA]
  by_cases c1 : g.t < 1
  · simp only [wB, awp, asB, asN, St.ev, St.step, setS, killS, AV.kill, AV.killL, Mem.kill, Nat.reduceAdd, Int.reduceAdd, decide_eq_true c1]
    exact aend_frz rfl ⟨by rw [show okG n g = false from decide_eq_false (by omega)]; rfl, rfl⟩
  simp only [wB, awp, binC, cmpC, asP, asB, asI, loadA, St.ev, St.step, setS, killS, AV.kill, AV.killL, Mem.kill, AV.cells, AV.flat, AV.single, Nat.reduceAdd, Nat.reduceEqDiff, Nat.reduceLeDiff, Int.reduceAdd, decide_eq_false c1]
  by_cases c2 : 16 ≤ g.t
  · simp only [wB, awp, asN, St.ev, St.step, setS, killS, AV.kill, AV.killL, Mem.kill, Nat.reduceAdd, Int.reduceAdd, decide_eq_true c2]
    exact aend_frz rfl ⟨by rw [show okG n g = false from decide_eq_false (by omega)]; rfl, rfl⟩
  simp only [wB, awp, binC, cmpC, asP, asB, asI, asN, loadA, St.ev, St.step, setS, killS, AV.kill, AV.killL, Mem.kill, AV.cells, AV.flat, AV.single, Nat.reduceAdd, Nat.reduceEqDiff, Nat.reduceLeDiff, Int.reduceAdd, decide_eq_false c2]
  by_cases c3 : g.k = 0
  · simp only [wB, awp, binC, cmpC, asP, asB, asI, loadA, St.ev, St.step, setS, killS, AV.kill, AV.killL, Mem.kill, AV.cells, AV.flat, AV.single, Nat.reduceAdd, Nat.reduceEqDiff, Nat.reduceLeDiff, Int.reduceAdd, Int.reduceNeg, decide_eq_true c3]
    by_cases c4 : 0 ≤ g.a
    · simp only [wB, binC, cmpC, asP, asB, asI, loadA, St.ev, St.step, setS, killS, AV.kill, AV.killL, Mem.kill, AV.cells, AV.flat, AV.single, Nat.reduceAdd, Nat.reduceEqDiff, Nat.reduceLeDiff, Int.reduceAdd, Int.reduceNeg, decide_eq_true c4]
      by_cases c5 : g.a < n
      · simp only [wB, awp, binC, cmpC, asP, asB, asI, asN, loadA, St.ev, St.step, setS, killS, AV.kill, AV.killL, Mem.kill, AV.cells, AV.flat, AV.single, Nat.reduceAdd, Nat.reduceEqDiff, Nat.reduceLeDiff, Int.reduceAdd, Int.reduceNeg, decide_eq_true c5]
        exact aend_frz rfl ⟨by rw [show okG n g = decide (g.b = -1) by unfold okG; apply decide_eq_decide.2; omega]; rfl, rfl⟩
      · simp only [wB, awp, asB, asN, St.ev, St.step, setS, killS, AV.kill, AV.killL, Mem.kill, Int.reduceNeg, decide_eq_false c5]
        exact aend_frz rfl ⟨by rw [show okG n g = false from decide_eq_false (by omega)]; rfl, rfl⟩
    · simp only [wB, awp, asB, asN, St.ev, St.step, setS, killS, AV.kill, AV.killL, Mem.kill, Int.reduceNeg, decide_eq_false c4]
      exact aend_frz rfl ⟨by rw [show okG n g = false from decide_eq_false (by omega)]; rfl, rfl⟩
  simp only [wB, awp, binC, cmpC, asB, asI, asN, St.ev, St.step, setS, killS, AV.kill, AV.killL, Mem.kill, Nat.reduceAdd, Int.reduceAdd, decide_eq_false c3]
  by_cases c3' : g.k = 1
  · simp only [wB, awp, binC, cmpC, asP, asI, loadA, St.ev, St.step, setS, killS, AV.kill, AV.killL, Mem.kill, AV.cells, AV.flat, AV.single, Nat.reduceAdd, Nat.reduceEqDiff, Nat.reduceLeDiff, Int.reduceAdd, Int.reduceNeg, decide_eq_true c3']
    by_cases c4 : 0 ≤ g.a
    · simp only [wB, binC, cmpC, asP, asB, asI, loadA, St.ev, St.step, setS, killS, AV.kill, AV.killL, Mem.kill, AV.cells, AV.flat, AV.single, Nat.reduceAdd, Nat.reduceEqDiff, Nat.reduceLeDiff, Int.reduceAdd, Int.reduceNeg, decide_eq_true c4]
      by_cases c5 : g.a < n
      · simp only [wB, awp, binC, cmpC, asP, asB, asI, asN, loadA, St.ev, St.step, setS, killS, AV.kill, AV.killL, Mem.kill, AV.cells, AV.flat, AV.single, Nat.reduceAdd, Nat.reduceEqDiff, Nat.reduceLeDiff, Int.reduceAdd, Int.reduceNeg, decide_eq_true c5]
        exact aend_frz rfl ⟨by rw [show okG n g = decide (g.b = -1) by unfold okG; apply decide_eq_decide.2; omega]; rfl, rfl⟩
      · simp only [wB, awp, asB, asN, St.ev, St.step, setS, killS, AV.kill, AV.killL, Mem.kill, Int.reduceNeg, decide_eq_false c5]
        exact aend_frz rfl ⟨by rw [show okG n g = false from decide_eq_false (by omega)]; rfl, rfl⟩
    · simp only [wB, awp, asB, asN, St.ev, St.step, setS, killS, AV.kill, AV.killL, Mem.kill, Int.reduceNeg, decide_eq_false c4]
      exact aend_frz rfl ⟨by rw [show okG n g = false from decide_eq_false (by omega)]; rfl, rfl⟩
  simp only [wB, awp, binC, cmpC, asB, asI, asN, St.ev, St.step, setS, killS, AV.kill, AV.killL, Mem.kill, Nat.reduceAdd, Int.reduceAdd, decide_eq_false c3']
  by_cases c3'' : g.k = 2
  · simp only [wB, awp, binC, cmpC, asP, asI, loadA, St.ev, St.step, setS, killS, AV.kill, AV.killL, Mem.kill, AV.cells, AV.flat, AV.single, Nat.reduceAdd, Nat.reduceEqDiff, Nat.reduceLeDiff, Int.reduceAdd, decide_eq_true c3'']
    by_cases c4 : 0 ≤ g.a
    · simp only [wB, binC, cmpC, asP, asB, asI, loadA, St.ev, St.step, setS, killS, AV.kill, AV.killL, Mem.kill, AV.cells, AV.flat, AV.single, Nat.reduceAdd, Nat.reduceEqDiff, Nat.reduceLeDiff, Int.reduceAdd, decide_eq_true c4]
      by_cases c5 : g.a < g.b
      · simp only [wB, awp, binC, cmpC, asP, asB, asI, asN, loadA, St.ev, St.step, setS, killS, AV.kill, AV.killL, Mem.kill, AV.cells, AV.flat, AV.single, Nat.reduceAdd, Nat.reduceEqDiff, Nat.reduceLeDiff, Int.reduceAdd, decide_eq_true c5]
        exact aend_frz rfl ⟨by rw [show okG n g = decide (g.b < n) by unfold okG; apply decide_eq_decide.2; omega]; rfl, rfl⟩
      · simp only [wB, awp, asB, asN, St.ev, St.step, setS, killS, AV.kill, AV.killL, Mem.kill, decide_eq_false c5]
        exact aend_frz rfl ⟨by rw [show okG n g = false from decide_eq_false (by omega)]; rfl, rfl⟩
    · simp only [wB, awp, asB, asN, St.ev, St.step, setS, killS, AV.kill, AV.killL, Mem.kill, decide_eq_false c4]
      exact aend_frz rfl ⟨by rw [show okG n g = false from decide_eq_false (by omega)]; rfl, rfl⟩
  simp only [wB, awp, asN, St.ev, St.step, setS, killS, AV.kill, AV.killL, Mem.kill, Nat.reduceAdd, Int.reduceAdd, decide_eq_false c3'']
  exact aend_frz rfl ⟨by rw [show okG n g = false from decide_eq_false (by omega)]; rfl, rfl⟩

def idxG {α : Type} (l : List α) (p : α → Bool) : Int := match l.findIdx? p with | some i => (i : Int) | none => -1
theorem idxG_some {α : Type} {l : List α} {p : α → Bool} {k : Nat} (h : k < l.length) (hno : ∀ j, j < k → ∀ h : j < l.length, p l[j] = false) (hx : p l[k] = true) : idxG l p = k := by
  have : l.findIdx? p = some k := by
    rw [List.findIdx?_eq_some_iff_getElem]
    exact ⟨h, hx, fun j hj => by rw [hno j hj (by omega)]; simp⟩
  simp [idxG, this]
theorem idxG_none {α : Type} {l : List α} {p : α → Bool} (hno : ∀ j, ∀ h : j < l.length, p l[j] = false) : idxG l p = -1 := by
  have : l.findIdx? p = none := by
    rw [List.findIdx?_eq_none_iff]
    intro y hy
    obtain ⟨j, hj, rfl⟩ := List.mem_iff_getElem.1 hy
    exact hno j hj
  simp [idxG, this]
theorem idxG_any {α : Type} (l : List α) (p : α → Bool) : decide (0 ≤ idxG l p) = l.any p := by
  unfold idxG
  cases h : l.findIdx? p with
  | none =>
    rw [List.findIdx?_eq_none_iff] at h
    have : l.any p = false := by rw [List.any_eq_false]; intro x hx; rw [h x hx]; simp
    simp [this]
  | some i =>
    rw [List.findIdx?_eq_some_iff_getElem] at h
    obtain ⟨hi, hx, _⟩ := h
    have : l.any p = true := List.any_eq_true.2 ⟨_, List.getElem_mem hi, hx⟩
    simp [this]
theorem ok150 : okFn Tryz.prog 150 = true := by kernel_rfl
theorem s150 (l : List G4) (p : G4 → Bool) (f : FuncId) (cap : List AV) (hl : l.length ≤ 1000000) (hc : AV.pureL cap = true) (hs : ∀ z, ASpec Tryz.prog f (gA z :: cap) (fun r Ms => r = B (p z) ∧ Ms = [])) :
    ASpec Tryz.prog 150 [.s 4 (gtsA l), .f (.func f) cap] (fun r Ms => r = I (idxG l p) ∧ Ms = []) := by
  refine aspec_of (own := []) Tryz.func150 rfl ok150 ?_
  simp only [wB, awp, asN, lenA, St.ev, St.step, setS, killS, AV.kill, AV.killL, Mem.kill, Nat.reduceAdd, Nat.reduceSub, Int.reduceAdd, Int.reduceSub, lenK, Tryz.ntmps150]
  refine swp_loop' (fun k : Nat => ⟨[.s 4 (gtsA l), .f (.func f) cap, .bot, .bot, .bot, .bot, .bot, I l.length, I k, .bot, .bot, .bot, .bot, .bot, .bot, .bot, .bot, .bot, .bot], []⟩) (fun k => k ≤ l.length ∧ ∀ j, j < k → ∀ h : j < l.length, p l[j] = false) (fun k => l.length - k) 0 (le_sl (by simp [leSl, gtsA_len])) ⟨Nat.zero_le _, by omega⟩ ?_
  rintro k ⟨hk, hno⟩
  refine awp_sound (own := []) _ _ _ _ _ ?_
  simp only [wB, awp, binC, cmpC, asB, asI, St.ev, St.step, setS, killS, AV.kill, AV.killL, Mem.kill, Nat.reduceAdd, Int.reduceAdd]
  by_cases h : k < l.length
  · have h' : (k : Int) < (l.length : Int) := by omega
    simp only [wB, awp, idxC, asP, asS, asF, asI, asN, loadA, St.ev, St.step, setS, killS, AV.kill, AV.killL, Mem.kill, AV.cells, AV.flat, AV.single, Nat.reduceAdd, Nat.reduceLeDiff, Int.reduceAdd, decide_eq_true h', aget_gts h, Int.toNat_natCast]
    refine ⟨by omega, acall_v (hs l[k]) (by simp [AV.pureL, AV.pure, gA, hc]) rfl ?_⟩
    cases hx : p l[k] with
    | true =>
      simp only [wB, awp, asB, asN, St.ev, St.step, setS, killS, AV.kill, AV.killL, Mem.kill, Nat.reduceAdd, Int.reduceAdd]
      exact aend_frz rfl ⟨by rw [idxG_some h hno hx]; rfl, rfl⟩
    | false =>
      simp only [wB, awp, binC, arithC, cmpC, asB, asI, St.ev, St.step, setS, killS, AV.kill, AV.killL, Mem.kill, Nat.reduceAdd, Int.reduceAdd, isU]
      exact ⟨by unfold lim; omega, k + 1, le_sl (by simp [leSl, gtsA_len]), ⟨h, upto hno fun _ => hx⟩, by omega⟩
  · have h' : ¬ (k : Int) < (l.length : Int) := by omega
    simp only [wB, awp, asN, St.ev, St.step, setS, killS, AV.kill, AV.killL, Mem.kill, Nat.reduceAdd, Int.reduceAdd, Int.reduceNeg, decide_eq_false h']
    exact aend_frz rfl ⟨by rw [idxG_none fun j hj => hno j (by omega) hj]; rfl, rfl⟩

theorem ok118 : okFn Tryz.prog 118 = true := by kernel_rfl
theorem s118 (l : List G4) (p : G4 → Bool) (f : FuncId) (cap : List AV) (hl : l.length ≤ 1000000) (hc : AV.pureL cap = true) (hs : ∀ z, ASpec Tryz.prog f (gA z :: cap) (fun r Ms => r = B (p z) ∧ Ms = [])) :
    ASpec Tryz.prog 118 [.s 4 (gtsA l), .f (.func f) cap] (fun r Ms => r = B (l.any p) ∧ Ms = []) := by
  refine aspec_of (own := []) Tryz.func118 rfl ok118 ?_
  simp only [wB, awp, asN, St.ev, St.step, setS, killS, AV.kill, AV.killL, Mem.kill, Nat.reduceAdd, Nat.reduceSub, Int.reduceAdd, Int.reduceSub, Tryz.ntmps118]
  refine acall_v (s150 l p f cap hl hc hs) (by simp [AV.pureL, AV.pure, hc]) rfl ?_
  simp only [wB, awp, binC, cmpC, asI, asN, St.ev, St.step, setS, killS, AV.kill, AV.killL, Mem.kill, idxG_any]
  exact aend_frz rfl ⟨rfl, rfl⟩

theorem ok119 : okFn Tryz.prog 119 = true := by kernel_rfl
theorem s119 (n : Int) (g : G4) : ASpec Tryz.prog 119 [gA g, .p (I n) 0] (fun r Ms => r = B (!okG n g) ∧ Ms = []) := by
  refine aspec_of (own := []) Tryz.func119 rfl ok119 ?_
  simp only [wB, awp, asP, asN, loadA, St.ev, St.step, setS, killS, AV.kill, AV.killL, Mem.kill, AV.cells, AV.flat, AV.single, AV.cellular, AV.pure, AV.pureL, Nat.reduceAdd, Nat.reduceSub, Nat.reduceLeDiff, Int.reduceAdd, Int.reduceSub, Tryz.ntmps119, gA]
  refine acall_v (s120 n g) rfl rfl ?_
  simp only [wB, awp, asB, asN, St.ev, St.step, setS, killS, AV.kill, AV.killL, Mem.kill]
  exact aend_frz rfl ⟨rfl, rfl⟩

/-- the error of gates. -/
def vG (n : Int) (c : List G4) : Int := if ∀ g ∈ c, okG n g = true then 0 else 1
theorem ok87 : okFn Tryz.prog 87 = true := by kernel_rfl
theorem s87 (n : Int) (c : List G4) (hl : c.length ≤ 1000000) : ASpec Tryz.prog 87 [I n, .s 4 (gtsA c)] (fun r Ms => r = I (vG n c) ∧ Ms = []) := by
  refine aspec_of (own := []) Tryz.func87 rfl ok87 ?_
  simp only [wB, awp, asN, St.ev, St.step, setS, killS, AV.kill, AV.killL, Mem.kill, AV.single, AV.cellular, AV.pure, Value.oneCell', Nat.reduceAdd, Nat.reduceSub, Int.reduceAdd, Int.reduceSub, Tryz.ntmps87]
  refine ⟨rfl, acall_v (s118 c (fun g => !okG n g) 119 [.p (I n) 0] hl rfl (fun g => s119 n g)) rfl rfl ?_⟩
  by_cases ha : ∀ g ∈ c, okG n g = true
  · have hb : (c.any fun g => !okG n g) = false := by
      rw [List.any_eq_false]; intro z hz; simp [ha z hz]
    simp only [wB, awp, asB, asN, St.ev, St.step, setS, killS, AV.kill, AV.killL, Mem.kill, Nat.reduceAdd, Int.reduceAdd, hb]
    exact aend_frz rfl ⟨by rw [vG, if_pos ha]; rfl, rfl⟩
  · have hb : (c.any fun g => !okG n g) = true := by
      simp only [Classical.not_forall] at ha
      obtain ⟨g, hg, hn⟩ := ha
      exact List.any_eq_true.2 ⟨g, hg, by simpa using hn⟩
    simp only [wB, awp, asB, asN, St.ev, St.step, setS, killS, AV.kill, AV.killL, Mem.kill, Nat.reduceAdd, Int.reduceAdd, hb]
    exact aend_frz rfl ⟨by rw [vG, if_neg ha]; rfl, rfl⟩

/-- the first error of a circuit. -/
def vC (n : Int) (c : List G4) : Int := if n < 1 ∨ 4 < n then 1 else if 10 < c.length then 3 else vG n c
theorem ok49 : okFn Tryz.prog 49 = true := by kernel_rfl
theorem s49 (n : Int) (c : List G4) (hl : c.length ≤ 1000000) : ASpec Tryz.prog 49 [I n, .s 4 (gtsA c)] (fun r Ms => r = I (vC n c) ∧ Ms = []) := by
  refine aspec_of (own := []) Tryz.func49 rfl ok49 ?_
  simp only [wB, awp, binC, cmpC, asI, asN, St.ev, St.step, setS, killS, AV.kill, AV.killL, Mem.kill, Nat.reduceAdd, Nat.reduceSub, Int.reduceAdd, Int.reduceSub, Tryz.ntmps49]
  by_cases h1 : n < 1
  · simp only [wB, awp, asB, asN, St.ev, St.step, setS, killS, AV.kill, AV.killL, Mem.kill, Nat.reduceAdd, Int.reduceAdd, decide_eq_true h1]
    exact aend_frz rfl ⟨by rw [vC, if_pos (.inl h1)]; rfl, rfl⟩
  simp only [wB, awp, binC, cmpC, asB, asI, St.ev, St.step, setS, killS, AV.kill, AV.killL, Mem.kill, decide_eq_false h1]
  by_cases h2 : 4 < n
  · simp only [wB, awp, asN, St.ev, St.step, setS, killS, AV.kill, AV.killL, Mem.kill, Nat.reduceAdd, Int.reduceAdd, decide_eq_true h2]
    exact aend_frz rfl ⟨by rw [vC, if_pos (.inr h2)]; rfl, rfl⟩
  simp only [wB, awp, binC, cmpC, asB, asI, lenA, St.ev, St.step, setS, killS, AV.kill, AV.killL, Mem.kill, Nat.reduceAdd, Int.reduceAdd, lenK, decide_eq_false h2, gtsA_len]
  by_cases h3 : (10 : Int) < c.length
  · simp only [wB, awp, asN, St.ev, St.step, setS, killS, AV.kill, AV.killL, Mem.kill, Nat.reduceAdd, Int.reduceAdd, decide_eq_true h3]
    exact aend_frz rfl ⟨by rw [vC, if_neg (by omega), if_pos (by omega)]; rfl, rfl⟩
  simp only [wB, awp, St.ev, St.step, setS, killS, AV.kill, AV.killL, Mem.kill, Nat.reduceAdd, Int.reduceAdd, decide_eq_false h3]
  refine acall_v (s87 n c hl) rfl rfl ?_
  simp only [wB, awp, asN, St.ev, St.step, setS, killS, AV.kill, AV.killL, Mem.kill]
  exact aend_frz rfl ⟨by rw [vC, if_neg (by omega), if_neg (by omega)]; rfl, rfl⟩

end Go.Proofs.YtndniceeibflcaaGreatDoor

namespace Go.Proofs.YtndniceeibflcaaGreatDoor
open Aw Mp Go.RowKit
set_option linter.unusedSimpArgs false

theorem InvS.emp {n : Int} {c : Nat} {s : MS} (h : InvS n c s) (h0 : s.place = []) : s.circ = [] := by
  cases hc : s.circ with
  | nil => rfl
  | cons g r =>
    have := h.cok g (by rw [hc]; simp)
    rw [h0] at this
    unfold okG at this
    have := of_decide_eq_true this
    simp at this
    omega
end Go.Proofs.YtndniceeibflcaaGreatDoor

namespace Go.Proofs.YtndniceeibflcaaGreatDoor
open Aw Mp Go.RowKit
set_option linter.unusedSimpArgs false
set_option maxRecDepth 8000

theorem inv_place {n : Int} {ls : List (Int × Int)} {c : Nat} {s : MS} (h : InvS n c s) (hT : vT n ls = 0) : vTP n ls s.place = 0 := by
  unfold vTP vP
  rw [if_pos hT, if_neg (by have := h.p4; omega), if_pos h.pin, if_pos h.pnd]
theorem inv_circ {n : Int} {c : Nat} {s : MS} (h : InvS n c s) (h0 : 0 < s.place.length) : vC s.place.length s.circ = 0 := by
  unfold vC vG
  rw [if_neg (by have := h.p4; omega), if_neg (by have := h.c10; omega), if_pos h.cok]
end Go.Proofs.YtndniceeibflcaaGreatDoor

namespace Go.Proofs.YtndniceeibflcaaGreatDoor
open Aw Mp Go.RowKit
set_option linter.unusedSimpArgs false
set_option maxRecDepth 8000

theorem fG {m m' : Mch} {f : FuncId} {ars : List AV} {x : AV} (h : MSpec Tryz.prog f (.q 0 13 0 0 :: ars) (memD m) (fun r N => r = x ∧ N = memD m')) (ha : AV.pureL ars = true) : FSpec Tryz.prog f (.q 0 13 0 0 :: ars) (memD m) (memD m) x (memD m') := by
  have := fT h [] (q0_free _ _ _ ha) (fun F G => rfl)
  simpa using this
end Go.Proofs.YtndniceeibflcaaGreatDoor
