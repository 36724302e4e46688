/-
  Parts of several texts in one: McA, MqB, MqC, MqD, MqE, MqF, MrA, MrB, MrC.
-/
import Derived.Test.YtndniceeibflcaaGreatDoorProg
import Derived.WalkKit
import Derived.Lib.ConvBytes
import Derived.LaidEql
import Derived.Lib.ItoaNum
import Derived.Lib.LaidTab
import Derived.KernelRfl
import GoSem.Claims
import GoSem.ClaimJoined
import Derived.Orders
import Derived.Laws.StructEq
import Derived.Maps.Keyed
import Derived.Lib.Strings
import Derived.Maps.AppendAt
import Derived.Laws.Concat
import Derived.MapKept
import Derived.Laws.MakeOwn
import Derived.Scope
import Derived.Laws.BitsLemmas
import Derived.Maps.RangeRun
import Derived.StillTail
import Derived.OrdersIn
import Derived.TacticsIn
import Derived.RangeFuncRecord
import Derived.RangeFuncCalls
import Derived.RangeFuncSeq
import Derived.Lib.Split
import Derived.Lib.AtoiAll
import Derived.Shelf.LaysM
import Derived.Shelf.LaysC
import Derived.Shelf.Strconv.Itoa3
import Derived.Shelf.Strconv.AtoiAll
import Derived.Shelf.Strings.Search3
import Derived.Shelf.Strings.Cut
import Derived.Shelf.Strings.Prefix
import Derived.Shelf.Strings.Split
import Derived.Lib.AppendIntMem
import Derived.Test.YtndniceeibflcaaGreatDoorLaa
import Derived.Test.YtndniceeibflcaaGreatDoorLab
import Derived.Test.YtndniceeibflcaaGreatDoorLac
import Derived.Test.YtndniceeibflcaaGreatDoorLad
import Derived.Test.YtndniceeibflcaaGreatDoorLae
import Derived.Test.YtndniceeibflcaaGreatDoorLag
import Derived.Test.YtndniceeibflcaaGreatDoorLah
set_option linter.unusedSimpArgs false
set_option linter.unusedVariables false
namespace Go.Proofs.YtndniceeibflcaaGreatDoor
namespace Aw
end Aw
namespace Mp
end Mp
end Go.Proofs.YtndniceeibflcaaGreatDoor
namespace Go.Proofs.YtndniceeibflcaaGreatDoor
open Aw Mp Go.RowKit
set_option linter.unusedSimpArgs false

theorem s120 (n : Int) (g : G4) : ASpec Tryz.prog 120 [I n, gA g] (fun r Ms => r = B (okG n g) ∧ Ms = []) := by
  refine aspec_of (own := []) Tryz.func120 rfl ok120 ?_
  simp only [wB, awp, binC, cmpC, asP, asI, asN, loadA, St.ev, St.step, setS, killS, AV.kill, AV.killL, Mem.kill, AV.cells, AV.flat, AV.single, AV.cellular, AV.pure, AV.pureL, Nat.reduceAdd, Nat.reduceEqDiff, Nat.reduceSub, Nat.reduceLeDiff, Int.reduceAdd, Int.reduceSub, Tryz.ntmps120, gA]
  by_cases c1 : g.t < 1
  · simp only [wB, awp, asB, asN, St.ev, St.step, setS, killS, AV.kill, AV.killL, Mem.kill, Nat.reduceAdd, Int.reduceAdd, decide_eq_true c1]
    exact aend_frz rfl ⟨by rw [show okG n g = false from decide_eq_false (by omega)]; rfl, rfl⟩
  simp only [wB, awp, binC, cmpC, asP, asB, asI, loadA, St.ev, St.step, setS, killS, AV.kill, AV.killL, Mem.kill, AV.cells, AV.flat, AV.single, Nat.reduceAdd, Nat.reduceEqDiff, Nat.reduceLeDiff, Int.reduceAdd, decide_eq_false c1]
  by_cases c2 : 16 ≤ g.t
  · simp only [wB, awp, asN, St.ev, St.step, setS, killS, AV.kill, AV.killL, Mem.kill, Nat.reduceAdd, Int.reduceAdd, decide_eq_true c2]
    exact aend_frz rfl ⟨by rw [show okG n g = false from decide_eq_false (by omega)]; rfl, rfl⟩
  simp only [wB, awp, binC, cmpC, asP, asB, asI, asN, loadA, St.ev, St.step, setS, killS, AV.kill, AV.killL, Mem.kill, AV.cells, AV.flat, AV.single, Nat.reduceAdd, Nat.reduceEqDiff, Nat.reduceLeDiff, Int.reduceAdd, decide_eq_false c2]
  by_cases c3 : g.k = 0
  · simp only [wB, awp, binC, cmpC, asP, asB, asI, loadA, St.ev, St.step, setS, killS, AV.kill, AV.killL, Mem.kill, AV.cells, AV.flat, AV.single, Nat.reduceAdd, Nat.reduceEqDiff, Nat.reduceLeDiff, Int.reduceAdd, Int.reduceNeg, decide_eq_true c3]
    by_cases c4 : 0 ≤ g.a
    · simp only [wB, binC, cmpC, asP, asB, asI, loadA, St.ev, St.step, setS, killS, AV.kill, AV.killL, Mem.kill, AV.cells, AV.flat, AV.single, Nat.reduceAdd, Nat.reduceEqDiff, Nat.reduceLeDiff, Int.reduceAdd, Int.reduceNeg, decide_eq_true c4]
      by_cases c5 : g.a < n
      · simp only [wB, awp, binC, cmpC, asP, asB, asI, asN, loadA, St.ev, St.step, setS, killS, AV.kill, AV.killL, Mem.kill, AV.cells, AV.flat, AV.single, Nat.reduceAdd, Nat.reduceEqDiff, Nat.reduceLeDiff, Int.reduceAdd, Int.reduceNeg, decide_eq_true c5]
        exact aend_frz rfl ⟨by rw [show okG n g = decide (g.b = -1) by unfold okG; apply decide_eq_decide.2; omega]; rfl, rfl⟩
      · simp only [wB, awp, asB, asN, St.ev, St.step, setS, killS, AV.kill, AV.killL, Mem.kill, Int.reduceNeg, decide_eq_false c5]
        exact aend_frz rfl ⟨by rw [show okG n g = false from decide_eq_false (by omega)]; rfl, rfl⟩
    · simp only [wB, awp, asB, asN, St.ev, St.step, setS, killS, AV.kill, AV.killL, Mem.kill, Int.reduceNeg, decide_eq_false c4]
      exact aend_frz rfl ⟨by rw [show okG n g = false from decide_eq_false (by omega)]; rfl, rfl⟩
  simp only [wB, awp, binC, cmpC, asB, asI, asN, St.ev, St.step, setS, killS, AV.kill, AV.killL, Mem.kill, Nat.reduceAdd, Int.reduceAdd, decide_eq_false c3]
  by_cases c3' : g.k = 1
  · simp only [wB, awp, binC, cmpC, asP, asI, loadA, St.ev, St.step, setS, killS, AV.kill, AV.killL, Mem.kill, AV.cells, AV.flat, AV.single, Nat.reduceAdd, Nat.reduceEqDiff, Nat.reduceLeDiff, Int.reduceAdd, Int.reduceNeg, decide_eq_true c3']
    by_cases c4 : 0 ≤ g.a
    · simp only [wB, binC, cmpC, asP, asB, asI, loadA, St.ev, St.step, setS, killS, AV.kill, AV.killL, Mem.kill, AV.cells, AV.flat, AV.single, Nat.reduceAdd, Nat.reduceEqDiff, Nat.reduceLeDiff, Int.reduceAdd, Int.reduceNeg, decide_eq_true c4]
      by_cases c5 : g.a < n
      · simp only [wB, awp, binC, cmpC, asP, asB, asI, asN, loadA, St.ev, St.step, setS, killS, AV.kill, AV.killL, Mem.kill, AV.cells, AV.flat, AV.single, Nat.reduceAdd, Nat.reduceEqDiff, Nat.reduceLeDiff, Int.reduceAdd, Int.reduceNeg, decide_eq_true c5]
        exact aend_frz rfl ⟨by rw [show okG n g = decide (g.b = -1) by unfold okG; apply decide_eq_decide.2; omega]; rfl, rfl⟩
      · simp only [wB, awp, asB, asN, St.ev, St.step, setS, killS, AV.kill, AV.killL, Mem.kill, Int.reduceNeg, decide_eq_false c5]
        exact aend_frz rfl ⟨by rw [show okG n g = false from decide_eq_false (by omega)]; rfl, rfl⟩
    · simp only [wB, awp, asB, asN, St.ev, St.step, setS, killS, AV.kill, AV.killL, Mem.kill, Int.reduceNeg, decide_eq_false c4]
      exact aend_frz rfl ⟨by rw [show okG n g = false from decide_eq_false (by omega)]; rfl, rfl⟩
  simp only [wB, awp, binC, cmpC, asB, asI, asN, St.ev, St.step, setS, killS, AV.kill, AV.killL, Mem.kill, Nat.reduceAdd, Int.reduceAdd, decide_eq_false c3']
  by_cases c3'' : g.k = 2
  · simp only [wB, awp, binC, cmpC, asP, asI, loadA, St.ev, St.step, setS, killS, AV.kill, AV.killL, Mem.kill, AV.cells, AV.flat, AV.single, Nat.reduceAdd, Nat.reduceEqDiff, Nat.reduceLeDiff, Int.reduceAdd, decide_eq_true c3'']
    by_cases c4 : 0 ≤ g.a
    · simp only [wB, binC, cmpC, asP, asB, asI, loadA, St.ev, St.step, setS, killS, AV.kill, AV.killL, Mem.kill, AV.cells, AV.flat, AV.single, Nat.reduceAdd, Nat.reduceEqDiff, Nat.reduceLeDiff, Int.reduceAdd, decide_eq_true c4]
      by_cases c5 : g.a < g.b
      · simp only [wB, awp, binC, cmpC, asP, asB, asI, asN, loadA, St.ev, St.step, setS, killS, AV.kill, AV.killL, Mem.kill, AV.cells, AV.flat, AV.single, Nat.reduceAdd, Nat.reduceEqDiff, Nat.reduceLeDiff, Int.reduceAdd, decide_eq_true c5]
        exact aend_frz rfl ⟨by rw [show okG n g = decide (g.b < n) by unfold okG; apply decide_eq_decide.2; omega]; rfl, rfl⟩
      · simp only [wB, awp, asB, asN, St.ev, St.step, setS, killS, AV.kill, AV.killL, Mem.kill, decide_eq_false c5]
        exact aend_frz rfl ⟨by rw [show okG n g = false from decide_eq_false (by omega)]; rfl, rfl⟩
    · simp only [wB, awp, asB, asN, St.ev, St.step, setS, killS, AV.kill, AV.killL, Mem.kill, decide_eq_false c4]
      exact aend_frz rfl ⟨by rw [show okG n g = false from decide_eq_false (by omega)]; rfl, rfl⟩
  simp only [wB, awp, asN, St.ev, St.step, setS, killS, AV.kill, AV.killL, Mem.kill, Nat.reduceAdd, Int.reduceAdd, decide_eq_false c3'']
  exact aend_frz rfl ⟨by rw [show okG n g = false from decide_eq_false (by omega)]; rfl, rfl⟩

def idxG {α : Type} (l : List α) (p : α → Bool) : Int := match l.findIdx? p with | some i => (i : Int) | none => -1
theorem idxG_some {α : Type} {l : List α} {p : α → Bool} {k : Nat} (h : k < l.length) (hno : ∀ j, j < k → ∀ h : j < l.length, p l[j] = false) (hx : p l[k] = true) : idxG l p = k := by
  have : l.findIdx? p = some k := by
    rw [List.findIdx?_eq_some_iff_getElem]
    exact ⟨h, hx, fun j hj => by rw [hno j hj (by omega)]; simp⟩
  simp [idxG, this]
theorem idxG_none {α : Type} {l : List α} {p : α → Bool} (hno : ∀ j, ∀ h : j < l.length, p l[j] = false) : idxG l p = -1 := by
  have : l.findIdx? p = none := by
    rw [List.findIdx?_eq_none_iff]
    intro y hy
    obtain ⟨j, hj, rfl⟩ := List.mem_iff_getElem.1 hy
    exact hno j hj
  simp [idxG, this]
theorem idxG_any {α : Type} (l : List α) (p : α → Bool) : decide (0 ≤ idxG l p) = l.any p := by
  unfold idxG
  cases h : l.findIdx? p with
  | none =>
    rw [List.findIdx?_eq_none_iff] at h
    have : l.any p = false := by rw [List.any_eq_false]; intro x hx; rw [h x hx]; simp
    simp [this]
  | some i =>
    rw [List.findIdx?_eq_some_iff_getElem] at h
    obtain ⟨hi, hx, _⟩ := h
    have : l.any p = true := List.any_eq_true.2 ⟨_, List.getElem_mem hi, hx⟩
    simp [this]
theorem ok150 : okFn Tryz.prog 150 = true := by kernel_rfl
theorem s150 (l : List G4) (p : G4 → Bool) (f : FuncId) (cap : List AV) (hl : l.length ≤ 1000000) (hc : AV.pureL cap = true) (hs : ∀ z, ASpec Tryz.prog f (gA z :: cap) (fun r Ms => r = B (p z) ∧ Ms = [])) :
    ASpec Tryz.prog 150 [.s 4 (gtsA l), .f (.func f) cap] (fun r Ms => r = I (idxG l p) ∧ Ms = []) := by
  refine aspec_of (own := []) Tryz.func150 rfl ok150 ?_
  simp only [wB, awp, asN, lenA, St.ev, St.step, setS, killS, AV.kill, AV.killL, Mem.kill, Nat.reduceAdd, Nat.reduceSub, Int.reduceAdd, Int.reduceSub, lenK, Tryz.ntmps150]
  refine swp_loop' (fun k : Nat => ⟨[.s 4 (gtsA l), .f (.func f) cap, .bot, .bot, .bot, .bot, .bot, I l.length, I k, .bot, .bot, .bot, .bot, .bot, .bot, .bot, .bot, .bot, .bot], []⟩) (fun k => k ≤ l.length ∧ ∀ j, j < k → ∀ h : j < l.length, p l[j] = false) (fun k => l.length - k) 0 (le_sl (by simp [leSl, gtsA_len])) ⟨Nat.zero_le _, by omega⟩ ?_
  rintro k ⟨hk, hno⟩
  refine awp_sound (own := []) _ _ _ _ _ ?_
  simp only [wB, awp, binC, cmpC, asB, asI, St.ev, St.step, setS, killS, AV.kill, AV.killL, Mem.kill, Nat.reduceAdd, Int.reduceAdd]
  by_cases h : k < l.length
  · have h' : (k : Int) < (l.length : Int) := by omega
    simp only [wB, awp, idxC, asP, asS, asF, asI, asN, loadA, St.ev, St.step, setS, killS, AV.kill, AV.killL, Mem.kill, AV.cells, AV.flat, AV.single, Nat.reduceAdd, Nat.reduceLeDiff, Int.reduceAdd, decide_eq_true h', aget_gts h, Int.toNat_natCast]
    refine ⟨by omega, acall_v (hs l[k]) (by simp [AV.pureL, AV.pure, gA, hc]) rfl ?_⟩
    cases hx : p l[k] with
    | true =>
      simp only [wB, awp, asB, asN, St.ev, St.step, setS, killS, AV.kill, AV.killL, Mem.kill, Nat.reduceAdd, Int.reduceAdd]
      exact aend_frz rfl ⟨by rw [idxG_some h hno hx]; rfl, rfl⟩
    | false =>
      simp only [wB, awp, binC, arithC, cmpC, asB, asI, St.ev, St.step, setS, killS, AV.kill, AV.killL, Mem.kill, Nat.reduceAdd, Int.reduceAdd, isU]
      exact ⟨by unfold lim; omega, k + 1, le_sl (by simp [leSl, gtsA_len]), ⟨h, upto hno fun _ => hx⟩, by omega⟩
  · have h' : ¬ (k : Int) < (l.length : Int) := by omega
    simp only [wB, awp, asN, St.ev, St.step, setS, killS, AV.kill, AV.killL, Mem.kill, Nat.reduceAdd, Int.reduceAdd, Int.reduceNeg, decide_eq_false h']
    exact aend_frz rfl ⟨by rw [idxG_none fun j hj => hno j (by omega) hj]; rfl, rfl⟩

theorem ok118 : okFn Tryz.prog 118 = true := by kernel_rfl
theorem s118 (l : List G4) (p : G4 → Bool) (f : FuncId) (cap : List AV) (hl : l.length ≤ 1000000) (hc : AV.pureL cap = true) (hs : ∀ z, ASpec Tryz.prog f (gA z :: cap) (fun r Ms => r = B (p z) ∧ Ms = [])) :
    ASpec Tryz.prog 118 [.s 4 (gtsA l), .f (.func f) cap] (fun r Ms => r = B (l.any p) ∧ Ms = []) := by
  refine aspec_of (own := []) Tryz.func118 rfl ok118 ?_
  simp only [wB, awp, asN, St.ev, St.step, setS, killS, AV.kill, AV.killL, Mem.kill, Nat.reduceAdd, Nat.reduceSub, Int.reduceAdd, Int.reduceSub, Tryz.ntmps118]
  refine acall_v (s150 l p f cap hl hc hs) (by simp [AV.pureL, AV.pure, hc]) rfl ?_
  simp only [wB, awp, binC, cmpC, asI, asN, St.ev, St.step, setS, killS, AV.kill, AV.killL, Mem.kill, idxG_any]
  exact aend_frz rfl ⟨rfl, rfl⟩

theorem ok119 : okFn Tryz.prog 119 = true := by kernel_rfl
theorem s119 (n : Int) (g : G4) : ASpec Tryz.prog 119 [gA g, .p (I n) 0] (fun r Ms => r = B (!okG n g) ∧ Ms = []) := by
  refine aspec_of (own := []) Tryz.func119 rfl ok119 ?_
  simp only [wB, awp, asP, asN, loadA, St.ev, St.step, setS, killS, AV.kill, AV.killL, Mem.kill, AV.cells, AV.flat, AV.single, AV.cellular, AV.pure, AV.pureL, Nat.reduceAdd, Nat.reduceSub, Nat.reduceLeDiff, Int.reduceAdd, Int.reduceSub, Tryz.ntmps119, gA]
  refine acall_v (s120 n g) rfl rfl ?_
  simp only [wB, awp, asB, asN, St.ev, St.step, setS, killS, AV.kill, AV.killL, Mem.kill]
  exact aend_frz rfl ⟨rfl, rfl⟩

/-- the error of gates. -/
def vG (n : Int) (c : List G4) : Int := if ∀ g ∈ c, okG n g = true then 0 else 1
theorem ok87 : okFn Tryz.prog 87 = true := by kernel_rfl
theorem s87 (n : Int) (c : List G4) (hl : c.length ≤ 1000000) : ASpec Tryz.prog 87 [I n, .s 4 (gtsA c)] (fun r Ms => r = I (vG n c) ∧ Ms = []) := by
  refine aspec_of (own := []) Tryz.func87 rfl ok87 ?_
  simp only [wB, awp, asN, St.ev, St.step, setS, killS, AV.kill, AV.killL, Mem.kill, AV.single, AV.cellular, AV.pure, Value.oneCell', Nat.reduceAdd, Nat.reduceSub, Int.reduceAdd, Int.reduceSub, Tryz.ntmps87]
  refine ⟨rfl, acall_v (s118 c (fun g => !okG n g) 119 [.p (I n) 0] hl rfl (fun g => s119 n g)) rfl rfl ?_⟩
  by_cases ha : ∀ g ∈ c, okG n g = true
  · have hb : (c.any fun g => !okG n g) = false := by
      rw [List.any_eq_false]; intro z hz; simp [ha z hz]
    simp only [wB, awp, asB, asN, St.ev, St.step, setS, killS, AV.kill, AV.killL, Mem.kill, Nat.reduceAdd, Int.reduceAdd, hb]
    exact aend_frz rfl ⟨by rw [vG, if_pos ha]; rfl, rfl⟩
  · have hb : (c.any fun g => !okG n g) = true := by
      simp only [Classical.not_forall] at ha
      obtain ⟨g, hg, hn⟩ := ha
      exact List.any_eq_true.2 ⟨g, hg, by simpa using hn⟩
    simp only [wB, awp, asB, asN, St.ev, St.step, setS, killS, AV.kill, AV.killL, Mem.kill, Nat.reduceAdd, Int.reduceAdd, hb]
    exact aend_frz rfl ⟨by rw [vG, if_neg ha]; rfl, rfl⟩

/-- the first error of a circuit. -/
def vC (n : Int) (c : List G4) : Int := if n < 1 ∨ 4 < n then 1 else if 10 < c.length then 3 else vG n c
theorem ok49 : okFn Tryz.prog 49 = true := by kernel_rfl
theorem s49 (n : Int) (c : List G4) (hl : c.length ≤ 1000000) : ASpec Tryz.prog 49 [I n, .s 4 (gtsA c)] (fun r Ms => r = I (vC n c) ∧ Ms = []) := by
  refine aspec_of (own := []) Tryz.func49 rfl ok49 ?_
  simp only [wB, awp, binC, cmpC, asI, asN, St.ev, St.step, setS, killS, AV.kill, AV.killL, Mem.kill, Nat.reduceAdd, Nat.reduceSub, Int.reduceAdd, Int.reduceSub, Tryz.ntmps49]
  by_cases h1 : n < 1
  · simp only [wB, awp, asB, asN, St.ev, St.step, setS, killS, AV.kill, AV.killL, Mem.kill, Nat.reduceAdd, Int.reduceAdd, decide_eq_true h1]
    exact aend_frz rfl ⟨by rw [vC, if_pos (.inl h1)]; rfl, rfl⟩
  simp only [wB, awp, binC, cmpC, asB, asI, St.ev, St.step, setS, killS, AV.kill, AV.killL, Mem.kill, decide_eq_false h1]
  by_cases h2 : 4 < n
  · simp only [wB, awp, asN, St.ev, St.step, setS, killS, AV.kill, AV.killL, Mem.kill, Nat.reduceAdd, Int.reduceAdd, decide_eq_true h2]
    exact aend_frz rfl ⟨by rw [vC, if_pos (.inr h2)]; rfl, rfl⟩
  simp only [wB, awp, binC, cmpC, asB, asI, lenA, St.ev, St.step, setS, killS, AV.kill, AV.killL, Mem.kill, Nat.reduceAdd, Int.reduceAdd, lenK, decide_eq_false h2, gtsA_len]
  by_cases h3 : (10 : Int) < c.length
  · simp only [wB, awp, asN, St.ev, St.step, setS, killS, AV.kill, AV.killL, Mem.kill, Nat.reduceAdd, Int.reduceAdd, decide_eq_true h3]
    exact aend_frz rfl ⟨by rw [vC, if_neg (by omega), if_pos (by omega)]; rfl, rfl⟩
  simp only [wB, awp, St.ev, St.step, setS, killS, AV.kill, AV.killL, Mem.kill, Nat.reduceAdd, Int.reduceAdd, decide_eq_false h3]
  refine acall_v (s87 n c hl) rfl rfl ?_
  simp only [wB, awp, asN, St.ev, St.step, setS, killS, AV.kill, AV.killL, Mem.kill]
  exact aend_frz rfl ⟨by rw [vC, if_neg (by omega), if_neg (by omega)]; rfl, rfl⟩

end Go.Proofs.YtndniceeibflcaaGreatDoor

namespace Go.Proofs.YtndniceeibflcaaGreatDoor
open Aw Mp Go.RowKit
set_option linter.unusedSimpArgs false

theorem splB_take (c : UInt8) (L : By) : ∀ (i k : Nat), i ≤ k → (hk : k < L.length) → (∀ j, i ≤ j → j < k → ∀ h : j < L.length, L[j] ≠ c) → L[k] = c → splB c (L.drop i) = (L.take k).drop i :: splB c (L.drop (k + 1)) := by
  intro i k hik hk hno hc
  have e : L.drop i = (L.take k).drop i ++ c :: L.drop (k + 1) := by
    conv => lhs; rw [← List.take_append_drop k L]
    rw [List.drop_append, List.drop_eq_getElem_cons hk, hc]
    rw [show i - (L.take k).length = 0 by simp; omega]
    rfl
  rw [e, splB_at]
  intro hm
  obtain ⟨j, hj, he⟩ := List.mem_iff_getElem.1 hm
  simp at hj
  rw [List.getElem_drop, List.getElem_take] at he
  exact hno (i + j) (by omega) (by omega) (by omega) he
theorem splB_end (c : UInt8) (L : By) (i : Nat) (hno : ∀ j, i ≤ j → ∀ h : j < L.length, L[j] ≠ c) : splB c (L.drop i) = [L.drop i] := by
  rw [splB_no]
  intro hm
  obtain ⟨j, hj, he⟩ := List.mem_iff_getElem.1 hm
  simp at hj
  rw [List.getElem_drop] at he
  exact hno (i + j) (by omega) (by omega) he

theorem ok110 : okFn Tryz.prog 110 = true := by kernel_rfl
theorem s110 (L : By) (hL : L.length ≤ 1000) : ASpec Tryz.prog 110 [S L] (fun r Ms => r = .s 1 (strsA (splB 32 L)) ∧ Ms = []) := by
  refine aspec_of (own := [3]) Tryz.func110 rfl ok110 ?_
  simp only [wB, awp, asN, Aw.newRow, St.ev, St.step, setS, killS, AV.kill, AV.killL, Mem.kill, Nat.reduceAdd, Nat.reduceEqDiff, Nat.reduceSub, Int.reduceAdd, Int.reduceSub, Tryz.ntmps110]
  refine swp_loop' (fun s : List By × Nat × Nat => ⟨[S L, .bot, .bot, .o 0, I s.2.1, I s.2.2, .bot, .bot, .bot, .bot, .bot, .bot, .bot, .bot, .bot, .bot, .bot, .bot, .bot, .bot, .bot, .bot, .bot, .bot, .bot, .bot, .bot, .bot, .bot, .bot, .bot], [some ⟨none, 9, 1, strsA s.1⟩]⟩) (fun s => s.2.1 ≤ s.2.2 ∧ s.2.2 ≤ L.length ∧ splB 32 L = s.1 ++ splB 32 (L.drop s.2.1) ∧ (∀ j, s.2.1 ≤ j → j < s.2.2 → ∀ h : j < L.length, L[j] ≠ 32) ∧ s.1.length ≤ s.2.1) (fun s => L.length - s.2.2) ([], 0, 0) (le_sl (by simp [leSl])) ⟨Nat.le_refl _, Nat.zero_le _, by simp, fun j _ h => absurd h (Nat.not_lt_zero _), by simp⟩ ?_
  rintro ⟨p, i, k⟩ ⟨hik, hk, hs, hno, hp⟩
  simp only at hik hk hs hno hp
  refine awp_sound (own := [3]) _ _ _ _ _ ?_
  simp only [wB, awp, binC, cmpC, asB, asI, lenA, St.ev, St.step, setS, killS, AV.kill, AV.killL, Mem.kill, Nat.reduceAdd, Nat.reduceEqDiff, Int.reduceAdd, lenK]
  by_cases h : k < L.length
  · have h' : (k : Int) < L.length := by omega
    have hg : L.getD k 0 = L[k] := by rw [List.getD_eq_getElem?_getD, List.getElem?_eq_getElem h]; rfl
    have e32 : (((32 : UInt8).toNat : Nat) : Int) = 32 := rfl
    simp only [wB, awp, binC, cmpC, asB, asI, St.ev, St.step, setS, killS, AV.kill, AV.killL, Mem.kill, Nat.reduceAdd, Nat.reduceEqDiff, Int.reduceAdd, asStr, decide_eq_true h', Int.toNat_natCast, hg]
    refine ⟨⟨by omega, h'⟩, ?_⟩
    by_cases hc : L[k] = 32
    · have hc' : (L[k].toNat : Int) = 32 := by rw [hc]; rfl
      simp only [wB, awp, binC, arithC, cmpC, asO, asS, asI, asN, obA, bndA, St.ev, St.step, setS, killS, AV.kill, AV.killL, Mem.kill, AV.cells, AV.flat, AV.single, AV.cellular, AV.size, AV.pure, AV.pureL, Value.oneCell', Nat.reduceAdd, Nat.reduceEqDiff, Nat.reduceMul, Nat.reduceLeDiff, Int.reduceAdd, Int.reduceMul, isU, asStr, strsA_len, decide_eq_true hc', Int.toNat_natCast, strsA_kill, strsA_app]
      refine ⟨⟨by omega, by omega, by omega⟩, ⟨Nat.zero_lt_one, rfl⟩, ⟨Nat.zero_lt_one, by omega⟩, by unfold lim; omega, by unfold lim; omega, (p ++ [(L.take k).drop i], k + 1, k + 1), le_sl (by simp [leSl]), ⟨Nat.le_refl _, h, ?_, fun j (h1 : k + 1 ≤ j) (h2 : j < k + 1) => by omega, by simp; omega⟩, by simp; omega⟩
      rw [hs, splB_take 32 L i k hik h hno hc]
      simp
    · have hc' : ¬ (L[k].toNat : Int) = 32 := byte_ne hc
      simp only [wB, awp, binC, arithC, cmpC, asI, asN, St.ev, St.step, setS, killS, AV.kill, AV.killL, Mem.kill, Nat.reduceAdd, Nat.reduceEqDiff, Int.reduceAdd, isU, decide_eq_false hc']
      exact ⟨by unfold lim; omega, (p, i, k + 1), le_sl (by simp [leSl]), ⟨by simp only; omega, h, hs, fun j h1 h2 h3 => by
        simp only at h1 h2
        rcases Nat.lt_or_ge j k with h4 | h4
        · exact hno j h1 h4 h3
        · obtain rfl : j = k := by omega
          exact hc, hp⟩, by simp only; omega⟩
  · have h' : ¬ (k : Int) < L.length := by omega
    simp only [wB, awp, asO, asS, asN, obA, bndA, St.ev, St.step, setS, killS, AV.kill, AV.killL, Mem.kill, AV.cells, AV.flat, AV.single, AV.cellular, AV.size, AV.pure, AV.pureL, Value.oneCell', Nat.reduceAdd, Nat.reduceEqDiff, Nat.reduceMul, Nat.reduceLeDiff, Int.reduceAdd, Int.reduceMul, asStr, strsA_len, decide_eq_false h', Int.toNat_natCast]
    refine ⟨⟨by omega, by omega, by omega⟩, ⟨Nat.zero_lt_one, rfl⟩, ⟨Nat.zero_lt_one, by omega⟩, aend_frz rfl ⟨?_, rfl⟩⟩
    rw [hs, splB_end 32 L i fun j h1 h2 => hno j h1 (by omega) h2]
    simp [frz, AV.sub, AV.subL, strsA_pure, strsA_kill, strsA_app]

end Go.Proofs.YtndniceeibflcaaGreatDoor

namespace Go.Proofs.YtndniceeibflcaaGreatDoor
open Aw Mp Go.RowKit
set_option linter.unusedSimpArgs false

/-- a machine's state. -/
structure MS where
  place : List Int
  heats : List Int
  circ : List G4
  moves : Int
  cools : Int
  done : Int
  deriving DecidableEq

def MS.zero : MS := ⟨[], [], [], 0, 0, 0⟩
def bump (l : List Int) (i : Nat) (n : Int) : List Int := l.set i (min (l.getD i 0 + n) 1000)

/-- the error of a gate of one ion. -/
def er1 (lim : Int) (s : MS) (x y : Int) : Int := if y < 1 ∨ 16 ≤ y then 1 else if lim < s.heats.getD x.toNat 0 then 8 else if s.circ.length = 10 then 3 else 0
/-- the error of a gate of two ions. -/
def er2 (lim : Int) (ls : List (Int × Int)) (s : MS) (x y z : Int) : Int := if (z < 1 ∨ 16 ≤ z) ∨ x = y then 1 else if lnk ls (s.place.getD x.toNat 0) (s.place.getD y.toNat 0) = false then 9 else if lim < s.heats.getD x.toNat 0 ∨ lim < s.heats.getD y.toNat 0 then 8 else if s.circ.length = 10 then 3 else 0
/-- the error of an order. -/
def erS (n lim : Int) (ls : List (Int × Int)) (s : MS) (k : Nat) (x y z : Int) : Int :=
  match k with
  | 0 => if n ≤ x then 4 else if s.place.length = 4 then 3 else if x ∈ s.place then 6 else 0
  | 1 => if s.place.length ≤ x then 4 else if n ≤ y then 4 else if lnk ls (s.place.getD x.toNat 0) y = false then 8 else if y ∈ s.place then 6 else 0
  | 2 => if s.place.length ≤ x then 4 else 0
  | 3 => if x = 0 then 1 else 0
  | 4 => if s.place.length ≤ x then 4 else er1 lim s x y
  | 5 => if s.place.length ≤ x then 4 else er1 lim s x y
  | 6 => if s.place.length ≤ x ∨ s.place.length ≤ y then 4 else er2 lim ls s x y z
  | _ => if s.circ = [] then 9 else 0
/-- the state behind an order. -/
def nxS (s : MS) (k : Nat) (x y z : Int) : MS :=
  match k with
  | 0 => { s with place := s.place ++ [x], heats := s.heats ++ [0] }
  | 1 => { s with place := s.place.set x.toNat y, heats := bump s.heats x.toNat 3, moves := s.moves + 1 }
  | 2 => { s with heats := s.heats.set x.toNat 0, cools := s.cools + 1 }
  | 3 => { s with heats := s.heats.map fun h => min (h + x) 1000 }
  | 4 => { s with circ := s.circ ++ [⟨0, x, -1, y⟩], heats := bump s.heats x.toNat 1, done := s.done + 1 }
  | 5 => { s with circ := s.circ ++ [⟨1, x, -1, y⟩], heats := bump s.heats x.toNat 1, done := s.done + 1 }
  | 6 => { s with circ := s.circ ++ [⟨2, min x y, max x y, z⟩], heats := bump (bump s.heats x.toNat 2) y.toNat 2, done := s.done + 1 }
  | _ => { s with circ := [] }

/-- what is held of a state. -/
structure InvS (n : Int) (c : Nat) (s : MS) : Prop where
  p4 : s.place.length ≤ 4
  pin : ∀ z ∈ s.place, 0 ≤ z ∧ z < n
  pnd : s.place.Nodup
  hl : s.heats.length = s.place.length
  hin : ∀ h ∈ s.heats, 0 ≤ h ∧ h ≤ 1000
  c10 : s.circ.length ≤ 10
  cok : ∀ g ∈ s.circ, okG s.place.length g = true
  mv : 0 ≤ s.moves ∧ s.moves ≤ c
  co : 0 ≤ s.cools ∧ s.cools ≤ c
  dn : 0 ≤ s.done ∧ s.done ≤ c

theorem InvS.zero (n : Int) : InvS n 0 MS.zero := ⟨by simp [MS.zero], by simp [MS.zero], by simp [MS.zero], rfl, by simp [MS.zero], by simp [MS.zero], by simp [MS.zero], by simp [MS.zero], by simp [MS.zero], by simp [MS.zero]⟩
theorem InvS.emp {n : Int} {c : Nat} {s : MS} (h : InvS n c s) (h0 : s.place = []) : s.circ = [] := by
  cases hc : s.circ with
  | nil => rfl
  | cons g r =>
    have := h.cok g (by rw [hc]; simp)
    rw [h0] at this
    unfold okG at this
    have := of_decide_eq_true this
    simp at this
    omega
theorem getD_mem {l : List Int} {i : Nat} (h : i < l.length) : l.getD i 0 ∈ l := by
  rw [List.getD_eq_getElem?_getD, List.getElem?_eq_getElem h]
  exact List.getElem_mem h
theorem mem_set {l : List Int} {i : Nat} {v x : Int} (h : x ∈ l.set i v) : x ∈ l ∨ x = v := List.mem_or_eq_of_mem_set h
theorem bump_in {l : List Int} (hl : ∀ h ∈ l, 0 ≤ h ∧ h ≤ 1000) (i : Nat) {n : Int} (hn : 0 ≤ n) : ∀ h ∈ bump l i n, 0 ≤ h ∧ h ≤ 1000 := fun h hm => by
  rcases mem_set hm with hm | rfl
  · exact hl h hm
  · by_cases hi : i < l.length
    · have := hl _ (getD_mem hi); omega
    · rw [List.getD_eq_getElem?_getD, List.getElem?_eq_none (by omega)]; simp; omega
theorem bump_len (l : List Int) (i : Nat) (n : Int) : (bump l i n).length = l.length := by simp [bump]
theorem nodup_set {l : List Int} {i : Nat} {v : Int} (h : l.Nodup) (hv : v ∉ l) : (l.set i v).Nodup := by
  rw [List.nodup_iff_pairwise_ne, List.pairwise_iff_getElem] at h ⊢
  intro a b ha hb hab
  simp only [List.length_set] at ha hb
  rw [List.getElem_set, List.getElem_set]
  split
  · split
    · omega
    · exact fun e => hv (e ▸ List.getElem_mem _)
  · split
    · exact fun e => hv (e ▸ List.getElem_mem _)
    · exact h a b ha hb hab
theorem okG_mono {n m : Int} {g : G4} (h : okG n g = true) (hm : n ≤ m) : okG m g = true := by
  unfold okG at h ⊢
  have := of_decide_eq_true h
  exact decide_eq_true (by omega)

theorem InvS.next {n lim : Int} {ls : List (Int × Int)} {c : Nat} {s : MS} (h : InvS n c s) {k : Nat} {x y z : Int} (hx : 0 ≤ x) (hy : 0 ≤ y) (he : erS n lim ls s k x y z = 0) : InvS n (c + 1) (nxS s k x y z) := by
  obtain ⟨p4, pin, pnd, hl, hin, c10, cok, mv, co, dn⟩ := h
  match k with
  | 0 =>
    simp only [erS] at he
    split at he
    · cases he
    split at he
    · cases he
    split at he
    · cases he
    rename_i h1 h2 h3
    refine ⟨by simp [nxS]; omega, fun z hz => ?_, ?_, by simp [nxS, hl], fun q hq => ?_, c10, fun g hg => ?_, ⟨mv.1, by have := mv.2; simp only [nxS]; omega⟩, ⟨co.1, by have := co.2; simp only [nxS]; omega⟩, ⟨dn.1, by have := dn.2; simp only [nxS]; omega⟩⟩
    · simp only [nxS, List.mem_append, List.mem_singleton] at hz
      rcases hz with hz | rfl
      · exact pin z hz
      · omega
    · simp only [nxS]
      rw [List.nodup_append]
      exact ⟨pnd, by simp, fun a ha b hb => by simp at hb; subst hb; exact fun e => h3 (e ▸ ha)⟩
    · simp only [nxS, List.mem_append, List.mem_singleton] at hq
      rcases hq with hq | rfl
      · exact hin q hq
      · omega
    · exact okG_mono (cok g hg) (by simp [nxS]; omega)
  | 1 =>
    simp only [erS] at he
    split at he
    · cases he
    split at he
    · cases he
    split at he
    · cases he
    split at he
    · cases he
    rename_i h1 h2 h3 h4
    refine ⟨by simp [nxS]; omega, fun z hz => ?_, nodup_set pnd h4, by simp [nxS, hl, bump], bump_in hin _ (by omega), c10, fun g hg => okG_mono (cok g hg) (by simp [nxS]), ⟨by have := mv.1; simp only [nxS]; omega, by have := mv.2; simp only [nxS]; omega⟩, ⟨co.1, by have := co.2; simp only [nxS]; omega⟩, ⟨dn.1, by have := dn.2; simp only [nxS]; omega⟩⟩
    rcases mem_set hz with hz | rfl
    · exact pin z hz
    · omega
  | 2 =>
    simp only [erS] at he
    split at he
    · cases he
    refine ⟨p4, pin, pnd, by simp [nxS, hl], fun q hq => ?_, c10, cok, ⟨mv.1, by have := mv.2; simp only [nxS]; omega⟩, ⟨by have := co.1; simp only [nxS]; omega, by have := co.2; simp only [nxS]; omega⟩, ⟨dn.1, by have := dn.2; simp only [nxS]; omega⟩⟩
    rcases mem_set hq with hq | rfl
    · exact hin q hq
    · omega
  | 3 =>
    refine ⟨p4, pin, pnd, by simp [nxS, hl], fun q hq => ?_, c10, cok, ⟨mv.1, by have := mv.2; simp only [nxS]; omega⟩, ⟨co.1, by have := co.2; simp only [nxS]; omega⟩, ⟨dn.1, by have := dn.2; simp only [nxS]; omega⟩⟩
    simp only [nxS, List.mem_map] at hq
    obtain ⟨h, hh, rfl⟩ := hq
    have := hin h hh
    omega
  | 4 | 5 =>
    simp only [erS, er1] at he
    split at he
    · cases he
    split at he
    · cases he
    split at he
    · cases he
    split at he
    · cases he
    rename_i h1 h2 h3 h4
    refine ⟨p4, pin, pnd, by simp [nxS, hl, bump], bump_in hin _ (by omega), by simp [nxS]; omega, fun g hg => ?_, ⟨mv.1, by have := mv.2; simp only [nxS]; omega⟩, ⟨co.1, by have := co.2; simp only [nxS]; omega⟩, ⟨by have := dn.1; simp only [nxS]; omega, by have := dn.2; simp only [nxS]; omega⟩⟩
    simp only [nxS, List.mem_append, List.mem_singleton] at hg
    rcases hg with hg | rfl
    · exact cok g hg
    · unfold okG
      simp only [nxS, decide_eq_true_eq, true_or, or_true, true_and, and_true]
      omega
  | 6 =>
    simp only [erS, er2] at he
    split at he
    · cases he
    split at he
    · cases he
    split at he
    · cases he
    split at he
    · cases he
    split at he
    · cases he
    rename_i h1 h2 h3 h4 h5
    refine ⟨p4, pin, pnd, by simp [nxS, hl, bump], bump_in (bump_in hin _ (by omega)) _ (by omega), by simp [nxS]; omega, fun g hg => ?_, ⟨mv.1, by have := mv.2; simp only [nxS]; omega⟩, ⟨co.1, by have := co.2; simp only [nxS]; omega⟩, ⟨by have := dn.1; simp only [nxS]; omega, by have := dn.2; simp only [nxS]; omega⟩⟩
    simp only [nxS, List.mem_append, List.mem_singleton] at hg
    rcases hg with hg | rfl
    · exact cok g hg
    · unfold okG
      simp only [nxS, decide_eq_true_eq, true_or, or_true, true_and, and_true]
      omega
  | k + 7 =>
    exact ⟨p4, pin, pnd, hl, hin, by simp [nxS], by simp [nxS], ⟨mv.1, by have := mv.2; simp only [nxS]; omega⟩, ⟨co.1, by have := co.2; simp only [nxS]; omega⟩, ⟨dn.1, by have := dn.2; simp only [nxS]; omega⟩⟩

/-- the numbers of an order. -/
def nth (l : List Int) (i : Nat) : Int := l.getD i 0
def exO (s : MS) (o : By) : MS := match prs o with | some (k, l) => nxS s k (nth l 0) (nth l 1) (nth l 2) | none => s
/-- the state behind orders. -/
def stO (l : List By) : MS := l.foldl exO MS.zero
/-- the error of an order behind others. -/
def erO (n lim : Int) (ls : List (Int × Int)) (l : List By) (o : By) : Int := match prs o with | none => 2 | some (k, a) => if l.length = 100 then 3 else erS n lim ls (stO l) k (nth a 0) (nth a 1) (nth a 2)
def doO (n lim : Int) (ls : List (Int × Int)) (l : List By) (o : By) : List By := if erO n lim ls l o = 0 then l ++ [o] else l
/-- orders that are done. -/
inductive Acc (n lim : Int) (ls : List (Int × Int)) : List By → Prop
  | nil : Acc n lim ls []
  | snoc {l : List By} {o : By} : Acc n lim ls l → erO n lim ls l o = 0 → Acc n lim ls (l ++ [o])
theorem Acc.do {n lim : Int} {ls : List (Int × Int)} {l : List By} (h : Acc n lim ls l) (o : By) : Acc n lim ls (doO n lim ls l o) := by
  unfold doO
  split
  · exact .snoc h (by assumption)
  · exact h
theorem stO_snoc (l : List By) (o : By) : stO (l ++ [o]) = exO (stO l) o := by simp [stO]
theorem nth_lim {o : By} {k : Nat} {l : List Int} (h : prs o = some (k, l)) (i : Nat) : 0 ≤ nth l i ∧ nth l i ≤ 99 := by
  unfold nth
  by_cases hi : i < l.length
  · exact (prs_len h).2.2 _ (getD_mem hi)
  · rw [List.getD_eq_getElem?_getD, List.getElem?_eq_none (by omega)]; simp
theorem Acc.inv {n lim : Int} {ls : List (Int × Int)} {l : List By} (h : Acc n lim ls l) : l.length ≤ 100 ∧ InvS n l.length (stO l) := by
  induction h with
  | nil => exact ⟨Nat.zero_le _, InvS.zero n⟩
  | snoc h he ih =>
    rename_i l o
    obtain ⟨h1, h2⟩ := ih
    unfold erO at he
    rw [stO_snoc]
    unfold exO
    cases hp : prs o with
    | none => rw [hp] at he; cases he
    | some kl =>
      obtain ⟨k, a⟩ := kl
      rw [hp] at he
      simp only at he ⊢
      split at he
      · cases he
      refine ⟨by simp; omega, ?_⟩
      simp only [List.length_append, List.length_cons, List.length_nil]
      exact h2.next (nth_lim hp 0).1 (nth_lim hp 1).1 he
end Go.Proofs.YtndniceeibflcaaGreatDoor

namespace Go.Proofs.YtndniceeibflcaaGreatDoor
open Aw Mp Go.RowKit
set_option linter.unusedSimpArgs false

theorem getD_at {L : By} {k : Nat} (h : k < L.length) : L.getD k 0 = L[k] := by rw [List.getD_eq_getElem?_getD, List.getElem?_eq_getElem h]; rfl
theorem val_take {w : By} {k : Nat} (h : k < w.length) : valB (w.take (k + 1)) = 10 * valB (w.take k) + ((w[k].toNat : Int) - 48) := by
  rw [List.take_add_one, List.getElem?_eq_getElem h]
  simp only [Option.toList_some]
  unfold valB
  rw [List.foldl_append]
  rfl
theorem ok111 : okFn Tryz.prog 111 = true := by kernel_rfl
theorem s111 (w : By) : ASpec Tryz.prog 111 [S w] (fun r Ms => r = I (numB w) ∧ Ms = []) := by
  refine aspec_of (own := []) Tryz.func111 rfl ok111 ?_
  simp only [wB, awp, binC, cmpC, asI, asN, lenA, St.ev, St.step, setS, killS, AV.kill, AV.killL, Mem.kill, Nat.reduceAdd, Nat.reduceSub, Int.reduceAdd, Int.reduceSub, lenK, Tryz.ntmps111]
  by_cases h1 : (w.length : Int) < 1
  · simp only [wB, awp, asB, asN, St.ev, St.step, setS, killS, AV.kill, AV.killL, Mem.kill, Nat.reduceAdd, Int.reduceAdd, Int.reduceNeg, decide_eq_true h1]
    exact aend_frz rfl ⟨by rw [numB, if_pos (by omega)]; rfl, rfl⟩
  simp only [wB, binC, cmpC, asB, asI, lenA, St.ev, St.step, setS, killS, AV.kill, AV.killL, Mem.kill, lenK, decide_eq_false h1]
  by_cases h2 : (2 : Int) < w.length
  · simp only [wB, awp, asB, asN, St.ev, St.step, setS, killS, AV.kill, AV.killL, Mem.kill, Nat.reduceAdd, Int.reduceAdd, Int.reduceNeg, decide_eq_true h2]
    exact aend_frz rfl ⟨by rw [numB, if_pos (by omega)]; rfl, rfl⟩
  simp only [wB, binC, cmpC, asI, St.ev, St.step, setS, killS, AV.kill, AV.killL, Mem.kill, Int.reduceLE, asStr, decide_eq_false h2]
  refine ⟨by omega, ?_⟩
  have e48 : (((48 : UInt8).toNat : Nat) : Int) = 48 := rfl
  have hh : w.head? = some (w.getD 0 0) := by cases w with | nil => simp at h1 | cons a r => rfl
  by_cases h3 : ((w.getD 0 0).toNat : Int) = 48 ∧ (1 : Int) < w.length
  · simp only [wB, awp, binC, cmpC, asB, asI, asN, lenA, St.ev, St.step, setS, killS, AV.kill, AV.killL, Mem.kill, Nat.reduceAdd, Int.reduceAdd, Int.reduceNeg, lenK, decide_eq_true h3.1, decide_eq_true h3.2]
    refine aend_frz rfl ⟨?_, rfl⟩
    rw [numB, if_neg (by omega), if_pos ⟨by rw [hh, UInt8.toNat_inj.1 (show (w.getD 0 0).toNat = (48 : UInt8).toNat from by have := h3.1; omega)], by omega⟩]
    rfl
  have h3' : ¬ (w.head? = some 48 ∧ 1 < w.length) := fun h => h3 (by rw [hh] at h; simp only [Option.some.injEq] at h; rw [h.1]; exact ⟨rfl, by omega⟩)
  by_cases h4 : ((w.getD 0 0).toNat : Int) = 48
  case' pos => (have h5 : ¬ (1 : Int) < w.length := fun h => h3 ⟨h4, h⟩; simp only [wB, awp, binC, cmpC, asB, asI, asN, lenA, St.ev, St.step, setS, killS, AV.kill, AV.killL, Mem.kill, Nat.reduceAdd, Int.reduceAdd, Int.reduceNeg, lenK, decide_eq_true h4, decide_eq_false h5])
  case' neg => simp only [wB, awp, asB, asN, St.ev, St.step, setS, killS, AV.kill, AV.killL, Mem.kill, Nat.reduceAdd, Int.reduceAdd, Int.reduceNeg, decide_eq_false h4]
  all_goals
    refine swp_loop' (fun k : Nat => ⟨[S w, .bot, .bot, I (valB (w.take k)), I k, .bot, .bot, .bot, .bot, .bot, .bot, .bot, .bot, .bot, .bot, .bot, .bot, .bot, .bot, .bot, .bot, .bot, .bot, .bot, .bot, .bot, .bot, .bot, .bot, .bot, .bot, .bot, .bot, .bot, .bot, .bot, .bot, .bot, .bot, .bot, .bot, .bot, .bot, .bot, .bot, .bot, .bot, .bot], []⟩) (fun k => k ≤ w.length ∧ (∀ j, j < k → ∀ h : j < w.length, dig w[j] = true) ∧ 0 ≤ valB (w.take k) ∧ (k = 0 → valB (w.take k) = 0) ∧ (k = 1 → valB (w.take k) ≤ 9)) (fun k => w.length - k) 0 (le_sl (by simp [leSl, valB])) ⟨Nat.zero_le _, fun j h => absurd h (Nat.not_lt_zero _), by simp [valB], fun _ => by simp [valB], fun h => absurd h (by omega)⟩ ?_
    rintro k ⟨hk, hd, hv0, hv1, hv2⟩
    refine awp_sound (own := []) _ _ _ _ _ ?_
    simp only [wB, awp, binC, cmpC, asB, asI, lenA, St.ev, St.step, setS, killS, AV.kill, AV.killL, Mem.kill, Nat.reduceAdd, Int.reduceAdd, lenK]
    by_cases h : k < w.length
    · have h' : (k : Int) < w.length := by omega
      simp only [wB, awp, binC, cmpC, asI, St.ev, St.step, setS, killS, AV.kill, AV.killL, Mem.kill, Nat.reduceAdd, Int.reduceAdd, asStr, decide_eq_true h', Int.toNat_natCast, getD_at h]
      have bad : dig w[k] = false → numB w = -1 := fun hb => by
        rw [numB, if_neg (by omega), if_neg h3', if_pos]
        exact List.all_eq_false.2 ⟨_, List.getElem_mem h, by rw [hb]; simp⟩
      refine ⟨⟨by omega, h'⟩, ?_⟩
      by_cases c1 : (w[k].toNat : Int) < 48
      · simp only [wB, awp, asB, asN, St.ev, St.step, setS, killS, AV.kill, AV.killL, Mem.kill, Nat.reduceAdd, Int.reduceAdd, Int.reduceNeg, decide_eq_true c1]
        exact aend_frz rfl ⟨by rw [bad (decide_eq_false (by omega))]; rfl, rfl⟩
      simp only [wB, awp, binC, cmpC, asB, asI, St.ev, St.step, setS, killS, AV.kill, AV.killL, Mem.kill, asStr, decide_eq_false c1, Int.toNat_natCast, getD_at h]
      refine ⟨⟨by omega, h'⟩, ?_⟩
      by_cases c2 : (57 : Int) < w[k].toNat
      · simp only [wB, awp, asN, St.ev, St.step, setS, killS, AV.kill, AV.killL, Mem.kill, Nat.reduceAdd, Int.reduceAdd, Int.reduceNeg, decide_eq_true c2]
        exact aend_frz rfl ⟨by rw [bad (decide_eq_false (by omega))]; rfl, rfl⟩
      have hs1 : IntKind.u8.wrap ((w[k].toNat : Int) - 48) = (w[k].toNat : Int) - 48 := IntWalk.u8_in _ (by omega)
      have hs2 : IntKind.i64.wrap ((w[k].toNat : Int) - 48) = (w[k].toNat : Int) - 48 := IntWalk.i64_in _ (by omega)
      have hv3 : valB (w.take k) ≤ 9 := by
        rcases Nat.lt_or_ge k 1 with hk1 | hk1
        · have := hv1 (by omega); omega
        · exact hv2 (by omega)
      simp only [wB, awp, binC, arithC, cmpC, asI, asN, St.ev, St.step, setS, killS, AV.kill, AV.killL, Mem.kill, Nat.reduceAdd, Int.reduceAdd, isU, asStr, arithU, io3, io5, decide_eq_false c2, Int.toNat_natCast, getD_at h, hs1, hs2]
      refine ⟨by unfold lim; omega, ⟨by omega, h'⟩, by unfold lim; omega, by unfold lim; omega, k + 1, ?_, ⟨h, fun j h1 h2 => ?_, ?_, fun h => absurd h (by omega), fun hk1 => ?_⟩, by omega⟩
      · rw [val_take h]
        exact le_sl (by simp [leSl])
      · rcases Nat.lt_or_ge j k with h6 | h6
        · exact hd j h6 h2
        · obtain rfl : j = k := by omega
          exact decide_eq_true (by omega)
      · rw [val_take h]; omega
      · rw [val_take h, hv1 (by omega)]; omega
    · have h' : ¬ (k : Int) < w.length := by omega
      simp only [wB, awp, asN, St.ev, St.step, setS, killS, AV.kill, AV.killL, Mem.kill, Nat.reduceAdd, Int.reduceAdd, decide_eq_false h']
      refine aend_frz rfl ⟨?_, rfl⟩
      have hall : w.all dig = true := List.all_eq_true.2 fun x hx => by
        obtain ⟨j, hj, rfl⟩ := List.mem_iff_getElem.1 hx
        exact hd j (by omega) hj
      rw [numB, if_neg (by omega), if_neg h3', if_neg (by rw [hall]; simp), List.take_of_length_le (by omega)]
      rfl
end Go.Proofs.YtndniceeibflcaaGreatDoor

namespace Go.Proofs.YtndniceeibflcaaGreatDoor
open Aw Mp Go.RowKit
set_option linter.unusedSimpArgs false
set_option maxRecDepth 8000

theorem le_sl' {sl sl' : List AV} {M M' : Mem} (e : M = M') (h : leSl sl sl') : Le ⟨sl, M⟩ ⟨sl', M'⟩ := by subst e; exact le_sl h
def cntI : List Int := [1, 2, 1, 1, 2, 2, 3, 0]
theorem cntI_at : ∀ i : Fin 8, cntI.getD i.val 0 = ((cntL.getD i.val 0 : Nat) : Int) := by decide
theorem nameL_ne : ∀ i j : Fin 8, i ≠ j → nameL.getD i.val [] ≠ nameL.getD j.val [] := by decide
theorem kind_at {w : List By} {i : Nat} (hi : i < 8) (h1 : w.headD [] = nameL.getD i []) (h2 : w.length = cntL.getD i 0 + 1) : kindB w = some i := by
  have : nameL.idxOf? (w.headD []) = some i := by
    unfold List.idxOf?
    rw [List.findIdx?_eq_some_iff_getElem]
    refine ⟨hi, by rw [h1, List.getD_eq_getElem?_getD, List.getElem?_eq_getElem hi]; simp, fun j hj => ?_⟩
    have := nameL_ne ⟨j, by omega⟩ ⟨i, hi⟩ (by simp; omega)
    simp only [List.getD_eq_getElem?_getD] at this
    rw [List.getElem?_eq_getElem (show j < nameL.length from Nat.lt_trans hj hi), List.getElem?_eq_getElem (show i < nameL.length from hi)] at this
    rw [h1, List.getD_eq_getElem?_getD, List.getElem?_eq_getElem (show i < nameL.length from hi)]
    simpa using this
  unfold kindB
  rw [this]
  simp [h2]
theorem kind_no {w : List By} (h : ∀ i, i < 8 → ¬ (w.headD [] = nameL.getD i [] ∧ w.length = cntL.getD i 0 + 1)) : kindB w = none := by
  cases hk : kindB w with
  | none => rfl
  | some k =>
    obtain ⟨h1, h2, h3⟩ := kind_some hk
    exact absurd ⟨h2, h3⟩ (h k h1)

/-- what the document's reading answers. -/
def rdP (o : By) (r : AV) : Prop := match prs o with | none => ∃ a b c : Int, r = .t [S [], .g [I a, I b, I c], B false] | some (k, l) => r = .t [S (nameL.getD k []), .g [I (nth l 0), I (nth l 1), I (nth l 2)], B true]

theorem rd_none {o : By} (h : prs o = none) (a b c : Int) : rdP o (.t [S [], .g [I a, I b, I c], B false]) := by unfold rdP; rw [h]; exact ⟨a, b, c, rfl⟩
theorem prs_short {o : By} (h : o.length < 1 ∨ 30 < o.length) : prs o = none := by unfold prs; rw [if_pos h]
theorem prs_kind {o : By} (h : kindB (splB 32 o) = none) : prs o = none := by
  unfold prs
  rw [h]
  split <;> rfl
theorem prs_neg {o : By} {w : By} (hw : w ∈ (splB 32 o).drop 1) (hn : numB w < 0) : prs o = none := by
  unfold prs
  split
  · rfl
  · cases kindB (splB 32 o) with
    | none => rfl
    | some k =>
      simp only [Option.bind_some]
      rw [if_neg fun h => absurd (h w hw) (by omega)]
theorem prs_ok {o : By} {k : Nat} (h1 : 1 ≤ o.length ∧ o.length ≤ 30) (hk : kindB (splB 32 o) = some k) (hw : ∀ w ∈ (splB 32 o).drop 1, 0 ≤ numB w) : prs o = some (k, ((splB 32 o).drop 1).map numB) := by
  unfold prs
  rw [if_neg (by omega), hk]
  simp only [Option.bind_some]
  rw [if_pos hw]

theorem ok80 : okFn Tryz.prog 80 = true := by kernel_rfl
theorem s80 (o : By) (ho : o.length ≤ 9223372036854775807) : ASpec Tryz.prog 80 [S o] (fun r Ms => rdP o r ∧ Ms = []) := by
  refine aspec_of (own := [3, 5]) Tryz.func80 rfl ok80 ?_
  simp only [wB, awp, binC, cmpC, asI, asN, lenA, mkA, Aw.newRow, St.ev, St.step, setS, killS, AV.kill, AV.killL, Mem.kill, Nat.reduceAdd, Nat.reduceEqDiff, Nat.reduceSub, Int.reduceAdd, Int.reduceSub, lenK, Tryz.ntmps80]
  by_cases h1 : (o.length : Int) < 1
  · simp only [wB, awp, asB, St.ev, St.step, setS, killS, AV.kill, AV.killL, Mem.kill, decide_eq_true h1]
    refine swp_draw (own := [3, 5]) (.take 0 .reads [] (.take 1 .plain [] (.alt 2 (.take 3 .plain [] (.done)) (.nil)))) [⟨20, 32, 0, 0, true⟩, ⟨3, 0, 0, 0, true⟩, ⟨0, 524296, 3, 1, false⟩, ⟨5, 0, 7, 0, true⟩] mo (by kernel_rfl) ?_
    simp only [wB, awp, asP, asQ, asN, obA, loadA, storeA, putsA, St.ev, St.step, setS, killS, AV.kill, AV.killL, Mem.kill, AV.cells, AV.flat, AV.single, AV.cellular, Nat.reduceAdd, Nat.reduceEqDiff, Nat.reduceLeDiff, Int.reduceAdd, ASch, St.put, Md.mem, Md.need]
    exact aend_frz rfl ⟨rd_none (prs_short (by omega)) 0 0 0, rfl⟩
  simp only [wB, awp, binC, cmpC, asB, asI, lenA, St.ev, St.step, setS, killS, AV.kill, AV.killL, Mem.kill, lenK, decide_eq_false h1]
  by_cases h2 : (30 : Int) < o.length
  · simp only [awp, ACond_true, decide_eq_true h2]
    refine swp_draw (own := [3, 5]) (.take 0 .reads [] (.take 1 .plain [] (.alt 2 (.take 3 .plain [] (.done)) (.nil)))) [⟨20, 32, 0, 0, true⟩, ⟨3, 0, 0, 0, true⟩, ⟨0, 524296, 3, 1, false⟩, ⟨5, 0, 7, 0, true⟩] mo (by kernel_rfl) ?_
    simp only [wB, awp, asP, asQ, asN, obA, loadA, storeA, putsA, St.ev, St.step, setS, killS, AV.kill, AV.killL, Mem.kill, AV.cells, AV.flat, AV.single, AV.cellular, Nat.reduceAdd, Nat.reduceEqDiff, Nat.reduceLeDiff, Int.reduceAdd, ASch, St.put, Md.mem, Md.need]
    exact aend_frz rfl ⟨rd_none (prs_short (by omega)) 0 0 0, rfl⟩
  simp only [wB, awp, St.ev, St.step, setS, killS, AV.kill, AV.killL, Mem.kill, Nat.reduceAdd, Nat.reduceEqDiff, Int.reduceAdd, decide_eq_false h2]
  refine acall_v (s110 o (by omega)) rfl rfl ?_
  obtain ⟨W, hW⟩ : ∃ W, W = splB 32 o := ⟨_, rfl⟩
  have hWl := spl_len 32 o
  rw [← hW] at hWl ⊢
  simp only [wB, awp, asN, St.ev, St.step, setS, killS, AV.kill, AV.killL, Mem.kill, AV.cells, AV.flat, AV.single, AV.cellular, AV.size, AV.pure, AV.pureL, Value.oneCell', Nat.reduceAdd, Nat.reduceEqDiff, Nat.reduceMul, Nat.reduceLeDiff, Int.reduceAdd, Int.reduceMul]
  refine ⟨⟨Nat.zero_lt_one, rfl⟩, ⟨Nat.zero_lt_one, rfl⟩, ?_⟩
  refine swp_loop' (fun i : Nat => ⟨[S o, .bot, S [], .q 0 3 0 0, B false, .q 1 3 0 0, .s 1 (strsA W), .s 1 (strsA nameL), .s 1 (intsA cntI), I i, .bot, .bot, .bot, .bot, .bot, .bot, .bot, .bot, .bot, .bot, .bot, .bot, .bot, .bot, .bot, .bot, .bot, .bot, .bot, .bot, .bot, .bot, .bot, .bot, .bot, .bot, .bot, .bot, .bot, .bot, .bot, .bot, .bot, .bot, .bot, .bot, .bot, .bot, .bot, .bot, .bot, .bot, .bot, .bot, .bot, .bot, .bot, .bot, .bot, .bot, .bot, .bot, .bot, .bot, .bot, .bot, .bot, .bot, .bot, .bot, .bot, .bot, .bot, .bot, .bot], [some ⟨none, 126, 3, [.g [I 0, I 0, I 0]]⟩, some ⟨none, 126, 3, [.g [I 0, I 0, I 0]]⟩]⟩) (fun i => i ≤ 8 ∧ ∀ j, j < i → ¬ (W.headD [] = nameL.getD j [] ∧ W.length = cntL.getD j 0 + 1)) (fun i => 8 - i) 0 (le_sl (by simp [leSl, strsA, nameL, intsA, cntI])) ⟨Nat.zero_le _, fun j h => absurd h (Nat.not_lt_zero _)⟩ ?_
  rintro i ⟨hi, hno⟩
  refine awp_sound (own := [3, 5]) _ _ _ _ _ ?_
  simp only [wB, awp, binC, cmpC, asB, asI, lenA, St.ev, St.step, setS, killS, AV.kill, AV.killL, Mem.kill, Nat.reduceAdd, Nat.reduceEqDiff, Int.reduceAdd, lenK, strsA_len]
  have h8 : nameL.length = 8 := rfl
  have h8' : cntI.length = 8 := rfl
  by_cases h : i < 8
  · have h' : (i : Int) < (nameL.length : Int) := by omega
    simp only [awp, ACond_true, decide_eq_true h']
    have hWp : 0 < W.length := by omega
    have hi8 : i < nameL.length := h
    have hi8' : i < cntI.length := h
    refine swp_draw (own := [3, 5]) (.take 0 .plain [] (.take 1 .reads [] (.take 2 .reads [] (.take 3 .plain [] (.take 4 .plain [] (.take 5 .reads [] (.take 6 .reads [] (.take 7 .plain [] (.take 8 .plain [] (.take 9 .plain [] (.take 10 .reads [] (.take 11 .plain [] (.take 12 .plain [] (.take 13 .reads [] (.take 14 .reads [] (.take 15 .plain [] (.take 16 .plain [] (.take 17 .plain [] (.done))))))))))))))))))) [⟨31, 64, 0, 0, true⟩, ⟨32, 1073741824, 1, 0, true⟩, ⟨33, 2147483648, 2, 0, true⟩, ⟨34, 128, 0, 0, true⟩, ⟨35, 512, 0, 0, true⟩, ⟨36, 25769803776, 24, 0, true⟩, ⟨37, 34359738368, 32, 0, true⟩, ⟨38, 73014444032, 68, 0, true⟩, ⟨39, 137438953472, 128, 0, true⟩, ⟨40, 274877907008, 256, 0, true⟩, ⟨41, 824633720832, 768, 0, true⟩, ⟨42, 274877907200, 256, 0, true⟩, ⟨43, 274877907456, 256, 0, true⟩, ⟨44, 6871947673600, 6400, 0, true⟩, ⟨45, 9070970929152, 8448, 0, true⟩, ⟨46, 17867063951360, 16640, 0, true⟩, ⟨47, 36558761623552, 34048, 0, true⟩, ⟨48, 70643622084608, 65792, 0, true⟩] mo (by kernel_rfl) ?_
    simp only [wB, binC, idxC, eqC, asP, asS, asG, asB, asI, loadA, St.ev, setS, AV.cells, AV.flat, AV.single, Int.reduceLE, ASch, St.put, Md.mem, Md.need, asStr, strC, aget_strs hWp, aget_strs hi8, aget_ints hi8', Int.toNat_natCast]
    refine ⟨by omega, ?_⟩
    have hhd : W.headD [] = W[0] := by cases W with | nil => simp at hWp | cons a r => rfl
    have hnm : nameL.getD i [] = nameL[i]'hi8 := by rw [List.getD_eq_getElem?_getD, List.getElem?_eq_getElem hi8]; rfl
    have hct : cntI[i] = ((cntL.getD i 0 : Nat) : Int) := by
      rw [← cntI_at ⟨i, h⟩, List.getD_eq_getElem?_getD, List.getElem?_eq_getElem hi8']; rfl
    have hc3 : cntL.getD i 0 ≤ 3 := by
      have : ∀ i : Fin 8, cntL.getD i.val 0 ≤ 3 := by decide
      exact this ⟨i, h⟩
    rw [hhd] at hno
    have next : ¬ (W[0] = nameL[i]'hi8 ∧ W.length = cntL.getD i 0 + 1) → ∀ j, j < i + 1 → ¬ (W[0] = nameL.getD j [] ∧ W.length = cntL.getD j 0 + 1) := fun hn j hj => by
      rcases Nat.lt_or_ge j i with h1 | h1
      · exact hno j h1
      · obtain rfl : j = i := by omega
        rw [hnm]; exact hn
    by_cases c1 : W[0] = nameL[i]'hi8
    case neg =>
      simp only [wB, awp, binC, arithC, cmpC, asB, asI, asN, St.ev, St.step, setS, killS, AV.kill, AV.killL, Mem.kill, Nat.reduceAdd, Nat.reduceEqDiff, Int.reduceAdd, ASch, St.put, Md.mem, Md.need, isU, decide_eq_false c1]
      exact ⟨by unfold lim; omega, i + 1, le_sl (by simp [leSl]), ⟨h, by rw [hhd]; exact next fun hh => c1 hh.1⟩, by omega⟩
    simp only [wB, awp, binC, idxC, arithC, cmpC, asP, asS, asB, asI, lenA, loadA, St.ev, setS, AV.cells, AV.flat, AV.single, ASch, St.put, Md.mem, Md.need, isU, lenK, strsA_len, decide_eq_true c1, aget_ints hi8', Int.toNat_natCast, hct]
    refine ⟨by omega, by unfold lim; omega, ?_⟩
    by_cases c2 : (W.length : Int) = 1 + ((cntL.getD i 0 : Nat) : Int)
    case neg =>
      simp only [wB, awp, binC, arithC, cmpC, asI, asN, St.ev, St.step, setS, killS, AV.kill, AV.killL, Mem.kill, Nat.reduceAdd, Nat.reduceEqDiff, Int.reduceAdd, St.put, isU, decide_eq_false c2]
      exact ⟨by unfold lim; omega, i + 1, le_sl (by simp [leSl]), ⟨h, by rw [hhd]; exact next fun hh => c2 (by omega)⟩, by omega⟩
    simp only [wB, awp, asN, St.ev, St.step, setS, killS, AV.kill, AV.killL, Mem.kill, Nat.reduceAdd, Nat.reduceEqDiff, Int.reduceAdd, St.put, decide_eq_true c2]
    have hk : kindB W = some i := kind_at h (by rw [hhd, hnm]; exact c1) (by omega)
    refine swp_loop' (fun m : Nat => ⟨[S o, .bot, S [], .q 0 3 0 0, B false, .q 1 3 0 0, .s 1 (strsA W), .s 1 (strsA nameL), .s 1 (intsA cntI), I i, I m, .bot, .bot, .bot, .bot, .bot, .bot, .bot, .bot, .bot, .bot, .bot, .bot, .bot, .bot, .bot, .bot, .bot, .bot, .bot, .bot, .bot, .bot, .bot, .bot, .bot, .bot, .bot, .bot, .bot, .bot, .bot, .bot, .bot, .bot, .bot, .bot, .bot, .bot, .bot, .bot, .bot, .bot, .bot, .bot, .bot, .bot, .bot, .bot, .bot, .bot, .bot, .bot, .bot, .bot, .bot, .bot, .bot, .bot, .bot, .bot, .bot, .bot, .bot, .bot], [some ⟨none, 126, 3, [.g [I 0, I 0, I 0]]⟩, some ⟨none, 126, 3, [.g [I (nth (((W.drop 1).take m).map numB) 0), I (nth (((W.drop 1).take m).map numB) 1), I (nth (((W.drop 1).take m).map numB) 2)]]⟩]⟩) (fun m => m ≤ cntL.getD i 0 ∧ ∀ w ∈ (W.drop 1).take m, 0 ≤ numB w) (fun m => cntL.getD i 0 - m) 0 (le_sl (by simp [leSl, nth])) ⟨Nat.zero_le _, by simp⟩ ?_
    rintro m ⟨hm, hnn⟩
    refine awp_sound (own := [3, 5]) _ _ _ _ _ ?_
    simp only [wB, awp, binC, idxC, cmpC, asP, asS, asB, asI, loadA, St.ev, St.step, setS, killS, AV.kill, AV.killL, Mem.kill, AV.cells, AV.flat, AV.single, Nat.reduceAdd, Nat.reduceEqDiff, Int.reduceAdd, aget_ints hi8', Int.toNat_natCast, hct]
    refine ⟨by omega, ?_⟩
    by_cases d : m < cntL.getD i 0
    · have d' : (m : Int) < ((cntL.getD i 0 : Nat) : Int) := by omega
      have hml : m + 1 < W.length := by omega
      have em : ((1 : Int) + m).toNat = m + 1 := by omega
      have hnl := num_lim W[m + 1]
      have hmm : W[m + 1] ∈ W.drop 1 := List.mem_iff_getElem.2 ⟨m, by simp; omega, by simp [Nat.add_comm]⟩
      have htk : (W.drop 1).take (m + 1) = (W.drop 1).take m ++ [W[m + 1]] := by
        rw [List.take_add_one, List.getElem?_drop, Nat.add_comm 1 m, List.getElem?_eq_getElem hml]; rfl
      have hX : ((W.drop 1).take (m + 1)).map numB = ((W.drop 1).take m).map numB ++ [numB W[m + 1]] := by rw [htk]; simp
      have hXl : (((W.drop 1).take m).map numB).length = m := by simp; omega
      generalize hX0 : ((W.drop 1).take m).map numB = X at *
      have hm3 : m = 0 ∨ m = 1 ∨ m = 2 := by omega
      simp only [wB, awp, binC, idxC, arithC, cmpC, asP, asS, asI, loadA, St.ev, St.step, setS, killS, AV.kill, AV.killL, Mem.kill, AV.cells, AV.flat, AV.single, Nat.reduceAdd, Nat.reduceEqDiff, Int.reduceAdd, isU, decide_eq_true d', aget_strs hml, em]
      refine ⟨by unfold lim; omega, by omega, acall_v (s111 _) rfl rfl ?_⟩
      simp only [wB, idxC, asP, asQ, asI, obA, storeA, putsA, St.ev, St.step, setS, killS, AV.kill, AV.killL, Mem.kill, AV.cells, AV.flat, AV.single, AV.cellular, Value.oneCell', Nat.reduceAdd, Nat.reduceLeDiff, Int.reduceAdd]
      have store : ([I (nth X 0), I (nth X 1), I (nth X 2)].set m (I (numB W[m + 1]))) = [I (nth (X ++ [numB W[m + 1]]) 0), I (nth (X ++ [numB W[m + 1]]) 1), I (nth (X ++ [numB W[m + 1]]) 2)] := by
        match m, X, hXl, hm3 with
        | 0, [], _, _ => rfl
        | 1, [a], _, _ => rfl
        | 2, [a, b], _, _ => rfl
      have hget : ([I (nth (X ++ [numB W[m + 1]]) 0), I (nth (X ++ [numB W[m + 1]]) 1), I (nth (X ++ [numB W[m + 1]]) 2)] : List AV)[m]? = some (I (numB W[m + 1])) := by
        match m, X, hXl, hm3 with
        | 0, [], _, _ => rfl
        | 1, [a], _, _ => rfl
        | 2, [a, b], _, _ => rfl
      refine ⟨⟨by omega, by omega⟩, ?_⟩
      rw [if_pos (by rcases hm3 with rfl | rfl | rfl <;> decide)]
      simp only [wB, awp, idxC, asP, asQ, asI, obA, loadA, St.ev, St.step, setS, killS, AV.kill, AV.killL, Mem.kill, AV.cells, AV.flat, AV.single, Nat.reduceAdd, Nat.reduceEqDiff, Nat.reduceLeDiff, Int.reduceAdd, Int.toNat_natCast, Nat.mul_one, store]
      refine ⟨⟨by omega, by omega⟩, ?_⟩
      simp only [wB, awp, binC, cmpC, asB, asI, St.ev, St.step, setS, killS, AV.kill, AV.killL, Mem.kill, hget]
      by_cases f : numB W[m + 1] < 0
      · simp only [awp, ACond_true, decide_eq_true f]
        refine swp_draw (own := [3, 5]) (.take 0 .reads [] (.take 1 .plain [] (.alt 2 (.take 3 .plain [] (.done)) (.nil)))) [⟨69, 32, 0, 0, true⟩, ⟨3, 0, 0, 0, true⟩, ⟨0, 295147905179352825864, 3, 1, false⟩, ⟨5, 0, 7, 0, true⟩] mo (by kernel_rfl) ?_
        simp only [wB, awp, asP, asQ, asN, obA, loadA, storeA, putsA, St.ev, St.step, setS, killS, AV.kill, AV.killL, Mem.kill, AV.cells, AV.flat, AV.single, AV.cellular, Nat.reduceAdd, Nat.reduceEqDiff, Nat.reduceLeDiff, Int.reduceAdd, ASch, St.put, Md.mem, Md.need]
        exact aend_frz rfl ⟨rd_none (prs_neg (hW ▸ hmm) f) _ _ _, rfl⟩
      · simp only [wB, awp, binC, arithC, cmpC, asI, asN, St.ev, St.step, setS, killS, AV.kill, AV.killL, Mem.kill, Nat.reduceAdd, Nat.reduceEqDiff, Int.reduceAdd, isU, decide_eq_false f]
        refine ⟨by unfold lim; omega, m + 1, le_sl' ?_ (by simp [leSl]), ⟨by omega, fun w hw => ?_⟩, by omega⟩
        · rw [hX]
        · rw [htk] at hw
          rcases List.mem_append.1 hw with hw | hw
          · exact hnn w hw
          · rw [List.mem_singleton.1 hw]; omega
    · have d' : ¬ (m : Int) < ((cntL.getD i 0 : Nat) : Int) := by omega
      simp only [wB, awp, binC, arithC, cmpC, asI, asN, St.ev, St.step, setS, killS, AV.kill, AV.killL, Mem.kill, Nat.reduceAdd, Nat.reduceEqDiff, Int.reduceAdd, isU, decide_eq_false d']
      refine swp_draw (own := [3, 5]) (.take 0 .plain [] (.take 1 .plain [] (.take 2 .reads [] (.take 3 .reads [] (.take 4 .reads [] (.take 5 .plain [] (.alt 6 (.take 7 .plain [] (.done)) (.nil)))))))) [⟨70, 128, 0, 0, true⟩, ⟨71, 512, 0, 0, true⟩, ⟨72, 1770887431076116955136, 3, 0, true⟩, ⟨73, 2361183241434822606848, 4, 0, true⟩, ⟨74, 32, 0, 0, true⟩, ⟨3, 4722366482869645213696, 15, 0, true⟩, ⟨0, 9444732965739290427400, 63, 1, false⟩, ⟨5, 0, 127, 0, true⟩] mo (by kernel_rfl) ?_
      simp only [wB, awp, idxC, asP, asQ, asS, asI, asN, obA, loadA, storeA, putsA, St.ev, St.step, setS, killS, AV.kill, AV.killL, Mem.kill, AV.cells, AV.flat, AV.single, AV.cellular, Nat.reduceAdd, Nat.reduceEqDiff, Nat.reduceLeDiff, Int.reduceAdd, ASch, St.put, Md.mem, Md.need, aget_strs hi8, Int.toNat_natCast]
      have e : (W.drop 1).take m = W.drop 1 := List.take_of_length_le (by simp; omega)
      refine ⟨by omega, aend_frz rfl ⟨?_, rfl⟩⟩
      unfold rdP
      rw [prs_ok (by omega) (hW ▸ hk) (by rw [← hW, ← e]; exact hnn), ← hW, e]
      simp only [hnm]
      rfl
  · have h' : ¬ (i : Int) < (nameL.length : Int) := by omega
    simp only [awp, ACond_false, if_true, decide_eq_false h']
    refine swp_draw (own := [3, 5]) (.take 0 .reads [] (.take 1 .plain [] (.alt 2 (.take 3 .plain [] (.done)) (.nil)))) [⟨75, 32, 0, 0, true⟩, ⟨3, 0, 0, 0, true⟩, ⟨0, 18889465931478580854792, 3, 1, false⟩, ⟨5, 0, 7, 0, true⟩] mo (by kernel_rfl) ?_
    simp only [wB, awp, asP, asQ, asN, obA, loadA, storeA, putsA, St.ev, St.step, setS, killS, AV.kill, AV.killL, Mem.kill, AV.cells, AV.flat, AV.single, AV.cellular, Nat.reduceAdd, Nat.reduceEqDiff, Nat.reduceLeDiff, Int.reduceAdd, ASch, St.put, Md.mem, Md.need]
    refine aend_frz rfl ⟨rd_none (prs_kind (hW ▸ kind_no fun j hj => hno j (by omega))) 0 0 0, rfl⟩
end Go.Proofs.YtndniceeibflcaaGreatDoor

namespace Go.Proofs.YtndniceeibflcaaGreatDoor
open Aw Mp Go.RowKit
set_option linter.unusedSimpArgs false
set_option maxRecDepth 8000

theorem ok96 : okFn Tryz.prog 96 = true := by kernel_rfl
def frmL : List (Int × Int × Int × Int) := [(0, 1, 0, 0), (1, 2, 1, 1), (2, 1, 1, -1), (3, 1, 0, -1), (4, 2, 1, -1), (5, 2, 1, -1), (6, 3, 2, -1), (7, 0, 0, -1)]
def frmA (f : Int × Int × Int × Int) : AV := .g [I f.1, I f.2.1, I f.2.2.1, I f.2.2.2]
def strV (l : By) : Value := .string ⟨l.toArray⟩
theorem key9 : Maps.Keyed Tryz.prog 9 := Maps.string_keyed (by kernel_rfl)
theorem u9 : Tryz.prog.underlying 9 = some .string := by kernel_rfl
theorem key_ok9 {b : By} (hb : b.length ≤ 1000000) : ∃ l, keyOf Tryz.prog 9 (strV b) = some l := by
  have : (ByteArray.mk b.toArray).size ≤ maxLen := by show b.toArray.size ≤ maxLen; simp; unfold maxLen; omega
  simp [keyOf, u9, mapKey, strV, this]
theorem strV_inj {a b : By} (h : strV a = strV b) : a = b := by
  unfold strV at h
  simpa using h
theorem afind_out9 {ks : List Value} {v : Value} (l : List By) (b : By) (hk : ks = l.map strV) (hv : v = strV b) (hlb : b.length ≤ 1000000) (hll : ∀ x ∈ l, x.length ≤ 1000000) (hno : b ∉ l) {K : HK (Nat → Prop)} {F : HK Prop} (hF : F.k) : AFind Tryz.prog 9 ks v (K := K) (L := F) := by
  subst hk; subst hv
  refine ⟨⟨key9, key_ok9 hlb, fun u hu => ?_⟩, .inr ⟨fun u hu he => ?_, hF⟩⟩
  · obtain ⟨x, hx, rfl⟩ := List.mem_map.1 hu
    exact key_ok9 (hll x hx)
  · obtain ⟨x, hx, rfl⟩ := List.mem_map.1 hu
    exact hno (strV_inj he ▸ hx)
theorem afind_in9 {ks : List Value} {v : Value} (l : List By) (b : By) (i : Nat) (hk : ks = l.map strV) (hv : v = strV b) (hlb : b.length ≤ 1000000) (hll : ∀ x ∈ l, x.length ≤ 1000000) (hnd : l.Nodup) (hi : i < l.length) (hb : l[i] = b) {K : HK (Nat → Prop)} {F : HK Prop} (hK : K.k i) : AFind Tryz.prog 9 ks v (K := K) (L := F) := by
  subst hk; subst hv; subst hb
  refine ⟨⟨key9, key_ok9 hlb, fun u hu => ?_⟩, .inl ⟨i, ⟨?_, fun j hj => ?_⟩, hK⟩⟩
  · obtain ⟨x, hx, rfl⟩ := List.mem_map.1 hu
    exact key_ok9 (hll x hx)
  · rw [List.getElem?_map, List.getElem?_eq_getElem hi]; rfl
  · rw [List.getElem?_map, Option.map_eq_some_iff] at hj
    obtain ⟨x, hx, he⟩ := hj
    obtain ⟨h1, h2⟩ := List.getElem?_eq_some_iff.1 hx
    have e : l[j] = l[i] := h2.trans (strV_inj he)
    rw [List.Nodup, List.pairwise_iff_getElem] at hnd
    rcases Nat.lt_trichotomy i j with hlt | he | hgt
    · exact absurd e.symm (hnd i j hi h1 hlt)
    · exact he.symm
    · exact absurd e (hnd j i h1 hi hgt)
theorem mo142 : mapOf Tryz.prog 142 = some (9, 112) := by kernel_rfl
theorem s96 : ASpec Tryz.prog 96 [] (fun r Ms => r = .o 0 ∧ Ms = [⟨some (nameL.map strV), 142, 0, frmL.map frmA⟩]) := by
  refine aspec_of (own := []) Tryz.func96 rfl ok96 ?_
  simp only [wB, awp, asO, asN, obA, fillA, putsA, St.ev, St.step, setS, killS, AV.kill, AV.killL, Mem.kill, AV.cells, AV.flat, AV.single, AV.cellular, Value.oneCell', Nat.reduceAdd, Nat.reduceSub, Nat.reduceLeDiff, Int.reduceAdd, Int.reduceSub, Int.reduceNeg, Aw.valOf, Tryz.ntmps96, mo142, Aw.valOf]
  refine afind_out9 [] [108, 111, 97, 100] rfl rfl (by decide) (by decide) (by decide) ?_
  simp only [wB, asO, obA, fillA, putsA, St.ev, St.step, setS, killS, AV.kill, AV.killL, Mem.kill, AV.cells, AV.flat, AV.single, AV.cellular, Value.oneCell', Nat.reduceAdd, Nat.reduceLeDiff, Int.reduceAdd, Int.reduceNeg, Aw.valOf, mo142, Aw.valOf]
  refine afind_out9 [[108, 111, 97, 100]] [109, 111, 118, 101] rfl rfl (by decide) (by decide) (by decide) ?_
  simp only [wB, asO, obA, fillA, putsA, St.ev, St.step, setS, killS, AV.kill, AV.killL, Mem.kill, AV.cells, AV.flat, AV.single, AV.cellular, Value.oneCell', Nat.reduceAdd, Nat.reduceLeDiff, Int.reduceAdd, Int.reduceNeg, Aw.valOf, mo142, Aw.valOf]
  refine afind_out9 [[108, 111, 97, 100], [109, 111, 118, 101]] [99, 111, 111, 108] rfl rfl (by decide) (by decide) (by decide) ?_
  simp only [wB, asO, obA, fillA, putsA, St.ev, St.step, setS, killS, AV.kill, AV.killL, Mem.kill, AV.cells, AV.flat, AV.single, AV.cellular, Value.oneCell', Nat.reduceAdd, Nat.reduceLeDiff, Int.reduceAdd, Int.reduceNeg, Aw.valOf, mo142, Aw.valOf]
  refine afind_out9 [[108, 111, 97, 100], [109, 111, 118, 101], [99, 111, 111, 108]] [119, 97, 105, 116] rfl rfl (by decide) (by decide) (by decide) ?_
  simp only [wB, asO, obA, fillA, putsA, St.ev, St.step, setS, killS, AV.kill, AV.killL, Mem.kill, AV.cells, AV.flat, AV.single, AV.cellular, Value.oneCell', Nat.reduceAdd, Nat.reduceLeDiff, Int.reduceAdd, Int.reduceNeg, Aw.valOf, mo142, Aw.valOf]
  refine afind_out9 [[108, 111, 97, 100], [109, 111, 118, 101], [99, 111, 111, 108], [119, 97, 105, 116]] [116, 117, 114, 110] rfl rfl (by decide) (by decide) (by decide) ?_
  simp only [wB, asO, obA, fillA, putsA, St.ev, St.step, setS, killS, AV.kill, AV.killL, Mem.kill, AV.cells, AV.flat, AV.single, AV.cellular, Value.oneCell', Nat.reduceAdd, Nat.reduceLeDiff, Int.reduceAdd, Int.reduceNeg, Aw.valOf, mo142, Aw.valOf]
  refine afind_out9 [[108, 111, 97, 100], [109, 111, 118, 101], [99, 111, 111, 108], [119, 97, 105, 116], [116, 117, 114, 110]] [115, 112, 105, 110] rfl rfl (by decide) (by decide) (by decide) ?_
  simp only [wB, asO, obA, fillA, putsA, St.ev, St.step, setS, killS, AV.kill, AV.killL, Mem.kill, AV.cells, AV.flat, AV.single, AV.cellular, Value.oneCell', Nat.reduceAdd, Nat.reduceLeDiff, Int.reduceAdd, Int.reduceNeg, Aw.valOf, mo142, Aw.valOf]
  refine afind_out9 [[108, 111, 97, 100], [109, 111, 118, 101], [99, 111, 111, 108], [119, 97, 105, 116], [116, 117, 114, 110], [115, 112, 105, 110]] [106, 111, 105, 110] rfl rfl (by decide) (by decide) (by decide) ?_
  simp only [wB, asO, obA, fillA, putsA, St.ev, St.step, setS, killS, AV.kill, AV.killL, Mem.kill, AV.cells, AV.flat, AV.single, AV.cellular, Value.oneCell', Nat.reduceAdd, Nat.reduceLeDiff, Int.reduceAdd, Int.reduceNeg, Aw.valOf, mo142, Aw.valOf]
  refine afind_out9 [[108, 111, 97, 100], [109, 111, 118, 101], [99, 111, 111, 108], [119, 97, 105, 116], [116, 117, 114, 110], [115, 112, 105, 110], [106, 111, 105, 110]] [100, 114, 111, 112] rfl rfl (by decide) (by decide) (by decide) ?_
  simp only [wB, awp, asN, St.ev, St.step, setS, killS, AV.kill, AV.killL, Mem.kill, Int.reduceNeg]
  exact aend_exp 0 rfl rfl rfl ⟨rfl, rfl⟩
end Go.Proofs.YtndniceeibflcaaGreatDoor

namespace Go.Proofs.YtndniceeibflcaaGreatDoor
namespace Aw
open Go.RowKit
set_option linter.unusedSimpArgs false

/-- the objects ix are kept; they are 0, 1 .. now. -/
theorem memR_ren {A : Nat → Prop} {w : World} {hv : Nat → Option Value} {M : Mem} (ix : List Nat) (hnd : ix.Nodup) (hM : MemR A w hv M) :
    ∃ hv2, MemR A w hv2 (reM ix M) ∧ (∀ x v, RV w (OwnA A hv) hv x v → RV w (OwnA A hv2) hv2 (AV.sub (reF ix) (reG ix) x) v) ∧ ∀ b, Own hv2 b → Own hv b := by
  obtain ⟨hv2, hE⟩ : ∃ hv2 : Nat → Option Value, hv2 = fun j => match ix[j]? with | some i => hv i | none => none := ⟨_, rfl⟩
  have h2 : ∀ j i, ix[j]? = some i → hv2 j = hv i := fun j i h => by rw [hE]; simp only [h]
  have h3 : ∀ j v, hv2 j = some v → ∃ i, ix[j]? = some i ∧ hv i = some v := fun j v h => by
    rw [hE] at h
    simp only at h
    cases hi : ix[j]? with
    | none => rw [hi] at h; cases h
    | some i => rw [hi] at h; exact ⟨i, rfl, h⟩
  have hO : ∀ b, Own hv2 b → Own hv b := by
    rintro b ⟨j, v, hj, hb⟩
    obtain ⟨i, _, hi⟩ := h3 j v hj
    exact ⟨i, v, hi, hb⟩
  have hk : Keeps w (OwnA A hv) w (OwnA A hv2) := ⟨Nat.le_refl _, fun _ _ _ => rfl, fun b _ h => h.elim .inl fun h => .inr (hO b h)⟩
  have sF : ∀ i, (reF ix i).single = true := fun i => by unfold reF; split <;> rfl
  have sG : ∀ i k j off, (reG ix i k j off).single = true := fun i k j off => by unfold reG; split <;> rfl
  have hFF : ∀ i v, hv i = some v → v.oneCell' = true → R w (OwnA A hv2) hv2 (reF ix i) [v] := by
    intro i v hi h1
    unfold reF
    split
    · rename_i j hj
      simp only [R]
      exact ⟨v, by rw [h2 j i (idx_at hj)]; exact hi, rfl, h1⟩
    · simp only [R]; exact ⟨v, rfl, h1⟩
  have hGG : ∀ i k j off us, R w (OwnA A hv) hv (.q i k j off) us → R w (OwnA A hv2) hv2 (reG ix i k j off) us := by
    intro i k j off us h
    unfold reG
    split
    · rename_i m hm
      simp only [R] at h ⊢
      obtain ⟨b, n, c, e1, e2⟩ := h
      exact ⟨b, n, c, by rw [h2 m i (idx_at hm)]; exact e1, e2⟩
    · exact R_botq h
  refine ⟨hv2, ⟨fun j ob hj => ?_, fun j v hj => ?_, fun j1 j2 v1 v2 b e1 e2 b1 b2 => ?_, hM.old, hM.gl.1, fun b h => hM.gl.2 b (hO b h)⟩, fun x v h => RV_subk hk hFF sF hGG sG x v h, hO⟩
  · unfold reM at hj
    simp only [List.getElem?_map, Option.map_eq_some_iff] at hj
    obtain ⟨i, hi, hj⟩ := hj
    cases ho : M[i]? with
    | none => rw [ho] at hj; simp at hj
    | some o =>
      rw [ho] at hj
      simp only [Option.getD_some, Option.map_eq_some_iff] at hj
      obtain ⟨ob0, rfl, rfl⟩ := hj
      obtain ⟨v, e1, hob⟩ := hM.live i ob0 ho
      refine ⟨v, by rw [h2 j i hi]; exact e1, ?_⟩
      cases hm : ob0.mp with
      | some ks =>
        obtain ⟨vals, g1, g3⟩ := hob.map hm
        exact ObR.of_map (ks := ks) rfl ⟨vals, g1, RVL_subk hk hFF sF hGG sG _ _ g3⟩
      | none =>
        obtain ⟨us, g1, g2, g3⟩ := hob.row hm
        refine ObR.of_row rfl ⟨us, ?_, fun x hx => ?_, RL_subk hk hFF sF hGG sG _ _ g3⟩
        · simp only [AV.subL_map, List.length_map]; exact g1
        · simp only [AV.subL_map, List.mem_map] at hx
          obtain ⟨y, hy, rfl⟩ := hx
          rw [size_sub sF sG]; exact g2 y hy
  · obtain ⟨i, hi, hv0⟩ := h3 j v hj
    obtain ⟨ob, hob⟩ := hM.dom i v hv0
    refine ⟨{ ob with xs := AV.subL (reF ix) (reG ix) ob.xs }, ?_⟩
    unfold reM
    rw [List.getElem?_map, hi, Option.map_some, hob]
    rfl
  · obtain ⟨i1, hi1, hv1⟩ := h3 j1 v1 e1
    obtain ⟨i2, hi2, hv2'⟩ := h3 j2 v2 e2
    have := hM.inj i1 i2 v1 v2 b hv1 hv2' b1 b2
    subst this
    obtain ⟨l1, g1⟩ := List.getElem?_eq_some_iff.1 hi1
    obtain ⟨l2, g2⟩ := List.getElem?_eq_some_iff.1 hi2
    have hp := List.pairwise_iff_getElem.1 hnd
    rcases Nat.lt_trichotomy j1 j2 with h | h | h
    · exact absurd (g1.trans g2.symm) (hp j1 j2 l1 l2 h)
    · exact h
    · exact absurd (g2.trans g1.symm) (hp j2 j1 l2 l1 h)

theorem ret_ren (M : Mem) (x : AV) (ix : List Nat) (hnd : ix.Nodup) (Ms : List Ob) (hMs : reM ix M = Ms.map some) : Ret M x (AV.sub (reF ix) (reG ix) x) Ms := by
  intro A w hv v hM _ hx
  obtain ⟨hv2, h1, h2, h3⟩ := memR_ren ix hnd hM
  exact ⟨hv2, hMs ▸ h1, h2 x v hx, h3⟩
/-- the end of a function that hands back the objects ix. -/
theorem aend_ren {P : Program} {rs : List ResultVar} {post : AV → List Ob → Prop} {σ : St} {x : AV} (ix : List Nat) (hnd : ix.Nodup) (Ms : List Ob) (hx : resA P rs σ = some x) (hMs : reM ix σ.M = Ms.map some) (hp : post (AV.sub (reF ix) (reG ix) x) Ms) : AEnd P rs post σ := ⟨x, hx, _, _, ret_ren σ.M x ix hnd Ms hMs, hp⟩

/-- the objects are read; a pointer into one reads as its element does, n times. -/
def frzN (M : Mem) : Nat → AV → AV
  | 0 => frz M
  | n + 1 => AV.sub (fun i => match M[i]? with | some (some ob) => if (ob.mp.isNone && AV.pureL ob.xs) = true then .s ob.k ob.xs else .bot | _ => .bot) (fun i k j off => match M[i]? with | some (some ob) => if (ob.mp.isNone && ob.k == k && decide (j < ob.xs.length)) = true then .p (frzN M n (ob.xs.getD j .bot)) off else .bot | _ => .bot)

theorem frzN_G {A : Nat → Prop} {M : Mem} {w : World} {hv : Nat → Option Value} (hM : MemR A w hv M) (n : Nat) (ih : ∀ {x : AV} {us : List Value}, R w (OwnA A hv) hv x us → R w (fun _ => False) noHv (frzN M n x) us) (i k j off : Nat) (us : List Value) (h : R w (OwnA A hv) hv (.q i k j off) us) :
    R w (fun _ => False) noHv (match M[i]? with | some (some ob) => if (ob.mp.isNone && ob.k == k && decide (j < ob.xs.length)) = true then .p (frzN M n (ob.xs.getD j .bot)) off else .bot | _ => .bot) us := by
  have h0 := h
  simp only [R] at h
  obtain ⟨b, n, c, hb, rfl⟩ := h
  obtain ⟨ob, hob⟩ := hM.dom i _ hb
  simp only [hob]
  by_cases hp : (ob.mp.isNone && ob.k == k && decide (j < ob.xs.length)) = true
  · rw [if_pos hp]
    simp only [Bool.and_eq_true, Option.isNone_iff_eq_none, beq_iff_eq, decide_eq_true_eq] at hp
    obtain ⟨⟨hm, rfl⟩, hj⟩ := hp
    obtain ⟨g, cap, ws, e, h1, h2⟩ := ob_cells (hM_ob hM hob hb) hm hj
    injection e with e
    injection e with e
    injection e with e
    subst e
    simp only [R]
    exact ⟨b, j * ob.k, ws, rfl, ih h1, b, j * ob.k, rfl, hM.own_lt ⟨i, _, hb, rfl⟩, fun h => h, h2⟩
  · rw [if_neg hp]
    exact R_botq h0
theorem frzN_G1 (M : Mem) (n i k j off : Nat) : AV.single (match M[i]? with | some (some ob) => if (ob.mp.isNone && ob.k == k && decide (j < ob.xs.length)) = true then .p (frzN M n (ob.xs.getD j .bot)) off else .bot | _ => .bot) = true := by
  split
  · split <;> rfl
  · rfl
theorem frzN_R {A : Nat → Prop} {M : Mem} {w : World} {hv : Nat → Option Value} (hM : MemR A w hv M) : ∀ (n : Nat) {x : AV} {us : List Value}, R w (OwnA A hv) hv x us → R w (fun _ => False) noHv (frzN M n x) us
  | 0, x, us, hx => frz_R hM hx
  | n + 1, x, us, hx => R_sub (T := OwnA A hv) (T' := fun _ => False) (hv := hv) (hv' := noHv) (fun b h => h.elim) (fun i v h => frz_oR hM h) (fun i => frz_o1 M i) (fun i k j off us h => frzN_G hM n (frzN_R hM n) i k j off us h) (fun i k j off => frzN_G1 M n i k j off) x us hx
theorem coe_frzN (M : Mem) (n : Nat) (x : AV) : Coe true M x (frzN M n x) := by
  cases n with
  | zero => exact coe_frz M x
  | succ n =>
    intro A w hv v hM hx
    exact RV_sub (T := OwnA A hv) (T' := fun _ => False) (hv := hv) (hv' := noHv) (fun b h => h.elim) (fun i v h => frz_oR hM h) (fun i => frz_o1 M i) (fun i k j off us h => frzN_G hM n (frzN_R hM n) i k j off us h) (fun i k j off => frzN_G1 M n i k j off) x v hx
theorem coel_frzN (M : Mem) (n : Nat) : ∀ (aS : List AV), CoeL true M aS (aS.map (frzN M n))
  | [] => trivial
  | a :: aS => ⟨coe_frzN M n a, coel_frzN M n aS⟩

/-- behind a piece of code one state holds, however it was come to. -/
theorem swp_to {P : Program} {c : Code} {N : HN} {E : HE} {Rt : HR} {σ : St} (σ' : St) (h : @SWp P c σ ⟨fun s => Le s σ'⟩ E Rt) (hN : N.k σ') : @SWp P c σ N E Rt := fun C a w hS => by
  refine wp_mono (h C a w hS) fun e a' w' hq => ?_
  cases e with
  | normal => obtain ⟨s, h1, h2⟩ := hq; exact ⟨σ', hN, h1 C a' w' h2⟩
  | exit id => exact hq
  | ret => exact hq
  | goto l => exact hq
  | panic ch => exact hq
  | outgrown => exact hq

theorem le_rn {sl sl' : List AV} {M M' : Mem} (ix : List Nat) (hnd : ix.Nodup) (hM : reM ix M = M') (h : leSl (sl.map (AV.sub (reF ix) (reG ix))) sl') : Le ⟨sl, M⟩ ⟨sl', M'⟩ := by
  subst hM
  exact Le.trans (le_ren ix hnd) (le_sl h)

/-- a call whose result is a value; objects, and pointers to them, are lent. -/
theorem acall_ln {P : Program} {f : FuncId} {aS bs : List AV} {M : Mem} {K : HK (AV → Mem → Prop)} {x : AV} (n : Nat) (spec : ASpec P f bs (fun r Ms => r = x ∧ Ms = [])) (hb : aS.map (frzN M n) = bs) (hx : x.pure = true) (ht : x.tfree = true) (h : K.k x M) : ACall P f aS M (K := K) := by
  refine ⟨true, bs, _, hb ▸ coel_frzN M n aS, spec, ?_⟩
  rintro r Ms ⟨rfl, rfl⟩
  refine ⟨fun e => ⟨ht, by simp⟩, ?_⟩
  rw [AV.up, AV.sub_pure _ _ _ hx]
  simpa using h
/-- a call that hands back several objects. -/
theorem acall_os {P : Program} {f : FuncId} {aS : List AV} {M : Mem} {K : HK (AV → Mem → Prop)} {x : AV} {Ms : List Ob} (spec : ASpec P f aS (fun r Ns => r = x ∧ Ns = Ms)) (ha : AV.pureL aS = true) (h : K.k (x.up M.length) (M ++ Ms.map fun ob => some (ob.up M.length))) : ACall P f aS M (K := K) := by
  refine ⟨false, aS, _, coel_pure ha, spec, ?_⟩
  rintro r Ns ⟨rfl, rfl⟩
  exact ⟨fun e => (by cases e), h⟩
/-- a call that is lent objects, and hands back several of its own. -/
theorem acall_los {P : Program} {f : FuncId} {aS bs : List AV} {M : Mem} {K : HK (AV → Mem → Prop)} {x : AV} {Ms : List Ob} (n : Nat) (spec : ASpec P f bs (fun r Ns => r = x ∧ Ns = Ms)) (hb : aS.map (frzN M n) = bs) (hx : x.tfree = true) (ht : ∀ ob ∈ Ms, AV.tfreeL ob.xs = true) (h : K.k (x.up M.length) (M ++ Ms.map fun ob => some (ob.up M.length))) : ACall P f aS M (K := K) := by
  refine ⟨true, bs, _, hb ▸ coel_frzN M n aS, spec, ?_⟩
  rintro r Ns ⟨rfl, rfl⟩
  exact ⟨fun _ => ⟨hx, ht⟩, h⟩
end Aw
end Go.Proofs.YtndniceeibflcaaGreatDoor

namespace Go.Proofs.YtndniceeibflcaaGreatDoor
open Aw Mp Go.RowKit
set_option linter.unusedSimpArgs false
set_option maxRecDepth 8000

/-- the error of a number. -/
def errV (n : Int) : AV := .v (.iface 139 (.agg #[.int .i64 n]))
/-- what the reading of an order answers. -/
def psA (o : By) : AV := match prs o with | none => .t [frmA (0, 0, 0, 0), .s 1 [], errV 2] | some (k, l) => .t [frmA (frmL.getD k (0, 0, 0, 0)), .s 1 (intsA l), .v .nilIface]

def fOf (w : By) : Int × Int × Int × Int := match nameL.idxOf? w with | some k => frmL.getD k (0, 0, 0, 0) | none => (0, 0, 0, 0)
def isN (w : By) : Bool := (nameL.idxOf? w).isSome
theorem frm_at : ∀ k : Fin 8, (frmL.map frmA).getD k.val .bot = frmA (frmL.getD k.val (0, 0, 0, 0)) := by
  intro k
  simp only [List.getD_eq_getElem?_getD, List.getElem?_map]
  rw [List.getElem?_eq_getElem (show k.val < frmL.length from k.isLt)]
  rfl
theorem afind_n {v : Value} (w : By) (hv : v = strV w) (hw : w.length ≤ 1000000) {K : HK (Nat → Prop)} {F : HK Prop} (h1 : ∀ k, k < 8 → nameL.idxOf? w = some k → K.k k) (h2 : nameL.idxOf? w = none → F.k) : AFind Tryz.prog 9 (nameL.map strV) v (K := K) (L := F) := by
  cases h : nameL.idxOf? w with
  | none =>
    refine afind_out9 nameL w rfl hv hw (by decide) (fun hm => ?_) (h2 h)
    unfold List.idxOf? at h
    rw [List.findIdx?_eq_none_iff] at h
    have := h w hm
    simp at this
  | some k =>
    have h' := h
    unfold List.idxOf? at h'
    rw [List.findIdx?_eq_some_iff_getElem] at h'
    obtain ⟨a, b, _⟩ := h'
    exact afind_in9 nameL w k rfl hv hw (by decide) (by decide) a (eq_of_beq b) (h1 k a h)

theorem kind_isN {W : List By} (h : 0 < W.length) (hn : isN W[0] = false) : kindB W = none := by
  unfold kindB
  have : W.headD [] = W[0] := by cases W with | nil => simp at h | cons a r => rfl
  unfold isN at hn
  rw [this]
  cases hk : nameL.idxOf? W[0] with
  | none => rfl
  | some k => rw [hk] at hn; cases hn
theorem frm_cnt : ∀ k : Fin 8, (frmL.getD k.val (0, 0, 0, 0)).2.1 = ((cntL.getD k.val 0 : Nat) : Int) ∧ cntL.getD k.val 0 ≤ 3 := by decide
theorem isN_some {w : By} (h : isN w = true) : ∃ k, k < 8 ∧ nameL.idxOf? w = some k ∧ fOf w = frmL.getD k (0, 0, 0, 0) ∧ w = nameL.getD k [] := by
  unfold isN at h
  cases hk : nameL.idxOf? w with
  | none => rw [hk] at h; cases h
  | some k =>
    have hk' := hk
    unfold List.idxOf? at hk'
    rw [List.findIdx?_eq_some_iff_getElem] at hk'
    obtain ⟨a, b, _⟩ := hk'
    refine ⟨k, a, rfl, by unfold fOf; rw [hk], ?_⟩
    rw [List.getD_eq_getElem?_getD, List.getElem?_eq_getElem a]
    exact (eq_of_beq b).symm
theorem z112 : zeroA Tryz.prog 112 = some (frmA (0, 0, 0, 0)) := by kernel_rfl
theorem ok70 : okFn Tryz.prog 70 = true := by kernel_rfl
theorem s70 (o : By) (ho : o.length ≤ 9223372036854775807) : ASpec Tryz.prog 70 [S o] (fun r Ms => r = psA o ∧ Ms = []) := by
  refine aspec_of (own := [2, 3, 6, 8]) Tryz.func70 rfl ok70 ?_
  simp only [wB, awp, binC, cmpC, asI, asN, lenA, mkA, Aw.newRow, St.ev, St.step, setS, killS, AV.kill, AV.killL, Mem.kill, Nat.reduceAdd, Nat.reduceEqDiff, Nat.reduceSub, Int.reduceAdd, Int.reduceSub, lenK, Tryz.ntmps70]
  have hnone : prs o = none → psA o = .t [frmA (0, 0, 0, 0), .s 1 [], errV 2] := fun h => by unfold psA; rw [h]
  by_cases h1 : (o.length : Int) < 1
  · simp only [wB, awp, asQ, asB, asN, obA, storeA, fillA, putsA, Aw.newRow, St.ev, St.step, setS, killS, AV.kill, AV.killL, Mem.kill, AV.cells, AV.flat, AV.single, AV.cellular, Value.oneCell', Nat.reduceAdd, Nat.reduceEqDiff, Nat.reduceLeDiff, Int.reduceAdd, Aw.valOf, Aw.valsOf, cc139, decide_eq_true h1]
    refine aend_frz rfl ⟨?_, rfl⟩
    rw [hnone (prs_short (by omega))]
    rfl
  simp only [wB, awp, binC, cmpC, asB, asI, lenA, St.ev, St.step, setS, killS, AV.kill, AV.killL, Mem.kill, lenK, decide_eq_false h1]
  by_cases h2 : (30 : Int) < o.length
  · simp only [wB, awp, asQ, asN, obA, storeA, fillA, putsA, Aw.newRow, St.ev, St.step, setS, killS, AV.kill, AV.killL, Mem.kill, AV.cells, AV.flat, AV.single, AV.cellular, Value.oneCell', Nat.reduceAdd, Nat.reduceEqDiff, Nat.reduceLeDiff, Int.reduceAdd, Aw.valOf, Aw.valsOf, cc139, decide_eq_true h2]
    refine aend_frz rfl ⟨?_, rfl⟩
    rw [hnone (prs_short (by omega))]
    rfl
  simp only [wB, awp, St.ev, St.step, setS, killS, AV.kill, AV.killL, Mem.kill, Nat.reduceAdd, Nat.reduceEqDiff, Int.reduceAdd, decide_eq_false h2]
  refine acall_v (s95 o 32 (by omega)) rfl (by simp [AV.pure, AV.pureL, strsA_pure]) ?_
  obtain ⟨W, hW⟩ : ∃ W, W = splB 32 o := ⟨_, rfl⟩
  have hWl := spl_len 32 o
  rw [← hW] at hWl ⊢
  have hWp : 0 < W.length := by omega
  simp only [wB, awp, asN, St.ev, St.step, setS, killS, AV.kill, AV.killL, Mem.kill, Nat.reduceEqDiff]
  refine swp_to ⟨[S o, .bot, .q 0 4 0 0, .o 1, .v .nilIface, .s 1 (strsA W), .q 2 4 0 0, B (isN W[0]), .bot, .bot, .bot, .bot, .bot, .bot, .bot, .bot, .bot, .bot, .bot, .bot, .bot, .bot, .bot, .bot, .bot, .bot, .bot, .bot, .bot, .bot, .bot, .bot, .bot, .bot, .bot, .bot, .bot, .bot, .bot, .bot, .bot, .bot, .bot, .bot, .bot, .bot, .bot, .bot, .bot, .bot, .bot, .bot, .bot, .bot, .bot, .bot, .bot, .bot, .bot, .bot, .bot, .bot, .bot, .bot, .bot, .bot, .bot, .bot, .bot, .bot, .bot, .bot, .bot, .bot, .bot, .bot, .bot, .bot, .bot, .bot, .bot, .bot, .bot, .bot, .bot], [some ⟨none, 112, 4, [frmA (0, 0, 0, 0)]⟩, some ⟨none, 3, 1, []⟩, some ⟨none, 112, 4, [frmA (fOf W[0])]⟩]⟩ (swp_draw (own := [2, 3, 6, 8]) (.take 1 .plain [] (.take 2 .reads [] (.take 3 .reads [] (.alt 0 (.take 4 .reads [] (.take 5 .plain [] (.take 6 .plain [] (.take 7 .plain [] (.alt 8 (.alt 9 (.take 10 .plain [] (.done)) (.nil)) (.nil)))))) (.alt 8 (.alt 0 (.take 4 .reads [] (.take 5 .plain [] (.take 6 .plain [] (.take 7 .plain [] (.alt 9 (.take 10 .plain [] (.done)) (.nil)))))) (.nil)) (.nil)))))) [⟨28, 0, 0, 0, false⟩, ⟨29, 32, 0, 0, true⟩, ⟨30, 268435456, 2, 0, true⟩, ⟨31, 536870912, 4, 0, true⟩, ⟨32, 1207959552, 9, 0, true⟩, ⟨27, 2147483648, 16, 0, true⟩, ⟨33, 67108864, 32, 0, true⟩, ⟨34, 67108864, 32, 0, true⟩, ⟨7, 0, 0, 0, false⟩, ⟨0, 4294967360, 383, 1, false⟩, ⟨8, 8589934592, 1023, 0, true⟩] mo (by kernel_rfl) ?_) ?_
  · simp only [wB, idxC, asP, asS, asI, loadA, mkA, Aw.newRow, St.ev, St.step, setS, killS, AV.kill, AV.killL, Mem.kill, AV.cells, AV.flat, AV.single, Nat.reduceAdd, Nat.reduceEqDiff, Int.reduceAdd, Int.reduceLE, ASch, St.put, Md.mem, Md.need, aget_strs hWp]
    have hpp : AV.pureL (frmL.map frmA) = true := rfl
    have hwl : (W[0]).length ≤ 1000000 := by have := hWl.2.2 _ (List.getElem_mem hWp); omega
    have aget : ∀ (k : Nat), k < 8 → ∀ K : HK (AV → Prop), @AGet (frmL.map frmA) k K = K.k (frmA (frmL.getD k (0, 0, 0, 0))) := fun k hk K => by
      have := frm_at ⟨k, hk⟩
      simp only [List.getD_eq_getElem?_getD] at this ⊢
      have hk' : k < (frmL.map frmA).length := hk
      rw [List.getElem?_eq_getElem hk'] at this
      simp only [Option.getD_some] at this
      simp only [AGet, List.getElem?_eq_getElem hk', this, Option.some.injEq, exists_eq_left']
    refine ⟨acall_o s96 rfl hpp ?_, acall_o s96 rfl hpp ?_⟩
    · simp only [wB, asO, obA, St.ev, St.step, setS, killS, AV.kill, AV.killL, Mem.kill, Nat.reduceAdd, Int.reduceAdd, ASch, Md.mem, Aw.valOf, aget_strs hWp, mo142, AV.up, AV.sub, z112]
      refine afind_n W[0] rfl hwl (fun k hk he => ?_) (fun he => ?_)
      · have e1 : fOf W[0] = frmL.getD k (0, 0, 0, 0) := by unfold fOf; rw [he]
        have e2 : isN W[0] = true := by unfold isN; rw [he]; rfl
        simp only [wB, asQ, asT, asN, obA, storeA, putsA, mkA, Aw.newRow, St.ev, St.step, setS, killS, AV.kill, AV.killL, Mem.kill, AV.cells, AV.flat, AV.single, AV.cellular, Nat.reduceAdd, Nat.reduceEqDiff, Nat.reduceLeDiff, Int.reduceAdd, ASch, St.put, Md.mem, Md.need, aget k hk, e1, e2, frmA]
        exact le_rn [0, 1, 3] (by decide) rfl (by simp [leSl, AV.sub, reF, reG, List.idxOf?, List.findIdx?, List.findIdx?.go])
      · have e1 : fOf W[0] = (0, 0, 0, 0) := by unfold fOf; rw [he]
        have e2 : isN W[0] = false := by unfold isN; rw [he]; rfl
        simp only [wB, asQ, asT, asN, obA, storeA, putsA, mkA, Aw.newRow, St.ev, St.step, setS, killS, AV.kill, AV.killL, Mem.kill, AV.cells, AV.flat, AV.single, AV.cellular, Nat.reduceAdd, Nat.reduceEqDiff, Nat.reduceLeDiff, Int.reduceAdd, ASch, St.put, Md.mem, Md.need, e1, e2, frmA]
        exact le_rn [0, 1, 3] (by decide) rfl (by simp [leSl, AV.sub, reF, reG, List.idxOf?, List.findIdx?, List.findIdx?.go])
    · simp only [wB, asO, obA, St.ev, St.step, setS, killS, AV.kill, AV.killL, Mem.kill, Nat.reduceAdd, Int.reduceAdd, ASch, Md.mem, Aw.valOf, aget_strs hWp, mo142, AV.up, AV.sub, z112]
      refine afind_n W[0] rfl hwl (fun k hk he => ?_) (fun he => ?_)
      · have e1 : fOf W[0] = frmL.getD k (0, 0, 0, 0) := by unfold fOf; rw [he]
        have e2 : isN W[0] = true := by unfold isN; rw [he]; rfl
        simp only [wB, asQ, asT, asN, obA, storeA, putsA, St.ev, St.step, setS, killS, AV.kill, AV.killL, Mem.kill, AV.cells, AV.flat, AV.single, AV.cellular, Nat.reduceAdd, Nat.reduceEqDiff, Nat.reduceLeDiff, Int.reduceAdd, ASch, St.put, Md.mem, Md.need, aget k hk, e1, e2, frmA]
        exact le_rn [0, 1, 2] (by decide) rfl (by simp [leSl, AV.sub, reF, reG, List.idxOf?, List.findIdx?, List.findIdx?.go])
      · have e1 : fOf W[0] = (0, 0, 0, 0) := by unfold fOf; rw [he]
        have e2 : isN W[0] = false := by unfold isN; rw [he]; rfl
        simp only [wB, asQ, asT, asN, obA, storeA, putsA, St.ev, St.step, setS, killS, AV.kill, AV.killL, Mem.kill, AV.cells, AV.flat, AV.single, AV.cellular, Nat.reduceAdd, Nat.reduceEqDiff, Nat.reduceLeDiff, Int.reduceAdd, ASch, St.put, Md.mem, Md.need, e1, e2, frmA]
        exact le_rn [0, 1, 2] (by decide) rfl (by simp [leSl, AV.sub, reF, reG, List.idxOf?, List.findIdx?, List.findIdx?.go])
  simp only [wB, awp, asB, St.ev, St.step, setS, killS, AV.kill, AV.killL, Mem.kill, Nat.reduceAdd, Nat.reduceEqDiff, Int.reduceAdd]
  cases hn : isN W[0] with
  | false =>
    simp only [wB, awp, asQ, asB, obA, storeA, fillA, putsA, St.ev, St.step, setS, killS, AV.kill, AV.killL, Mem.kill, AV.cells, AV.flat, AV.single, AV.cellular, Value.oneCell', Nat.reduceAdd, Nat.reduceEqDiff, Nat.reduceLeDiff, Int.reduceAdd, Aw.valOf, Aw.valsOf, cc139]
    refine aend_frz rfl ⟨?_, rfl⟩
    rw [hnone (prs_kind (by rw [← hW]; exact kind_isN hWp hn))]
    rfl
  | true =>
  obtain ⟨k, hk8, hk, hf, hwk⟩ := isN_some hn
  obtain ⟨hc, hc3⟩ := frm_cnt ⟨k, hk8⟩
  simp only at hc hc3
  have hhd : W.headD [] = W[0] := by cases W with | nil => simp at hWp | cons a r => rfl
  generalize hFE : fOf W[0] = F at hf ⊢
  obtain ⟨f0, f1, f2, f3⟩ := F
  rw [← hf] at hc
  simp only at hc
  subst hc
  simp only [wB, awp, binC, arithC, cmpC, asP, asQ, asB, asI, obA, lenA, loadA, St.ev, St.step, setS, killS, AV.kill, AV.killL, Mem.kill, AV.cells, AV.flat, AV.single, Nat.reduceAdd, Nat.reduceEqDiff, Nat.reduceLeDiff, Int.reduceAdd, isU, lenK, strsA_len, frmA]
  refine ⟨by unfold lim; omega, ?_⟩
  by_cases h3 : (W.length : Int) = ((cntL.getD k 0 : Nat) : Int) + 1
  case neg =>
    simp only [wB, awp, asQ, asN, obA, storeA, fillA, putsA, Aw.newRow, St.ev, St.step, setS, killS, AV.kill, AV.killL, Mem.kill, AV.cells, AV.flat, AV.single, AV.cellular, Value.oneCell', Nat.reduceAdd, Nat.reduceEqDiff, Nat.reduceLeDiff, Int.reduceAdd, Aw.valOf, Aw.valsOf, cc139, decide_eq_false h3]
    refine aend_frz rfl ⟨?_, rfl⟩
    have : kindB W = none := by
      unfold kindB
      rw [hhd, hk]
      simp only [Option.bind_some]
      rw [if_neg (by omega)]
    rw [hnone (prs_kind (hW ▸ this))]
    rfl
  have hkd : kindB W = some k := by
    unfold kindB
    rw [hhd, hk]
    simp only [Option.bind_some]
    rw [if_pos (by omega)]
  simp only [wB, awp, asS, asN, bndA, lenA, Aw.newRow, St.ev, St.step, setS, killS, AV.kill, AV.killL, Mem.kill, Nat.reduceAdd, Nat.reduceEqDiff, Int.reduceAdd, Int.reduceLE, lenK, strsA_len, decide_eq_true h3]
  refine ⟨by omega, ?_⟩
  obtain ⟨V, hV⟩ : ∃ V, V = W.drop 1 := ⟨_, rfl⟩
  have hVl : V.length = cntL.getD k 0 := by rw [hV]; simp only [List.length_drop]; omega
  have hVm : ∀ w ∈ V, w ∈ (splB 32 o).drop 1 := fun w hw => by rw [← hW, ← hV]; exact hw
  have hVs : ∀ w ∈ V, w.length ≤ 1000000 := fun w hw => by have := hWl.2.2 w (List.mem_of_mem_drop (by rw [← hV]; exact hw)); omega
  refine swp_loop' (fun m : Nat => ⟨[S o, .bot, .q 0 4 0 0, .o 1, .v .nilIface, .s 1 (strsA W), .q 2 4 0 0, .bot, .o 3, .bot, .bot, .bot, .bot, .bot, .bot, .bot, .bot, .bot, .bot, .bot, .bot, .bot, .bot, .bot, .bot, .bot, .bot, .bot, .bot, .bot, .bot, .bot, .bot, .bot, .bot, .bot, .bot, .bot, .bot, .bot, .bot, .bot, .bot, .bot, .bot, .bot, .bot, .bot, .s 1 (strsA V), I V.length, I m, .bot, .bot, .bot, .bot, .bot, .bot, .bot, .bot, .bot, .bot, .bot, .bot, .bot, .bot, .bot, .bot, .bot, .bot, .bot, .bot, .bot, .bot, .bot, .bot, .bot, .bot, .bot, .bot, .bot, .bot, .bot, .bot, .bot, .bot], [some ⟨none, 112, 4, [frmA (0, 0, 0, 0)]⟩, some ⟨none, 3, 1, []⟩, some ⟨none, 112, 4, [frmA (f0, ((cntL.getD k 0 : Nat) : Int), f2, f3)]⟩, some ⟨none, 3, 1, intsA ((V.take m).map numB)⟩]⟩) (fun m => m ≤ V.length ∧ ∀ w ∈ V.take m, 0 ≤ numB w) (fun m => V.length - m) 0 (le_sl' ?_ ?_) ⟨Nat.zero_le _, by simp⟩ ?_
  · simp [intsA, frmA]
  · simp only [leSl, true_or, or_true, true_and, and_true, List.length_cons, List.length_nil]
    have e1 : (strsA W).take W.length = strsA W := List.take_of_length_le (by rw [strsA_len]; exact Nat.le_refl _)
    simp only [leSl, e1, hV, strsA_drop, List.drop_one, and_true, or_true, true_and, strsA_len, List.length_tail, Int.toNat_natCast, Int.natCast_zero, or_true]
    exact .inr (by simp [strsA])
  rintro m ⟨hm, hnn⟩
  refine awp_sound (own := [2, 3, 6, 8]) _ _ _ _ _ ?_
  simp only [wB, awp, binC, cmpC, asB, asI, St.ev, St.step, setS, killS, AV.kill, AV.killL, Mem.kill, Nat.reduceAdd, Nat.reduceEqDiff, Int.reduceAdd, frmA]
  have bad : ∀ w ∈ V, numB w < 0 → psA o = .t [frmA (0, 0, 0, 0), .s 1 [], errV 2] := fun w hw hn => hnone (prs_neg (hVm w hw) hn)
  by_cases h : m < V.length
  case neg =>
    have h' : ¬ (m : Int) < (V.length : Int) := by omega
    simp only [wB, awp, asP, asQ, asN, obA, loadA, storeA, putsA, St.ev, St.step, setS, killS, AV.kill, AV.killL, Mem.kill, AV.cells, AV.flat, AV.single, AV.cellular, Nat.reduceAdd, Nat.reduceEqDiff, Nat.reduceLeDiff, Int.reduceAdd, decide_eq_false h']
    have e : V.take m = V := List.take_of_length_le (by omega)
    refine aend_frz rfl ⟨?_, rfl⟩
    have hp : prs o = some (k, V.map numB) := by
      rw [hV, hW]
      exact prs_ok (by omega) (hW ▸ hkd) (by rw [← hW, ← hV, ← e]; exact hnn)
    unfold psA
    rw [hp, e]
    simp only [← hf]
    simp [frz, AV.sub, AV.subL, intsA_pure, frmA]
  have h' : (m : Int) < (V.length : Int) := by omega
  have hmem : V[m] ∈ V := List.getElem_mem h
  simp only [wB, awp, idxC, asP, asS, asI, asN, loadA, St.ev, St.step, setS, killS, AV.kill, AV.killL, Mem.kill, AV.cells, AV.flat, AV.single, Nat.reduceAdd, Nat.reduceEqDiff, Int.reduceAdd, decide_eq_true h', aget_strs h, Int.toNat_natCast]
  refine ⟨by omega, ?_⟩
  refine acall_e (s97 V[m] (hVs _ hmem)) rfl ?_
  have at1 : 0 ≤ numB V[m] → atoiB V[m] = (numB V[m], true) := fun hn => by
    rcases num_some V[m] with h0 | ⟨n, h1, h2, h3⟩
    · omega
    · unfold atoiB
      rw [h2, ← h3, atoi_itoa (by omega) (by omega)]
  rintro x (⟨hx, rfl⟩ | ⟨hx, t, v, rfl⟩)
  case inr =>
    refine ⟨rfl, ?_⟩
    have hn : numB V[m] < 0 := by
      rcases Int.lt_or_le (numB V[m]) 0 with h0 | h0
      · exact h0
      · rw [at1 h0] at hx; cases hx
    simp only [wB, awp, binC, eqC, asQ, asT, asG, asB, asI, asN, obA, storeA, fillA, putsA, Aw.newRow, St.ev, St.step, setS, killS, AV.kill, AV.killL, Mem.kill, AV.cells, AV.flat, AV.single, AV.cellular, Value.oneCell', Nat.reduceAdd, Nat.reduceEqDiff, Nat.reduceLeDiff, Int.reduceAdd, isNI, ptrN, ifcN, asStr, Aw.valOf, Aw.valsOf, nt114, cc139]
    refine aend_frz rfl ⟨?_, rfl⟩
    rw [bad _ hmem (hn)]
    rfl
  refine ⟨rfl, ?_⟩
  simp only [wB, awp, binC, cmpC, eqC, asT, asG, asB, asI, asN, St.ev, St.step, setS, killS, AV.kill, AV.killL, Mem.kill, Nat.reduceAdd, Nat.reduceEqDiff, Int.reduceAdd, isNI, ptrN, ifcN, asStr, nt114]
  generalize hq : (atoiB V[m]).1 = q
  have nb : ¬ (0 ≤ q ∧ q ≤ 99 ∧ Lib.itoa q = V[m]) → numB V[m] < 0 := fun hh => by
    rcases Int.lt_or_le (numB V[m]) 0 with h0 | h0
    · exact h0
    · rcases num_some V[m] with h5 | ⟨n, h1, h2, h3⟩
      · omega
      · rw [at1 h0] at hq
        simp only at hq
        subst hq
        exact absurd ⟨by omega, by omega, by rw [h2]; exact h3⟩ hh
  by_cases c1 : q < 0
  · simp only [wB, awp, asQ, asB, asN, obA, storeA, fillA, putsA, Aw.newRow, St.ev, St.step, setS, killS, AV.kill, AV.killL, Mem.kill, AV.cells, AV.flat, AV.single, AV.cellular, Value.oneCell', Nat.reduceAdd, Nat.reduceEqDiff, Nat.reduceLeDiff, Int.reduceAdd, Aw.valOf, Aw.valsOf, cc139, decide_eq_true c1]
    refine aend_frz rfl ⟨?_, rfl⟩
    rw [bad _ hmem (nb (by omega))]
    rfl
  simp only [wB, binC, cmpC, asB, asI, St.ev, St.step, setS, killS, AV.kill, AV.killL, Mem.kill, decide_eq_false c1]
  by_cases c2 : 99 < q
  · simp only [wB, awp, asQ, asB, asN, obA, storeA, fillA, putsA, Aw.newRow, St.ev, St.step, setS, killS, AV.kill, AV.killL, Mem.kill, AV.cells, AV.flat, AV.single, AV.cellular, Value.oneCell', Nat.reduceAdd, Nat.reduceEqDiff, Nat.reduceLeDiff, Int.reduceAdd, Aw.valOf, Aw.valsOf, cc139, decide_eq_true c2]
    refine aend_frz rfl ⟨?_, rfl⟩
    rw [bad _ hmem (nb (by omega))]
    rfl
  simp only [wB, St.ev, St.step, setS, killS, AV.kill, AV.killL, Mem.kill, decide_eq_false c2]
  refine acall_v (s64 q (by unfold lim; omega)) rfl rfl ?_
  by_cases c3 : Lib.itoa q = V[m]
  · have hq' : numB V[m] = q := num_of (by omega) (by omega) c3
    have htk : V.take (m + 1) = V.take m ++ [V[m]] := by
      rw [List.take_add_one, List.getElem?_eq_getElem h]; rfl
    have hX : (V.take (m + 1)).map numB = (V.take m).map numB ++ [q] := by rw [htk, List.map_append]; simp only [List.map_cons, List.map_nil, hq']
    simp only [wB, awp, binC, arithC, cmpC, eqC, asO, asS, asG, asB, asI, asN, obA, St.ev, St.step, setS, killS, AV.kill, AV.killL, Mem.kill, AV.cells, AV.flat, AV.single, AV.cellular, AV.size, AV.pure, AV.pureL, Value.oneCell', Nat.reduceAdd, Nat.reduceEqDiff, Nat.reduceMul, Nat.reduceLeDiff, Int.reduceAdd, Int.reduceMul, isU, asStr, strC, decide_eq_true c3]
    refine ⟨⟨Nat.zero_lt_one, rfl⟩, ⟨Nat.zero_lt_one, by simp; omega⟩, by unfold lim; omega, m + 1, le_sl' ?_ (by simp [leSl]), ⟨h, fun w hw => ?_⟩, by omega⟩
    · rw [hX, killL_pure _ _ (intsA_pure _)]; simp [intsA, frmA]
    · rw [htk] at hw
      rcases List.mem_append.1 hw with hw | hw
      · exact hnn w hw
      · rw [List.mem_singleton.1 hw, hq']; omega
  simp only [wB, awp, binC, eqC, asQ, asG, asB, asI, asN, obA, storeA, fillA, putsA, Aw.newRow, St.ev, St.step, setS, killS, AV.kill, AV.killL, Mem.kill, AV.cells, AV.flat, AV.single, AV.cellular, Value.oneCell', Nat.reduceAdd, Nat.reduceEqDiff, Nat.reduceLeDiff, Int.reduceAdd, asStr, strC, Aw.valOf, Aw.valsOf, cc139, decide_eq_false c3]
  refine aend_frz rfl ⟨?_, rfl⟩
  rw [bad _ hmem (nb fun hh => c3 hh.2.2)]
  rfl
end Go.Proofs.YtndniceeibflcaaGreatDoor

namespace Go.Proofs.YtndniceeibflcaaGreatDoor
open Aw Mp Go.RowKit
set_option linter.unusedSimpArgs false

theorem ok99 : okFn Tryz.prog 99 = true := by kernel_rfl
theorem s99 (l : List Int) (hl : l.length ≤ 100000) : ASpec Tryz.prog 99 [.s 1 (intsA l)] (fun r Ms => r = .o 0 ∧ Ms = [⟨none, 3, 1, intsA l⟩]) := by
  refine aspec_of (own := [2, 5]) Tryz.func99 rfl ok99 ?_
  simp only [wB, awp, binC, asS, asG, asB, asI, asN, asE, Aw.newRow, St.ev, St.step, setS, killS, AV.kill, AV.killL, Mem.kill, Nat.reduceAdd, Nat.reduceEqDiff, Nat.reduceSub, Int.reduceAdd, Int.reduceSub, ptrN, ifcN, asStr, Tryz.ntmps99]
  intro b hb
  cases b with
  | true =>
    have hn : l = [] := by have := hb rfl; simpa [intsA] using this
    subst hn
    simp only [wB, awp, asN, Aw.newRow, St.ev, St.step, setS, killS, AV.kill, AV.killL, Mem.kill, Nat.reduceAdd, Nat.reduceEqDiff, Int.reduceAdd]
    exact aend_exp 1 rfl rfl rfl ⟨rfl, rfl⟩
  | false =>
    simp only [wB, awp, asO, asS, asN, obA, Aw.newRow, St.ev, St.step, setS, killS, AV.kill, AV.killL, Mem.kill, AV.cells, AV.flat, AV.single, AV.cellular, Value.oneCell', Nat.reduceAdd, Nat.reduceEqDiff, Nat.reduceMul, Nat.reduceLeDiff, Int.reduceAdd, Int.reduceMul]
    refine ⟨⟨by decide, rfl⟩, ⟨by decide, by omega⟩, ?_⟩
    exact aend_exp 1 rfl rfl (intsA_pure l) ⟨rfl, rfl⟩

theorem ok100 : okFn Tryz.prog 100 = true := by kernel_rfl
theorem s100 (l : List G4) (hl : l.length ≤ 100000) : ASpec Tryz.prog 100 [.s 4 (gtsA l)] (fun r Ms => r = .o 0 ∧ Ms = [⟨none, 81, 4, gtsA l⟩]) := by
  refine aspec_of (own := [2, 5]) Tryz.func100 rfl ok100 ?_
  simp only [wB, awp, binC, asS, asG, asB, asI, asN, asE, Aw.newRow, St.ev, St.step, setS, killS, AV.kill, AV.killL, Mem.kill, Nat.reduceAdd, Nat.reduceEqDiff, Nat.reduceSub, Int.reduceAdd, Int.reduceSub, ptrN, ifcN, asStr, Tryz.ntmps100]
  intro b hb
  cases b with
  | true =>
    have hn : l = [] := by have := hb rfl; simpa [gtsA] using this
    subst hn
    simp only [wB, awp, asN, Aw.newRow, St.ev, St.step, setS, killS, AV.kill, AV.killL, Mem.kill, Nat.reduceAdd, Nat.reduceEqDiff, Int.reduceAdd]
    exact aend_exp 1 rfl rfl rfl ⟨rfl, rfl⟩
  | false =>
    simp only [wB, awp, asO, asS, asN, obA, Aw.newRow, St.ev, St.step, setS, killS, AV.kill, AV.killL, Mem.kill, AV.cells, AV.flat, AV.single, AV.cellular, Value.oneCell', Nat.reduceAdd, Nat.reduceEqDiff, Nat.reduceMul, Nat.reduceLeDiff, Int.reduceAdd, Int.reduceMul, gtsA_len]
    refine ⟨⟨by decide, rfl⟩, ⟨by decide, by omega⟩, ?_⟩
    exact aend_exp 1 rfl rfl (gtsA_pure l) ⟨rfl, rfl⟩

theorem ok66 : okFn Tryz.prog 66 = true := by kernel_rfl
theorem s66 (l : List (Int × Int)) (hl : l.length ≤ 100000) : ASpec Tryz.prog 66 [.s 2 (prsA l)] (fun r Ms => r = .o 0 ∧ Ms = [⟨none, 79, 2, prsA l⟩]) := by
  refine aspec_of (own := [2, 5]) Tryz.func66 rfl ok66 ?_
  simp only [wB, awp, binC, asS, asG, asB, asI, asN, asE, Aw.newRow, St.ev, St.step, setS, killS, AV.kill, AV.killL, Mem.kill, Nat.reduceAdd, Nat.reduceEqDiff, Nat.reduceSub, Int.reduceAdd, Int.reduceSub, ptrN, ifcN, asStr, Tryz.ntmps66]
  intro b hb
  cases b with
  | true =>
    have hn : l = [] := by have := hb rfl; simpa [prsA] using this
    subst hn
    simp only [wB, awp, asN, Aw.newRow, St.ev, St.step, setS, killS, AV.kill, AV.killL, Mem.kill, Nat.reduceAdd, Nat.reduceEqDiff, Int.reduceAdd]
    exact aend_exp 1 rfl rfl rfl ⟨rfl, rfl⟩
  | false =>
    simp only [wB, awp, asO, asS, asN, obA, Aw.newRow, St.ev, St.step, setS, killS, AV.kill, AV.killL, Mem.kill, AV.cells, AV.flat, AV.single, AV.cellular, Value.oneCell', Nat.reduceAdd, Nat.reduceEqDiff, Nat.reduceMul, Nat.reduceLeDiff, Int.reduceAdd, Int.reduceMul, prsA_len]
    refine ⟨⟨by decide, rfl⟩, ⟨by decide, by omega⟩, ?_⟩
    exact aend_exp 1 rfl rfl (prsA_pure l) ⟨rfl, rfl⟩

/-- the least, the greatest. -/
def minP (x : Int) (l : List Int) : Int := l.foldl min x
def maxP (x : Int) (l : List Int) : Int := l.foldl max x
theorem minP_take {x : Int} {l : List Int} {k : Nat} (h : k < l.length) : minP x (l.take (k + 1)) = min (minP x (l.take k)) l[k] := by
  unfold minP; rw [List.take_add_one, List.getElem?_eq_getElem h, List.foldl_append]; rfl
theorem maxP_take {x : Int} {l : List Int} {k : Nat} (h : k < l.length) : maxP x (l.take (k + 1)) = max (maxP x (l.take k)) l[k] := by
  unfold maxP; rw [List.take_add_one, List.getElem?_eq_getElem h, List.foldl_append]; rfl
theorem ok146 : okFn Tryz.prog 146 = true := by kernel_rfl
end Go.Proofs.YtndniceeibflcaaGreatDoor
