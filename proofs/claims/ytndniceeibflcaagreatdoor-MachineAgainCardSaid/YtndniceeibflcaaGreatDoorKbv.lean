/-
  Parts of several texts in one: AAC, MyF.
-/
import Derived.Test.YtndniceeibflcaaGreatDoorProg
import Derived.WalkKit
import Derived.Lib.ConvBytes
import Derived.LaidEql
import Derived.Lib.ItoaNum
import Derived.Lib.LaidTab
import Derived.KernelRfl
import GoSem.Claims
import GoSem.ClaimJoined
import Derived.Orders
import Derived.Laws.StructEq
import Derived.Maps.Keyed
import Derived.Lib.Strings
import Derived.Maps.AppendAt
import Derived.Laws.Concat
import Derived.MapKept
import Derived.Laws.MakeOwn
import Derived.Scope
import Derived.Laws.BitsLemmas
import Derived.Maps.RangeRun
import Derived.StillTail
import Derived.OrdersIn
import Derived.TacticsIn
import Derived.RangeFuncRecord
import Derived.RangeFuncCalls
import Derived.RangeFuncSeq
import Derived.Lib.Split
import Derived.Lib.AtoiAll
import Derived.Shelf.LaysM
import Derived.Shelf.LaysC
import Derived.Shelf.Strconv.Itoa3
import Derived.Shelf.Strconv.AtoiAll
import Derived.Shelf.Strings.Search3
import Derived.Shelf.Strings.Cut
import Derived.Shelf.Strings.Prefix
import Derived.Shelf.Strings.Split
import Derived.Lib.AppendIntMem
import Derived.Stop.Asserts
import Derived.RowKitTokens
import Derived.Conc.MuLone
import Derived.Test.YtndniceeibflcaaGreatDoorKaa
import Derived.Test.YtndniceeibflcaaGreatDoorKac
import Derived.Test.YtndniceeibflcaaGreatDoorKad
import Derived.Test.YtndniceeibflcaaGreatDoorKae
import Derived.Test.YtndniceeibflcaaGreatDoorKag
set_option linter.unusedSimpArgs false
set_option linter.unusedVariables false
namespace Go.Proofs.YtndniceeibflcaaGreatDoor
namespace Aw
end Aw
namespace Mp
end Mp
end Go.Proofs.YtndniceeibflcaaGreatDoor
namespace Go.Proofs.YtndniceeibflcaaGreatDoor
namespace Aw
open Go.RowKit
set_option linter.unusedSimpArgs false

section
variable {P : Program} {own : List Nat} {ops : Array Oper} {ms : List Nat}
/-- the region from there on. -/
def AnyAt (P : Program) (ops : Array Oper) (k : Nat) (σ : St) (N : HN) (E : HE) (Rt : HR) : Prop := ∀ (C : Ctx) (a : Act) (w : World), StR C σ a w → wpAny P .any ops (APost C N.k E.k (fun σ => Rt.k σ ())) (ops.size - k) (preL ops.size k) a w

theorem adc_sound {N : HN} {C : Ctx} {Q : Exit → Act → World → Prop} {T : Array Bool} {nT : Nat} (hN : ∀ σ a w, N.k σ → StR C σ a w → wpAny P .any ops Q nT T a w) : ∀ (t : OTc) (n : Nat) (L : Array Bool) (σ : St) (a : Act) (w : World), t.okAll ops T nT n L = true → @ADc P own ops.toList ms t σ N → StR C σ a w →
    (t.isCut = true → wpAny P .any ops Q n L a w) ∧ (t.isCut = false → ∀ i ∈ t.alts, wpOp P ops Q i (fun a' w' => wpAny P .any ops Q (n - 1) (L.setIfInBounds i true) a' w') a w) := by
  intro t
  induction t with
  | cut =>
    intro n L σ a w hok h hS
    simp only [OTc.okAll, Bool.and_eq_true, decide_eq_true_eq] at hok
    obtain ⟨rfl, rfl⟩ := hok
    exact ⟨fun _ => hN σ a w h hS, fun e => (by cases e)⟩
  | nil =>
    intro n L σ a w hok h hS
    exact ⟨fun e => (by cases e), fun _ i hi => (by simp [OTc.alts] at hi)⟩
  | alt i s more ih1 ih2 =>
    intro n L σ a w hok h hS
    refine ⟨fun e => (by cases e), fun _ j hj => ?_⟩
    simp only [OTc.okAll, Bool.and_eq_true] at hok
    obtain ⟨⟨hr, hs⟩, hm⟩ := hok
    unfold ADc at h
    obtain ⟨hi, hmo⟩ := h
    simp only [OTc.alts, List.mem_cons] at hj
    have key : wpOp P ops Q i (fun a' w' => wpAny P .any ops Q (n - 1) (L.setIfInBounds i true) a' w') a w := by
      obtain ⟨o, ho, hi⟩ := AOpt_elim hi
      have ho : ops[i]? = some o := by simpa using ho
      have hcont : ∀ σ' a' w', @ADc P own ops.toList ms s σ' N → StR C σ' a' w' → wpAny P .any ops Q (n - 1) (L.setIfInBounds i true) a' w' := by
        intro σ' a' w' hA hS'
        have := ih1 (n - 1) (L.setIfInBounds i true) σ' a' w' hs hA hS'
        cases hd : s.isCut with
        | true => exact this.1 hd
        | false =>
          rw [hd] at hr
          simp only [Bool.false_or, Bool.and_eq_true, decide_eq_true_eq, List.all_eq_true, Bool.not_eq_true', List.isEmpty_eq_false_iff] at hr
          obtain ⟨⟨h2, h3⟩, h4⟩ := hr
          obtain ⟨k, hn⟩ : ∃ k, n - 1 = k + 1 := ⟨n - 2, by omega⟩
          rw [hn] at this ⊢
          refine ⟨fun h0 => absurd h0 h4, fun q hq => ?_⟩
          have := this.2 hd q (by simpa using h3 q hq)
          simpa using this
      have hi2 : @amo P own ops.toList (ms.contains i) o σ ⟨fun σ' => @ADc P own ops.toList ms s σ' N⟩ := hi
      cases hc : ms.contains i with
      | true =>
        rw [hc] at hi2
        exact wpOp_mono (fun a' w' ⟨σ', h1, h2⟩ => hcont σ' a' w' h1 h2) (amf_sound (N := ⟨fun σ' => @ADc P own ops.toList ms s σ' N⟩) ho hi2 hS)
      | false =>
        rw [hc] at hi2
        exact wpOp_mono (fun a' w' ⟨σ', h1, h2⟩ => hcont σ' a' w' h1 h2) (aop_sound (N := ⟨fun σ' => @ADc P own ops.toList ms s σ' N⟩) ho hi2 hS)
    rcases hj with rfl | hj
    · exact key
    · cases hd : more.isCut with
      | true => cases more <;> simp [OTc.isCut, OTc.alts] at hd hj
      | false => exact (ih2 n L σ a w hm hmo hS).2 hd j hj

/-- from a cut to the next one. -/
theorem any_seg {k : Nat} {σ : St} {N : HN} {E : HE} {Rt : HR} (kT : Nat) (t : OTc) (ms : List Nat) (hok : t.ok ops k kT = true) (σ' : St) (h : @ADc P own ops.toList ms t σ ⟨fun s => Le s σ'⟩) (h2 : AnyAt P ops kT σ' N E Rt) : AnyAt P ops k σ N E Rt := by
  intro C a w hS
  unfold OTc.ok at hok
  simp only [Bool.and_eq_true, decide_eq_true_eq, List.all_eq_true, Bool.not_eq_true', List.isEmpty_eq_false_iff] at hok
  obtain ⟨⟨⟨⟨h1, h3⟩, hk⟩, h4⟩, h5⟩ := hok
  have := (adc_sound (Q := APost C N.k E.k (fun σ => Rt.k σ ())) (N := ⟨fun s => Le s σ'⟩) (fun s a w hs hS => h2 C a w (hs C a w hS)) t _ _ σ a w h5 h hS).2 h4
  obtain ⟨m, hm⟩ : ∃ m, ops.size - k = m + 1 := ⟨ops.size - k - 1, by omega⟩
  generalize preL ops.size k = L at *
  rw [hm] at this ⊢
  refine ⟨fun h0 => absurd h0 h3, fun q hq => ?_⟩
  have := this q (by simpa using h1 q hq)
  simpa using this
theorem any_end {σ : St} {N : HN} {E : HE} {Rt : HR} {k : Nat} (hk : decide (k = ops.size) = true) (h : N.k σ) : AnyAt P ops k σ N E Rt := by
  intro C a w hS
  have hk := of_decide_eq_true hk
  subst hk
  rw [Nat.sub_self]
  refine ⟨?_, ⟨σ, h, hS⟩⟩
  rw [List.eq_nil_iff_forall_not_mem]
  intro i hi
  obtain ⟨hun, o, ho, _⟩ := mem_ready.1 hi
  have hil := (Array.getElem?_eq_some_iff.1 ho).1
  unfold preL at hun
  simp [Array.getD_eq_getD_getElem?, hil] at hun
theorem swp_any {id : Nat} {σ : St} {N : HN} {E : HE} {Rt : HR} (hm : P.follows .mixedOrders = true) (h : AnyAt P ops 0 σ N E Rt) : @SWp P (.region id ops true) σ N E Rt := by
  intro C a w hS
  refine wp_region_any hm ?_
  have := h C a { w with drawn := w.drawn + 1 } hS.drawn
  rw [Nat.sub_zero] at this
  have e : preL ops.size 0 = Array.replicate ops.size false := by
    unfold preL
    apply Array.ext_getElem?
    intro i
    simp [Array.getElem?_replicate]
    by_cases hi : i < ops.size <;> simp [hi]
  rwa [e] at this
theorem any_le {k : Nat} {σ σ' : St} {N : HN} {E : HE} {Rt : HR} (hl : Le σ σ') (h : AnyAt P ops k σ' N E Rt) : AnyAt P ops k σ N E Rt := fun C a w hS => h C a w (hl C a w hS)
end
end Aw
end Go.Proofs.YtndniceeibflcaaGreatDoor

namespace Go.Proofs.YtndniceeibflcaaGreatDoor
open Aw Mp Go.RowKit
set_option linter.unusedSimpArgs false
set_option maxRecDepth 8000

/-- a region of a function. -/
def regOf : Code → Nat → Option (Array Oper)
  | .seq a b, i => (regOf a i).or (regOf b i)
  | .region j ops _, i => if j = i then some ops else none
  | _, _ => none
/-- a part of a drawn region, from the first k operations done to the first kT done. -/
def Seg (b : Option Code) (i k kT : Nat) (σ σ' : St) : Prop := ∀ ops, b.bind (regOf · i) = some ops → ∀ (N : HN) (E : HE) (Rt : HR), AnyAt Tryz.prog ops kT σ' N E Rt → AnyAt Tryz.prog ops k σ N E Rt
theorem seg_use {b : Option Code} {i k kT : Nat} {σ σ' : St} {ops : Array Oper} {N : HN} {E : HE} {Rt : HR} (s : Seg b i k kT σ σ') (hb : b.bind (regOf · i) = some ops) (h : AnyAt Tryz.prog ops kT σ' N E Rt) : AnyAt Tryz.prog ops k σ N E Rt := s ops hb N E Rt h

end Go.Proofs.YtndniceeibflcaaGreatDoor
