/-
  Parts of several texts in one: AAC, MwJ, MwX, MwY, MxB, MyF, MyH.
-/
import Derived.Test.YtndniceeibflcaaGreatDoorProg
import Derived.WalkKit
import Derived.Lib.ConvBytes
import Derived.LaidEql
import Derived.Lib.ItoaNum
import Derived.Lib.LaidTab
import Derived.KernelRfl
import GoSem.Claims
import GoSem.ClaimJoined
import Derived.Orders
import Derived.Laws.StructEq
import Derived.Maps.Keyed
import Derived.Lib.Strings
import Derived.Maps.AppendAt
import Derived.Laws.Concat
import Derived.MapKept
import Derived.Laws.MakeOwn
import Derived.Scope
import Derived.Laws.BitsLemmas
import Derived.Maps.RangeRun
import Derived.StillTail
import Derived.OrdersIn
import Derived.TacticsIn
import Derived.RangeFuncRecord
import Derived.RangeFuncCalls
import Derived.RangeFuncSeq
import Derived.Lib.Split
import Derived.Lib.AtoiAll
import Derived.Shelf.LaysM
import Derived.Shelf.LaysC
import Derived.Shelf.Strconv.Itoa3
import Derived.Shelf.Strconv.AtoiAll
import Derived.Shelf.Strings.Search3
import Derived.Shelf.Strings.Cut
import Derived.Shelf.Strings.Prefix
import Derived.Shelf.Strings.Split
import Derived.Lib.AppendIntMem
import Derived.Stop.Asserts
import Derived.RowKitTokens
import Derived.Conc.MuLone
import Derived.Test.YtndniceeibflcaaGreatDoorRows
import Derived.Test.YtndniceeibflcaaGreatDoorChecked
import Derived.ChangeSame
import Derived.ChangeVars
import Derived.JoinedOf
import Derived.ProofKit
import Derived.RowKit
import Derived.LaidLaws
import Derived.LaidHandle
import Derived.LaidMore
import Derived.Stop.Joined
import Derived.Stop.LaidErr
import Derived.HandedShaped
import Derived.Shelf.Vars
import Derived.Deep.Slices
import Derived.Deep.Strs
import Derived.Deep.Fields
import Derived.Lib.SmallJoins
import Derived.SliceStrings
import Derived.ChangeMaps5
import Derived.Test.YtndniceeibflcaaGreatDoorKa
import Derived.Test.YtndniceeibflcaaGreatDoorKo
import Derived.Test.YtndniceeibflcaaGreatDoorKc
import Derived.Test.YtndniceeibflcaaGreatDoorKd
import Derived.Test.YtndniceeibflcaaGreatDoorKe
import Derived.Test.YtndniceeibflcaaGreatDoorKg
import Derived.Test.YtndniceeibflcaaGreatDoorKi
import Derived.Test.YtndniceeibflcaaGreatDoorKy
import Derived.Test.YtndniceeibflcaaGreatDoorKF
import Derived.Test.YtndniceeibflcaaGreatDoorKj
import Derived.Test.YtndniceeibflcaaGreatDoorKk
import Derived.Test.YtndniceeibflcaaGreatDoorKl
import Derived.Test.YtndniceeibflcaaGreatDoorKG
set_option linter.unusedSimpArgs false
set_option linter.unusedVariables false
namespace Go.Proofs.YtndniceeibflcaaGreatDoor
namespace Aw
end Aw
namespace Mp
end Mp
end Go.Proofs.YtndniceeibflcaaGreatDoor
namespace Go.Proofs.YtndniceeibflcaaGreatDoor
namespace Aw
open Go.RowKit
set_option linter.unusedSimpArgs false

section
variable {P : Program} {own : List Nat} {ops : Array Oper} {ms : List Nat}
/-- the region from there on. -/
def AnyAt (P : Program) (ops : Array Oper) (k : Nat) (σ : St) (N : HN) (E : HE) (Rt : HR) : Prop := ∀ (C : Ctx) (a : Act) (w : World), StR C σ a w → wpAny P .any ops (APost C N.k E.k (fun σ => Rt.k σ ())) (ops.size - k) (preL ops.size k) a w

theorem adc_sound {N : HN} {C : Ctx} {Q : Exit → Act → World → Prop} {T : Array Bool} {nT : Nat} (hN : ∀ σ a w, N.k σ → StR C σ a w → wpAny P .any ops Q nT T a w) : ∀ (t : OTc) (n : Nat) (L : Array Bool) (σ : St) (a : Act) (w : World), t.okAll ops T nT n L = true → @ADc P own ops.toList ms t σ N → StR C σ a w →
    (t.isCut = true → wpAny P .any ops Q n L a w) ∧ (t.isCut = false → ∀ i ∈ t.alts, wpOp P ops Q i (fun a' w' => wpAny P .any ops Q (n - 1) (L.setIfInBounds i true) a' w') a w) := by
  intro t
  induction t with
  | cut =>
    intro n L σ a w hok h hS
    simp only [OTc.okAll, Bool.and_eq_true, decide_eq_true_eq] at hok
    obtain ⟨rfl, rfl⟩ := hok
    exact ⟨fun _ => hN σ a w h hS, fun e => (by cases e)⟩
  | nil =>
    intro n L σ a w hok h hS
    exact ⟨fun e => (by cases e), fun _ i hi => (by simp [OTc.alts] at hi)⟩
  | alt i s more ih1 ih2 =>
    intro n L σ a w hok h hS
    refine ⟨fun e => (by cases e), fun _ j hj => ?_⟩
    simp only [OTc.okAll, Bool.and_eq_true] at hok
    obtain ⟨⟨hr, hs⟩, hm⟩ := hok
    unfold ADc at h
    obtain ⟨hi, hmo⟩ := h
    simp only [OTc.alts, List.mem_cons] at hj
    have key : wpOp P ops Q i (fun a' w' => wpAny P .any ops Q (n - 1) (L.setIfInBounds i true) a' w') a w := by
      obtain ⟨o, ho, hi⟩ := AOpt_elim hi
      have ho : ops[i]? = some o := by simpa using ho
      have hcont : ∀ σ' a' w', @ADc P own ops.toList ms s σ' N → StR C σ' a' w' → wpAny P .any ops Q (n - 1) (L.setIfInBounds i true) a' w' := by
        intro σ' a' w' hA hS'
        have := ih1 (n - 1) (L.setIfInBounds i true) σ' a' w' hs hA hS'
        cases hd : s.isCut with
        | true => exact this.1 hd
        | false =>
          rw [hd] at hr
          simp only [Bool.false_or, Bool.and_eq_true, decide_eq_true_eq, List.all_eq_true, Bool.not_eq_true', List.isEmpty_eq_false_iff] at hr
          obtain ⟨⟨h2, h3⟩, h4⟩ := hr
          obtain ⟨k, hn⟩ : ∃ k, n - 1 = k + 1 := ⟨n - 2, by omega⟩
          rw [hn] at this ⊢
          refine ⟨fun h0 => absurd h0 h4, fun q hq => ?_⟩
          have := this.2 hd q (by simpa using h3 q hq)
          simpa using this
      have hi2 : @amo P own ops.toList (ms.contains i) o σ ⟨fun σ' => @ADc P own ops.toList ms s σ' N⟩ := hi
      cases hc : ms.contains i with
      | true =>
        rw [hc] at hi2
        exact wpOp_mono (fun a' w' ⟨σ', h1, h2⟩ => hcont σ' a' w' h1 h2) (amf_sound (N := ⟨fun σ' => @ADc P own ops.toList ms s σ' N⟩) ho hi2 hS)
      | false =>
        rw [hc] at hi2
        exact wpOp_mono (fun a' w' ⟨σ', h1, h2⟩ => hcont σ' a' w' h1 h2) (aop_sound (N := ⟨fun σ' => @ADc P own ops.toList ms s σ' N⟩) ho hi2 hS)
    rcases hj with rfl | hj
    · exact key
    · cases hd : more.isCut with
      | true => cases more <;> simp [OTc.isCut, OTc.alts] at hd hj
      | false => exact (ih2 n L σ a w hm hmo hS).2 hd j hj

/-- from a cut to the next one. -/
theorem any_seg {k : Nat} {σ : St} {N : HN} {E : HE} {Rt : HR} (kT : Nat) (t : OTc) (ms : List Nat) (hok : t.ok ops k kT = true) (σ' : St) (h : @ADc P own ops.toList ms t σ ⟨fun s => Le s σ'⟩) (h2 : AnyAt P ops kT σ' N E Rt) : AnyAt P ops k σ N E Rt := by
  intro C a w hS
  unfold OTc.ok at hok
  simp only [Bool.and_eq_true, decide_eq_true_eq, List.all_eq_true, Bool.not_eq_true', List.isEmpty_eq_false_iff] at hok
  obtain ⟨⟨⟨⟨h1, h3⟩, hk⟩, h4⟩, h5⟩ := hok
  have := (adc_sound (Q := APost C N.k E.k (fun σ => Rt.k σ ())) (N := ⟨fun s => Le s σ'⟩) (fun s a w hs hS => h2 C a w (hs C a w hS)) t _ _ σ a w h5 h hS).2 h4
  obtain ⟨m, hm⟩ : ∃ m, ops.size - k = m + 1 := ⟨ops.size - k - 1, by omega⟩
  generalize preL ops.size k = L at *
  rw [hm] at this ⊢
  refine ⟨fun h0 => absurd h0 h3, fun q hq => ?_⟩
  have := this q (by simpa using h1 q hq)
  simpa using this
theorem any_end {σ : St} {N : HN} {E : HE} {Rt : HR} {k : Nat} (hk : decide (k = ops.size) = true) (h : N.k σ) : AnyAt P ops k σ N E Rt := by
  intro C a w hS
  have hk := of_decide_eq_true hk
  subst hk
  rw [Nat.sub_self]
  refine ⟨?_, ⟨σ, h, hS⟩⟩
  rw [List.eq_nil_iff_forall_not_mem]
  intro i hi
  obtain ⟨hun, o, ho, _⟩ := mem_ready.1 hi
  have hil := (Array.getElem?_eq_some_iff.1 ho).1
  unfold preL at hun
  simp [Array.getD_eq_getD_getElem?, hil] at hun
theorem swp_any {id : Nat} {σ : St} {N : HN} {E : HE} {Rt : HR} (hm : P.follows .mixedOrders = true) (h : AnyAt P ops 0 σ N E Rt) : @SWp P (.region id ops true) σ N E Rt := by
  intro C a w hS
  refine wp_region_any hm ?_
  have := h C a { w with drawn := w.drawn + 1 } hS.drawn
  rw [Nat.sub_zero] at this
  have e : preL ops.size 0 = Array.replicate ops.size false := by
    unfold preL
    apply Array.ext_getElem?
    intro i
    simp [Array.getElem?_replicate]
    by_cases hi : i < ops.size <;> simp [hi]
  rwa [e] at this
theorem any_le {k : Nat} {σ σ' : St} {N : HN} {E : HE} {Rt : HR} (hl : Le σ σ') (h : AnyAt P ops k σ' N E Rt) : AnyAt P ops k σ N E Rt := fun C a w hS => h C a w (hl C a w hS)
end
end Aw
end Go.Proofs.YtndniceeibflcaaGreatDoor

namespace Go.Proofs.YtndniceeibflcaaGreatDoor
open Aw Mp Go.RowKit
set_option linter.unusedSimpArgs false
set_option maxRecDepth 8000

theorem ok54 : okFn Tryz.prog 54 = true := by kernel_rfl
theorem m54 (m : Mch) (hs : Sml m) : MSpec Tryz.prog 54 [.q 0 13 0 0] (memD m) (fun r N => r = .t [I m.st.moves, I m.st.cools, I m.st.done] ∧ N = memD m) := by
  refine mspec_of2 (own := [5, 1001]) Tryz.func54 rfl ok54 ?_
  intro vs
  obtain ⟨gh, hgh⟩ : ∃ gh, gh = some (ghost vs [AV.q 0 13 0 0]) := ⟨_, rfl⟩
  simp only [wB, awp, asN, St.ev, St.step, setS, killS, AV.kill, AV.killL, Mem.kill, Nat.reduceAdd, Nat.reduceEqDiff, Nat.reduceSub, Int.reduceAdd, Int.reduceSub, Tryz.ntmps54, ← hgh, memD]
  refine swp_fm (own := [5]) 1 rfl rfl rfl ?_
  simp only [wB, St.ev, St.step, setS, killS, AV.kill, AV.killL, Mem.kill, AV.cells, Mch.ob, Mch.od, Mch.cells, List.take_succ_cons, List.take_zero]
  refine acall_f (fspec_of (m67f m hs.mu hs.p hs.h hs.c) [1, 3] rfl (by exact ⟨rfl, rfl, trivial⟩) rfl rfl (by simp [freeM, memD, Mch.ob, Mch.od, Mch.cells, AV.freeL, AV.free, strsA_free]) (N := [some m.ob, none, some m.od, gh]) (by rw [hgh]; rfl)) ?_
  simp only [wB, awp, asQ, asT, asN, obA, storeA, putsA, mkA, Aw.newRow, St.ev, St.step, setS, killS, AV.kill, AV.killL, Mem.kill, AV.cells, AV.flat, AV.single, AV.cellular, Nat.reduceAdd, Nat.reduceEqDiff, Nat.reduceLeDiff, Int.reduceAdd, Mch.ob, Mch.od, Mch.cells, List.drop_succ_cons, List.drop_zero, AV.sub, keepG, liveI, AV.isQ, List.any_cons, List.any_nil, stA]
  refine swp_draw (own := [5]) (.take 0 .plain [] (.take 1 .reads [] (.take 2 .plain [] (.take 3 .reads [] (.take 4 .plain [] (.take 5 .reads [] (.take 6 .plain [] (.take 7 .plain [] (.take 8 .plain [] (.done)))))))))) [⟨13, 32, 0, 0, true⟩, ⟨14, 4096, 1, 0, true⟩, ⟨15, 32, 0, 0, true⟩, ⟨16, 16384, 4, 0, true⟩, ⟨17, 32, 0, 0, true⟩, ⟨18, 65536, 16, 0, true⟩, ⟨3, 8192, 3, 0, true⟩, ⟨4, 32768, 79, 0, true⟩, ⟨5, 131072, 255, 0, true⟩] mo (by kernel_rfl) ?_
  simp only [wB, awp, asP, asQ, asN, obA, loadA, St.ev, setS, AV.cells, AV.flat, AV.single, Nat.reduceAdd, Nat.reduceEqDiff, Nat.reduceLeDiff, Int.reduceAdd, ASch, St.put, Md.mem, Md.need, Mch.cells, List.drop_succ_cons, List.drop_zero, List.take_succ_cons, List.take_zero]
  exact ⟨_, _, memD m, _, Le.refl _, rfl, by rw [hgh]; rfl, rfl, rfl, free_D _ m, rfl, rfl⟩

end Go.Proofs.YtndniceeibflcaaGreatDoor

namespace Go.Proofs.YtndniceeibflcaaGreatDoor
open Aw Mp Go.RowKit
set_option linter.unusedSimpArgs false
set_option maxRecDepth 8000

theorem ok84 : okFn Tryz.prog 84 = true := by kernel_rfl
theorem s84 (n lm : Int) (ls : List (Int × Int)) (l : List By) (hA : Acc n lm ls l) (hls : ls.length ≤ 1000000) : ASpec Tryz.prog 84 [rfA n lm ls l] (fun r Ms => r = .s 1 (intsA (wrmL lm (stO l).heats)) ∧ Ms = []) := by
  refine aspec_of (own := [1, 3, 4]) Tryz.func84 rfl ok84 ?_
  have h82 := s82 n lm ls l hA hls
  obtain ⟨t, ht⟩ : ∃ t, t = stO l := ⟨_, rfl⟩
  have hI := hA.inv.2
  rw [← ht] at h82 hI ⊢
  have hp4 := hI.p4
  have hhl := hI.hl
  obtain ⟨p, hpd⟩ : ∃ p : Int → Bool, p = fun i => decide (lm < t.heats.getD i.toNat 0) := ⟨_, rfl⟩
  simp only [rfA, stA] at h82
  simp only [wB, awp, asP, asQ, asN, obA, loadA, Aw.newRow, St.ev, St.step, setS, killS, AV.kill, AV.killL, Mem.kill, AV.cells, AV.flat, AV.single, AV.cellular, AV.size, AV.sizeL, Nat.reduceAdd, Nat.reduceEqDiff, Nat.reduceSub, Nat.reduceLeDiff, Int.reduceAdd, Int.reduceSub, Tryz.ntmps84, rfA]
  refine acall_v h82 (by simp [AV.pureL, AV.pure, prsA_pure, strsA_pure]) (by simp [AV.pure, AV.pureL, intsA_pure, gtsA_pure]) ?_
  simp only [wB, awp, asQ, asN, obA, storeA, putsA, mkA, Aw.newRow, St.ev, St.step, setS, killS, AV.kill, AV.killL, Mem.kill, AV.cells, AV.flat, AV.single, AV.cellular, Nat.reduceAdd, Nat.reduceEqDiff, Nat.reduceLeDiff, Int.reduceAdd]
  refine swp_loop' (fun k : Nat => ⟨[.bot, .q 0 4 0 0, .bot, .q 1 6 0 0, .o 2, I k, .bot, .bot, .bot, .bot, .bot, .bot, .bot, .bot, .bot, .bot, .bot, .bot, .bot, .bot, .bot, .bot, .bot, .bot, .bot, .bot, .bot, .bot], [some ⟨none, 55, 4, [rfA n lm ls l]⟩, some ⟨none, 130, 6, [stA t]⟩, some ⟨none, 3, 1, intsA (upL k p)⟩]⟩) (fun k => k ≤ t.heats.length) (fun k => t.heats.length - k) 0 (le_sl' ?_ (by simp [leSl])) (Nat.zero_le _) ?_
  · simp [rfA, stA, upL, intsA]
  intro k hk
  refine awp_sound (own := [1, 3, 4]) _ _ _ _ _ ?_
  simp only [wB, awp, binC, cmpC, asP, asQ, asB, asI, obA, lenA, loadA, St.ev, St.step, setS, killS, AV.kill, AV.killL, Mem.kill, AV.cells, AV.flat, AV.single, Nat.reduceAdd, Nat.reduceEqDiff, Nat.reduceLeDiff, Int.reduceAdd, lenK, rfA, stA]
  have hul := upL_len k p
  by_cases h : k < t.heats.length
  case neg =>
    have h' : ¬ (k : Int) < t.heats.length := by omega
    simp only [wB, awp, asN, St.ev, St.step, setS, killS, AV.kill, AV.killL, Mem.kill, Nat.reduceAdd, Nat.reduceEqDiff, Int.reduceAdd, decide_eq_false h']
    obtain rfl : k = t.heats.length := by omega
    refine aend_frz rfl ⟨?_, rfl⟩
    rw [hpd]
    simp [frz, AV.sub, AV.subL, intsA_pure, wrmL]
  have h' : (k : Int) < t.heats.length := by omega
  simp only [awp, ACond_true, decide_eq_true h']
  refine swp_draw (own := [1, 3, 4]) (.take 0 .plain [] (.take 1 .reads [] (.take 2 .plain [] (.take 3 .reads [] (.take 4 .reads [] (.take 5 .plain [] (.take 6 .reads [] (.take 7 .plain [] (.done))))))))) [⟨16, 8, 0, 0, true⟩, ⟨17, 32768, 1, 0, true⟩, ⟨18, 32, 0, 0, true⟩, ⟨19, 196608, 6, 0, true⟩, ⟨20, 262144, 8, 0, true⟩, ⟨21, 2, 0, 0, true⟩, ⟨22, 1048576, 32, 0, true⟩, ⟨23, 2621440, 80, 0, true⟩] mo (by kernel_rfl) ?_
  simp only [wB, awp, binC, idxC, cmpC, asP, asQ, asS, asB, asI, obA, loadA, St.ev, setS, AV.cells, AV.flat, AV.single, Nat.reduceAdd, Nat.reduceEqDiff, Nat.reduceLeDiff, Int.reduceAdd, ASch, St.put, Md.mem, Md.need, aget_ints h, Int.toNat_natCast]
  refine ⟨by omega, ?_⟩
  by_cases c : lm < t.heats[k]
  · have hpk : p k = true := by rw [hpd]; simp only [Int.toNat_natCast, getD_eq h]; exact decide_eq_true c
    simp only [wB, awp, binC, arithC, cmpC, asO, asS, asI, asN, obA, St.ev, St.step, setS, killS, AV.kill, AV.killL, Mem.kill, AV.cells, AV.flat, AV.single, AV.cellular, AV.size, AV.pure, AV.pureL, Value.oneCell', Nat.reduceAdd, Nat.reduceEqDiff, Nat.reduceMul, Nat.reduceLeDiff, Int.reduceAdd, Int.reduceMul, St.put, isU, decide_eq_true c]
    refine ⟨⟨by decide, rfl⟩, ⟨by decide, by omega⟩, by unfold lim; omega, k + 1, le_sl' ?_ (by simp [leSl]), h, by omega⟩
    rw [upL_true hpk]
    simp [rfA, stA, intsA_kill, intsA_app]
  · have hpk : p k = false := by rw [hpd]; simp only [Int.toNat_natCast, getD_eq h]; exact decide_eq_false c
    simp only [wB, awp, binC, arithC, cmpC, asI, asN, St.ev, St.step, setS, killS, AV.kill, AV.killL, Mem.kill, Nat.reduceAdd, Nat.reduceEqDiff, Int.reduceAdd, St.put, isU, decide_eq_false c]
    refine ⟨by unfold lim; omega, k + 1, le_sl' ?_ (by simp [leSl]), h, by omega⟩
    rw [upL_false hpk]
    simp [rfA, stA]
end Go.Proofs.YtndniceeibflcaaGreatDoor

namespace Go.Proofs.YtndniceeibflcaaGreatDoor
open Aw Mp Go.RowKit
set_option linter.unusedSimpArgs false

theorem g4_eq (g h : G4) : [g.k, g.a, g.b, g.t] = [h.k, h.a, h.b, h.t] ↔ g = h := by
  cases g; cases h; simp
theorem ok53 : okFn Tryz.prog 53 = true := by kernel_rfl
theorem s53 (a b : List G4) (ha : a.length ≤ 1000000) (hb : b.length ≤ 1000000) : ASpec Tryz.prog 53 [.s 4 (gtsA a), .s 4 (gtsA b)] (fun r Ms => r = B (decide (a = b)) ∧ Ms = []) := by
  refine aspec_of (own := []) Tryz.func53 rfl ok53 ?_
  simp only [wB, awp, binC, cmpC, asB, asI, asN, lenA, St.ev, St.step, setS, killS, AV.kill, AV.killL, Mem.kill, Nat.reduceAdd, Nat.reduceSub, Int.reduceAdd, Int.reduceSub, lenK, Tryz.ntmps53, gtsA_len]
  by_cases hl : (a.length : Int) = b.length
  · simp only [wB, awp, asN, St.ev, St.step, setS, killS, AV.kill, AV.killL, Mem.kill, Nat.reduceAdd, Int.reduceAdd, decide_eq_true hl]
    refine swp_loop' (fun k : Nat => ⟨[.s 4 (gtsA a), .s 4 (gtsA b), .bot, .bot, .bot, I k, .bot, .bot, .bot, .bot, .bot, .bot, .bot, .bot, .bot, .bot, .bot, .bot, .bot, .bot, .bot, .bot, .bot, .bot, .bot, .bot], []⟩) (fun k => k ≤ a.length ∧ ∀ j (h : j < a.length) (h' : j < b.length), j < k → a[j] = b[j]) (fun k => a.length - k) 0 (le_sl (by simp [leSl, gtsA_len])) ⟨Nat.zero_le _, by omega⟩ ?_
    rintro k ⟨hk, hno⟩
    refine awp_sound (own := []) _ _ _ _ _ ?_
    simp only [wB, awp, binC, cmpC, asB, asI, lenA, St.ev, St.step, setS, killS, AV.kill, AV.killL, Mem.kill, Nat.reduceAdd, Int.reduceAdd, lenK, gtsA_len]
    by_cases h : k < a.length
    · have h' : (k : Int) < (a.length : Int) := by omega
      have h2 : k < b.length := by omega
      simp only [awp, ACond_true, decide_eq_true h']
      refine swp_draw (own := []) (.take 0 .plain [] (.take 1 .plain [] (.take 2 .reads [] (.take 3 .reads [] (.take 4 .plain [] (.take 5 .plain [] (.take 6 .reads [] (.take 7 .reads [] (.take 8 .plain [] (.done)))))))))) [⟨18, 1, 0, 0, true⟩, ⟨19, 32, 0, 0, true⟩, ⟨20, 393216, 3, 0, true⟩, ⟨21, 524288, 4, 0, true⟩, ⟨22, 2, 0, 0, true⟩, ⟨23, 32, 0, 0, true⟩, ⟨24, 6291456, 48, 0, true⟩, ⟨25, 8388608, 64, 0, true⟩, ⟨26, 17825792, 136, 0, true⟩] mo (by kernel_rfl) ?_
      simp only [wB, awp, binC, idxC, eqC, asP, asS, asG, asB, asI, loadA, St.ev, setS, AV.cells, AV.flat, AV.single, ints, Nat.reduceAdd, Nat.reduceLeDiff, Int.reduceAdd, ASch, St.put, Md.mem, Md.need, aget_gts h, aget_gts h2, Int.toNat_natCast]
      refine ⟨by omega, by omega, ?_⟩
      by_cases hx : [a[k].k, a[k].a, a[k].b, a[k].t] = [b[k].k, b[k].a, b[k].b, b[k].t]
      · simp only [wB, awp, binC, arithC, cmpC, asI, asN, St.ev, St.step, setS, killS, AV.kill, AV.killL, Mem.kill, Nat.reduceAdd, Int.reduceAdd, St.put, isU, decide_eq_true hx]
        refine ⟨by unfold lim; omega, k + 1, le_sl (by simp [leSl, gtsA_len]), ⟨h, fun j hj hj' hlt => ?_⟩, by omega⟩
        rcases Nat.lt_or_ge j k with h1 | h1
        · exact hno j hj hj' h1
        · obtain rfl : j = k := by omega
          exact (g4_eq _ _).1 hx
      · simp only [wB, awp, asN, St.ev, St.step, setS, killS, AV.kill, AV.killL, Mem.kill, Nat.reduceAdd, Int.reduceAdd, St.put, decide_eq_false hx]
        refine aend_frz rfl ⟨?_, rfl⟩
        rw [decide_eq_false (fun e => hx (by subst e; rfl))]
        rfl
    · have h' : ¬ (k : Int) < (a.length : Int) := by omega
      simp only [wB, awp, asN, St.ev, St.step, setS, killS, AV.kill, AV.killL, Mem.kill, Nat.reduceAdd, Int.reduceAdd, decide_eq_false h']
      refine aend_frz rfl ⟨?_, rfl⟩
      rw [decide_eq_true (List.ext_getElem (by omega) fun j h1 h2 => hno j h1 h2 (by omega))]
      rfl
  · simp only [wB, awp, asN, St.ev, St.step, setS, killS, AV.kill, AV.killL, Mem.kill, Nat.reduceAdd, Int.reduceAdd, decide_eq_false hl]
    refine aend_frz rfl ⟨?_, rfl⟩
    rw [decide_eq_false (fun e => hl (by rw [e]))]
    rfl

end Go.Proofs.YtndniceeibflcaaGreatDoor

namespace Go.Proofs.YtndniceeibflcaaGreatDoor
open Aw Mp Go.RowKit
set_option linter.unusedSimpArgs false
set_option maxRecDepth 8000

theorem Acc.cut {n lm : Int} {ls : List (Int × Int)} {l : List By} (h : Acc n lm ls l) (k : Nat) : Acc n lm ls (l.take k) := by
  rcases Nat.lt_or_ge k l.length with hk | hk
  · exact (h.at k hk).1
  · rw [List.take_of_length_le hk]; exact h

end Go.Proofs.YtndniceeibflcaaGreatDoor

namespace Go.Proofs.YtndniceeibflcaaGreatDoor
open Aw Mp Go.RowKit
set_option linter.unusedSimpArgs false
set_option maxRecDepth 8000

/-- a region of a function. -/
def regOf : Code → Nat → Option (Array Oper)
  | .seq a b, i => (regOf a i).or (regOf b i)
  | .region j ops _, i => if j = i then some ops else none
  | _, _ => none
/-- a part of a drawn region, from the first k operations done to the first kT done. -/
def Seg (b : Option Code) (i k kT : Nat) (σ σ' : St) : Prop := ∀ ops, b.bind (regOf · i) = some ops → ∀ (N : HN) (E : HE) (Rt : HR), AnyAt Tryz.prog ops kT σ' N E Rt → AnyAt Tryz.prog ops k σ N E Rt
theorem seg_intro {b : Option Code} {i k kT : Nat} {σ σ' : St} {ops : Array Oper} (hb : b.bind (regOf · i) = some ops) (own : List Nat) (t : OTc) (ms : List Nat) (hok : t.ok ops k kT = true) (h : @ADc Tryz.prog own ops.toList ms t σ ⟨fun s => Le s σ'⟩) : Seg b i k kT σ σ' := by
  intro ops' hb' N E Rt h2
  rw [hb] at hb'
  obtain rfl := Option.some.inj hb'
  exact any_seg (own := own) kT t ms hok σ' h h2
theorem seg_use {b : Option Code} {i k kT : Nat} {σ σ' : St} {ops : Array Oper} {N : HN} {E : HE} {Rt : HR} (s : Seg b i k kT σ σ') (hb : b.bind (regOf · i) = some ops) (h : AnyAt Tryz.prog ops kT σ' N E Rt) : AnyAt Tryz.prog ops k σ N E Rt := s ops hb N E Rt h

def M0 (n lm : Int) (ls : List (Int × Int)) (l : List By) (gh : Option Ob) : Mem := [some (mkM n lm ls l).ob, none, some (mkM n lm ls l).od, gh, some ⟨none, 55, 4, [.g [I n, .s 2 (prsA ls), I lm, .s 1 (strsA l)]]⟩, some ⟨none, 130, 6, [.g [.s 1 (intsA (stO l).place), .s 1 (intsA (stO l).heats), .s 4 (gtsA (stO l).circ), I (stO l).moves, I (stO l).cools, I (stO l).done]]⟩]
theorem g37 {n lm : Int} {ls : List (Int × Int)} {l : List By} {gh : Option Ob} {vs : List Value} {f : FuncId} {x : AV} (h : MSpec Tryz.prog f [.q 0 13 0 0] (memD (mkM n lm ls l)) (fun r N => r = x ∧ N = memD (mkM n lm ls l))) (hgh : gh = some (ghost vs [AV.q 0 13 0 0, AV.g [I n, .s 2 (prsA ls), I lm, .s 1 (strsA l)]])) :
    FSpec Tryz.prog f [.q 0 13 0 0] (memD (mkM n lm ls l)) [some (mkM n lm ls l).ob, none, some (mkM n lm ls l).od, gh, some ⟨none, 55, 4, [.g [I n, .s 2 (prsA ls), I lm, .s 1 (strsA l)]]⟩, some ⟨none, 130, 6, [.g [.s 1 (intsA (stO l).place), .s 1 (intsA (stO l).heats), .s 4 (gtsA (stO l).circ), I (stO l).moves, I (stO l).cools, I (stO l).done]]⟩] x [some (mkM n lm ls l).ob, none, some (mkM n lm ls l).od, gh, some ⟨none, 55, 4, [.g [I n, .s 2 (prsA ls), I lm, .s 1 (strsA l)]]⟩, some ⟨none, 130, 6, [.g [.s 1 (intsA (stO l).place), .s 1 (intsA (stO l).heats), .s 4 (gtsA (stO l).circ), I (stO l).moves, I (stO l).cools, I (stO l).done]]⟩] :=
  fD h [gh, some ⟨none, 55, 4, [.g [I n, .s 2 (prsA ls), I lm, .s 1 (strsA l)]]⟩, some ⟨none, 130, 6, [.g [.s 1 (intsA (stO l).place), .s 1 (intsA (stO l).heats), .s 4 (gtsA (stO l).circ), I (stO l).moves, I (stO l).cools, I (stO l).done]]⟩] [1, 3, 4, 5] rfl rfl (by
    obtain ⟨F, hF⟩ : ∃ F, F = keepF (memD (mkM n lm ls l)) [AV.q 0 13 0 0] := ⟨_, rfl⟩
    obtain ⟨G, hG⟩ : ∃ G, G = keepG (memD (mkM n lm ls l)) [AV.q 0 13 0 0] := ⟨_, rfl⟩
    have g0 : G 0 13 0 0 = .q 0 13 0 0 := by rw [hG]; rfl
    rw [← hF, ← hG, hgh]
    simp [ghost, AV.sub, AV.subL, prsA_sub, strsA_sub, intsA_sub, gtsA_sub, g0])
theorem seg37_0 (n lm : Int) (ls : List (Int × Int)) (hls : ls.length ≤ 1000000) (l : List By) (hA : Acc n lm ls l) (gh : Option Ob) (vs : List Value) (hgh : gh = some (ghost vs [AV.q 0 13 0 0, AV.g [I n, .s 2 (prsA ls), I lm, .s 1 (strsA l)]])) : Seg Tryz.f37.body 3 0 6 ⟨[.q 0 13 0 0, .bot, .bot, .q 4 4 0 0, B false, .q 5 6 0 0, I (stO l).moves, I (stO l).cools, I (stO l).done, .bot, .bot, .bot, .bot, .bot, .bot, .bot, .bot, .bot, .bot, .bot, .bot, .bot, .bot, .bot, .bot, .bot, .bot, .bot, .bot, .bot, .bot, .bot, .bot, .bot, .bot, .bot, .bot, .bot, .bot, .bot, .bot, .bot, .bot, .bot, .bot, .bot, .bot, .bot, .bot, .bot, .bot, .bot, .bot, .bot, .bot, .bot, .bot, .bot, .bot, .bot, .bot, .bot, .bot, .bot, .bot, .bot, .bot, .bot, .bot], M0 n lm ls l gh⟩ ⟨[.q 0 13 0 0, .bot, .bot, .q 4 4 0 0, .bot, .q 5 6 0 0, I (stO l).moves, I (stO l).cools, I (stO l).done, .bot, .bot, .bot, .bot, .bot, .bot, .bot, .bot, .bot, .bot, .bot, .bot, .bot, B true, .bot, .bot, .bot, .bot, .bot, .bot, .bot, .bot, .bot, .bot, .bot, .bot, .bot, .bot, .bot, .bot, .bot, .bot, .bot, .bot, .bot, .bot, .bot, .bot, .bot, .bot, .bot, .bot, .bot, .bot, .bot, .bot, .bot, .bot, .bot, .bot, .bot, .bot, .bot, .bot, .bot, .bot, .bot, .bot, .bot, .bot], M0 n lm ls l gh⟩ := by
  have hI := hA.inv.2
  have hp4 := hI.p4
  have hhl := hI.hl
  have hc10 := hI.c10
  have hwl := wrm_len lm (stO l).heats
  have h52p : ASpec Tryz.prog 52 [.s 1 (intsA (mkM n lm ls l).st.place), .s 1 (intsA (stO l).place)] (fun r Ms => r = B true ∧ Ms = []) := by simpa [mkM] using s52 (stO l).place (stO l).place (by omega) (by omega)
  refine seg_intro rfl [3, 5] (.alt 0 (.alt 1 (.alt 2 (.alt 3 (.alt 4 (.alt 5 (.cut) (.nil)) (.nil)) (.nil)) (.nil)) (.alt 2 (.alt 1 (.alt 3 (.alt 4 (.alt 5 (.cut) (.nil)) (.nil)) (.nil)) (.alt 3 (.alt 1 (.alt 4 (.alt 5 (.cut) (.nil)) (.nil)) (.nil)) (.nil))) (.nil))) (.alt 2 (.alt 0 (.alt 1 (.alt 3 (.alt 4 (.alt 5 (.cut) (.nil)) (.nil)) (.nil)) (.alt 3 (.alt 1 (.alt 4 (.alt 5 (.cut) (.nil)) (.nil)) (.nil)) (.nil))) (.alt 3 (.alt 0 (.alt 1 (.alt 4 (.alt 5 (.cut) (.nil)) (.nil)) (.nil)) (.nil)) (.nil))) (.nil))) [1] (by kernel_rfl) ?_
  simp only [wB, asP, asQ, obA, loadA, St.ev, St.step, setS, killS, AV.kill, AV.killL, Mem.kill, AV.cells, AV.flat, AV.single, Nat.reduceAdd, Nat.reduceEqDiff, Nat.reduceLeDiff, Int.reduceAdd, List.drop_zero, List.take_succ_cons, List.take_zero, M0]
  repeat' (first
    | refine And.intro ?_ ?_
    | trivial
    | (refine acall_f (g37 (m44 _ (sml_of hA)) hgh) ?_; simp only [wB, asP, asQ, obA, loadA, St.ev, St.step, setS, killS, AV.kill, AV.killL, Mem.kill, AV.cells, AV.flat, AV.single, Nat.reduceAdd, Nat.reduceEqDiff, Nat.reduceLeDiff, Int.reduceAdd, memD, List.drop_zero, AV.sub, keepG, liveI, AV.isQ, List.any_cons, List.any_nil, List.take_succ_cons, List.take_zero])
    | (refine acall_v h52p (by simp [AV.pureL, AV.pure, intsA_pure]) rfl ?_; simp only [wB, St.ev, St.step, setS, killS, AV.kill, AV.killL, Mem.kill, Nat.reduceEqDiff, M0]))
  all_goals exact le_sl (by simp [leSl, mkM])
theorem seg37_1 (n lm : Int) (ls : List (Int × Int)) (hls : ls.length ≤ 1000000) (l : List By) (hA : Acc n lm ls l) (gh : Option Ob) (vs : List Value) (hgh : gh = some (ghost vs [AV.q 0 13 0 0, AV.g [I n, .s 2 (prsA ls), I lm, .s 1 (strsA l)]])) : Seg Tryz.f37.body 3 6 13 ⟨[.q 0 13 0 0, .bot, .bot, .q 4 4 0 0, .bot, .q 5 6 0 0, I (stO l).moves, I (stO l).cools, I (stO l).done, .bot, .bot, .bot, .bot, .bot, .bot, .bot, .bot, .bot, .bot, .bot, .bot, .bot, B true, .bot, .bot, .bot, .bot, .bot, .bot, .bot, .bot, .bot, .bot, .bot, .bot, .bot, .bot, .bot, .bot, .bot, .bot, .bot, .bot, .bot, .bot, .bot, .bot, .bot, .bot, .bot, .bot, .bot, .bot, .bot, .bot, .bot, .bot, .bot, .bot, .bot, .bot, .bot, .bot, .bot, .bot, .bot, .bot, .bot, .bot], M0 n lm ls l gh⟩ ⟨[.q 0 13 0 0, .bot, .bot, .q 4 4 0 0, .bot, .q 5 6 0 0, I (stO l).moves, I (stO l).cools, I (stO l).done, .bot, .bot, .bot, .bot, .bot, .bot, .bot, .bot, .bot, .bot, .bot, .bot, .bot, .bot, .bot, .bot, .bot, .bot, .bot, .bot, B true, .bot, .bot, .bot, .bot, .bot, .bot, .bot, .bot, .bot, .bot, .bot, .bot, .bot, .bot, .bot, .bot, .bot, .bot, .bot, .bot, .bot, .bot, .bot, .bot, .bot, .bot, .bot, .bot, .bot, .bot, .bot, .bot, .bot, .bot, .bot, .bot, .bot, .bot, .bot], M0 n lm ls l gh⟩ := by
  have hI := hA.inv.2
  have hp4 := hI.p4
  have hhl := hI.hl
  have hc10 := hI.c10
  have hwl := wrm_len lm (stO l).heats
  have h52h : ASpec Tryz.prog 52 [.s 1 (intsA (mkM n lm ls l).st.heats), .s 1 (intsA (stO l).heats)] (fun r Ms => r = B true ∧ Ms = []) := by simpa [mkM] using s52 (stO l).heats (stO l).heats (by omega) (by omega)
  refine seg_intro rfl [3, 5] (.alt 6 (.alt 7 (.alt 8 (.alt 9 (.alt 10 (.alt 11 (.alt 12 (.cut) (.nil)) (.nil)) (.nil)) (.nil)) (.nil)) (.alt 8 (.alt 7 (.alt 9 (.alt 10 (.alt 11 (.alt 12 (.cut) (.nil)) (.nil)) (.nil)) (.nil)) (.alt 9 (.alt 7 (.alt 10 (.alt 11 (.alt 12 (.cut) (.nil)) (.nil)) (.nil)) (.nil)) (.nil))) (.nil))) (.alt 8 (.alt 6 (.alt 7 (.alt 9 (.alt 10 (.alt 11 (.alt 12 (.cut) (.nil)) (.nil)) (.nil)) (.nil)) (.alt 9 (.alt 7 (.alt 10 (.alt 11 (.alt 12 (.cut) (.nil)) (.nil)) (.nil)) (.nil)) (.nil))) (.alt 9 (.alt 6 (.alt 7 (.alt 10 (.alt 11 (.alt 12 (.cut) (.nil)) (.nil)) (.nil)) (.nil)) (.nil)) (.nil))) (.nil))) [7] (by kernel_rfl) ?_
  simp only [wB, asP, asQ, obA, loadA, St.ev, St.step, setS, killS, AV.kill, AV.killL, Mem.kill, AV.cells, AV.flat, AV.single, Nat.reduceAdd, Nat.reduceEqDiff, Nat.reduceLeDiff, Int.reduceAdd, List.drop_succ_cons, List.drop_zero, List.take_succ_cons, List.take_zero, M0]
  repeat' (first
    | refine And.intro ?_ ?_
    | trivial
    | (refine acall_f (g37 (m45 _ (sml_of hA)) hgh) ?_; simp only [wB, asP, asQ, obA, loadA, St.ev, St.step, setS, killS, AV.kill, AV.killL, Mem.kill, AV.cells, AV.flat, AV.single, Nat.reduceAdd, Nat.reduceEqDiff, Nat.reduceLeDiff, Int.reduceAdd, memD, List.drop_succ_cons, List.drop_zero, AV.sub, keepG, liveI, AV.isQ, List.any_cons, List.any_nil, List.take_succ_cons, List.take_zero])
    | (refine acall_v h52h (by simp [AV.pureL, AV.pure, intsA_pure]) rfl ?_; simp only [wB, asB, St.ev, St.step, setS, killS, AV.kill, AV.killL, Mem.kill, Nat.reduceEqDiff, M0]))
  all_goals exact le_sl (by simp [leSl, mkM])
theorem seg37_2 (n lm : Int) (ls : List (Int × Int)) (hls : ls.length ≤ 1000000) (l : List By) (hA : Acc n lm ls l) (gh : Option Ob) (vs : List Value) (hgh : gh = some (ghost vs [AV.q 0 13 0 0, AV.g [I n, .s 2 (prsA ls), I lm, .s 1 (strsA l)]])) : Seg Tryz.f37.body 3 13 20 ⟨[.q 0 13 0 0, .bot, .bot, .q 4 4 0 0, .bot, .q 5 6 0 0, I (stO l).moves, I (stO l).cools, I (stO l).done, .bot, .bot, .bot, .bot, .bot, .bot, .bot, .bot, .bot, .bot, .bot, .bot, .bot, .bot, .bot, .bot, .bot, .bot, .bot, .bot, B true, .bot, .bot, .bot, .bot, .bot, .bot, .bot, .bot, .bot, .bot, .bot, .bot, .bot, .bot, .bot, .bot, .bot, .bot, .bot, .bot, .bot, .bot, .bot, .bot, .bot, .bot, .bot, .bot, .bot, .bot, .bot, .bot, .bot, .bot, .bot, .bot, .bot, .bot, .bot], M0 n lm ls l gh⟩ ⟨[.q 0 13 0 0, .bot, .bot, .q 4 4 0 0, .bot, .q 5 6 0 0, I (stO l).moves, I (stO l).cools, I (stO l).done, .bot, .bot, .bot, .bot, .bot, .bot, .bot, .bot, .bot, .bot, .bot, .bot, .bot, .bot, .bot, .bot, .bot, .bot, .bot, .bot, .bot, .bot, .bot, .bot, .bot, .bot, .bot, B true, .bot, .bot, .bot, .bot, .bot, .bot, .bot, .bot, .bot, .bot, .bot, .bot, .bot, .bot, .bot, .bot, .bot, .bot, .bot, .bot, .bot, .bot, .bot, .bot, .bot, .bot, .bot, .bot, .bot, .bot, .bot, .bot], M0 n lm ls l gh⟩ := by
  have hI := hA.inv.2
  have hp4 := hI.p4
  have hhl := hI.hl
  have hc10 := hI.c10
  have hwl := wrm_len lm (stO l).heats
  have h53 : ASpec Tryz.prog 53 [.s 4 (gtsA (mkM n lm ls l).st.circ), .s 4 (gtsA (stO l).circ)] (fun r Ms => r = B true ∧ Ms = []) := by simpa [mkM] using s53 (stO l).circ (stO l).circ (by omega) (by omega)
  refine seg_intro rfl [3, 5] (.alt 13 (.alt 14 (.alt 15 (.alt 16 (.alt 17 (.alt 18 (.alt 19 (.cut) (.nil)) (.nil)) (.nil)) (.nil)) (.nil)) (.alt 15 (.alt 14 (.alt 16 (.alt 17 (.alt 18 (.alt 19 (.cut) (.nil)) (.nil)) (.nil)) (.nil)) (.alt 16 (.alt 14 (.alt 17 (.alt 18 (.alt 19 (.cut) (.nil)) (.nil)) (.nil)) (.nil)) (.nil))) (.nil))) (.alt 15 (.alt 13 (.alt 14 (.alt 16 (.alt 17 (.alt 18 (.alt 19 (.cut) (.nil)) (.nil)) (.nil)) (.nil)) (.alt 16 (.alt 14 (.alt 17 (.alt 18 (.alt 19 (.cut) (.nil)) (.nil)) (.nil)) (.nil)) (.nil))) (.alt 16 (.alt 13 (.alt 14 (.alt 17 (.alt 18 (.alt 19 (.cut) (.nil)) (.nil)) (.nil)) (.nil)) (.nil)) (.nil))) (.nil))) [14] (by kernel_rfl) ?_
  simp only [wB, asP, asQ, obA, loadA, St.ev, St.step, setS, killS, AV.kill, AV.killL, Mem.kill, AV.cells, AV.flat, AV.single, Nat.reduceAdd, Nat.reduceEqDiff, Nat.reduceLeDiff, Int.reduceAdd, List.drop_succ_cons, List.drop_zero, List.take_succ_cons, List.take_zero, M0]
  repeat' (first
    | refine And.intro ?_ ?_
    | trivial
    | (refine acall_f (g37 (m47 _ (sml_of hA)) hgh) ?_; simp only [wB, asP, asQ, obA, loadA, St.ev, St.step, setS, killS, AV.kill, AV.killL, Mem.kill, AV.cells, AV.flat, AV.single, Nat.reduceAdd, Nat.reduceEqDiff, Nat.reduceLeDiff, Int.reduceAdd, memD, List.drop_succ_cons, List.drop_zero, AV.sub, keepG, liveI, AV.isQ, List.any_cons, List.any_nil, List.take_succ_cons, List.take_zero])
    | (refine acall_v h53 (by simp [AV.pureL, AV.pure, gtsA_pure]) rfl ?_; simp only [wB, asB, St.ev, St.step, setS, killS, AV.kill, AV.killL, Mem.kill, Nat.reduceEqDiff, M0]))
  all_goals exact le_sl (by simp [leSl, mkM])
theorem seg37_3 (n lm : Int) (ls : List (Int × Int)) (hls : ls.length ≤ 1000000) (l : List By) (hA : Acc n lm ls l) (gh : Option Ob) (vs : List Value) (hgh : gh = some (ghost vs [AV.q 0 13 0 0, AV.g [I n, .s 2 (prsA ls), I lm, .s 1 (strsA l)]])) : Seg Tryz.f37.body 3 20 26 ⟨[.q 0 13 0 0, .bot, .bot, .q 4 4 0 0, .bot, .q 5 6 0 0, I (stO l).moves, I (stO l).cools, I (stO l).done, .bot, .bot, .bot, .bot, .bot, .bot, .bot, .bot, .bot, .bot, .bot, .bot, .bot, .bot, .bot, .bot, .bot, .bot, .bot, .bot, .bot, .bot, .bot, .bot, .bot, .bot, .bot, B true, .bot, .bot, .bot, .bot, .bot, .bot, .bot, .bot, .bot, .bot, .bot, .bot, .bot, .bot, .bot, .bot, .bot, .bot, .bot, .bot, .bot, .bot, .bot, .bot, .bot, .bot, .bot, .bot, .bot, .bot, .bot, .bot], M0 n lm ls l gh⟩ ⟨[.q 0 13 0 0, .bot, .bot, .q 4 4 0 0, .bot, .q 5 6 0 0, I (stO l).moves, I (stO l).cools, I (stO l).done, .bot, .bot, .bot, .bot, .bot, .bot, .bot, .bot, .bot, .bot, .bot, .bot, .bot, .bot, .bot, .bot, .bot, .bot, .bot, .bot, .bot, .bot, .bot, .bot, .bot, .bot, .bot, .bot, .bot, .bot, .bot, .bot, .bot, B true, .bot, .bot, .bot, .bot, .bot, .bot, .bot, .bot, .bot, .bot, .bot, .bot, .bot, .bot, .bot, .bot, .bot, .bot, .bot, .bot, .bot, .bot, .bot, .bot, .bot, .bot], M0 n lm ls l gh⟩ := by
  have hI := hA.inv.2
  have hp4 := hI.p4
  have hhl := hI.hl
  have hc10 := hI.c10
  have hwl := wrm_len lm (stO l).heats
  refine seg_intro rfl [3, 5] (.alt 20 (.alt 21 (.alt 22 (.alt 23 (.alt 24 (.alt 25 (.cut) (.nil)) (.nil)) (.nil)) (.nil)) (.nil)) (.alt 21 (.alt 20 (.alt 22 (.alt 23 (.alt 24 (.alt 25 (.cut) (.nil)) (.nil)) (.nil)) (.nil)) (.alt 22 (.alt 20 (.alt 23 (.alt 24 (.alt 25 (.cut) (.nil)) (.nil)) (.nil)) (.nil)) (.nil))) (.nil))) [] (by kernel_rfl) ?_
  simp only [wB, binC, cmpC, asP, asQ, asB, asI, obA, loadA, St.ev, St.step, setS, killS, AV.kill, AV.killL, Mem.kill, AV.cells, AV.flat, AV.single, Nat.reduceAdd, Nat.reduceEqDiff, Nat.reduceLeDiff, Int.reduceAdd, List.drop_succ_cons, List.drop_zero, List.take_succ_cons, List.take_zero, M0]
  repeat' (first
    | refine And.intro ?_ ?_
    | trivial)
  all_goals exact le_sl (by simp [leSl, mkM])
theorem seg37_4 (n lm : Int) (ls : List (Int × Int)) (hls : ls.length ≤ 1000000) (l : List By) (hA : Acc n lm ls l) (gh : Option Ob) (vs : List Value) (hgh : gh = some (ghost vs [AV.q 0 13 0 0, AV.g [I n, .s 2 (prsA ls), I lm, .s 1 (strsA l)]])) : Seg Tryz.f37.body 3 26 32 ⟨[.q 0 13 0 0, .bot, .bot, .q 4 4 0 0, .bot, .q 5 6 0 0, I (stO l).moves, I (stO l).cools, I (stO l).done, .bot, .bot, .bot, .bot, .bot, .bot, .bot, .bot, .bot, .bot, .bot, .bot, .bot, .bot, .bot, .bot, .bot, .bot, .bot, .bot, .bot, .bot, .bot, .bot, .bot, .bot, .bot, .bot, .bot, .bot, .bot, .bot, .bot, B true, .bot, .bot, .bot, .bot, .bot, .bot, .bot, .bot, .bot, .bot, .bot, .bot, .bot, .bot, .bot, .bot, .bot, .bot, .bot, .bot, .bot, .bot, .bot, .bot, .bot, .bot], M0 n lm ls l gh⟩ ⟨[.q 0 13 0 0, .bot, .bot, .q 4 4 0 0, .bot, .q 5 6 0 0, I (stO l).moves, I (stO l).cools, I (stO l).done, .bot, .bot, .bot, .bot, .bot, .bot, .bot, .bot, .bot, .bot, .bot, .bot, .bot, .bot, .bot, .bot, .bot, .bot, .bot, .bot, .bot, .bot, .bot, .bot, .bot, .bot, .bot, .bot, .bot, .bot, .bot, .bot, .bot, .bot, .bot, .bot, .bot, .bot, .bot, B true, .bot, .bot, .bot, .bot, .bot, .bot, .bot, .bot, .bot, .bot, .bot, .bot, .bot, .bot, .bot, .bot, .bot, .bot, .bot, .bot], M0 n lm ls l gh⟩ := by
  have hI := hA.inv.2
  have hp4 := hI.p4
  have hhl := hI.hl
  have hc10 := hI.c10
  have hwl := wrm_len lm (stO l).heats
  refine seg_intro rfl [3, 5] (.alt 26 (.alt 27 (.alt 28 (.alt 29 (.alt 30 (.alt 31 (.cut) (.nil)) (.nil)) (.nil)) (.nil)) (.nil)) (.alt 27 (.alt 26 (.alt 28 (.alt 29 (.alt 30 (.alt 31 (.cut) (.nil)) (.nil)) (.nil)) (.nil)) (.alt 28 (.alt 26 (.alt 29 (.alt 30 (.alt 31 (.cut) (.nil)) (.nil)) (.nil)) (.nil)) (.nil))) (.nil))) [] (by kernel_rfl) ?_
  simp only [wB, binC, cmpC, asP, asQ, asB, asI, obA, loadA, St.ev, St.step, setS, killS, AV.kill, AV.killL, Mem.kill, AV.cells, AV.flat, AV.single, Nat.reduceAdd, Nat.reduceEqDiff, Nat.reduceLeDiff, Int.reduceAdd, List.drop_succ_cons, List.drop_zero, List.take_succ_cons, List.take_zero, M0]
  repeat' (first
    | refine And.intro ?_ ?_
    | trivial)
  all_goals exact le_sl (by simp [leSl, mkM])
theorem seg37_5 (n lm : Int) (ls : List (Int × Int)) (hls : ls.length ≤ 1000000) (l : List By) (hA : Acc n lm ls l) (gh : Option Ob) (vs : List Value) (hgh : gh = some (ghost vs [AV.q 0 13 0 0, AV.g [I n, .s 2 (prsA ls), I lm, .s 1 (strsA l)]])) : Seg Tryz.f37.body 3 32 38 ⟨[.q 0 13 0 0, .bot, .bot, .q 4 4 0 0, .bot, .q 5 6 0 0, I (stO l).moves, I (stO l).cools, I (stO l).done, .bot, .bot, .bot, .bot, .bot, .bot, .bot, .bot, .bot, .bot, .bot, .bot, .bot, .bot, .bot, .bot, .bot, .bot, .bot, .bot, .bot, .bot, .bot, .bot, .bot, .bot, .bot, .bot, .bot, .bot, .bot, .bot, .bot, .bot, .bot, .bot, .bot, .bot, .bot, B true, .bot, .bot, .bot, .bot, .bot, .bot, .bot, .bot, .bot, .bot, .bot, .bot, .bot, .bot, .bot, .bot, .bot, .bot, .bot, .bot], M0 n lm ls l gh⟩ ⟨[.q 0 13 0 0, .bot, .bot, .q 4 4 0 0, .bot, .q 5 6 0 0, I (stO l).moves, I (stO l).cools, I (stO l).done, .bot, .bot, .bot, .bot, .bot, .bot, .bot, .bot, .bot, .bot, .bot, .bot, .bot, .bot, .bot, .bot, .bot, .bot, .bot, .bot, .bot, .bot, .bot, .bot, .bot, .bot, .bot, .bot, .bot, .bot, .bot, .bot, .bot, .bot, .bot, .bot, .bot, .bot, .bot, .bot, .bot, .bot, .bot, .bot, .bot, B true, .bot, .bot, .bot, .bot, .bot, .bot, .bot, .bot, .bot, .bot, .bot, .bot, .bot, .bot], M0 n lm ls l gh⟩ := by
  have hI := hA.inv.2
  have hp4 := hI.p4
  have hhl := hI.hl
  have hc10 := hI.c10
  have hwl := wrm_len lm (stO l).heats
  refine seg_intro rfl [3, 5] (.alt 32 (.alt 33 (.alt 34 (.alt 35 (.alt 36 (.alt 37 (.cut) (.nil)) (.nil)) (.nil)) (.nil)) (.nil)) (.alt 33 (.alt 32 (.alt 34 (.alt 35 (.alt 36 (.alt 37 (.cut) (.nil)) (.nil)) (.nil)) (.nil)) (.alt 34 (.alt 32 (.alt 35 (.alt 36 (.alt 37 (.cut) (.nil)) (.nil)) (.nil)) (.nil)) (.nil))) (.nil))) [] (by kernel_rfl) ?_
  simp only [wB, binC, cmpC, asP, asQ, asB, asI, obA, loadA, St.ev, St.step, setS, killS, AV.kill, AV.killL, Mem.kill, AV.cells, AV.flat, AV.single, Nat.reduceAdd, Nat.reduceEqDiff, Nat.reduceLeDiff, Int.reduceAdd, List.drop_succ_cons, List.drop_zero, List.take_succ_cons, List.take_zero, M0]
  repeat' (first
    | refine And.intro ?_ ?_
    | trivial)
  all_goals exact le_sl (by simp [leSl, mkM])
theorem seg37_6 (n lm : Int) (ls : List (Int × Int)) (hls : ls.length ≤ 1000000) (l : List By) (hA : Acc n lm ls l) (gh : Option Ob) (vs : List Value) (hgh : gh = some (ghost vs [AV.q 0 13 0 0, AV.g [I n, .s 2 (prsA ls), I lm, .s 1 (strsA l)]])) : Seg Tryz.f37.body 3 38 45 ⟨[.q 0 13 0 0, .bot, .bot, .q 4 4 0 0, .bot, .q 5 6 0 0, I (stO l).moves, I (stO l).cools, I (stO l).done, .bot, .bot, .bot, .bot, .bot, .bot, .bot, .bot, .bot, .bot, .bot, .bot, .bot, .bot, .bot, .bot, .bot, .bot, .bot, .bot, .bot, .bot, .bot, .bot, .bot, .bot, .bot, .bot, .bot, .bot, .bot, .bot, .bot, .bot, .bot, .bot, .bot, .bot, .bot, .bot, .bot, .bot, .bot, .bot, .bot, B true, .bot, .bot, .bot, .bot, .bot, .bot, .bot, .bot, .bot, .bot, .bot, .bot, .bot, .bot], M0 n lm ls l gh⟩ ⟨[.q 0 13 0 0, .bot, .bot, .q 4 4 0 0, .bot, .q 5 6 0 0, I (stO l).moves, I (stO l).cools, I (stO l).done, .bot, .bot, .bot, .bot, .bot, .bot, .bot, .bot, .bot, .bot, .bot, .bot, .bot, .bot, .bot, .bot, .bot, .bot, .bot, .bot, .bot, .bot, .bot, .bot, .bot, .bot, .bot, .bot, .bot, .bot, .bot, .bot, .bot, .bot, .bot, .bot, .bot, .bot, .bot, .bot, .bot, .bot, .bot, .bot, .bot, .bot, .bot, .bot, .bot, .bot, .bot, .bot, B true, .bot, .bot, .bot, .bot, .bot, .bot, .bot], M0 n lm ls l gh⟩ := by
  have hI := hA.inv.2
  have hp4 := hI.p4
  have hhl := hI.hl
  have hc10 := hI.c10
  have hwl := wrm_len lm (stO l).heats
  have h52w : ASpec Tryz.prog 52 [.s 1 (intsA (wrmL (mkM n lm ls l).lim (mkM n lm ls l).st.heats)), .s 1 (intsA (wrmL lm (stO l).heats))] (fun r Ms => r = B true ∧ Ms = []) := by simpa [mkM] using s52 (wrmL lm (stO l).heats) (wrmL lm (stO l).heats) (by omega) (by omega)
  have h84 := s84 n lm ls l hA hls
  simp only [rfA] at h84
  refine seg_intro rfl [3, 5] (.alt 38 (.alt 39 (.alt 40 (.alt 41 (.alt 42 (.alt 43 (.alt 44 (.cut) (.nil)) (.nil)) (.nil)) (.nil)) (.nil)) (.alt 40 (.alt 39 (.alt 41 (.alt 42 (.alt 43 (.alt 44 (.cut) (.nil)) (.nil)) (.nil)) (.nil)) (.nil)) (.nil))) (.alt 40 (.alt 38 (.alt 39 (.alt 41 (.alt 42 (.alt 43 (.alt 44 (.cut) (.nil)) (.nil)) (.nil)) (.nil)) (.nil)) (.nil)) (.nil))) [39] (by kernel_rfl) ?_
  simp only [wB, asP, asQ, obA, loadA, St.ev, St.step, setS, killS, AV.kill, AV.killL, Mem.kill, AV.cells, AV.flat, AV.single, Nat.reduceAdd, Nat.reduceEqDiff, Nat.reduceLeDiff, Int.reduceAdd, List.drop_zero, List.take_succ_cons, List.take_zero, M0]
  repeat' (first
    | refine And.intro ?_ ?_
    | trivial
    | (refine acall_f (g37 (m46 _ (sml_of hA)) hgh) ?_; simp only [wB, asP, asQ, obA, loadA, St.ev, St.step, setS, killS, AV.kill, AV.killL, Mem.kill, AV.cells, AV.flat, AV.single, Nat.reduceAdd, Nat.reduceEqDiff, Nat.reduceLeDiff, Int.reduceAdd, memD, List.drop_zero, AV.sub, AV.subL, keepG, liveI, AV.isQ, List.any_cons, List.any_nil, List.take_succ_cons, List.take_zero])
    | (refine acall_v h52w (by simp [AV.pureL, AV.pure, intsA_pure]) rfl ?_; simp only [wB, asB, St.ev, St.step, setS, killS, AV.kill, AV.killL, Mem.kill, Nat.reduceEqDiff, M0])
    | (refine acall_v h84 (by simp [AV.pureL, AV.pure, prsA_pure, strsA_pure]) (by simp [AV.pure, AV.pureL, intsA_pure]) ?_; simp only [wB, St.ev, St.step, setS, killS, AV.kill, AV.killL, Mem.kill, Nat.reduceEqDiff]))
  all_goals exact le_sl (by simp [leSl, mkM])
theorem seg37_7 (n lm : Int) (ls : List (Int × Int)) (hls : ls.length ≤ 1000000) (l : List By) (hA : Acc n lm ls l) (gh : Option Ob) (vs : List Value) (hgh : gh = some (ghost vs [AV.q 0 13 0 0, AV.g [I n, .s 2 (prsA ls), I lm, .s 1 (strsA l)]])) : Seg Tryz.f37.body 3 45 53 ⟨[.q 0 13 0 0, .bot, .bot, .q 4 4 0 0, .bot, .q 5 6 0 0, I (stO l).moves, I (stO l).cools, I (stO l).done, .bot, .bot, .bot, .bot, .bot, .bot, .bot, .bot, .bot, .bot, .bot, .bot, .bot, .bot, .bot, .bot, .bot, .bot, .bot, .bot, .bot, .bot, .bot, .bot, .bot, .bot, .bot, .bot, .bot, .bot, .bot, .bot, .bot, .bot, .bot, .bot, .bot, .bot, .bot, .bot, .bot, .bot, .bot, .bot, .bot, .bot, .bot, .bot, .bot, .bot, .bot, .bot, B true, .bot, .bot, .bot, .bot, .bot, .bot, .bot], M0 n lm ls l gh⟩ ⟨[.q 0 13 0 0, .bot, .bot, .q 4 4 0 0, B true, .q 5 6 0 0, I (stO l).moves, I (stO l).cools, I (stO l).done, .bot, .bot, .bot, .bot, .bot, .bot, .bot, .bot, .bot, .bot, .bot, .bot, .bot, .bot, .bot, .bot, .bot, .bot, .bot, .bot, .bot, .bot, .bot, .bot, .bot, .bot, .bot, .bot, .bot, .bot, .bot, .bot, .bot, .bot, .bot, .bot, .bot, .bot, .bot, .bot, .bot, .bot, .bot, .bot, .bot, .bot, .bot, .bot, .bot, .bot, .bot, .bot, .bot, .bot, .bot, .bot, .bot, .bot, .bot, .bot], M0 n lm ls l gh⟩ := by
  have hI := hA.inv.2
  have hp4 := hI.p4
  have hhl := hI.hl
  have hc10 := hI.c10
  have hwl := wrm_len lm (stO l).heats
  have h36 := s36 l (by have := hA.inv.1; omega) hA.ords
  refine seg_intro rfl [3, 5] (.alt 45 (.alt 46 (.alt 47 (.alt 48 (.alt 49 (.alt 50 (.alt 51 (.alt 52 (.cut) (.nil)) (.nil)) (.nil)) (.nil)) (.nil)) (.nil)) (.alt 47 (.alt 46 (.alt 48 (.alt 49 (.alt 50 (.alt 51 (.alt 52 (.cut) (.nil)) (.nil)) (.nil)) (.nil)) (.nil)) (.alt 48 (.alt 46 (.alt 49 (.alt 50 (.alt 51 (.alt 52 (.cut) (.nil)) (.nil)) (.nil)) (.nil)) (.nil)) (.nil))) (.nil))) (.alt 47 (.alt 45 (.alt 46 (.alt 48 (.alt 49 (.alt 50 (.alt 51 (.alt 52 (.cut) (.nil)) (.nil)) (.nil)) (.nil)) (.nil)) (.alt 48 (.alt 46 (.alt 49 (.alt 50 (.alt 51 (.alt 52 (.cut) (.nil)) (.nil)) (.nil)) (.nil)) (.nil)) (.nil))) (.alt 48 (.alt 45 (.alt 46 (.alt 49 (.alt 50 (.alt 51 (.alt 52 (.cut) (.nil)) (.nil)) (.nil)) (.nil)) (.nil)) (.nil)) (.nil))) (.nil))) [46] (by kernel_rfl) ?_
  simp only [wB, asP, asQ, obA, loadA, St.ev, St.step, setS, killS, AV.kill, AV.killL, Mem.kill, AV.cells, AV.flat, AV.single, Nat.reduceAdd, Nat.reduceEqDiff, Nat.reduceLeDiff, Int.reduceAdd, List.drop_succ_cons, List.drop_zero, List.take_succ_cons, List.take_zero, M0]
  repeat' (first
    | refine And.intro ?_ ?_
    | trivial
    | (refine acall_f (g37 (m23 _ (sml_of hA)) hgh) ?_; simp only [wB, asP, asQ, obA, loadA, St.ev, St.step, setS, killS, AV.kill, AV.killL, Mem.kill, AV.cells, AV.flat, AV.single, Nat.reduceAdd, Nat.reduceEqDiff, Nat.reduceLeDiff, Int.reduceAdd, memD, List.drop_succ_cons, List.drop_zero, AV.sub, keepG, liveI, AV.isQ, List.any_cons, List.any_nil, List.take_succ_cons, List.take_zero])
    | (refine acall_v h36 (by simp [AV.pureL, AV.pure, strsA_pure]) rfl ?_; simp only [wB, binC, eqC, asG, asB, asI, asN, St.ev, St.step, setS, killS, AV.kill, AV.killL, Mem.kill, Nat.reduceEqDiff, asStr, strC, M0]))
  all_goals exact le_sl (by simp [leSl, mkM])
theorem ok37 : okFn Tryz.prog 37 = true := by kernel_rfl
theorem m37 (n lm : Int) (ls : List (Int × Int)) (hls : ls.length ≤ 1000000) (l : List By) (hA : Acc n lm ls l) : MSpec Tryz.prog 37 [.q 0 13 0 0, rfA n lm ls l] (memD (mkM n lm ls l)) (fun r N => r = B true ∧ N = memD (mkM n lm ls l)) := by
  refine mspec_of2 (own := [3, 5, 1002]) Tryz.func37 rfl ok37 ?_
  intro vs
  obtain ⟨gh, hgh⟩ : ∃ gh, gh = some (ghost vs [AV.q 0 13 0 0, AV.g [I n, .s 2 (prsA ls), I lm, .s 1 (strsA l)]]) := ⟨_, rfl⟩
  have h82 := s82 n lm ls l hA hls
  simp only [rfA, stA] at h82
  simp only [wB, awp, asP, asQ, asN, obA, loadA, Aw.newRow, St.ev, St.step, setS, killS, AV.kill, AV.killL, Mem.kill, AV.cells, AV.flat, AV.single, AV.cellular, AV.size, AV.sizeL, Nat.reduceAdd, Nat.reduceEqDiff, Nat.reduceSub, Nat.reduceLeDiff, Int.reduceAdd, Int.reduceSub, Tryz.ntmps37, ← hgh, memD, rfA]
  refine acall_v h82 (by simp [AV.pureL, AV.pure, prsA_pure, strsA_pure]) (by simp [AV.pure, AV.pureL, intsA_pure, gtsA_pure]) ?_
  simp only [wB, awp, asQ, obA, storeA, putsA, mkA, Aw.newRow, St.ev, St.step, setS, killS, AV.kill, AV.killL, Mem.kill, AV.cells, AV.flat, AV.single, AV.cellular, Nat.reduceAdd, Nat.reduceEqDiff, Nat.reduceLeDiff, Int.reduceAdd, ← hgh]
  refine swp_fs (own := [3, 5]) [false, true, false, false, false, false, false, false, false] ?_
  simp only [wB, St.ev, St.step, setS, killS, AV.kill, AV.killL, Mem.kill]
  refine acall_f (g37 (m54 _ (sml_of hA)) hgh) ?_
  simp only [wB, awp, asT, asN, St.ev, St.step, setS, killS, AV.kill, AV.killL, Mem.kill, Nat.reduceEqDiff, memD, AV.sub, AV.subL, keepG, liveI, AV.isQ, List.any_cons, List.any_nil]
  refine swp_any mo ?_
  refine any_le (σ' := ⟨[.q 0 13 0 0, .bot, .bot, .q 4 4 0 0, B false, .q 5 6 0 0, I (stO l).moves, I (stO l).cools, I (stO l).done, .bot, .bot, .bot, .bot, .bot, .bot, .bot, .bot, .bot, .bot, .bot, .bot, .bot, .bot, .bot, .bot, .bot, .bot, .bot, .bot, .bot, .bot, .bot, .bot, .bot, .bot, .bot, .bot, .bot, .bot, .bot, .bot, .bot, .bot, .bot, .bot, .bot, .bot, .bot, .bot, .bot, .bot, .bot, .bot, .bot, .bot, .bot, .bot, .bot, .bot, .bot, .bot, .bot, .bot, .bot, .bot, .bot, .bot, .bot, .bot], M0 n lm ls l gh⟩) (le_sl (by simp [leSl, mkM])) ?_
  refine seg_use (seg37_0 n lm ls hls l hA gh vs hgh) rfl ?_
  refine seg_use (seg37_1 n lm ls hls l hA gh vs hgh) rfl ?_
  refine seg_use (seg37_2 n lm ls hls l hA gh vs hgh) rfl ?_
  refine seg_use (seg37_3 n lm ls hls l hA gh vs hgh) rfl ?_
  refine seg_use (seg37_4 n lm ls hls l hA gh vs hgh) rfl ?_
  refine seg_use (seg37_5 n lm ls hls l hA gh vs hgh) rfl ?_
  refine seg_use (seg37_6 n lm ls hls l hA gh vs hgh) rfl ?_
  refine seg_use (seg37_7 n lm ls hls l hA gh vs hgh) rfl ?_
  refine any_end rfl ?_
  simp only [awp, memD, M0]
  exact ⟨_, _, memD (mkM n lm ls l), _, Le.refl _, rfl, by rw [hgh]; rfl, rfl, rfl, free_D _ _, rfl, rfl⟩
end Go.Proofs.YtndniceeibflcaaGreatDoor

namespace Go.Proofs.YtndniceeibflcaaGreatDoor
open Aw Mp Go.RowKit
set_option linter.unusedSimpArgs false
set_option maxRecDepth 8000

def o55 (n lm : Int) (ls : List (Int × Int)) (l : List By) : Ob := ⟨none, 55, 4, [.g [I n, .s 2 (prsA ls), I lm, .s 1 (strsA l)]]⟩
theorem f37 (n lm : Int) (ls : List (Int × Int)) (hls : ls.length ≤ 1000000) (l : List By) (hA : Acc n lm ls l) (T : Mem) (hT : ∀ F G, (T.map fun c : Option Ob => c.map fun ob => { ob with xs := AV.subL F G ob.xs }) = T) :
    FSpec Tryz.prog 37 [.q 0 13 0 0, .g [I n, .s 2 (prsA ls), I lm, .s 1 (strsA l)]] (memD (mkM n lm ls l)) (memD (mkM n lm ls l) ++ T) (B true) (memD (mkM n lm ls l) ++ T) :=
  fT (m37 n lm ls hls l hA) T (q0_free _ _ _ (by simp [rfA, AV.pureL, AV.pure, prsA_pure, strsA_pure])) hT
theorem t55 (n lm : Int) (ls : List (Int × Int)) (l : List By) : ∀ F G, ([some (o55 n lm ls l)].map fun c : Option Ob => c.map fun ob => { ob with xs := AV.subL F G ob.xs }) = [some (o55 n lm ls l)] := fun F G => by
  simp [o55, AV.subL, AV.sub, prsA_sub, strsA_sub]
end Go.Proofs.YtndniceeibflcaaGreatDoor
