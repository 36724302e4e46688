/-
  The law MachineAgain: for every input, with the listed variables as the program's text lays them, it answers true, and each argument reads as it did.
-/
import Derived.Test.YtndniceeibflcaaGreatDoorProg
import Derived.WalkKit
import Derived.Lib.ConvBytes
import Derived.LaidEql
import Derived.Lib.ItoaNum
import Derived.Lib.LaidTab
import Derived.KernelRfl
import GoSem.Claims
import GoSem.ClaimJoined
import Derived.Orders
import Derived.Laws.StructEq
import Derived.Maps.Keyed
import Derived.Lib.Strings
import Derived.Maps.AppendAt
import Derived.Laws.Concat
import Derived.MapKept
import Derived.Laws.MakeOwn
import Derived.Scope
import Derived.Laws.BitsLemmas
import Derived.Maps.RangeRun
import Derived.StillTail
import Derived.OrdersIn
import Derived.TacticsIn
import Derived.RangeFuncRecord
import Derived.RangeFuncCalls
import Derived.RangeFuncSeq
import Derived.Lib.Split
import Derived.Lib.AtoiAll
import Derived.Shelf.LaysM
import Derived.Shelf.LaysC
import Derived.Shelf.Strconv.Itoa3
import Derived.Shelf.Strconv.AtoiAll
import Derived.Shelf.Strings.Search3
import Derived.Shelf.Strings.Cut
import Derived.Shelf.Strings.Prefix
import Derived.Shelf.Strings.Split
import Derived.Lib.AppendIntMem
import Derived.Stop.Asserts
import Derived.RowKitTokens
import Derived.Conc.MuLone
import Derived.Test.YtndniceeibflcaaGreatDoorRows
import Derived.Test.YtndniceeibflcaaGreatDoorChecked
import Derived.ChangeSame
import Derived.ChangeVars
import Derived.JoinedOf
import Derived.ProofKit
import Derived.RowKit
import Derived.LaidLaws
import Derived.LaidHandle
import Derived.LaidMore
import Derived.Stop.Joined
import Derived.Stop.LaidErr
import Derived.HandedShaped
import Derived.Shelf.Vars
import Derived.Deep.Slices
import Derived.Deep.Strs
import Derived.Deep.Fields
import Derived.Lib.SmallJoins
import Derived.SliceStrings
import Derived.ChangeMaps5
import Derived.Test.YtndniceeibflcaaGreatDoorTie
import Derived.Test.YtndniceeibflcaaGreatDoorCards
import Derived.SevenTiedAt
import Derived.Test.YtndniceeibflcaaGreatDoorKaa
import Derived.Test.YtndniceeibflcaaGreatDoorKac
import Derived.Test.YtndniceeibflcaaGreatDoorKad
import Derived.Test.YtndniceeibflcaaGreatDoorKae
import Derived.Test.YtndniceeibflcaaGreatDoorKbd
import Derived.Test.YtndniceeibflcaaGreatDoorKag
import Derived.Test.YtndniceeibflcaaGreatDoorKbv
import Derived.Test.YtndniceeibflcaaGreatDoorKbj
import Derived.Test.YtndniceeibflcaaGreatDoorKas
import Derived.Test.YtndniceeibflcaaGreatDoorKau
import Derived.Test.YtndniceeibflcaaGreatDoorKbn
import Derived.Test.YtndniceeibflcaaGreatDoorKaf
import Derived.Test.YtndniceeibflcaaGreatDoorKbw
import Derived.Test.YtndniceeibflcaaGreatDoorKbo
import Derived.Test.YtndniceeibflcaaGreatDoorKai
import Derived.Test.YtndniceeibflcaaGreatDoorKaq
import Derived.Test.YtndniceeibflcaaGreatDoorKca
import Derived.Test.YtndniceeibflcaaGreatDoorKap
import Derived.Test.YtndniceeibflcaaGreatDoorKcb
import Derived.Test.YtndniceeibflcaaGreatDoorKcc
import Derived.Test.YtndniceeibflcaaGreatDoorKcf
import Derived.Test.YtndniceeibflcaaGreatDoorKbk
import Derived.Test.YtndniceeibflcaaGreatDoorKcg
import Derived.Test.YtndniceeibflcaaGreatDoorKay
import Derived.Test.YtndniceeibflcaaGreatDoorKcq
import Derived.Test.YtndniceeibflcaaGreatDoorKci
import Derived.Test.YtndniceeibflcaaGreatDoorKbc
import Derived.Test.YtndniceeibflcaaGreatDoorKcv
set_option linter.unusedSimpArgs false
set_option linter.unusedVariables false
namespace Go.Proofs.YtndniceeibflcaaGreatDoor
namespace Aw
end Aw
namespace Mp
end Mp
end Go.Proofs.YtndniceeibflcaaGreatDoor
namespace Go.Proofs.YtndniceeibflcaaGreatDoor
open Aw Mp Go.RowKit
set_option linter.unusedSimpArgs false
set_option maxRecDepth 8000

/-- the operations of a list are done. -/
def mkL (s : Nat) (L : List Nat) : Array Bool := ((List.range s).map fun i => L.contains i).toArray
def AnyL (ops : Array Oper) (L : List Nat) (σ : St) (N : HN) (E : HE) (Rt : HR) : Prop := ∀ (C : Ctx) (a : Act) (w : World), StR C σ a w → wpAny Tryz.prog .any ops (APost C N.k E.k (fun σ => Rt.k σ ())) (ops.size - L.length) (mkL ops.size L) a w
/-- one step: from a set to all that are next. -/
inductive Steps (own : List Nat) (ops : Array Oper) (ms : List Nat) (L : List Nat) (σ : St) (N : HN) (E : HE) (Rt : HR) : List Nat → Prop
  | nil : Steps own ops ms L σ N E Rt []
  | cons {i : Nat} {r : List Nat} (L' : List Nat) (σ' : St) (hL : (decide ((mkL ops.size L).setIfInBounds i true = mkL ops.size L') && decide (L'.length = L.length + 1)) = true)
      (h : AOpt (ops.toList[i]?) (K := ⟨fun o => @amo Tryz.prog own ops.toList (ms.contains i) o σ ⟨fun s => Le s σ'⟩⟩)) (h2 : AnyL ops L' σ' N E Rt) (t : Steps own ops ms L σ N E Rt r) : Steps own ops ms L σ N E Rt (i :: r)
theorem any_node {own : List Nat} {ops : Array Oper} {ms L rs : List Nat} {σ : St} {N : HN} {E : HE} {Rt : HR} (hr : (decide (Region.ready .any ops (mkL ops.size L) = rs) && !rs.isEmpty && decide (L.length < ops.size)) = true) (h : Steps own ops ms L σ N E Rt rs) : AnyL ops L σ N E Rt := by
  simp only [Bool.and_eq_true, decide_eq_true_eq, Bool.not_eq_true', List.isEmpty_eq_false_iff] at hr
  obtain ⟨⟨h1, h2⟩, h3⟩ := hr
  intro C a w hS
  obtain ⟨m, hm⟩ : ∃ m, ops.size - L.length = m + 1 := ⟨ops.size - L.length - 1, by omega⟩
  rw [hm]
  refine ⟨fun h0 => absurd (h1.symm.trans h0) h2, fun q hq => ?_⟩
  rw [h1] at hq
  clear h1 h2
  induction h with
  | nil => cases hq
  | @cons i r L' σ' hL hi hn t ih =>
    rcases List.mem_cons.1 hq with rfl | hq
    · simp only [Bool.and_eq_true, decide_eq_true_eq] at hL
      obtain ⟨o, ho, hi⟩ := AOpt_elim hi
      have ho : ops[q]? = some o := by simpa using ho
      have hcont : ∀ s a' w', Le s σ' → StR C s a' w' → wpAny Tryz.prog .any ops (APost C N.k E.k (fun σ => Rt.k σ ())) m ((mkL ops.size L).setIfInBounds q true) a' w' := by
        intro s a' w' hs hS'
        have := hn C a' w' (hs C a' w' hS')
        rw [hL.2, ← hL.1, show ops.size - (L.length + 1) = m by omega] at this
        exact this
      have hi2 : @amo Tryz.prog own ops.toList (ms.contains q) o σ ⟨fun s => Le s σ'⟩ := hi
      cases hc : ms.contains q with
      | true =>
        rw [hc] at hi2
        exact wpOp_mono (fun a' w' ⟨s, g1, g2⟩ => hcont s a' w' g1 g2) (amf_sound (N := ⟨fun s => Le s σ'⟩) ho hi2 hS)
      | false =>
        rw [hc] at hi2
        exact wpOp_mono (fun a' w' ⟨s, g1, g2⟩ => hcont s a' w' g1 g2) (aop_sound (N := ⟨fun s => Le s σ'⟩) ho hi2 hS)
    · exact ih hq
end Go.Proofs.YtndniceeibflcaaGreatDoor

namespace Go.Proofs.YtndniceeibflcaaGreatDoor
open Aw Mp Go.RowKit
set_option linter.unusedSimpArgs false
set_option maxRecDepth 8000

theorem seg_open {b : Option Code} {i k kT : Nat} {σ σ' : St} {ops : Array Oper} (hb : b.bind (regOf · i) = some ops) (h : ∀ (N : HN) (E : HE) (Rt : HR), AnyAt Tryz.prog ops kT σ' N E Rt → AnyAt Tryz.prog ops k σ N E Rt) : Seg b i k kT σ σ' := by
  intro ops' hb' N E Rt h2
  rw [hb] at hb'
  obtain rfl := Option.some.inj hb'
  exact h N E Rt h2
theorem any_of_at {ops : Array Oper} {k : Nat} {L : List Nat} {σ : St} {N : HN} {E : HE} {Rt : HR} (h : AnyAt Tryz.prog ops k σ N E Rt) (e : (decide (preL ops.size k = mkL ops.size L) && decide (k = L.length)) = true) : AnyL ops L σ N E Rt := by
  simp only [Bool.and_eq_true, decide_eq_true_eq] at e
  intro C a w hS
  have := h C a w hS
  rw [e.1, e.2] at this
  exact this
theorem at_of_any {ops : Array Oper} {k : Nat} {L : List Nat} {σ : St} {N : HN} {E : HE} {Rt : HR} (h : AnyL ops L σ N E Rt) (e : (decide (preL ops.size k = mkL ops.size L) && decide (k = L.length)) = true) : AnyAt Tryz.prog ops k σ N E Rt := by
  simp only [Bool.and_eq_true, decide_eq_true_eq] at e
  intro C a w hS
  have := h C a w hS
  rw [← e.1, ← e.2] at this
  exact this
def st14 (n lm : Int) (ls : List (Int × Int)) (d : List By) (a b c e f g : AV) : St := ⟨[.bot, .bot, .p (.g [I n, .s 2 (prsA ls), I lm]) 0, .bot, .bot, .q 0 13 0 0, .bot, .bot, .bot, .bot, .bot, .bot, .bot, .bot, .bot, .bot, .bot, .bot, .bot, .bot, .bot, .bot, .bot, .bot, .bot, .bot, .bot, .bot, .bot, a, b, c, e, f, g, .bot, .bot, .bot, .bot, .bot, .bot, .bot, .bot, .bot, .bot, .bot, .bot, .bot, .bot, .bot, .bot, .bot, .bot, .bot, .bot, .bot, .bot, .bot, .bot, .bot, .bot, .bot, .bot, .bot, .bot, .bot, .bot, .bot, .bot, .bot, .bot, .bot, .bot, .bot, .bot, .bot, .bot, .bot, .bot, .bot, .bot, .bot, .bot, .bot, .bot, .bot, .bot, .bot, .bot, .bot, .bot, .bot, .bot, .bot, .bot, .bot, .bot, .bot, .bot, .bot, .bot, .bot, .bot, .bot, .bot], memD (mkM n lm ls d)⟩
set_option maxHeartbeats 2000000 in
theorem seg14 (n lm : Int) (ls : List (Int × Int)) (d : List By) (h23 : FSpec Tryz.prog 23 [.q 0 13 0 0] (memD (mkM n lm ls d)) (memD (mkM n lm ls d)) (S (lg 0 d)) (memD (mkM n lm ls d))) : Seg Tryz.f14.body 6 0 6 (st14 n lm ls d .bot .bot .bot .bot .bot .bot) (st14 n lm ls d (.p (.g [I n, .s 2 (prsA ls), I lm]) 0) (.g [I n, .s 2 (prsA ls)]) (.p (.g [I n, .s 2 (prsA ls), I lm]) 2) (I lm) (.q 0 13 0 0) (S (lg 0 d))) := by
  refine seg_open rfl fun N E Rt h6 => ?_
  have n222 : AnyL _ [0, 1, 2, 3, 4, 5] (st14 n lm ls d (.p (.g [I n, .s 2 (prsA ls), I lm]) 0) (.g [I n, .s 2 (prsA ls)]) (.p (.g [I n, .s 2 (prsA ls), I lm]) 2) (I lm) (.q 0 13 0 0) (S (lg 0 d))) N E Rt := any_of_at h6 (by kernel_rfl)
  have n122 : AnyL _ [0, 2, 3, 4, 5] (st14 n lm ls d (.p (.g [I n, .s 2 (prsA ls), I lm]) 0) .bot (.p (.g [I n, .s 2 (prsA ls), I lm]) 2) (I lm) (.q 0 13 0 0) (S (lg 0 d))) N E Rt := any_node (own := []) (ms := [5]) (rs := [1]) (by kernel_rfl) (.cons [0, 1, 2, 3, 4, 5] (st14 n lm ls d (.p (.g [I n, .s 2 (prsA ls), I lm]) 0) (.g [I n, .s 2 (prsA ls)]) (.p (.g [I n, .s 2 (prsA ls), I lm]) 2) (I lm) (.q 0 13 0 0) (S (lg 0 d))) (by kernel_rfl) (by simp only [wB, asP, loadA, St.ev, St.step, setS, killS, AV.kill, AV.killL, Mem.kill, AV.cells, AV.flat, AV.single, Nat.reduceAdd, Nat.reduceEqDiff, Nat.reduceLeDiff, Int.reduceAdd, memD, List.drop_zero, List.take_succ_cons, List.take_zero, st14]; exact le_sl (by simp [leSl])) n222 .nil)
  have n212 : AnyL _ [0, 1, 2, 4, 5] (st14 n lm ls d (.p (.g [I n, .s 2 (prsA ls), I lm]) 0) (.g [I n, .s 2 (prsA ls)]) (.p (.g [I n, .s 2 (prsA ls), I lm]) 2) .bot (.q 0 13 0 0) (S (lg 0 d))) N E Rt := any_node (own := []) (ms := [5]) (rs := [3]) (by kernel_rfl) (.cons [0, 1, 2, 3, 4, 5] (st14 n lm ls d (.p (.g [I n, .s 2 (prsA ls), I lm]) 0) (.g [I n, .s 2 (prsA ls)]) (.p (.g [I n, .s 2 (prsA ls), I lm]) 2) (I lm) (.q 0 13 0 0) (S (lg 0 d))) (by kernel_rfl) (by simp only [wB, asP, loadA, St.ev, St.step, setS, killS, AV.kill, AV.killL, Mem.kill, AV.cells, AV.flat, AV.single, Nat.reduceAdd, Nat.reduceEqDiff, Nat.reduceLeDiff, Int.reduceAdd, memD, List.drop_succ_cons, List.drop_zero, List.take_succ_cons, List.take_zero, st14]; exact le_sl (by simp [leSl])) n222 .nil)
  have n221 : AnyL _ [0, 1, 2, 3, 4] (st14 n lm ls d (.p (.g [I n, .s 2 (prsA ls), I lm]) 0) (.g [I n, .s 2 (prsA ls)]) (.p (.g [I n, .s 2 (prsA ls), I lm]) 2) (I lm) (.q 0 13 0 0) .bot) N E Rt := any_node (own := []) (ms := [5]) (rs := [5]) (by kernel_rfl) (.cons [0, 1, 2, 3, 4, 5] (st14 n lm ls d (.p (.g [I n, .s 2 (prsA ls), I lm]) 0) (.g [I n, .s 2 (prsA ls)]) (.p (.g [I n, .s 2 (prsA ls), I lm]) 2) (I lm) (.q 0 13 0 0) (S (lg 0 d))) (by kernel_rfl) (by simp only [wB, St.ev, memD, st14]; refine acall_f h23 ?_; simp only [St.ev, setS, List.getD_cons_succ, List.getD_cons_zero, List.set_cons_succ, List.set_cons_zero, List.getElem?_cons_zero, if_true, and_true, Bool.and_true, beq_self_eq_true, List.map_cons, List.map_nil, Bool.or_false, memD, AV.sub, AV.subL, keepG, liveI, List.getElem?_cons_zero, AV.isQ, List.any_cons, List.any_nil, st14]; exact le_sl (by simp [leSl])) n222 .nil)
  have n022 : AnyL _ [2, 3, 4, 5] (st14 n lm ls d .bot .bot (.p (.g [I n, .s 2 (prsA ls), I lm]) 2) (I lm) (.q 0 13 0 0) (S (lg 0 d))) N E Rt := any_node (own := []) (ms := [5]) (rs := [0]) (by kernel_rfl) (.cons [0, 2, 3, 4, 5] (st14 n lm ls d (.p (.g [I n, .s 2 (prsA ls), I lm]) 0) .bot (.p (.g [I n, .s 2 (prsA ls), I lm]) 2) (I lm) (.q 0 13 0 0) (S (lg 0 d))) (by kernel_rfl) (by simp only [wB, asP, St.ev, St.step, setS, killS, AV.kill, AV.killL, Mem.kill, Nat.reduceEqDiff, memD, st14]; exact le_sl (by simp [leSl])) n122 .nil)
  have n112 : AnyL _ [0, 2, 4, 5] (st14 n lm ls d (.p (.g [I n, .s 2 (prsA ls), I lm]) 0) .bot (.p (.g [I n, .s 2 (prsA ls), I lm]) 2) .bot (.q 0 13 0 0) (S (lg 0 d))) N E Rt := any_node (own := []) (ms := [5]) (rs := [1, 3]) (by kernel_rfl) (.cons [0, 1, 2, 4, 5] (st14 n lm ls d (.p (.g [I n, .s 2 (prsA ls), I lm]) 0) (.g [I n, .s 2 (prsA ls)]) (.p (.g [I n, .s 2 (prsA ls), I lm]) 2) .bot (.q 0 13 0 0) (S (lg 0 d))) (by kernel_rfl) (by simp only [wB, asP, loadA, St.ev, St.step, setS, killS, AV.kill, AV.killL, Mem.kill, AV.cells, AV.flat, AV.single, Nat.reduceAdd, Nat.reduceEqDiff, Nat.reduceLeDiff, Int.reduceAdd, memD, List.drop_zero, List.take_succ_cons, List.take_zero, st14]; exact le_sl (by simp [leSl])) n212 (.cons [0, 2, 3, 4, 5] (st14 n lm ls d (.p (.g [I n, .s 2 (prsA ls), I lm]) 0) .bot (.p (.g [I n, .s 2 (prsA ls), I lm]) 2) (I lm) (.q 0 13 0 0) (S (lg 0 d))) (by kernel_rfl) (by simp only [wB, asP, loadA, St.ev, St.step, setS, killS, AV.kill, AV.killL, Mem.kill, AV.cells, AV.flat, AV.single, Nat.reduceAdd, Nat.reduceEqDiff, Nat.reduceLeDiff, Int.reduceAdd, memD, List.drop_succ_cons, List.drop_zero, List.take_succ_cons, List.take_zero, st14]; exact le_sl (by simp [leSl])) n122 .nil))
  have n121 : AnyL _ [0, 2, 3, 4] (st14 n lm ls d (.p (.g [I n, .s 2 (prsA ls), I lm]) 0) .bot (.p (.g [I n, .s 2 (prsA ls), I lm]) 2) (I lm) (.q 0 13 0 0) .bot) N E Rt := any_node (own := []) (ms := [5]) (rs := [1, 5]) (by kernel_rfl) (.cons [0, 1, 2, 3, 4] (st14 n lm ls d (.p (.g [I n, .s 2 (prsA ls), I lm]) 0) (.g [I n, .s 2 (prsA ls)]) (.p (.g [I n, .s 2 (prsA ls), I lm]) 2) (I lm) (.q 0 13 0 0) .bot) (by kernel_rfl) (by simp only [wB, asP, loadA, St.ev, St.step, setS, killS, AV.kill, AV.killL, Mem.kill, AV.cells, AV.flat, AV.single, Nat.reduceAdd, Nat.reduceEqDiff, Nat.reduceLeDiff, Int.reduceAdd, memD, List.drop_zero, List.take_succ_cons, List.take_zero, st14]; exact le_sl (by simp [leSl])) n221 (.cons [0, 2, 3, 4, 5] (st14 n lm ls d (.p (.g [I n, .s 2 (prsA ls), I lm]) 0) .bot (.p (.g [I n, .s 2 (prsA ls), I lm]) 2) (I lm) (.q 0 13 0 0) (S (lg 0 d))) (by kernel_rfl) (by simp only [wB, St.ev, memD, st14]; refine acall_f h23 ?_; simp only [St.ev, setS, List.getD_cons_succ, List.getD_cons_zero, List.set_cons_succ, List.set_cons_zero, List.getElem?_cons_zero, if_true, and_true, Bool.and_true, beq_self_eq_true, List.map_cons, List.map_nil, Bool.or_false, memD, AV.sub, keepG, liveI, List.getElem?_cons_zero, AV.isQ, List.any_cons, List.any_nil, st14]; exact le_sl (by simp [leSl])) n122 .nil))
  have n202 : AnyL _ [0, 1, 4, 5] (st14 n lm ls d (.p (.g [I n, .s 2 (prsA ls), I lm]) 0) (.g [I n, .s 2 (prsA ls)]) .bot .bot (.q 0 13 0 0) (S (lg 0 d))) N E Rt := any_node (own := []) (ms := [5]) (rs := [2]) (by kernel_rfl) (.cons [0, 1, 2, 4, 5] (st14 n lm ls d (.p (.g [I n, .s 2 (prsA ls), I lm]) 0) (.g [I n, .s 2 (prsA ls)]) (.p (.g [I n, .s 2 (prsA ls), I lm]) 2) .bot (.q 0 13 0 0) (S (lg 0 d))) (by kernel_rfl) (by simp only [wB, asP, St.ev, St.step, setS, killS, AV.kill, AV.killL, Mem.kill, Nat.reduceEqDiff, memD, st14]; exact le_sl (by simp [leSl])) n212 .nil)
  have n211 : AnyL _ [0, 1, 2, 4] (st14 n lm ls d (.p (.g [I n, .s 2 (prsA ls), I lm]) 0) (.g [I n, .s 2 (prsA ls)]) (.p (.g [I n, .s 2 (prsA ls), I lm]) 2) .bot (.q 0 13 0 0) .bot) N E Rt := any_node (own := []) (ms := [5]) (rs := [3, 5]) (by kernel_rfl) (.cons [0, 1, 2, 3, 4] (st14 n lm ls d (.p (.g [I n, .s 2 (prsA ls), I lm]) 0) (.g [I n, .s 2 (prsA ls)]) (.p (.g [I n, .s 2 (prsA ls), I lm]) 2) (I lm) (.q 0 13 0 0) .bot) (by kernel_rfl) (by simp only [wB, asP, loadA, St.ev, St.step, setS, killS, AV.kill, AV.killL, Mem.kill, AV.cells, AV.flat, AV.single, Nat.reduceAdd, Nat.reduceEqDiff, Nat.reduceLeDiff, Int.reduceAdd, memD, List.drop_succ_cons, List.drop_zero, List.take_succ_cons, List.take_zero, st14]; exact le_sl (by simp [leSl])) n221 (.cons [0, 1, 2, 4, 5] (st14 n lm ls d (.p (.g [I n, .s 2 (prsA ls), I lm]) 0) (.g [I n, .s 2 (prsA ls)]) (.p (.g [I n, .s 2 (prsA ls), I lm]) 2) .bot (.q 0 13 0 0) (S (lg 0 d))) (by kernel_rfl) (by simp only [wB, St.ev, memD, st14]; refine acall_f h23 ?_; simp only [St.ev, setS, List.getD_cons_succ, List.getD_cons_zero, List.set_cons_succ, List.set_cons_zero, List.getElem?_cons_zero, if_true, and_true, Bool.and_true, beq_self_eq_true, List.map_cons, List.map_nil, Bool.or_false, memD, AV.sub, AV.subL, keepG, liveI, List.getElem?_cons_zero, AV.isQ, List.any_cons, List.any_nil, st14]; exact le_sl (by simp [leSl])) n212 .nil))
  have n220 : AnyL _ [0, 1, 2, 3] (st14 n lm ls d (.p (.g [I n, .s 2 (prsA ls), I lm]) 0) (.g [I n, .s 2 (prsA ls)]) (.p (.g [I n, .s 2 (prsA ls), I lm]) 2) (I lm) .bot .bot) N E Rt := any_node (own := []) (ms := [5]) (rs := [4]) (by kernel_rfl) (.cons [0, 1, 2, 3, 4] (st14 n lm ls d (.p (.g [I n, .s 2 (prsA ls), I lm]) 0) (.g [I n, .s 2 (prsA ls)]) (.p (.g [I n, .s 2 (prsA ls), I lm]) 2) (I lm) (.q 0 13 0 0) .bot) (by kernel_rfl) (by simp only [wB, St.ev, St.step, setS, killS, AV.kill, AV.killL, Mem.kill, Nat.reduceEqDiff, memD, st14]; exact le_sl (by simp [leSl])) n221 .nil)
  have n012 : AnyL _ [2, 4, 5] (st14 n lm ls d .bot .bot (.p (.g [I n, .s 2 (prsA ls), I lm]) 2) .bot (.q 0 13 0 0) (S (lg 0 d))) N E Rt := any_node (own := []) (ms := [5]) (rs := [0, 3]) (by kernel_rfl) (.cons [0, 2, 4, 5] (st14 n lm ls d (.p (.g [I n, .s 2 (prsA ls), I lm]) 0) .bot (.p (.g [I n, .s 2 (prsA ls), I lm]) 2) .bot (.q 0 13 0 0) (S (lg 0 d))) (by kernel_rfl) (by simp only [wB, asP, St.ev, St.step, setS, killS, AV.kill, AV.killL, Mem.kill, Nat.reduceEqDiff, memD, st14]; exact le_sl (by simp [leSl])) n112 (.cons [2, 3, 4, 5] (st14 n lm ls d .bot .bot (.p (.g [I n, .s 2 (prsA ls), I lm]) 2) (I lm) (.q 0 13 0 0) (S (lg 0 d))) (by kernel_rfl) (by simp only [wB, asP, loadA, St.ev, St.step, setS, killS, AV.kill, AV.killL, Mem.kill, AV.cells, AV.flat, AV.single, Nat.reduceAdd, Nat.reduceEqDiff, Nat.reduceLeDiff, Int.reduceAdd, memD, List.drop_succ_cons, List.drop_zero, List.take_succ_cons, List.take_zero, st14]; exact le_sl (by simp [leSl])) n022 .nil))
  have n021 : AnyL _ [2, 3, 4] (st14 n lm ls d .bot .bot (.p (.g [I n, .s 2 (prsA ls), I lm]) 2) (I lm) (.q 0 13 0 0) .bot) N E Rt := any_node (own := []) (ms := [5]) (rs := [0, 5]) (by kernel_rfl) (.cons [0, 2, 3, 4] (st14 n lm ls d (.p (.g [I n, .s 2 (prsA ls), I lm]) 0) .bot (.p (.g [I n, .s 2 (prsA ls), I lm]) 2) (I lm) (.q 0 13 0 0) .bot) (by kernel_rfl) (by simp only [wB, asP, St.ev, St.step, setS, killS, AV.kill, AV.killL, Mem.kill, Nat.reduceEqDiff, memD, st14]; exact le_sl (by simp [leSl])) n121 (.cons [2, 3, 4, 5] (st14 n lm ls d .bot .bot (.p (.g [I n, .s 2 (prsA ls), I lm]) 2) (I lm) (.q 0 13 0 0) (S (lg 0 d))) (by kernel_rfl) (by simp only [wB, St.ev, memD, st14]; refine acall_f h23 ?_; simp only [St.ev, setS, List.getD_cons_succ, List.getD_cons_zero, List.set_cons_succ, List.set_cons_zero, List.getElem?_cons_zero, if_true, and_true, Bool.and_true, beq_self_eq_true, List.map_cons, List.map_nil, Bool.or_false, memD, AV.sub, keepG, liveI, List.getElem?_cons_zero, AV.isQ, List.any_cons, List.any_nil, st14]; exact le_sl (by simp [leSl])) n022 .nil))
  have n102 : AnyL _ [0, 4, 5] (st14 n lm ls d (.p (.g [I n, .s 2 (prsA ls), I lm]) 0) .bot .bot .bot (.q 0 13 0 0) (S (lg 0 d))) N E Rt := any_node (own := []) (ms := [5]) (rs := [1, 2]) (by kernel_rfl) (.cons [0, 1, 4, 5] (st14 n lm ls d (.p (.g [I n, .s 2 (prsA ls), I lm]) 0) (.g [I n, .s 2 (prsA ls)]) .bot .bot (.q 0 13 0 0) (S (lg 0 d))) (by kernel_rfl) (by simp only [wB, asP, loadA, St.ev, St.step, setS, killS, AV.kill, AV.killL, Mem.kill, AV.cells, AV.flat, AV.single, Nat.reduceAdd, Nat.reduceEqDiff, Nat.reduceLeDiff, Int.reduceAdd, memD, List.drop_zero, List.take_succ_cons, List.take_zero, st14]; exact le_sl (by simp [leSl])) n202 (.cons [0, 2, 4, 5] (st14 n lm ls d (.p (.g [I n, .s 2 (prsA ls), I lm]) 0) .bot (.p (.g [I n, .s 2 (prsA ls), I lm]) 2) .bot (.q 0 13 0 0) (S (lg 0 d))) (by kernel_rfl) (by simp only [wB, asP, St.ev, St.step, setS, killS, AV.kill, AV.killL, Mem.kill, Nat.reduceEqDiff, memD, st14]; exact le_sl (by simp [leSl])) n112 .nil))
  have n111 : AnyL _ [0, 2, 4] (st14 n lm ls d (.p (.g [I n, .s 2 (prsA ls), I lm]) 0) .bot (.p (.g [I n, .s 2 (prsA ls), I lm]) 2) .bot (.q 0 13 0 0) .bot) N E Rt := any_node (own := []) (ms := [5]) (rs := [1, 3, 5]) (by kernel_rfl) (.cons [0, 1, 2, 4] (st14 n lm ls d (.p (.g [I n, .s 2 (prsA ls), I lm]) 0) (.g [I n, .s 2 (prsA ls)]) (.p (.g [I n, .s 2 (prsA ls), I lm]) 2) .bot (.q 0 13 0 0) .bot) (by kernel_rfl) (by simp only [wB, asP, loadA, St.ev, St.step, setS, killS, AV.kill, AV.killL, Mem.kill, AV.cells, AV.flat, AV.single, Nat.reduceAdd, Nat.reduceEqDiff, Nat.reduceLeDiff, Int.reduceAdd, memD, List.drop_zero, List.take_succ_cons, List.take_zero, st14]; exact le_sl (by simp [leSl])) n211 (.cons [0, 2, 3, 4] (st14 n lm ls d (.p (.g [I n, .s 2 (prsA ls), I lm]) 0) .bot (.p (.g [I n, .s 2 (prsA ls), I lm]) 2) (I lm) (.q 0 13 0 0) .bot) (by kernel_rfl) (by simp only [wB, asP, loadA, St.ev, St.step, setS, killS, AV.kill, AV.killL, Mem.kill, AV.cells, AV.flat, AV.single, Nat.reduceAdd, Nat.reduceEqDiff, Nat.reduceLeDiff, Int.reduceAdd, memD, List.drop_succ_cons, List.drop_zero, List.take_succ_cons, List.take_zero, st14]; exact le_sl (by simp [leSl])) n121 (.cons [0, 2, 4, 5] (st14 n lm ls d (.p (.g [I n, .s 2 (prsA ls), I lm]) 0) .bot (.p (.g [I n, .s 2 (prsA ls), I lm]) 2) .bot (.q 0 13 0 0) (S (lg 0 d))) (by kernel_rfl) (by simp only [wB, St.ev, memD, st14]; refine acall_f h23 ?_; simp only [St.ev, setS, List.getD_cons_succ, List.getD_cons_zero, List.set_cons_succ, List.set_cons_zero, List.getElem?_cons_zero, if_true, and_true, Bool.and_true, beq_self_eq_true, List.map_cons, List.map_nil, Bool.or_false, memD, AV.sub, keepG, liveI, List.getElem?_cons_zero, AV.isQ, List.any_cons, List.any_nil, st14]; exact le_sl (by simp [leSl])) n112 .nil)))
  have n120 : AnyL _ [0, 2, 3] (st14 n lm ls d (.p (.g [I n, .s 2 (prsA ls), I lm]) 0) .bot (.p (.g [I n, .s 2 (prsA ls), I lm]) 2) (I lm) .bot .bot) N E Rt := any_node (own := []) (ms := [5]) (rs := [1, 4]) (by kernel_rfl) (.cons [0, 1, 2, 3] (st14 n lm ls d (.p (.g [I n, .s 2 (prsA ls), I lm]) 0) (.g [I n, .s 2 (prsA ls)]) (.p (.g [I n, .s 2 (prsA ls), I lm]) 2) (I lm) .bot .bot) (by kernel_rfl) (by simp only [wB, asP, loadA, St.ev, St.step, setS, killS, AV.kill, AV.killL, Mem.kill, AV.cells, AV.flat, AV.single, Nat.reduceAdd, Nat.reduceEqDiff, Nat.reduceLeDiff, Int.reduceAdd, memD, List.drop_zero, List.take_succ_cons, List.take_zero, st14]; exact le_sl (by simp [leSl])) n220 (.cons [0, 2, 3, 4] (st14 n lm ls d (.p (.g [I n, .s 2 (prsA ls), I lm]) 0) .bot (.p (.g [I n, .s 2 (prsA ls), I lm]) 2) (I lm) (.q 0 13 0 0) .bot) (by kernel_rfl) (by simp only [wB, St.ev, St.step, setS, killS, AV.kill, AV.killL, Mem.kill, Nat.reduceEqDiff, memD, st14]; exact le_sl (by simp [leSl])) n121 .nil))
  have n201 : AnyL _ [0, 1, 4] (st14 n lm ls d (.p (.g [I n, .s 2 (prsA ls), I lm]) 0) (.g [I n, .s 2 (prsA ls)]) .bot .bot (.q 0 13 0 0) .bot) N E Rt := any_node (own := []) (ms := [5]) (rs := [2, 5]) (by kernel_rfl) (.cons [0, 1, 2, 4] (st14 n lm ls d (.p (.g [I n, .s 2 (prsA ls), I lm]) 0) (.g [I n, .s 2 (prsA ls)]) (.p (.g [I n, .s 2 (prsA ls), I lm]) 2) .bot (.q 0 13 0 0) .bot) (by kernel_rfl) (by simp only [wB, asP, St.ev, St.step, setS, killS, AV.kill, AV.killL, Mem.kill, Nat.reduceEqDiff, memD, st14]; exact le_sl (by simp [leSl])) n211 (.cons [0, 1, 4, 5] (st14 n lm ls d (.p (.g [I n, .s 2 (prsA ls), I lm]) 0) (.g [I n, .s 2 (prsA ls)]) .bot .bot (.q 0 13 0 0) (S (lg 0 d))) (by kernel_rfl) (by simp only [wB, St.ev, memD, st14]; refine acall_f h23 ?_; simp only [St.ev, setS, List.getD_cons_succ, List.getD_cons_zero, List.set_cons_succ, List.set_cons_zero, List.getElem?_cons_zero, if_true, and_true, Bool.and_true, beq_self_eq_true, List.map_cons, List.map_nil, Bool.or_false, memD, AV.sub, AV.subL, keepG, liveI, List.getElem?_cons_zero, AV.isQ, List.any_cons, List.any_nil, st14]; exact le_sl (by simp [leSl])) n202 .nil))
  have n210 : AnyL _ [0, 1, 2] (st14 n lm ls d (.p (.g [I n, .s 2 (prsA ls), I lm]) 0) (.g [I n, .s 2 (prsA ls)]) (.p (.g [I n, .s 2 (prsA ls), I lm]) 2) .bot .bot .bot) N E Rt := any_node (own := []) (ms := [5]) (rs := [3, 4]) (by kernel_rfl) (.cons [0, 1, 2, 3] (st14 n lm ls d (.p (.g [I n, .s 2 (prsA ls), I lm]) 0) (.g [I n, .s 2 (prsA ls)]) (.p (.g [I n, .s 2 (prsA ls), I lm]) 2) (I lm) .bot .bot) (by kernel_rfl) (by simp only [wB, asP, loadA, St.ev, St.step, setS, killS, AV.kill, AV.killL, Mem.kill, AV.cells, AV.flat, AV.single, Nat.reduceAdd, Nat.reduceEqDiff, Nat.reduceLeDiff, Int.reduceAdd, memD, List.drop_succ_cons, List.drop_zero, List.take_succ_cons, List.take_zero, st14]; exact le_sl (by simp [leSl])) n220 (.cons [0, 1, 2, 4] (st14 n lm ls d (.p (.g [I n, .s 2 (prsA ls), I lm]) 0) (.g [I n, .s 2 (prsA ls)]) (.p (.g [I n, .s 2 (prsA ls), I lm]) 2) .bot (.q 0 13 0 0) .bot) (by kernel_rfl) (by simp only [wB, St.ev, St.step, setS, killS, AV.kill, AV.killL, Mem.kill, Nat.reduceEqDiff, memD, st14]; exact le_sl (by simp [leSl])) n211 .nil))
  have n002 : AnyL _ [4, 5] (st14 n lm ls d .bot .bot .bot .bot (.q 0 13 0 0) (S (lg 0 d))) N E Rt := any_node (own := []) (ms := [5]) (rs := [0, 2]) (by kernel_rfl) (.cons [0, 4, 5] (st14 n lm ls d (.p (.g [I n, .s 2 (prsA ls), I lm]) 0) .bot .bot .bot (.q 0 13 0 0) (S (lg 0 d))) (by kernel_rfl) (by simp only [wB, asP, St.ev, St.step, setS, killS, AV.kill, AV.killL, Mem.kill, Nat.reduceEqDiff, memD, st14]; exact le_sl (by simp [leSl])) n102 (.cons [2, 4, 5] (st14 n lm ls d .bot .bot (.p (.g [I n, .s 2 (prsA ls), I lm]) 2) .bot (.q 0 13 0 0) (S (lg 0 d))) (by kernel_rfl) (by simp only [wB, asP, St.ev, St.step, setS, killS, AV.kill, AV.killL, Mem.kill, Nat.reduceEqDiff, memD, st14]; exact le_sl (by simp [leSl])) n012 .nil))
  have n011 : AnyL _ [2, 4] (st14 n lm ls d .bot .bot (.p (.g [I n, .s 2 (prsA ls), I lm]) 2) .bot (.q 0 13 0 0) .bot) N E Rt := any_node (own := []) (ms := [5]) (rs := [0, 3, 5]) (by kernel_rfl) (.cons [0, 2, 4] (st14 n lm ls d (.p (.g [I n, .s 2 (prsA ls), I lm]) 0) .bot (.p (.g [I n, .s 2 (prsA ls), I lm]) 2) .bot (.q 0 13 0 0) .bot) (by kernel_rfl) (by simp only [wB, asP, St.ev, St.step, setS, killS, AV.kill, AV.killL, Mem.kill, Nat.reduceEqDiff, memD, st14]; exact le_sl (by simp [leSl])) n111 (.cons [2, 3, 4] (st14 n lm ls d .bot .bot (.p (.g [I n, .s 2 (prsA ls), I lm]) 2) (I lm) (.q 0 13 0 0) .bot) (by kernel_rfl) (by simp only [wB, asP, loadA, St.ev, St.step, setS, killS, AV.kill, AV.killL, Mem.kill, AV.cells, AV.flat, AV.single, Nat.reduceAdd, Nat.reduceEqDiff, Nat.reduceLeDiff, Int.reduceAdd, memD, List.drop_succ_cons, List.drop_zero, List.take_succ_cons, List.take_zero, st14]; exact le_sl (by simp [leSl])) n021 (.cons [2, 4, 5] (st14 n lm ls d .bot .bot (.p (.g [I n, .s 2 (prsA ls), I lm]) 2) .bot (.q 0 13 0 0) (S (lg 0 d))) (by kernel_rfl) (by simp only [wB, St.ev, memD, st14]; refine acall_f h23 ?_; simp only [St.ev, setS, List.getD_cons_succ, List.getD_cons_zero, List.set_cons_succ, List.set_cons_zero, List.getElem?_cons_zero, if_true, and_true, Bool.and_true, beq_self_eq_true, List.map_cons, List.map_nil, Bool.or_false, memD, AV.sub, keepG, liveI, List.getElem?_cons_zero, AV.isQ, List.any_cons, List.any_nil, st14]; exact le_sl (by simp [leSl])) n012 .nil)))
  have n020 : AnyL _ [2, 3] (st14 n lm ls d .bot .bot (.p (.g [I n, .s 2 (prsA ls), I lm]) 2) (I lm) .bot .bot) N E Rt := any_node (own := []) (ms := [5]) (rs := [0, 4]) (by kernel_rfl) (.cons [0, 2, 3] (st14 n lm ls d (.p (.g [I n, .s 2 (prsA ls), I lm]) 0) .bot (.p (.g [I n, .s 2 (prsA ls), I lm]) 2) (I lm) .bot .bot) (by kernel_rfl) (by simp only [wB, asP, St.ev, St.step, setS, killS, AV.kill, AV.killL, Mem.kill, Nat.reduceEqDiff, memD, st14]; exact le_sl (by simp [leSl])) n120 (.cons [2, 3, 4] (st14 n lm ls d .bot .bot (.p (.g [I n, .s 2 (prsA ls), I lm]) 2) (I lm) (.q 0 13 0 0) .bot) (by kernel_rfl) (by simp only [wB, St.ev, St.step, setS, killS, AV.kill, AV.killL, Mem.kill, Nat.reduceEqDiff, memD, st14]; exact le_sl (by simp [leSl])) n021 .nil))
  have n101 : AnyL _ [0, 4] (st14 n lm ls d (.p (.g [I n, .s 2 (prsA ls), I lm]) 0) .bot .bot .bot (.q 0 13 0 0) .bot) N E Rt := any_node (own := []) (ms := [5]) (rs := [1, 2, 5]) (by kernel_rfl) (.cons [0, 1, 4] (st14 n lm ls d (.p (.g [I n, .s 2 (prsA ls), I lm]) 0) (.g [I n, .s 2 (prsA ls)]) .bot .bot (.q 0 13 0 0) .bot) (by kernel_rfl) (by simp only [wB, asP, loadA, St.ev, St.step, setS, killS, AV.kill, AV.killL, Mem.kill, AV.cells, AV.flat, AV.single, Nat.reduceAdd, Nat.reduceEqDiff, Nat.reduceLeDiff, Int.reduceAdd, memD, List.drop_zero, List.take_succ_cons, List.take_zero, st14]; exact le_sl (by simp [leSl])) n201 (.cons [0, 2, 4] (st14 n lm ls d (.p (.g [I n, .s 2 (prsA ls), I lm]) 0) .bot (.p (.g [I n, .s 2 (prsA ls), I lm]) 2) .bot (.q 0 13 0 0) .bot) (by kernel_rfl) (by simp only [wB, asP, St.ev, St.step, setS, killS, AV.kill, AV.killL, Mem.kill, Nat.reduceEqDiff, memD, st14]; exact le_sl (by simp [leSl])) n111 (.cons [0, 4, 5] (st14 n lm ls d (.p (.g [I n, .s 2 (prsA ls), I lm]) 0) .bot .bot .bot (.q 0 13 0 0) (S (lg 0 d))) (by kernel_rfl) (by simp only [wB, St.ev, memD, st14]; refine acall_f h23 ?_; simp only [St.ev, setS, List.getD_cons_succ, List.getD_cons_zero, List.set_cons_succ, List.set_cons_zero, List.getElem?_cons_zero, if_true, and_true, Bool.and_true, beq_self_eq_true, List.map_cons, List.map_nil, Bool.or_false, memD, AV.sub, keepG, liveI, List.getElem?_cons_zero, AV.isQ, List.any_cons, List.any_nil, st14]; exact le_sl (by simp [leSl])) n102 .nil)))
  have n110 : AnyL _ [0, 2] (st14 n lm ls d (.p (.g [I n, .s 2 (prsA ls), I lm]) 0) .bot (.p (.g [I n, .s 2 (prsA ls), I lm]) 2) .bot .bot .bot) N E Rt := any_node (own := []) (ms := [5]) (rs := [1, 3, 4]) (by kernel_rfl) (.cons [0, 1, 2] (st14 n lm ls d (.p (.g [I n, .s 2 (prsA ls), I lm]) 0) (.g [I n, .s 2 (prsA ls)]) (.p (.g [I n, .s 2 (prsA ls), I lm]) 2) .bot .bot .bot) (by kernel_rfl) (by simp only [wB, asP, loadA, St.ev, St.step, setS, killS, AV.kill, AV.killL, Mem.kill, AV.cells, AV.flat, AV.single, Nat.reduceAdd, Nat.reduceEqDiff, Nat.reduceLeDiff, Int.reduceAdd, memD, List.drop_zero, List.take_succ_cons, List.take_zero, st14]; exact le_sl (by simp [leSl])) n210 (.cons [0, 2, 3] (st14 n lm ls d (.p (.g [I n, .s 2 (prsA ls), I lm]) 0) .bot (.p (.g [I n, .s 2 (prsA ls), I lm]) 2) (I lm) .bot .bot) (by kernel_rfl) (by simp only [wB, asP, loadA, St.ev, St.step, setS, killS, AV.kill, AV.killL, Mem.kill, AV.cells, AV.flat, AV.single, Nat.reduceAdd, Nat.reduceEqDiff, Nat.reduceLeDiff, Int.reduceAdd, memD, List.drop_succ_cons, List.drop_zero, List.take_succ_cons, List.take_zero, st14]; exact le_sl (by simp [leSl])) n120 (.cons [0, 2, 4] (st14 n lm ls d (.p (.g [I n, .s 2 (prsA ls), I lm]) 0) .bot (.p (.g [I n, .s 2 (prsA ls), I lm]) 2) .bot (.q 0 13 0 0) .bot) (by kernel_rfl) (by simp only [wB, St.ev, St.step, setS, killS, AV.kill, AV.killL, Mem.kill, Nat.reduceEqDiff, memD, st14]; exact le_sl (by simp [leSl])) n111 .nil)))
  have n200 : AnyL _ [0, 1] (st14 n lm ls d (.p (.g [I n, .s 2 (prsA ls), I lm]) 0) (.g [I n, .s 2 (prsA ls)]) .bot .bot .bot .bot) N E Rt := any_node (own := []) (ms := [5]) (rs := [2, 4]) (by kernel_rfl) (.cons [0, 1, 2] (st14 n lm ls d (.p (.g [I n, .s 2 (prsA ls), I lm]) 0) (.g [I n, .s 2 (prsA ls)]) (.p (.g [I n, .s 2 (prsA ls), I lm]) 2) .bot .bot .bot) (by kernel_rfl) (by simp only [wB, asP, St.ev, St.step, setS, killS, AV.kill, AV.killL, Mem.kill, Nat.reduceEqDiff, memD, st14]; exact le_sl (by simp [leSl])) n210 (.cons [0, 1, 4] (st14 n lm ls d (.p (.g [I n, .s 2 (prsA ls), I lm]) 0) (.g [I n, .s 2 (prsA ls)]) .bot .bot (.q 0 13 0 0) .bot) (by kernel_rfl) (by simp only [wB, St.ev, St.step, setS, killS, AV.kill, AV.killL, Mem.kill, Nat.reduceEqDiff, memD, st14]; exact le_sl (by simp [leSl])) n201 .nil))
  have n001 : AnyL _ [4] (st14 n lm ls d .bot .bot .bot .bot (.q 0 13 0 0) .bot) N E Rt := any_node (own := []) (ms := [5]) (rs := [0, 2, 5]) (by kernel_rfl) (.cons [0, 4] (st14 n lm ls d (.p (.g [I n, .s 2 (prsA ls), I lm]) 0) .bot .bot .bot (.q 0 13 0 0) .bot) (by kernel_rfl) (by simp only [wB, asP, St.ev, St.step, setS, killS, AV.kill, AV.killL, Mem.kill, Nat.reduceEqDiff, memD, st14]; exact le_sl (by simp [leSl])) n101 (.cons [2, 4] (st14 n lm ls d .bot .bot (.p (.g [I n, .s 2 (prsA ls), I lm]) 2) .bot (.q 0 13 0 0) .bot) (by kernel_rfl) (by simp only [wB, asP, St.ev, St.step, setS, killS, AV.kill, AV.killL, Mem.kill, Nat.reduceEqDiff, memD, st14]; exact le_sl (by simp [leSl])) n011 (.cons [4, 5] (st14 n lm ls d .bot .bot .bot .bot (.q 0 13 0 0) (S (lg 0 d))) (by kernel_rfl) (by simp only [wB, St.ev, memD, st14]; refine acall_f h23 ?_; simp only [St.ev, setS, List.getD_cons_succ, List.getD_cons_zero, List.set_cons_succ, List.set_cons_zero, List.getElem?_cons_zero, if_true, and_true, Bool.and_true, beq_self_eq_true, List.map_cons, List.map_nil, Bool.or_false, memD, AV.sub, keepG, liveI, List.getElem?_cons_zero, AV.isQ, List.any_cons, List.any_nil, st14]; exact le_sl (by simp [leSl])) n002 .nil)))
  have n010 : AnyL _ [2] (st14 n lm ls d .bot .bot (.p (.g [I n, .s 2 (prsA ls), I lm]) 2) .bot .bot .bot) N E Rt := any_node (own := []) (ms := [5]) (rs := [0, 3, 4]) (by kernel_rfl) (.cons [0, 2] (st14 n lm ls d (.p (.g [I n, .s 2 (prsA ls), I lm]) 0) .bot (.p (.g [I n, .s 2 (prsA ls), I lm]) 2) .bot .bot .bot) (by kernel_rfl) (by simp only [wB, asP, St.ev, St.step, setS, killS, AV.kill, AV.killL, Mem.kill, Nat.reduceEqDiff, memD, st14]; exact le_sl (by simp [leSl])) n110 (.cons [2, 3] (st14 n lm ls d .bot .bot (.p (.g [I n, .s 2 (prsA ls), I lm]) 2) (I lm) .bot .bot) (by kernel_rfl) (by simp only [wB, asP, loadA, St.ev, St.step, setS, killS, AV.kill, AV.killL, Mem.kill, AV.cells, AV.flat, AV.single, Nat.reduceAdd, Nat.reduceEqDiff, Nat.reduceLeDiff, Int.reduceAdd, memD, List.drop_succ_cons, List.drop_zero, List.take_succ_cons, List.take_zero, st14]; exact le_sl (by simp [leSl])) n020 (.cons [2, 4] (st14 n lm ls d .bot .bot (.p (.g [I n, .s 2 (prsA ls), I lm]) 2) .bot (.q 0 13 0 0) .bot) (by kernel_rfl) (by simp only [wB, St.ev, St.step, setS, killS, AV.kill, AV.killL, Mem.kill, Nat.reduceEqDiff, memD, st14]; exact le_sl (by simp [leSl])) n011 .nil)))
  have n100 : AnyL _ [0] (st14 n lm ls d (.p (.g [I n, .s 2 (prsA ls), I lm]) 0) .bot .bot .bot .bot .bot) N E Rt := any_node (own := []) (ms := [5]) (rs := [1, 2, 4]) (by kernel_rfl) (.cons [0, 1] (st14 n lm ls d (.p (.g [I n, .s 2 (prsA ls), I lm]) 0) (.g [I n, .s 2 (prsA ls)]) .bot .bot .bot .bot) (by kernel_rfl) (by simp only [wB, asP, loadA, St.ev, St.step, setS, killS, AV.kill, AV.killL, Mem.kill, AV.cells, AV.flat, AV.single, Nat.reduceAdd, Nat.reduceEqDiff, Nat.reduceLeDiff, Int.reduceAdd, memD, List.drop_zero, List.take_succ_cons, List.take_zero, st14]; exact le_sl (by simp [leSl])) n200 (.cons [0, 2] (st14 n lm ls d (.p (.g [I n, .s 2 (prsA ls), I lm]) 0) .bot (.p (.g [I n, .s 2 (prsA ls), I lm]) 2) .bot .bot .bot) (by kernel_rfl) (by simp only [wB, asP, St.ev, St.step, setS, killS, AV.kill, AV.killL, Mem.kill, Nat.reduceEqDiff, memD, st14]; exact le_sl (by simp [leSl])) n110 (.cons [0, 4] (st14 n lm ls d (.p (.g [I n, .s 2 (prsA ls), I lm]) 0) .bot .bot .bot (.q 0 13 0 0) .bot) (by kernel_rfl) (by simp only [wB, St.ev, St.step, setS, killS, AV.kill, AV.killL, Mem.kill, Nat.reduceEqDiff, memD, st14]; exact le_sl (by simp [leSl])) n101 .nil)))
  have n000 : AnyL _ [] (st14 n lm ls d .bot .bot .bot .bot .bot .bot) N E Rt := any_node (own := []) (ms := [5]) (rs := [0, 2, 4]) (by kernel_rfl) (.cons [0] (st14 n lm ls d (.p (.g [I n, .s 2 (prsA ls), I lm]) 0) .bot .bot .bot .bot .bot) (by kernel_rfl) (by simp only [wB, asP, St.ev, St.step, setS, killS, AV.kill, AV.killL, Mem.kill, Nat.reduceEqDiff, memD, st14]; exact le_sl (by simp [leSl])) n100 (.cons [2] (st14 n lm ls d .bot .bot (.p (.g [I n, .s 2 (prsA ls), I lm]) 2) .bot .bot .bot) (by kernel_rfl) (by simp only [wB, asP, St.ev, St.step, setS, killS, AV.kill, AV.killL, Mem.kill, Nat.reduceEqDiff, memD, st14]; exact le_sl (by simp [leSl])) n010 (.cons [4] (st14 n lm ls d .bot .bot .bot .bot (.q 0 13 0 0) .bot) (by kernel_rfl) (by simp only [wB, St.ev, St.step, setS, killS, AV.kill, AV.killL, Mem.kill, Nat.reduceEqDiff, memD, st14]; exact le_sl (by simp [leSl])) n001 .nil)))
  exact at_of_any n000 (by kernel_rfl)
end Go.Proofs.YtndniceeibflcaaGreatDoor

namespace Go.Proofs.YtndniceeibflcaaGreatDoor
open Aw Mp Go.RowKit
set_option linter.unusedSimpArgs false
set_option maxRecDepth 8000

theorem ok14 : okFn Tryz.prog 14 = true := by kernel_rfl
set_option maxHeartbeats 2000000 in
theorem s14 (n lm : Int) (ls : List (Int × Int)) (l : List By) (hs : ∀ o ∈ l, o.length ≤ 9223372036854775807) : ASpec Tryz.prog 14 [labA n ls lm, .s 1 (strsA l)] (fun r Ms => r = B true ∧ Ms = []) := by
  refine aspec_of (own := [1004, 1009, 1010, 1011]) Tryz.func14 rfl ok14 ?_
  have h20 := s20 n lm ls
  simp only [labA] at h20
  simp only [wB, awp, asP, asN, loadA, St.ev, St.step, setS, killS, AV.kill, AV.killL, Mem.kill, AV.cells, AV.flat, AV.single, AV.cellular, AV.pure, AV.pureL, Nat.reduceAdd, Nat.reduceEqDiff, Nat.reduceSub, Nat.reduceLeDiff, Int.reduceAdd, Int.reduceSub, Tryz.ntmps14, labA]
  refine acall_v h20 (by simp [AV.pureL, AV.pure, prsA_pure]) rfl ?_
  by_cases h60 : 60 < ls.length
  · simp only [wB, awp, asB, St.ev, St.step, setS, killS, AV.kill, AV.killL, Mem.kill, Nat.reduceAdd, Nat.reduceEqDiff, Int.reduceAdd, decide_eq_true h60]
    refine acall_v s31 rfl rfl ?_
    simp only [wB, awp, asN, St.ev, St.step, setS, killS, AV.kill, AV.killL, Mem.kill, Nat.reduceEqDiff]
    exact aend_frz rfl ⟨rfl, rfl⟩
  simp only [wB, St.ev, St.step, setS, killS, AV.kill, AV.killL, Mem.kill, decide_eq_false h60]
  refine acall_v (s21 l) (by simp [AV.pureL, AV.pure, strsA_pure]) rfl ?_
  by_cases h150 : 150 < l.length
  · simp only [wB, awp, asB, St.ev, St.step, setS, killS, AV.kill, AV.killL, Mem.kill, Nat.reduceAdd, Nat.reduceEqDiff, Int.reduceAdd, decide_eq_true h150]
    refine acall_v s31 rfl rfl ?_
    simp only [wB, awp, asN, St.ev, St.step, setS, killS, AV.kill, AV.killL, Mem.kill, Nat.reduceEqDiff]
    exact aend_frz rfl ⟨rfl, rfl⟩
  simp only [wB, awp, asP, asB, loadA, St.ev, St.step, setS, killS, AV.kill, AV.killL, Mem.kill, AV.cells, AV.flat, AV.single, Nat.reduceAdd, Nat.reduceEqDiff, Nat.reduceLeDiff, Int.reduceAdd, decide_eq_false h150]
  by_cases h0 : vN n lm ls = 0
  case neg =>
    have h43 := s43n n lm ls (by omega) h0 l
    simp only [labA] at h43
    refine acall_v h43 (by simp [AV.pureL, AV.pure, prsA_pure, strsA_pure]) rfl ?_
    simp only [wB, awp, asN, St.ev, St.step, setS, killS, AV.kill, AV.killL, Mem.kill, Nat.reduceAdd, Nat.reduceEqDiff, Int.reduceAdd]
    refine awp_sound (own := []) _ _ _ _ _ ?_
    simp only [wB, awp, binC, eqC, asG, asB, asI, St.ev, St.step, setS, killS, AV.kill, AV.killL, Mem.kill, Nat.reduceAdd, Nat.reduceEqDiff, Int.reduceAdd, isNP, ptrN, asStr, nt32]
    refine acall_v s31 rfl rfl ?_
    simp only [wB, awp, asN, St.ev, St.step, setS, killS, AV.kill, AV.killL, Mem.kill, Nat.reduceEqDiff]
    exact aend_frz rfl ⟨rfl, rfl⟩
  have h43 := s43 n lm ls (by omega) h0 l hs
  have hA := doL_acc n lm ls (l.take 40)
  generalize doL n lm ls (l.take 40) = d at *
  simp only [labA] at h43
  refine acall_mk h43 (by simp [AV.pureL, AV.pure, prsA_pure, strsA_pure]) ?_
  simp only [wB, awp, asN, St.ev, St.step, setS, killS, AV.kill, AV.killL, Mem.kill, Nat.reduceAdd, Nat.reduceEqDiff, Int.reduceAdd, AV.sub, AV.up]
  refine swp_le (σ' := ⟨[.bot, .bot, .p (.g [I n, .s 2 (prsA ls), I lm]) 0, .bot, .bot, .q 0 13 0 0, .bot, .bot, .bot, .bot, .bot, .bot, .bot, .bot, .bot, .bot, .bot, .bot, .bot, .bot, .bot, .bot, .bot, .bot, .bot, .bot, .bot, .bot, .bot, .bot, .bot, .bot, .bot, .bot, .bot, .bot, .bot, .bot, .bot, .bot, .bot, .bot, .bot, .bot, .bot, .bot, .bot, .bot, .bot, .bot, .bot, .bot, .bot, .bot, .bot, .bot, .bot, .bot, .bot, .bot, .bot, .bot, .bot, .bot, .bot, .bot, .bot, .bot, .bot, .bot, .bot, .bot, .bot, .bot, .bot, .bot, .bot, .bot, .bot, .bot, .bot, .bot, .bot, .bot, .bot, .bot, .bot, .bot, .bot, .bot, .bot, .bot, .bot, .bot, .bot, .bot, .bot, .bot, .bot, .bot, .bot, .bot, .bot, .bot, .bot], memD (mkM n lm ls d)⟩) (le_mk (by simp [leSl, AV.sub, AV.subL, prsA_sub, prsA_msub, reF, reG, List.idxOf?, List.findIdx?, List.findIdx?.go])) ?_
  refine awp_sound (own := []) _ _ _ _ _ ?_
  simp only [wB, awp, binC, eqC, asG, asB, asI, St.ev, St.step, setS, killS, AV.kill, AV.killL, Mem.kill, Nat.reduceAdd, Int.reduceAdd, isNP, ptrN, asStr, nt32, memD]
  obtain ⟨hT, hlm, _⟩ := vN_ok h0
  have hm := sml_of hA
  have hI := hA.inv.2
  have hp4 := hI.p4
  have hhl := hI.hl
  have hc10 := hI.c10
  have h23 : FSpec Tryz.prog 23 [.q 0 13 0 0] (memD (mkM n lm ls d)) (memD (mkM n lm ls d)) (S (lg 0 d)) (memD (mkM n lm ls d)) := fG (m23 _ hm) rfl
  have h27 := s27l (by omega) h0 hA
  refine swp_any mo ?_
  refine any_le (σ' := ⟨[.bot, .bot, .p (.g [I n, .s 2 (prsA ls), I lm]) 0, .bot, .bot, .q 0 13 0 0, .bot, .bot, .bot, .bot, .bot, .bot, .bot, .bot, .bot, .bot, .bot, .bot, .bot, .bot, .bot, .bot, .bot, .bot, .bot, .bot, .bot, .bot, .bot, .bot, .bot, .bot, .bot, .bot, .bot, .bot, .bot, .bot, .bot, .bot, .bot, .bot, .bot, .bot, .bot, .bot, .bot, .bot, .bot, .bot, .bot, .bot, .bot, .bot, .bot, .bot, .bot, .bot, .bot, .bot, .bot, .bot, .bot, .bot, .bot, .bot, .bot, .bot, .bot, .bot, .bot, .bot, .bot, .bot, .bot, .bot, .bot, .bot, .bot, .bot, .bot, .bot, .bot, .bot, .bot, .bot, .bot, .bot, .bot, .bot, .bot, .bot, .bot, .bot, .bot, .bot, .bot, .bot, .bot, .bot, .bot, .bot, .bot, .bot, .bot], memD (mkM n lm ls d)⟩) (le_sl' ?_ (by simp [leSl])) ?_
  · simp [memD]
  refine seg_use (seg14 n lm ls d h23) rfl ?_
  refine any_seg (own := []) 14 (.alt 6 (.alt 7 (.alt 8 (.alt 9 (.alt 10 (.alt 11 (.alt 12 (.alt 13 (.cut) (.nil)) (.nil)) (.nil)) (.alt 11 (.alt 10 (.alt 12 (.alt 13 (.cut) (.nil)) (.nil)) (.alt 12 (.alt 10 (.alt 13 (.cut) (.nil)) (.nil)) (.nil))) (.nil))) (.alt 10 (.alt 9 (.alt 11 (.alt 12 (.alt 13 (.cut) (.nil)) (.nil)) (.nil)) (.alt 11 (.alt 9 (.alt 12 (.alt 13 (.cut) (.nil)) (.nil)) (.nil)) (.nil))) (.alt 11 (.alt 9 (.alt 10 (.alt 12 (.alt 13 (.cut) (.nil)) (.nil)) (.alt 12 (.alt 10 (.alt 13 (.cut) (.nil)) (.nil)) (.nil))) (.alt 10 (.alt 9 (.alt 12 (.alt 13 (.cut) (.nil)) (.nil)) (.nil)) (.nil))) (.nil)))) (.alt 9 (.alt 8 (.alt 10 (.alt 11 (.alt 12 (.alt 13 (.cut) (.nil)) (.nil)) (.nil)) (.alt 11 (.alt 10 (.alt 12 (.alt 13 (.cut) (.nil)) (.nil)) (.alt 12 (.alt 10 (.alt 13 (.cut) (.nil)) (.nil)) (.nil))) (.nil))) (.alt 10 (.alt 8 (.alt 11 (.alt 12 (.alt 13 (.cut) (.nil)) (.nil)) (.nil)) (.nil)) (.nil))) (.alt 10 (.alt 8 (.alt 9 (.alt 11 (.alt 12 (.alt 13 (.cut) (.nil)) (.nil)) (.nil)) (.alt 11 (.alt 9 (.alt 12 (.alt 13 (.cut) (.nil)) (.nil)) (.nil)) (.nil))) (.alt 9 (.alt 8 (.alt 11 (.alt 12 (.alt 13 (.cut) (.nil)) (.nil)) (.nil)) (.nil)) (.nil))) (.nil)))) (.nil)) (.nil)) [] (by kernel_rfl) ⟨[.bot, .bot, .bot, .bot, .bot, .q 0 13 0 0, .q 3 13 0 0, .bot, I 0, .bot, .bot, .bot, .bot, .bot, .bot, .bot, .bot, .bot, .bot, .bot, .bot, .bot, .bot, .bot, .bot, .bot, .bot, .bot, .bot, .bot, .bot, .bot, .bot, .bot, .bot, .bot, .bot, .bot, .bot, .bot, .bot, .bot, .bot, .bot, .bot, .bot, .bot, .bot, .bot, .bot, .bot, .bot, .bot, .bot, .bot, .bot, .bot, .bot, .bot, .bot, .bot, .bot, .bot, .bot, .bot, .bot, .bot, .bot, .bot, .bot, .bot, .bot, .bot, .bot, .bot, .bot, .bot, .bot, .bot, .bot, .bot, .bot, .bot, .bot, .bot, .bot, .bot, .bot, .bot, .bot, .bot, .bot, .bot, .bot, .bot, .bot, .bot, .bot, .bot, .bot, .bot, .bot, .bot, .bot, .bot], mem2 (mkM n lm ls d)⟩ ?_ ?_
  · simp only [wB, St.ev, memD, st14]
    refine acall_mk h27 (by simp [AV.pureL, AV.pure, prsA_pure]) ?_
    simp only [wB, asT, asN, St.ev, St.step, setS, killS, AV.kill, AV.killL, Mem.kill, Nat.reduceAdd, Int.reduceAdd, AV.sub, AV.subL, AV.up]
    repeat' (first
      | refine And.intro ?_ ?_
      | trivial)
    all_goals
      refine le_rn [0, 1, 2, 3, 99, 4] (by decide) ?_ (by simp [leSl, AV.sub, AV.subL, prsA_sub, prsA_msub, strsA_sub, strsA_msub, reF, reG, List.idxOf?, List.findIdx?, List.findIdx?.go])
      simp [reM, reF, reG, mem2, Mch.ob, Mch.obA, Mch.od, Mch.cells, mkM, AV.sub, AV.subL, prsA_sub, strsA_sub, intsA_sub, gtsA_sub, strsA_msub, List.idxOf?, List.findIdx?, List.findIdx?.go]
  refine any_end rfl ?_
  simp only [wB, awp, binC, cmpC, eqC, asG, asB, asI, St.ev, St.step, setS, killS, AV.kill, AV.killL, Mem.kill, Nat.reduceAdd, Nat.reduceEqDiff, Int.reduceAdd, isNP, ptrN, asStr, nt32]
  obtain ⟨m, hme⟩ : ∃ m, m = mkM n lm ls d := ⟨_, rfl⟩
  have e1 : m.st = stO d := by rw [hme]; rfl
  have h54 := m54 m (hme ▸ hm)
  have h44 := m44 m (hme ▸ hm)
  have h45 := m45 m (hme ▸ hm)
  have h47 := m47 m (hme ▸ hm)
  have h23 := m23 m (hme ▸ hm)
  have h29 : MSpec Tryz.prog 29 [.q 0 13 0 0] (memD m) (fun r N => r = B true ∧ N = memD m) := by rw [hme]; exact m29 n lm ls (by omega) _ h0 hA
  rw [← hme]
  rw [← e1] at hp4 hhl hc10
  have ga : ∀ {f : FuncId} {x : AV}, MSpec Tryz.prog f [.q 0 13 0 0] (memD m) (fun r N => r = x ∧ N = memD m) → FSpec Tryz.prog f [.q 0 13 0 0] (memD m) [some m.ob, none, some m.od, some (m.obA 5), none, some m.od] x [some m.ob, none, some m.od, some (m.obA 5), none, some m.od] := fun h =>
    fD h [some (m.obA 5), none, some m.od] [1, 3, 4, 5] rfl rfl (by
      simp [memD, keepF, keepG, Mch.ob, Mch.obA, Mch.od, Mch.cells, AV.sub, AV.subL, prsA_sub, strsA_sub, intsA_sub, gtsA_sub, strsA_msub, liveI, AV.isO, AV.isQ])
  have gb : ∀ {f : FuncId} {x : AV}, MSpec Tryz.prog f [.q 0 13 0 0] (memD m) (fun r N => r = x ∧ N = memD m) → x.pure = true → FSpec Tryz.prog f [.q 3 13 0 0] (memA 3 m) [some m.ob, none, some m.od, some (m.obA 5), none, some m.od] x [some m.ob, none, some m.od, some (m.obA 5), none, some m.od] := fun h hx =>
    fA [some m.ob, none, some m.od] [] h rfl hx 3 rfl (by
      simp [memA, keepF, keepG, Mch.ob, Mch.obA, Mch.od, Mch.cells, AV.sub, AV.subL, prsA_sub, strsA_sub, intsA_sub, gtsA_sub, strsA_msub, liveI, AV.isO, AV.isQ]) rfl
  simp only [mem2]
  refine swp_fs (own := []) [false, true, false, false, false, false, false, false, false] ?_
  simp only [wB, St.ev, St.step, setS, killS, AV.kill, AV.killL, Mem.kill]
  refine acall_f (gb h54 rfl) ?_
  simp only [wB, awp, asT, asN, St.ev, St.step, setS, killS, AV.kill, AV.killL, Mem.kill, Nat.reduceAdd, Nat.reduceEqDiff, Int.reduceAdd, AV.sub, keepG, liveI, AV.isQ, List.any_cons, List.any_nil, memA]
  refine swp_fs (own := []) [false, true, false, false, false, false, false, false, false] ?_
  simp only [wB, St.ev, St.step, setS, killS, AV.kill, AV.killL, Mem.kill]
  refine acall_f (ga h54) ?_
  simp only [wB, awp, asT, asN, St.ev, St.step, setS, killS, AV.kill, AV.killL, Mem.kill, Nat.reduceAdd, Nat.reduceEqDiff, Int.reduceAdd, memD, AV.sub, AV.subL, keepG, liveI, AV.isQ, List.any_cons, List.any_nil]
  refine swp_fs (own := []) [false, true, false, true, false, false, false, true, false, true, false, false, false, false, true, false, true, false, false, false, false, true, false, true, false, false, false, false, false, false, false, false, false, false, false, false, false, false, false, false, false, false, false, true, false, false, false, false, false] ?_
  simp only [wB, St.ev, St.step, setS, killS, AV.kill, AV.killL, Mem.kill]
  refine acall_f (gb h23 rfl) ?_
  simp only [wB, St.ev, St.step, setS, killS, AV.kill, AV.killL, Mem.kill, Nat.reduceAdd, Nat.reduceEqDiff, Int.reduceAdd, AV.sub, AV.subL, keepG, liveI, AV.isQ, List.any_cons, List.any_nil, memA]
  refine acall_f (ga h23) ?_
  simp only [wB, binC, eqC, asG, asB, asI, St.ev, St.step, setS, killS, AV.kill, AV.killL, Mem.kill, Nat.reduceEqDiff, asStr, strC, memD, AV.sub, AV.subL, keepG, liveI, AV.isQ, List.any_cons, List.any_nil]
  refine acall_f (gb h44 (by simp [AV.pure, intsA_pure])) ?_
  simp only [wB, St.ev, St.step, setS, killS, AV.kill, AV.killL, Mem.kill, Nat.reduceAdd, Nat.reduceEqDiff, Int.reduceAdd, AV.sub, AV.subL, keepG, liveI, AV.isQ, List.any_cons, List.any_nil, memA]
  refine acall_f (ga h44) ?_
  simp only [wB, St.ev, setS, Nat.reduceEqDiff, memD, AV.sub, AV.subL, keepG, liveI, AV.isQ, List.any_cons, List.any_nil]
  refine acall_v (s52 m.st.place m.st.place (by omega) (by omega)) (by simp [AV.pureL, AV.pure, intsA_pure]) rfl ?_
  simp only [wB, asB, St.ev, St.step, setS, killS, AV.kill, AV.killL, Mem.kill]
  refine acall_f (gb h45 (by simp [AV.pure, intsA_pure])) ?_
  simp only [wB, St.ev, St.step, setS, killS, AV.kill, AV.killL, Mem.kill, Nat.reduceAdd, Nat.reduceEqDiff, Int.reduceAdd, AV.sub, AV.subL, keepG, liveI, AV.isQ, List.any_cons, List.any_nil, memA]
  refine acall_f (ga h45) ?_
  simp only [wB, St.ev, setS, Nat.reduceEqDiff, memD, AV.sub, AV.subL, keepG, liveI, AV.isQ, List.any_cons, List.any_nil]
  refine acall_v (s52 m.st.heats m.st.heats (by omega) (by omega)) (by simp [AV.pureL, AV.pure, intsA_pure]) rfl ?_
  simp only [wB, asB, St.ev, St.step, setS, killS, AV.kill, AV.killL, Mem.kill]
  refine acall_f (gb h47 (by simp [AV.pure, gtsA_pure])) ?_
  simp only [wB, St.ev, St.step, setS, killS, AV.kill, AV.killL, Mem.kill, Nat.reduceAdd, Nat.reduceEqDiff, Int.reduceAdd, AV.sub, AV.subL, keepG, liveI, AV.isQ, List.any_cons, List.any_nil, memA]
  refine acall_f (ga h47) ?_
  simp only [wB, St.ev, setS, Nat.reduceEqDiff, memD, AV.sub, AV.subL, keepG, liveI, AV.isQ, List.any_cons, List.any_nil]
  refine acall_v (s53 m.st.circ m.st.circ (by omega) (by omega)) (by simp [AV.pureL, AV.pure, gtsA_pure]) rfl ?_
  simp only [wB, binC, cmpC, asB, asI, St.ev, St.step, setS, killS, AV.kill, AV.killL, Mem.kill]
  refine acall_f (ga h29) ?_
  simp only [wB, asB, St.ev, St.step, setS, killS, AV.kill, AV.killL, Mem.kill, Nat.reduceEqDiff, memD, AV.sub, AV.subL, keepG, liveI, AV.isQ, List.any_cons, List.any_nil]
  refine acall_v s31 rfl rfl ?_
  simp only [wB, awp, asB, asN, St.ev, St.step, setS, killS, AV.kill, AV.killL, Mem.kill]
  exact aend_frz rfl ⟨rfl, rfl⟩
end Go.Proofs.YtndniceeibflcaaGreatDoor

namespace Go.Proofs.YtndniceeibflcaaGreatDoor
open Aw Go.ChangeShapes Go.WideShapes Go.ChangeAt Go.RowKit Go.Deep Go.Joins

set_option maxRecDepth 100000 in
theorem machineAgain_lifted (os : Os) (started : os.Started) (H : Type) (enc : TypeId × Value → H) :
    ReturnsInHanded {} Tryz.checked os 14 .any (fun w args => (Rows.machineAgainSpec.pre enc Tryz.prog Tryz.f14 [] false w args ∧ laidMetH Tryz.prog Rows.machineAgainRow.laid w) ∧ sizedMet enc Tryz.prog Tryz.f14 (OpenSpec.ofChange Rows.machineAgainSpec) false w args)
      (Rows.machineAgainSpec.post enc Tryz.prog Tryz.f14 false true false false) := by
  refine returns_laid (C := Tryz.checked) (X := fun w _ => laidMetH Tryz.prog Rows.machineAgainRow.laid w) (fun _ _ _ hh h => h.of_heap hh) Tryz.own started (by kernel_rfl) Tryz.func14
    (ChangeSpec.witness_at (enc := enc) (C := Tryz.checked) (os := os) (X := fun w _ => laidMetH Tryz.prog Rows.machineAgainRow.laid w) false (laidWorld os) #[.agg #[.int .i64 0, .slice none 0 0, .int .i64 0], .slice none 0 0] 8 rfl (by kernel_rfl) (by kernel_rfl) (by kernel_rfl) (by kernel_rfl) (by kernel_rfl) (laidWorld_met os _)) ?_
  intro W base args ds gs before hval0 hW hsz hL hsh
  have hval : ∀ (j : Nat) t v, Tryz.f14.params[j]? = some t → args[j]? = some v → Value.okWide Tryz.prog W .any base t v := hval0
  have hG : GOk W := gok_of hL hsh
  have hW' := hW
  obtain ⟨p, q, hA0, hV, rfl, hfz, hnd⟩ := hW
  have hA : DataW.TrodAll enc Tryz.prog W 0 (fun _ => true) true Tryz.f14.params.toList args.toList ds p := hA0
  rw [Tryz.params14] at hA hval hsz
  obtain ⟨v0, v1, d0, d1, p0, p1, rfl, rfl, rfl, h0, h1⟩ := trodAll_two hA
  obtain ⟨rfl, rfl⟩ := trodVars_none hV
  obtain ⟨n0, ls0, lm0, r0⟩ := sa_lab (hval 0 26 v0 rfl rfl) h0
  obtain ⟨l1, r1, b1⟩ := sa_strs (hval 1 27 v1 rfl rfl) h1
  clear hA0 hval0
  simp only [List.append_nil] at hW'
  have hlt : ∀ x ∈ p0 ++ p1, x.block < W.heap.size := fun x hx => hW'.lt x (by simpa using hx)
  refine (calls_true (s14 n0 lm0 ls0 l1 b1) (vs := [v0, v1]) (by simp only [RVL]; exact ⟨_, _, rfl, r0, _, _, rfl, r1, rfl⟩) hG).mono fun e W' ⟨he, hb⟩ => ?_
  subst he
  refine ⟨_, rfl, law_shut hW' hb rfl (fun _ _ _ => trodAll_mk1 (shut_bool Tryz.underlying4 true)) (fun sp hsp => ?_) rfl (ok_one (by kernel_rfl) rfl (okWide_bool_mk Tryz.underlying4 true))⟩
  exact trodAll_mk2 (arg_stays Tryz.laidOut rr26 lt26 h0 hb (fun x hx => hlt x (by simp [hx])) (sp := sp) (fun x hx => hsp x (by simp [hx])))
    (arg_stays Tryz.laidOut rr27 lt27 h1 hb (fun x hx => hlt x (by simp [hx])) (sp := sp) (fun x hx => hsp x (by simp [hx])))

theorem machineAgain_func : Tryz.prog.funcNamed "quadrupole/quadrupolelaw09.MachineAgain" = some 14 := by kernel_rfl
theorem machineAgain_k10 : (Rows.machineAgainRow.inPlace == Tryz.prog.inPlace 14) = true := by kernel_rfl
theorem machineAgain_k11 : (Rows.machineAgainRow.unfollowed == Tryz.prog.unfollowed 14) = true := by kernel_rfl
theorem machineAgain_k12 : (Rows.machineAgainRow.recurses == Tryz.prog.recurses 14) = true := by kernel_rfl
theorem machineAgain_k13 : (Rows.machineAgainRow.named == Tryz.prog.varsNamed 14) = true := by kernel_rfl
theorem machineAgain_closed : joinedFacts Tryz.prog 14 Tryz.f14 Rows.machineAgainSpec Rows.machineAgainRow = true :=
  joined_of (by kernel_rfl) (by kernel_rfl) (by kernel_rfl) rfl rfl machineAgain_k10 machineAgain_k11 machineAgain_k12 machineAgain_k13 (by kernel_rfl) Tryz.keysE rfl Tryz.lifts Tryz.made (by kernel_rfl)
theorem machineAgain_goes : false = Rows.machineAgainRow.goesBy Tryz.prog := by kernel_rfl
theorem machineAgain_row : Rows.MachineAgainSaid :=
  OpenClaim.holds_of_wide 14 Tryz.f14 rfl rfl rfl rfl rfl rfl rfl ⟨rfl, rfl, rfl, rfl, rfl⟩ rfl rfl rfl rfl rfl machineAgain_func Tryz.func14 machineAgain_closed
    (of_decide_eq_true (by kernel_rfl)) (by unfold Func.isWrapper; rw [if_neg (of_decide_eq_false (by kernel_rfl))]; exact ⟨rfl, rfl⟩)
    (fun os started H enc _ => machineAgain_lifted os started H enc)

theorem machineAgain_holds : Rows.MachineAgainCardSaid :=
  Claim7.holds_tied_plain_at .later [] [.data, .data, .data, .data, .handle, .sentinel, .sentinel, .pinned] true (true, "aa03d57e40d7f46a321b7a338959e31570b187a828c7cad4885241d6f19c00d7") true
    machineAgain_row (fun _ h => by cases h) (by kernel_rfl) (fun _ h => by cases h) machineAgain_row_tie rfl ⟨rfl, rfl⟩ Tryz.mainE rfl
    (fun f fn hf hfn => by
      obtain rfl : f = 14 := Option.some.inj (machineAgain_func.symm.trans hf) |>.symm
      obtain rfl : fn = Tryz.f14 := (Option.some.inj (Tryz.func14.symm.trans hfn)).symm
      refine ⟨Tryz.looksE, fun j t ht => ?_⟩
      rw [Tryz.params14] at ht
      have h3 := Array.mem_of_getElem? ht
      simp only [List.mem_toArray, List.mem_cons, List.not_mem_nil, or_false] at h3
      rcases h3 with rfl | rfl
      · exact Tryz.st26
      · exact Tryz.st27)
    machineAgain_goes
end Go.Proofs.YtndniceeibflcaaGreatDoor
