/-
  Parts of several texts in one: MwX, MyF, MyH.
-/
import Derived.Test.YtndniceeibflcaaGreatDoorProg
import Derived.WalkKit
import Derived.Lib.ConvBytes
import Derived.LaidEql
import Derived.Lib.ItoaNum
import Derived.Lib.LaidTab
import Derived.KernelRfl
import GoSem.Claims
import GoSem.ClaimJoined
import Derived.Orders
import Derived.Laws.StructEq
import Derived.Maps.Keyed
import Derived.Lib.Strings
import Derived.Maps.AppendAt
import Derived.Laws.Concat
import Derived.MapKept
import Derived.Laws.MakeOwn
import Derived.Scope
import Derived.Laws.BitsLemmas
import Derived.Maps.RangeRun
import Derived.StillTail
import Derived.OrdersIn
import Derived.TacticsIn
import Derived.RangeFuncRecord
import Derived.RangeFuncCalls
import Derived.RangeFuncSeq
import Derived.Lib.Split
import Derived.Lib.AtoiAll
import Derived.Shelf.LaysM
import Derived.Shelf.LaysC
import Derived.Shelf.Strconv.Itoa3
import Derived.Shelf.Strconv.AtoiAll
import Derived.Shelf.Strings.Search3
import Derived.Shelf.Strings.Cut
import Derived.Shelf.Strings.Prefix
import Derived.Shelf.Strings.Split
import Derived.Lib.AppendIntMem
import Derived.Stop.Asserts
import Derived.RowKitTokens
import Derived.Conc.MuLone
import Derived.Test.YtndniceeibflcaaGreatDoorRows
import Derived.Test.YtndniceeibflcaaGreatDoorChecked
import Derived.ChangeSame
import Derived.ChangeVars
import Derived.JoinedOf
import Derived.ProofKit
import Derived.RowKit
import Derived.LaidLaws
import Derived.LaidHandle
import Derived.LaidMore
import Derived.Stop.Joined
import Derived.Stop.LaidErr
import Derived.HandedShaped
import Derived.Shelf.Vars
import Derived.Deep.Slices
import Derived.Deep.Strs
import Derived.Deep.Fields
import Derived.Lib.SmallJoins
import Derived.SliceStrings
import Derived.ChangeMaps5
import Derived.Test.YtndniceeibflcaaGreatDoorKaa
import Derived.Test.YtndniceeibflcaaGreatDoorKal
import Derived.Test.YtndniceeibflcaaGreatDoorKac
import Derived.Test.YtndniceeibflcaaGreatDoorKad
import Derived.Test.YtndniceeibflcaaGreatDoorKae
import Derived.Test.YtndniceeibflcaaGreatDoorKag
import Derived.Test.YtndniceeibflcaaGreatDoorKbv
import Derived.Test.YtndniceeibflcaaGreatDoorKbj
import Derived.Test.YtndniceeibflcaaGreatDoorKai
import Derived.Test.YtndniceeibflcaaGreatDoorKbr
import Derived.Test.YtndniceeibflcaaGreatDoorKaq
import Derived.Test.YtndniceeibflcaaGreatDoorKak
import Derived.Test.YtndniceeibflcaaGreatDoorKao
import Derived.Test.YtndniceeibflcaaGreatDoorKap
import Derived.Test.YtndniceeibflcaaGreatDoorKcb
import Derived.Test.YtndniceeibflcaaGreatDoorKcc
import Derived.Test.YtndniceeibflcaaGreatDoorKcd
import Derived.Test.YtndniceeibflcaaGreatDoorKce
import Derived.Test.YtndniceeibflcaaGreatDoorKcf
import Derived.Test.YtndniceeibflcaaGreatDoorKcg
import Derived.Test.YtndniceeibflcaaGreatDoorKar
set_option linter.unusedSimpArgs false
set_option linter.unusedVariables false
namespace Go.Proofs.YtndniceeibflcaaGreatDoor
namespace Aw
end Aw
namespace Mp
end Mp
end Go.Proofs.YtndniceeibflcaaGreatDoor
namespace Go.Proofs.YtndniceeibflcaaGreatDoor
open Aw Mp Go.RowKit
set_option linter.unusedSimpArgs false
set_option maxRecDepth 8000

theorem ok84 : okFn Tryz.prog 84 = true := by kernel_rfl
theorem s84 (n lm : Int) (ls : List (Int × Int)) (l : List By) (hA : Acc n lm ls l) (hls : ls.length ≤ 1000000) : ASpec Tryz.prog 84 [rfA n lm ls l] (fun r Ms => r = .s 1 (intsA (wrmL lm (stO l).heats)) ∧ Ms = []) := by
  refine aspec_of (own := [1, 3, 4]) Tryz.func84 rfl ok84 ?_
  have h82 := s82 n lm ls l hA hls
  obtain ⟨t, ht⟩ : ∃ t, t = stO l := ⟨_, rfl⟩
  have hI := hA.inv.2
  rw [← ht] at h82 hI ⊢
  have hp4 := hI.p4
  have hhl := hI.hl
  obtain ⟨p, hpd⟩ : ∃ p : Int → Bool, p = fun i => decide (lm < t.heats.getD i.toNat 0) := ⟨_, rfl⟩
  simp only [rfA, stA] at h82
  simp only [wB, awp, asP, asQ, asN, obA, loadA, Aw.newRow, St.ev, St.step, setS, killS, AV.kill, AV.killL, Mem.kill, AV.cells, AV.flat, AV.single, AV.cellular, AV.size, AV.sizeL, Nat.reduceAdd, Nat.reduceEqDiff, Nat.reduceSub, Nat.reduceLeDiff, Int.reduceAdd, Int.reduceSub, Tryz.ntmps84, rfA]
  refine acall_v h82 (by simp [AV.pureL, AV.pure, prsA_pure, strsA_pure]) (by simp [AV.pure, AV.pureL, intsA_pure, gtsA_pure]) ?_
  simp only [wB, awp, asQ, asN, obA, storeA, putsA, mkA, Aw.newRow, St.ev, St.step, setS, killS, AV.kill, AV.killL, Mem.kill, AV.cells, AV.flat, AV.single, AV.cellular, Nat.reduceAdd, Nat.reduceEqDiff, Nat.reduceLeDiff, Int.reduceAdd]
  refine swp_loop' (fun k : Nat => ⟨[.bot, .q 0 4 0 0, .bot, .q 1 6 0 0, .o 2, I k, .bot, .bot, .bot, .bot, .bot, .bot, .bot, .bot, .bot, .bot, .bot, .bot, .bot, .bot, .bot, .bot, .bot, .bot, .bot, .bot, .bot, .bot], [some ⟨none, 55, 4, [rfA n lm ls l]⟩, some ⟨none, 130, 6, [stA t]⟩, some ⟨none, 3, 1, intsA (upL k p)⟩]⟩) (fun k => k ≤ t.heats.length) (fun k => t.heats.length - k) 0 (le_sl' ?_ (by simp [leSl])) (Nat.zero_le _) ?_
  · simp [rfA, stA, upL, intsA]
  intro k hk
  refine awp_sound (own := [1, 3, 4]) _ _ _ _ _ ?_
  simp only [wB, awp, binC, cmpC, asP, asQ, asB, asI, obA, lenA, loadA, St.ev, St.step, setS, killS, AV.kill, AV.killL, Mem.kill, AV.cells, AV.flat, AV.single, Nat.reduceAdd, Nat.reduceEqDiff, Nat.reduceLeDiff, Int.reduceAdd, lenK, rfA, stA]
  have hul := upL_len k p
  by_cases h : k < t.heats.length
  case neg =>
    have h' : ¬ (k : Int) < t.heats.length := by omega
    simp only [wB, awp, asN, St.ev, St.step, setS, killS, AV.kill, AV.killL, Mem.kill, Nat.reduceAdd, Nat.reduceEqDiff, Int.reduceAdd, decide_eq_false h']
    obtain rfl : k = t.heats.length := by omega
    refine aend_frz rfl ⟨?_, rfl⟩
    rw [hpd]
    simp [frz, AV.sub, AV.subL, intsA_pure, wrmL]
  have h' : (k : Int) < t.heats.length := by omega
  simp only [awp, ACond_true, decide_eq_true h']
  refine swp_draw (own := [1, 3, 4]) (.take 0 .plain [] (.take 1 .reads [] (.take 2 .plain [] (.take 3 .reads [] (.take 4 .reads [] (.take 5 .plain [] (.take 6 .reads [] (.take 7 .plain [] (.done))))))))) [⟨16, 8, 0, 0, true⟩, ⟨17, 32768, 1, 0, true⟩, ⟨18, 32, 0, 0, true⟩, ⟨19, 196608, 6, 0, true⟩, ⟨20, 262144, 8, 0, true⟩, ⟨21, 2, 0, 0, true⟩, ⟨22, 1048576, 32, 0, true⟩, ⟨23, 2621440, 80, 0, true⟩] mo (by kernel_rfl) ?_
  simp only [wB, awp, binC, idxC, cmpC, asP, asQ, asS, asB, asI, obA, loadA, St.ev, setS, AV.cells, AV.flat, AV.single, Nat.reduceAdd, Nat.reduceEqDiff, Nat.reduceLeDiff, Int.reduceAdd, ASch, St.put, Md.mem, Md.need, aget_ints h, Int.toNat_natCast]
  refine ⟨by omega, ?_⟩
  by_cases c : lm < t.heats[k]
  · have hpk : p k = true := by rw [hpd]; simp only [Int.toNat_natCast, getD_eq h]; exact decide_eq_true c
    simp only [wB, awp, binC, arithC, cmpC, asO, asS, asI, asN, obA, St.ev, St.step, setS, killS, AV.kill, AV.killL, Mem.kill, AV.cells, AV.flat, AV.single, AV.cellular, AV.size, AV.pure, AV.pureL, Value.oneCell', Nat.reduceAdd, Nat.reduceEqDiff, Nat.reduceMul, Nat.reduceLeDiff, Int.reduceAdd, Int.reduceMul, St.put, isU, decide_eq_true c]
    refine ⟨⟨by decide, rfl⟩, ⟨by decide, by omega⟩, by unfold lim; omega, k + 1, le_sl' ?_ (by simp [leSl]), h, by omega⟩
    rw [upL_true hpk]
    simp [rfA, stA, intsA_kill, intsA_app]
  · have hpk : p k = false := by rw [hpd]; simp only [Int.toNat_natCast, getD_eq h]; exact decide_eq_false c
    simp only [wB, awp, binC, arithC, cmpC, asI, asN, St.ev, St.step, setS, killS, AV.kill, AV.killL, Mem.kill, Nat.reduceAdd, Nat.reduceEqDiff, Int.reduceAdd, St.put, isU, decide_eq_false c]
    refine ⟨by unfold lim; omega, k + 1, le_sl' ?_ (by simp [leSl]), h, by omega⟩
    rw [upL_false hpk]
    simp [rfA, stA]
end Go.Proofs.YtndniceeibflcaaGreatDoor

namespace Go.Proofs.YtndniceeibflcaaGreatDoor
open Aw Mp Go.RowKit
set_option linter.unusedSimpArgs false
set_option maxRecDepth 8000

theorem seg_intro {b : Option Code} {i k kT : Nat} {σ σ' : St} {ops : Array Oper} (hb : b.bind (regOf · i) = some ops) (own : List Nat) (t : OTc) (ms : List Nat) (hok : t.ok ops k kT = true) (h : @ADc Tryz.prog own ops.toList ms t σ ⟨fun s => Le s σ'⟩) : Seg b i k kT σ σ' := by
  intro ops' hb' N E Rt h2
  rw [hb] at hb'
  obtain rfl := Option.some.inj hb'
  exact any_seg (own := own) kT t ms hok σ' h h2
def M0 (n lm : Int) (ls : List (Int × Int)) (l : List By) (gh : Option Ob) : Mem := [some (mkM n lm ls l).ob, none, some (mkM n lm ls l).od, gh, some ⟨none, 55, 4, [.g [I n, .s 2 (prsA ls), I lm, .s 1 (strsA l)]]⟩, some ⟨none, 130, 6, [.g [.s 1 (intsA (stO l).place), .s 1 (intsA (stO l).heats), .s 4 (gtsA (stO l).circ), I (stO l).moves, I (stO l).cools, I (stO l).done]]⟩]
theorem g37 {n lm : Int} {ls : List (Int × Int)} {l : List By} {gh : Option Ob} {vs : List Value} {f : FuncId} {x : AV} (h : MSpec Tryz.prog f [.q 0 13 0 0] (memD (mkM n lm ls l)) (fun r N => r = x ∧ N = memD (mkM n lm ls l))) (hgh : gh = some (ghost vs [AV.q 0 13 0 0, AV.g [I n, .s 2 (prsA ls), I lm, .s 1 (strsA l)]])) :
    FSpec Tryz.prog f [.q 0 13 0 0] (memD (mkM n lm ls l)) [some (mkM n lm ls l).ob, none, some (mkM n lm ls l).od, gh, some ⟨none, 55, 4, [.g [I n, .s 2 (prsA ls), I lm, .s 1 (strsA l)]]⟩, some ⟨none, 130, 6, [.g [.s 1 (intsA (stO l).place), .s 1 (intsA (stO l).heats), .s 4 (gtsA (stO l).circ), I (stO l).moves, I (stO l).cools, I (stO l).done]]⟩] x [some (mkM n lm ls l).ob, none, some (mkM n lm ls l).od, gh, some ⟨none, 55, 4, [.g [I n, .s 2 (prsA ls), I lm, .s 1 (strsA l)]]⟩, some ⟨none, 130, 6, [.g [.s 1 (intsA (stO l).place), .s 1 (intsA (stO l).heats), .s 4 (gtsA (stO l).circ), I (stO l).moves, I (stO l).cools, I (stO l).done]]⟩] :=
  fD h [gh, some ⟨none, 55, 4, [.g [I n, .s 2 (prsA ls), I lm, .s 1 (strsA l)]]⟩, some ⟨none, 130, 6, [.g [.s 1 (intsA (stO l).place), .s 1 (intsA (stO l).heats), .s 4 (gtsA (stO l).circ), I (stO l).moves, I (stO l).cools, I (stO l).done]]⟩] [1, 3, 4, 5] rfl rfl (by
    obtain ⟨F, hF⟩ : ∃ F, F = keepF (memD (mkM n lm ls l)) [AV.q 0 13 0 0] := ⟨_, rfl⟩
    obtain ⟨G, hG⟩ : ∃ G, G = keepG (memD (mkM n lm ls l)) [AV.q 0 13 0 0] := ⟨_, rfl⟩
    have g0 : G 0 13 0 0 = .q 0 13 0 0 := by rw [hG]; rfl
    rw [← hF, ← hG, hgh]
    simp [ghost, AV.sub, AV.subL, prsA_sub, strsA_sub, intsA_sub, gtsA_sub, g0])
theorem seg37_0 (n lm : Int) (ls : List (Int × Int)) (hls : ls.length ≤ 1000000) (l : List By) (hA : Acc n lm ls l) (gh : Option Ob) (vs : List Value) (hgh : gh = some (ghost vs [AV.q 0 13 0 0, AV.g [I n, .s 2 (prsA ls), I lm, .s 1 (strsA l)]])) : Seg Tryz.f37.body 3 0 6 ⟨[.q 0 13 0 0, .bot, .bot, .q 4 4 0 0, B false, .q 5 6 0 0, I (stO l).moves, I (stO l).cools, I (stO l).done, .bot, .bot, .bot, .bot, .bot, .bot, .bot, .bot, .bot, .bot, .bot, .bot, .bot, .bot, .bot, .bot, .bot, .bot, .bot, .bot, .bot, .bot, .bot, .bot, .bot, .bot, .bot, .bot, .bot, .bot, .bot, .bot, .bot, .bot, .bot, .bot, .bot, .bot, .bot, .bot, .bot, .bot, .bot, .bot, .bot, .bot, .bot, .bot, .bot, .bot, .bot, .bot, .bot, .bot, .bot, .bot, .bot, .bot, .bot, .bot], M0 n lm ls l gh⟩ ⟨[.q 0 13 0 0, .bot, .bot, .q 4 4 0 0, .bot, .q 5 6 0 0, I (stO l).moves, I (stO l).cools, I (stO l).done, .bot, .bot, .bot, .bot, .bot, .bot, .bot, .bot, .bot, .bot, .bot, .bot, .bot, B true, .bot, .bot, .bot, .bot, .bot, .bot, .bot, .bot, .bot, .bot, .bot, .bot, .bot, .bot, .bot, .bot, .bot, .bot, .bot, .bot, .bot, .bot, .bot, .bot, .bot, .bot, .bot, .bot, .bot, .bot, .bot, .bot, .bot, .bot, .bot, .bot, .bot, .bot, .bot, .bot, .bot, .bot, .bot, .bot, .bot, .bot], M0 n lm ls l gh⟩ := by
  have hI := hA.inv.2
  have hp4 := hI.p4
  have hhl := hI.hl
  have hc10 := hI.c10
  have hwl := wrm_len lm (stO l).heats
  have h52p : ASpec Tryz.prog 52 [.s 1 (intsA (mkM n lm ls l).st.place), .s 1 (intsA (stO l).place)] (fun r Ms => r = B true ∧ Ms = []) := by simpa [mkM] using s52 (stO l).place (stO l).place (by omega) (by omega)
  refine seg_intro rfl [3, 5] (.alt 0 (.alt 1 (.alt 2 (.alt 3 (.alt 4 (.alt 5 (.cut) (.nil)) (.nil)) (.nil)) (.nil)) (.alt 2 (.alt 1 (.alt 3 (.alt 4 (.alt 5 (.cut) (.nil)) (.nil)) (.nil)) (.alt 3 (.alt 1 (.alt 4 (.alt 5 (.cut) (.nil)) (.nil)) (.nil)) (.nil))) (.nil))) (.alt 2 (.alt 0 (.alt 1 (.alt 3 (.alt 4 (.alt 5 (.cut) (.nil)) (.nil)) (.nil)) (.alt 3 (.alt 1 (.alt 4 (.alt 5 (.cut) (.nil)) (.nil)) (.nil)) (.nil))) (.alt 3 (.alt 0 (.alt 1 (.alt 4 (.alt 5 (.cut) (.nil)) (.nil)) (.nil)) (.nil)) (.nil))) (.nil))) [1] (by kernel_rfl) ?_
  simp only [wB, asP, asQ, obA, loadA, St.ev, St.step, setS, killS, AV.kill, AV.killL, Mem.kill, AV.cells, AV.flat, AV.single, Nat.reduceAdd, Nat.reduceEqDiff, Nat.reduceLeDiff, Int.reduceAdd, List.drop_zero, List.take_succ_cons, List.take_zero, M0]
  repeat' (first
    | refine And.intro ?_ ?_
    | trivial
    | (refine acall_f (g37 (m44 _ (sml_of hA)) hgh) ?_; simp only [wB, asP, asQ, obA, loadA, St.ev, St.step, setS, killS, AV.kill, AV.killL, Mem.kill, AV.cells, AV.flat, AV.single, Nat.reduceAdd, Nat.reduceEqDiff, Nat.reduceLeDiff, Int.reduceAdd, memD, List.drop_zero, AV.sub, keepG, liveI, AV.isQ, List.any_cons, List.any_nil, List.take_succ_cons, List.take_zero])
    | (refine acall_v h52p (by simp [AV.pureL, AV.pure, intsA_pure]) rfl ?_; simp only [wB, St.ev, St.step, setS, killS, AV.kill, AV.killL, Mem.kill, Nat.reduceEqDiff, M0]))
  all_goals exact le_sl (by simp [leSl, mkM])
theorem seg37_1 (n lm : Int) (ls : List (Int × Int)) (hls : ls.length ≤ 1000000) (l : List By) (hA : Acc n lm ls l) (gh : Option Ob) (vs : List Value) (hgh : gh = some (ghost vs [AV.q 0 13 0 0, AV.g [I n, .s 2 (prsA ls), I lm, .s 1 (strsA l)]])) : Seg Tryz.f37.body 3 6 13 ⟨[.q 0 13 0 0, .bot, .bot, .q 4 4 0 0, .bot, .q 5 6 0 0, I (stO l).moves, I (stO l).cools, I (stO l).done, .bot, .bot, .bot, .bot, .bot, .bot, .bot, .bot, .bot, .bot, .bot, .bot, .bot, B true, .bot, .bot, .bot, .bot, .bot, .bot, .bot, .bot, .bot, .bot, .bot, .bot, .bot, .bot, .bot, .bot, .bot, .bot, .bot, .bot, .bot, .bot, .bot, .bot, .bot, .bot, .bot, .bot, .bot, .bot, .bot, .bot, .bot, .bot, .bot, .bot, .bot, .bot, .bot, .bot, .bot, .bot, .bot, .bot, .bot, .bot], M0 n lm ls l gh⟩ ⟨[.q 0 13 0 0, .bot, .bot, .q 4 4 0 0, .bot, .q 5 6 0 0, I (stO l).moves, I (stO l).cools, I (stO l).done, .bot, .bot, .bot, .bot, .bot, .bot, .bot, .bot, .bot, .bot, .bot, .bot, .bot, .bot, .bot, .bot, .bot, .bot, .bot, .bot, B true, .bot, .bot, .bot, .bot, .bot, .bot, .bot, .bot, .bot, .bot, .bot, .bot, .bot, .bot, .bot, .bot, .bot, .bot, .bot, .bot, .bot, .bot, .bot, .bot, .bot, .bot, .bot, .bot, .bot, .bot, .bot, .bot, .bot, .bot, .bot, .bot, .bot, .bot, .bot], M0 n lm ls l gh⟩ := by
  have hI := hA.inv.2
  have hp4 := hI.p4
  have hhl := hI.hl
  have hc10 := hI.c10
  have hwl := wrm_len lm (stO l).heats
  have h52h : ASpec Tryz.prog 52 [.s 1 (intsA (mkM n lm ls l).st.heats), .s 1 (intsA (stO l).heats)] (fun r Ms => r = B true ∧ Ms = []) := by simpa [mkM] using s52 (stO l).heats (stO l).heats (by omega) (by omega)
  refine seg_intro rfl [3, 5] (.alt 6 (.alt 7 (.alt 8 (.alt 9 (.alt 10 (.alt 11 (.alt 12 (.cut) (.nil)) (.nil)) (.nil)) (.nil)) (.nil)) (.alt 8 (.alt 7 (.alt 9 (.alt 10 (.alt 11 (.alt 12 (.cut) (.nil)) (.nil)) (.nil)) (.nil)) (.alt 9 (.alt 7 (.alt 10 (.alt 11 (.alt 12 (.cut) (.nil)) (.nil)) (.nil)) (.nil)) (.nil))) (.nil))) (.alt 8 (.alt 6 (.alt 7 (.alt 9 (.alt 10 (.alt 11 (.alt 12 (.cut) (.nil)) (.nil)) (.nil)) (.nil)) (.alt 9 (.alt 7 (.alt 10 (.alt 11 (.alt 12 (.cut) (.nil)) (.nil)) (.nil)) (.nil)) (.nil))) (.alt 9 (.alt 6 (.alt 7 (.alt 10 (.alt 11 (.alt 12 (.cut) (.nil)) (.nil)) (.nil)) (.nil)) (.nil)) (.nil))) (.nil))) [7] (by kernel_rfl) ?_
  simp only [wB, asP, asQ, obA, loadA, St.ev, St.step, setS, killS, AV.kill, AV.killL, Mem.kill, AV.cells, AV.flat, AV.single, Nat.reduceAdd, Nat.reduceEqDiff, Nat.reduceLeDiff, Int.reduceAdd, List.drop_succ_cons, List.drop_zero, List.take_succ_cons, List.take_zero, M0]
  repeat' (first
    | refine And.intro ?_ ?_
    | trivial
    | (refine acall_f (g37 (m45 _ (sml_of hA)) hgh) ?_; simp only [wB, asP, asQ, obA, loadA, St.ev, St.step, setS, killS, AV.kill, AV.killL, Mem.kill, AV.cells, AV.flat, AV.single, Nat.reduceAdd, Nat.reduceEqDiff, Nat.reduceLeDiff, Int.reduceAdd, memD, List.drop_succ_cons, List.drop_zero, AV.sub, keepG, liveI, AV.isQ, List.any_cons, List.any_nil, List.take_succ_cons, List.take_zero])
    | (refine acall_v h52h (by simp [AV.pureL, AV.pure, intsA_pure]) rfl ?_; simp only [wB, asB, St.ev, St.step, setS, killS, AV.kill, AV.killL, Mem.kill, Nat.reduceEqDiff, M0]))
  all_goals exact le_sl (by simp [leSl, mkM])
theorem seg37_2 (n lm : Int) (ls : List (Int × Int)) (hls : ls.length ≤ 1000000) (l : List By) (hA : Acc n lm ls l) (gh : Option Ob) (vs : List Value) (hgh : gh = some (ghost vs [AV.q 0 13 0 0, AV.g [I n, .s 2 (prsA ls), I lm, .s 1 (strsA l)]])) : Seg Tryz.f37.body 3 13 20 ⟨[.q 0 13 0 0, .bot, .bot, .q 4 4 0 0, .bot, .q 5 6 0 0, I (stO l).moves, I (stO l).cools, I (stO l).done, .bot, .bot, .bot, .bot, .bot, .bot, .bot, .bot, .bot, .bot, .bot, .bot, .bot, .bot, .bot, .bot, .bot, .bot, .bot, .bot, B true, .bot, .bot, .bot, .bot, .bot, .bot, .bot, .bot, .bot, .bot, .bot, .bot, .bot, .bot, .bot, .bot, .bot, .bot, .bot, .bot, .bot, .bot, .bot, .bot, .bot, .bot, .bot, .bot, .bot, .bot, .bot, .bot, .bot, .bot, .bot, .bot, .bot, .bot, .bot], M0 n lm ls l gh⟩ ⟨[.q 0 13 0 0, .bot, .bot, .q 4 4 0 0, .bot, .q 5 6 0 0, I (stO l).moves, I (stO l).cools, I (stO l).done, .bot, .bot, .bot, .bot, .bot, .bot, .bot, .bot, .bot, .bot, .bot, .bot, .bot, .bot, .bot, .bot, .bot, .bot, .bot, .bot, .bot, .bot, .bot, .bot, .bot, .bot, .bot, B true, .bot, .bot, .bot, .bot, .bot, .bot, .bot, .bot, .bot, .bot, .bot, .bot, .bot, .bot, .bot, .bot, .bot, .bot, .bot, .bot, .bot, .bot, .bot, .bot, .bot, .bot, .bot, .bot, .bot, .bot, .bot, .bot], M0 n lm ls l gh⟩ := by
  have hI := hA.inv.2
  have hp4 := hI.p4
  have hhl := hI.hl
  have hc10 := hI.c10
  have hwl := wrm_len lm (stO l).heats
  have h53 : ASpec Tryz.prog 53 [.s 4 (gtsA (mkM n lm ls l).st.circ), .s 4 (gtsA (stO l).circ)] (fun r Ms => r = B true ∧ Ms = []) := by simpa [mkM] using s53 (stO l).circ (stO l).circ (by omega) (by omega)
  refine seg_intro rfl [3, 5] (.alt 13 (.alt 14 (.alt 15 (.alt 16 (.alt 17 (.alt 18 (.alt 19 (.cut) (.nil)) (.nil)) (.nil)) (.nil)) (.nil)) (.alt 15 (.alt 14 (.alt 16 (.alt 17 (.alt 18 (.alt 19 (.cut) (.nil)) (.nil)) (.nil)) (.nil)) (.alt 16 (.alt 14 (.alt 17 (.alt 18 (.alt 19 (.cut) (.nil)) (.nil)) (.nil)) (.nil)) (.nil))) (.nil))) (.alt 15 (.alt 13 (.alt 14 (.alt 16 (.alt 17 (.alt 18 (.alt 19 (.cut) (.nil)) (.nil)) (.nil)) (.nil)) (.alt 16 (.alt 14 (.alt 17 (.alt 18 (.alt 19 (.cut) (.nil)) (.nil)) (.nil)) (.nil)) (.nil))) (.alt 16 (.alt 13 (.alt 14 (.alt 17 (.alt 18 (.alt 19 (.cut) (.nil)) (.nil)) (.nil)) (.nil)) (.nil)) (.nil))) (.nil))) [14] (by kernel_rfl) ?_
  simp only [wB, asP, asQ, obA, loadA, St.ev, St.step, setS, killS, AV.kill, AV.killL, Mem.kill, AV.cells, AV.flat, AV.single, Nat.reduceAdd, Nat.reduceEqDiff, Nat.reduceLeDiff, Int.reduceAdd, List.drop_succ_cons, List.drop_zero, List.take_succ_cons, List.take_zero, M0]
  repeat' (first
    | refine And.intro ?_ ?_
    | trivial
    | (refine acall_f (g37 (m47 _ (sml_of hA)) hgh) ?_; simp only [wB, asP, asQ, obA, loadA, St.ev, St.step, setS, killS, AV.kill, AV.killL, Mem.kill, AV.cells, AV.flat, AV.single, Nat.reduceAdd, Nat.reduceEqDiff, Nat.reduceLeDiff, Int.reduceAdd, memD, List.drop_succ_cons, List.drop_zero, AV.sub, keepG, liveI, AV.isQ, List.any_cons, List.any_nil, List.take_succ_cons, List.take_zero])
    | (refine acall_v h53 (by simp [AV.pureL, AV.pure, gtsA_pure]) rfl ?_; simp only [wB, asB, St.ev, St.step, setS, killS, AV.kill, AV.killL, Mem.kill, Nat.reduceEqDiff, M0]))
  all_goals exact le_sl (by simp [leSl, mkM])
theorem seg37_3 (n lm : Int) (ls : List (Int × Int)) (hls : ls.length ≤ 1000000) (l : List By) (hA : Acc n lm ls l) (gh : Option Ob) (vs : List Value) (hgh : gh = some (ghost vs [AV.q 0 13 0 0, AV.g [I n, .s 2 (prsA ls), I lm, .s 1 (strsA l)]])) : Seg Tryz.f37.body 3 20 26 ⟨[.q 0 13 0 0, .bot, .bot, .q 4 4 0 0, .bot, .q 5 6 0 0, I (stO l).moves, I (stO l).cools, I (stO l).done, .bot, .bot, .bot, .bot, .bot, .bot, .bot, .bot, .bot, .bot, .bot, .bot, .bot, .bot, .bot, .bot, .bot, .bot, .bot, .bot, .bot, .bot, .bot, .bot, .bot, .bot, .bot, B true, .bot, .bot, .bot, .bot, .bot, .bot, .bot, .bot, .bot, .bot, .bot, .bot, .bot, .bot, .bot, .bot, .bot, .bot, .bot, .bot, .bot, .bot, .bot, .bot, .bot, .bot, .bot, .bot, .bot, .bot, .bot, .bot], M0 n lm ls l gh⟩ ⟨[.q 0 13 0 0, .bot, .bot, .q 4 4 0 0, .bot, .q 5 6 0 0, I (stO l).moves, I (stO l).cools, I (stO l).done, .bot, .bot, .bot, .bot, .bot, .bot, .bot, .bot, .bot, .bot, .bot, .bot, .bot, .bot, .bot, .bot, .bot, .bot, .bot, .bot, .bot, .bot, .bot, .bot, .bot, .bot, .bot, .bot, .bot, .bot, .bot, .bot, .bot, B true, .bot, .bot, .bot, .bot, .bot, .bot, .bot, .bot, .bot, .bot, .bot, .bot, .bot, .bot, .bot, .bot, .bot, .bot, .bot, .bot, .bot, .bot, .bot, .bot, .bot, .bot], M0 n lm ls l gh⟩ := by
  have hI := hA.inv.2
  have hp4 := hI.p4
  have hhl := hI.hl
  have hc10 := hI.c10
  have hwl := wrm_len lm (stO l).heats
  refine seg_intro rfl [3, 5] (.alt 20 (.alt 21 (.alt 22 (.alt 23 (.alt 24 (.alt 25 (.cut) (.nil)) (.nil)) (.nil)) (.nil)) (.nil)) (.alt 21 (.alt 20 (.alt 22 (.alt 23 (.alt 24 (.alt 25 (.cut) (.nil)) (.nil)) (.nil)) (.nil)) (.alt 22 (.alt 20 (.alt 23 (.alt 24 (.alt 25 (.cut) (.nil)) (.nil)) (.nil)) (.nil)) (.nil))) (.nil))) [] (by kernel_rfl) ?_
  simp only [wB, binC, cmpC, asP, asQ, asB, asI, obA, loadA, St.ev, St.step, setS, killS, AV.kill, AV.killL, Mem.kill, AV.cells, AV.flat, AV.single, Nat.reduceAdd, Nat.reduceEqDiff, Nat.reduceLeDiff, Int.reduceAdd, List.drop_succ_cons, List.drop_zero, List.take_succ_cons, List.take_zero, M0]
  repeat' (first
    | refine And.intro ?_ ?_
    | trivial)
  all_goals exact le_sl (by simp [leSl, mkM])
theorem seg37_4 (n lm : Int) (ls : List (Int × Int)) (hls : ls.length ≤ 1000000) (l : List By) (hA : Acc n lm ls l) (gh : Option Ob) (vs : List Value) (hgh : gh = some (ghost vs [AV.q 0 13 0 0, AV.g [I n, .s 2 (prsA ls), I lm, .s 1 (strsA l)]])) : Seg Tryz.f37.body 3 26 32 ⟨[.q 0 13 0 0, .bot, .bot, .q 4 4 0 0, .bot, .q 5 6 0 0, I (stO l).moves, I (stO l).cools, I (stO l).done, .bot, .bot, .bot, .bot, .bot, .bot, .bot, .bot, .bot, .bot, .bot, .bot, .bot, .bot, .bot, .bot, .bot, .bot, .bot, .bot, .bot, .bot, .bot, .bot, .bot, .bot, .bot, .bot, .bot, .bot, .bot, .bot, .bot, B true, .bot, .bot, .bot, .bot, .bot, .bot, .bot, .bot, .bot, .bot, .bot, .bot, .bot, .bot, .bot, .bot, .bot, .bot, .bot, .bot, .bot, .bot, .bot, .bot, .bot, .bot], M0 n lm ls l gh⟩ ⟨[.q 0 13 0 0, .bot, .bot, .q 4 4 0 0, .bot, .q 5 6 0 0, I (stO l).moves, I (stO l).cools, I (stO l).done, .bot, .bot, .bot, .bot, .bot, .bot, .bot, .bot, .bot, .bot, .bot, .bot, .bot, .bot, .bot, .bot, .bot, .bot, .bot, .bot, .bot, .bot, .bot, .bot, .bot, .bot, .bot, .bot, .bot, .bot, .bot, .bot, .bot, .bot, .bot, .bot, .bot, .bot, .bot, B true, .bot, .bot, .bot, .bot, .bot, .bot, .bot, .bot, .bot, .bot, .bot, .bot, .bot, .bot, .bot, .bot, .bot, .bot, .bot, .bot], M0 n lm ls l gh⟩ := by
  have hI := hA.inv.2
  have hp4 := hI.p4
  have hhl := hI.hl
  have hc10 := hI.c10
  have hwl := wrm_len lm (stO l).heats
  refine seg_intro rfl [3, 5] (.alt 26 (.alt 27 (.alt 28 (.alt 29 (.alt 30 (.alt 31 (.cut) (.nil)) (.nil)) (.nil)) (.nil)) (.nil)) (.alt 27 (.alt 26 (.alt 28 (.alt 29 (.alt 30 (.alt 31 (.cut) (.nil)) (.nil)) (.nil)) (.nil)) (.alt 28 (.alt 26 (.alt 29 (.alt 30 (.alt 31 (.cut) (.nil)) (.nil)) (.nil)) (.nil)) (.nil))) (.nil))) [] (by kernel_rfl) ?_
  simp only [wB, binC, cmpC, asP, asQ, asB, asI, obA, loadA, St.ev, St.step, setS, killS, AV.kill, AV.killL, Mem.kill, AV.cells, AV.flat, AV.single, Nat.reduceAdd, Nat.reduceEqDiff, Nat.reduceLeDiff, Int.reduceAdd, List.drop_succ_cons, List.drop_zero, List.take_succ_cons, List.take_zero, M0]
  repeat' (first
    | refine And.intro ?_ ?_
    | trivial)
  all_goals exact le_sl (by simp [leSl, mkM])
theorem seg37_5 (n lm : Int) (ls : List (Int × Int)) (hls : ls.length ≤ 1000000) (l : List By) (hA : Acc n lm ls l) (gh : Option Ob) (vs : List Value) (hgh : gh = some (ghost vs [AV.q 0 13 0 0, AV.g [I n, .s 2 (prsA ls), I lm, .s 1 (strsA l)]])) : Seg Tryz.f37.body 3 32 38 ⟨[.q 0 13 0 0, .bot, .bot, .q 4 4 0 0, .bot, .q 5 6 0 0, I (stO l).moves, I (stO l).cools, I (stO l).done, .bot, .bot, .bot, .bot, .bot, .bot, .bot, .bot, .bot, .bot, .bot, .bot, .bot, .bot, .bot, .bot, .bot, .bot, .bot, .bot, .bot, .bot, .bot, .bot, .bot, .bot, .bot, .bot, .bot, .bot, .bot, .bot, .bot, .bot, .bot, .bot, .bot, .bot, .bot, B true, .bot, .bot, .bot, .bot, .bot, .bot, .bot, .bot, .bot, .bot, .bot, .bot, .bot, .bot, .bot, .bot, .bot, .bot, .bot, .bot], M0 n lm ls l gh⟩ ⟨[.q 0 13 0 0, .bot, .bot, .q 4 4 0 0, .bot, .q 5 6 0 0, I (stO l).moves, I (stO l).cools, I (stO l).done, .bot, .bot, .bot, .bot, .bot, .bot, .bot, .bot, .bot, .bot, .bot, .bot, .bot, .bot, .bot, .bot, .bot, .bot, .bot, .bot, .bot, .bot, .bot, .bot, .bot, .bot, .bot, .bot, .bot, .bot, .bot, .bot, .bot, .bot, .bot, .bot, .bot, .bot, .bot, .bot, .bot, .bot, .bot, .bot, .bot, B true, .bot, .bot, .bot, .bot, .bot, .bot, .bot, .bot, .bot, .bot, .bot, .bot, .bot, .bot], M0 n lm ls l gh⟩ := by
  have hI := hA.inv.2
  have hp4 := hI.p4
  have hhl := hI.hl
  have hc10 := hI.c10
  have hwl := wrm_len lm (stO l).heats
  refine seg_intro rfl [3, 5] (.alt 32 (.alt 33 (.alt 34 (.alt 35 (.alt 36 (.alt 37 (.cut) (.nil)) (.nil)) (.nil)) (.nil)) (.nil)) (.alt 33 (.alt 32 (.alt 34 (.alt 35 (.alt 36 (.alt 37 (.cut) (.nil)) (.nil)) (.nil)) (.nil)) (.alt 34 (.alt 32 (.alt 35 (.alt 36 (.alt 37 (.cut) (.nil)) (.nil)) (.nil)) (.nil)) (.nil))) (.nil))) [] (by kernel_rfl) ?_
  simp only [wB, binC, cmpC, asP, asQ, asB, asI, obA, loadA, St.ev, St.step, setS, killS, AV.kill, AV.killL, Mem.kill, AV.cells, AV.flat, AV.single, Nat.reduceAdd, Nat.reduceEqDiff, Nat.reduceLeDiff, Int.reduceAdd, List.drop_succ_cons, List.drop_zero, List.take_succ_cons, List.take_zero, M0]
  repeat' (first
    | refine And.intro ?_ ?_
    | trivial)
  all_goals exact le_sl (by simp [leSl, mkM])
theorem seg37_6 (n lm : Int) (ls : List (Int × Int)) (hls : ls.length ≤ 1000000) (l : List By) (hA : Acc n lm ls l) (gh : Option Ob) (vs : List Value) (hgh : gh = some (ghost vs [AV.q 0 13 0 0, AV.g [I n, .s 2 (prsA ls), I lm, .s 1 (strsA l)]])) : Seg Tryz.f37.body 3 38 45 ⟨[.q 0 13 0 0, .bot, .bot, .q 4 4 0 0, .bot, .q 5 6 0 0, I (stO l).moves, I (stO l).cools, I (stO l).done, .bot, .bot, .bot, .bot, .bot, .bot, .bot, .bot, .bot, .bot, .bot, .bot, .bot, .bot, .bot, .bot, .bot, .bot, .bot, .bot, .bot, .bot, .bot, .bot, .bot, .bot, .bot, .bot, .bot, .bot, .bot, .bot, .bot, .bot, .bot, .bot, .bot, .bot, .bot, .bot, .bot, .bot, .bot, .bot, .bot, B true, .bot, .bot, .bot, .bot, .bot, .bot, .bot, .bot, .bot, .bot, .bot, .bot, .bot, .bot], M0 n lm ls l gh⟩ ⟨[.q 0 13 0 0, .bot, .bot, .q 4 4 0 0, .bot, .q 5 6 0 0, I (stO l).moves, I (stO l).cools, I (stO l).done, .bot, .bot, .bot, .bot, .bot, .bot, .bot, .bot, .bot, .bot, .bot, .bot, .bot, .bot, .bot, .bot, .bot, .bot, .bot, .bot, .bot, .bot, .bot, .bot, .bot, .bot, .bot, .bot, .bot, .bot, .bot, .bot, .bot, .bot, .bot, .bot, .bot, .bot, .bot, .bot, .bot, .bot, .bot, .bot, .bot, .bot, .bot, .bot, .bot, .bot, .bot, .bot, B true, .bot, .bot, .bot, .bot, .bot, .bot, .bot], M0 n lm ls l gh⟩ := by
  have hI := hA.inv.2
  have hp4 := hI.p4
  have hhl := hI.hl
  have hc10 := hI.c10
  have hwl := wrm_len lm (stO l).heats
  have h52w : ASpec Tryz.prog 52 [.s 1 (intsA (wrmL (mkM n lm ls l).lim (mkM n lm ls l).st.heats)), .s 1 (intsA (wrmL lm (stO l).heats))] (fun r Ms => r = B true ∧ Ms = []) := by simpa [mkM] using s52 (wrmL lm (stO l).heats) (wrmL lm (stO l).heats) (by omega) (by omega)
  have h84 := s84 n lm ls l hA hls
  simp only [rfA] at h84
  refine seg_intro rfl [3, 5] (.alt 38 (.alt 39 (.alt 40 (.alt 41 (.alt 42 (.alt 43 (.alt 44 (.cut) (.nil)) (.nil)) (.nil)) (.nil)) (.nil)) (.alt 40 (.alt 39 (.alt 41 (.alt 42 (.alt 43 (.alt 44 (.cut) (.nil)) (.nil)) (.nil)) (.nil)) (.nil)) (.nil))) (.alt 40 (.alt 38 (.alt 39 (.alt 41 (.alt 42 (.alt 43 (.alt 44 (.cut) (.nil)) (.nil)) (.nil)) (.nil)) (.nil)) (.nil)) (.nil))) [39] (by kernel_rfl) ?_
  simp only [wB, asP, asQ, obA, loadA, St.ev, St.step, setS, killS, AV.kill, AV.killL, Mem.kill, AV.cells, AV.flat, AV.single, Nat.reduceAdd, Nat.reduceEqDiff, Nat.reduceLeDiff, Int.reduceAdd, List.drop_zero, List.take_succ_cons, List.take_zero, M0]
  repeat' (first
    | refine And.intro ?_ ?_
    | trivial
    | (refine acall_f (g37 (m46 _ (sml_of hA)) hgh) ?_; simp only [wB, asP, asQ, obA, loadA, St.ev, St.step, setS, killS, AV.kill, AV.killL, Mem.kill, AV.cells, AV.flat, AV.single, Nat.reduceAdd, Nat.reduceEqDiff, Nat.reduceLeDiff, Int.reduceAdd, memD, List.drop_zero, AV.sub, AV.subL, keepG, liveI, AV.isQ, List.any_cons, List.any_nil, List.take_succ_cons, List.take_zero])
    | (refine acall_v h52w (by simp [AV.pureL, AV.pure, intsA_pure]) rfl ?_; simp only [wB, asB, St.ev, St.step, setS, killS, AV.kill, AV.killL, Mem.kill, Nat.reduceEqDiff, M0])
    | (refine acall_v h84 (by simp [AV.pureL, AV.pure, prsA_pure, strsA_pure]) (by simp [AV.pure, AV.pureL, intsA_pure]) ?_; simp only [wB, St.ev, St.step, setS, killS, AV.kill, AV.killL, Mem.kill, Nat.reduceEqDiff]))
  all_goals exact le_sl (by simp [leSl, mkM])
theorem seg37_7 (n lm : Int) (ls : List (Int × Int)) (hls : ls.length ≤ 1000000) (l : List By) (hA : Acc n lm ls l) (gh : Option Ob) (vs : List Value) (hgh : gh = some (ghost vs [AV.q 0 13 0 0, AV.g [I n, .s 2 (prsA ls), I lm, .s 1 (strsA l)]])) : Seg Tryz.f37.body 3 45 53 ⟨[.q 0 13 0 0, .bot, .bot, .q 4 4 0 0, .bot, .q 5 6 0 0, I (stO l).moves, I (stO l).cools, I (stO l).done, .bot, .bot, .bot, .bot, .bot, .bot, .bot, .bot, .bot, .bot, .bot, .bot, .bot, .bot, .bot, .bot, .bot, .bot, .bot, .bot, .bot, .bot, .bot, .bot, .bot, .bot, .bot, .bot, .bot, .bot, .bot, .bot, .bot, .bot, .bot, .bot, .bot, .bot, .bot, .bot, .bot, .bot, .bot, .bot, .bot, .bot, .bot, .bot, .bot, .bot, .bot, .bot, B true, .bot, .bot, .bot, .bot, .bot, .bot, .bot], M0 n lm ls l gh⟩ ⟨[.q 0 13 0 0, .bot, .bot, .q 4 4 0 0, B true, .q 5 6 0 0, I (stO l).moves, I (stO l).cools, I (stO l).done, .bot, .bot, .bot, .bot, .bot, .bot, .bot, .bot, .bot, .bot, .bot, .bot, .bot, .bot, .bot, .bot, .bot, .bot, .bot, .bot, .bot, .bot, .bot, .bot, .bot, .bot, .bot, .bot, .bot, .bot, .bot, .bot, .bot, .bot, .bot, .bot, .bot, .bot, .bot, .bot, .bot, .bot, .bot, .bot, .bot, .bot, .bot, .bot, .bot, .bot, .bot, .bot, .bot, .bot, .bot, .bot, .bot, .bot, .bot, .bot], M0 n lm ls l gh⟩ := by
  have hI := hA.inv.2
  have hp4 := hI.p4
  have hhl := hI.hl
  have hc10 := hI.c10
  have hwl := wrm_len lm (stO l).heats
  have h36 := s36 l (by have := hA.inv.1; omega) hA.ords
  refine seg_intro rfl [3, 5] (.alt 45 (.alt 46 (.alt 47 (.alt 48 (.alt 49 (.alt 50 (.alt 51 (.alt 52 (.cut) (.nil)) (.nil)) (.nil)) (.nil)) (.nil)) (.nil)) (.alt 47 (.alt 46 (.alt 48 (.alt 49 (.alt 50 (.alt 51 (.alt 52 (.cut) (.nil)) (.nil)) (.nil)) (.nil)) (.nil)) (.alt 48 (.alt 46 (.alt 49 (.alt 50 (.alt 51 (.alt 52 (.cut) (.nil)) (.nil)) (.nil)) (.nil)) (.nil)) (.nil))) (.nil))) (.alt 47 (.alt 45 (.alt 46 (.alt 48 (.alt 49 (.alt 50 (.alt 51 (.alt 52 (.cut) (.nil)) (.nil)) (.nil)) (.nil)) (.nil)) (.alt 48 (.alt 46 (.alt 49 (.alt 50 (.alt 51 (.alt 52 (.cut) (.nil)) (.nil)) (.nil)) (.nil)) (.nil)) (.nil))) (.alt 48 (.alt 45 (.alt 46 (.alt 49 (.alt 50 (.alt 51 (.alt 52 (.cut) (.nil)) (.nil)) (.nil)) (.nil)) (.nil)) (.nil)) (.nil))) (.nil))) [46] (by kernel_rfl) ?_
  simp only [wB, asP, asQ, obA, loadA, St.ev, St.step, setS, killS, AV.kill, AV.killL, Mem.kill, AV.cells, AV.flat, AV.single, Nat.reduceAdd, Nat.reduceEqDiff, Nat.reduceLeDiff, Int.reduceAdd, List.drop_succ_cons, List.drop_zero, List.take_succ_cons, List.take_zero, M0]
  repeat' (first
    | refine And.intro ?_ ?_
    | trivial
    | (refine acall_f (g37 (m23 _ (sml_of hA)) hgh) ?_; simp only [wB, asP, asQ, obA, loadA, St.ev, St.step, setS, killS, AV.kill, AV.killL, Mem.kill, AV.cells, AV.flat, AV.single, Nat.reduceAdd, Nat.reduceEqDiff, Nat.reduceLeDiff, Int.reduceAdd, memD, List.drop_succ_cons, List.drop_zero, AV.sub, keepG, liveI, AV.isQ, List.any_cons, List.any_nil, List.take_succ_cons, List.take_zero])
    | (refine acall_v h36 (by simp [AV.pureL, AV.pure, strsA_pure]) rfl ?_; simp only [wB, binC, eqC, asG, asB, asI, asN, St.ev, St.step, setS, killS, AV.kill, AV.killL, Mem.kill, Nat.reduceEqDiff, asStr, strC, M0]))
  all_goals exact le_sl (by simp [leSl, mkM])
theorem ok37 : okFn Tryz.prog 37 = true := by kernel_rfl
theorem m37 (n lm : Int) (ls : List (Int × Int)) (hls : ls.length ≤ 1000000) (l : List By) (hA : Acc n lm ls l) : MSpec Tryz.prog 37 [.q 0 13 0 0, rfA n lm ls l] (memD (mkM n lm ls l)) (fun r N => r = B true ∧ N = memD (mkM n lm ls l)) := by
  refine mspec_of2 (own := [3, 5, 1002]) Tryz.func37 rfl ok37 ?_
  intro vs
  obtain ⟨gh, hgh⟩ : ∃ gh, gh = some (ghost vs [AV.q 0 13 0 0, AV.g [I n, .s 2 (prsA ls), I lm, .s 1 (strsA l)]]) := ⟨_, rfl⟩
  have h82 := s82 n lm ls l hA hls
  simp only [rfA, stA] at h82
  simp only [wB, awp, asP, asQ, asN, obA, loadA, Aw.newRow, St.ev, St.step, setS, killS, AV.kill, AV.killL, Mem.kill, AV.cells, AV.flat, AV.single, AV.cellular, AV.size, AV.sizeL, Nat.reduceAdd, Nat.reduceEqDiff, Nat.reduceSub, Nat.reduceLeDiff, Int.reduceAdd, Int.reduceSub, Tryz.ntmps37, ← hgh, memD, rfA]
  refine acall_v h82 (by simp [AV.pureL, AV.pure, prsA_pure, strsA_pure]) (by simp [AV.pure, AV.pureL, intsA_pure, gtsA_pure]) ?_
  simp only [wB, awp, asQ, obA, storeA, putsA, mkA, Aw.newRow, St.ev, St.step, setS, killS, AV.kill, AV.killL, Mem.kill, AV.cells, AV.flat, AV.single, AV.cellular, Nat.reduceAdd, Nat.reduceEqDiff, Nat.reduceLeDiff, Int.reduceAdd, ← hgh]
  refine swp_fs (own := [3, 5]) [false, true, false, false, false, false, false, false, false] ?_
  simp only [wB, St.ev, St.step, setS, killS, AV.kill, AV.killL, Mem.kill]
  refine acall_f (g37 (m54 _ (sml_of hA)) hgh) ?_
  simp only [wB, awp, asT, asN, St.ev, St.step, setS, killS, AV.kill, AV.killL, Mem.kill, Nat.reduceEqDiff, memD, AV.sub, AV.subL, keepG, liveI, AV.isQ, List.any_cons, List.any_nil]
  refine swp_any mo ?_
  refine any_le (σ' := ⟨[.q 0 13 0 0, .bot, .bot, .q 4 4 0 0, B false, .q 5 6 0 0, I (stO l).moves, I (stO l).cools, I (stO l).done, .bot, .bot, .bot, .bot, .bot, .bot, .bot, .bot, .bot, .bot, .bot, .bot, .bot, .bot, .bot, .bot, .bot, .bot, .bot, .bot, .bot, .bot, .bot, .bot, .bot, .bot, .bot, .bot, .bot, .bot, .bot, .bot, .bot, .bot, .bot, .bot, .bot, .bot, .bot, .bot, .bot, .bot, .bot, .bot, .bot, .bot, .bot, .bot, .bot, .bot, .bot, .bot, .bot, .bot, .bot, .bot, .bot, .bot, .bot, .bot], M0 n lm ls l gh⟩) (le_sl (by simp [leSl, mkM])) ?_
  refine seg_use (seg37_0 n lm ls hls l hA gh vs hgh) rfl ?_
  refine seg_use (seg37_1 n lm ls hls l hA gh vs hgh) rfl ?_
  refine seg_use (seg37_2 n lm ls hls l hA gh vs hgh) rfl ?_
  refine seg_use (seg37_3 n lm ls hls l hA gh vs hgh) rfl ?_
  refine seg_use (seg37_4 n lm ls hls l hA gh vs hgh) rfl ?_
  refine seg_use (seg37_5 n lm ls hls l hA gh vs hgh) rfl ?_
  refine seg_use (seg37_6 n lm ls hls l hA gh vs hgh) rfl ?_
  refine seg_use (seg37_7 n lm ls hls l hA gh vs hgh) rfl ?_
  refine any_end rfl ?_
  simp only [awp, memD, M0]
  exact ⟨_, _, memD (mkM n lm ls l), _, Le.refl _, rfl, by rw [hgh]; rfl, rfl, rfl, free_D _ _, rfl, rfl⟩
end Go.Proofs.YtndniceeibflcaaGreatDoor

namespace Go.Proofs.YtndniceeibflcaaGreatDoor
open Aw Mp Go.RowKit
set_option linter.unusedSimpArgs false
set_option maxRecDepth 8000

def o55 (n lm : Int) (ls : List (Int × Int)) (l : List By) : Ob := ⟨none, 55, 4, [.g [I n, .s 2 (prsA ls), I lm, .s 1 (strsA l)]]⟩
theorem f37 (n lm : Int) (ls : List (Int × Int)) (hls : ls.length ≤ 1000000) (l : List By) (hA : Acc n lm ls l) (T : Mem) (hT : ∀ F G, (T.map fun c : Option Ob => c.map fun ob => { ob with xs := AV.subL F G ob.xs }) = T) :
    FSpec Tryz.prog 37 [.q 0 13 0 0, .g [I n, .s 2 (prsA ls), I lm, .s 1 (strsA l)]] (memD (mkM n lm ls l)) (memD (mkM n lm ls l) ++ T) (B true) (memD (mkM n lm ls l) ++ T) :=
  fT (m37 n lm ls hls l hA) T (q0_free _ _ _ (by simp [rfA, AV.pureL, AV.pure, prsA_pure, strsA_pure])) hT
theorem t55 (n lm : Int) (ls : List (Int × Int)) (l : List By) : ∀ F G, ([some (o55 n lm ls l)].map fun c : Option Ob => c.map fun ob => { ob with xs := AV.subL F G ob.xs }) = [some (o55 n lm ls l)] := fun F G => by
  simp [o55, AV.subL, AV.sub, prsA_sub, strsA_sub]
end Go.Proofs.YtndniceeibflcaaGreatDoor
