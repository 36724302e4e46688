/-
  The law MachineRefuses: for every input, with the listed variables as the program's text lays them, it answers true, and each argument reads as it did.
-/
import Derived.Test.YtndniceeibflcaaGreatDoorProg
import Derived.WalkKit
import Derived.Lib.ConvBytes
import Derived.LaidEql
import Derived.Lib.ItoaNum
import Derived.Lib.LaidTab
import Derived.KernelRfl
import GoSem.Claims
import GoSem.ClaimJoined
import Derived.Orders
import Derived.Laws.StructEq
import Derived.Maps.Keyed
import Derived.Lib.Strings
import Derived.Maps.AppendAt
import Derived.Laws.Concat
import Derived.MapKept
import Derived.Laws.MakeOwn
import Derived.Scope
import Derived.Laws.BitsLemmas
import Derived.Maps.RangeRun
import Derived.StillTail
import Derived.OrdersIn
import Derived.TacticsIn
import Derived.RangeFuncRecord
import Derived.RangeFuncCalls
import Derived.RangeFuncSeq
import Derived.Lib.Split
import Derived.Lib.AtoiAll
import Derived.Shelf.LaysM
import Derived.Shelf.LaysC
import Derived.Shelf.Strconv.Itoa3
import Derived.Shelf.Strconv.AtoiAll
import Derived.Shelf.Strings.Search3
import Derived.Shelf.Strings.Cut
import Derived.Shelf.Strings.Prefix
import Derived.Shelf.Strings.Split
import Derived.Lib.AppendIntMem
import Derived.Stop.Asserts
import Derived.RowKitTokens
import Derived.Conc.MuLone
import Derived.Test.YtndniceeibflcaaGreatDoorRows
import Derived.Test.YtndniceeibflcaaGreatDoorChecked
import Derived.ChangeSame
import Derived.ChangeVars
import Derived.JoinedOf
import Derived.ProofKit
import Derived.RowKit
import Derived.LaidLaws
import Derived.LaidHandle
import Derived.LaidMore
import Derived.Stop.Joined
import Derived.Stop.LaidErr
import Derived.HandedShaped
import Derived.Shelf.Vars
import Derived.Deep.Slices
import Derived.Deep.Strs
import Derived.Deep.Fields
import Derived.Lib.SmallJoins
import Derived.SliceStrings
import Derived.ChangeMaps5
import Derived.Test.YtndniceeibflcaaGreatDoorTie
import Derived.Test.YtndniceeibflcaaGreatDoorCards
import Derived.SevenTiedAt
import Derived.Test.YtndniceeibflcaaGreatDoorKaa
import Derived.Test.YtndniceeibflcaaGreatDoorKac
import Derived.Test.YtndniceeibflcaaGreatDoorKad
import Derived.Test.YtndniceeibflcaaGreatDoorKae
import Derived.Test.YtndniceeibflcaaGreatDoorKbd
import Derived.Test.YtndniceeibflcaaGreatDoorKag
import Derived.Test.YtndniceeibflcaaGreatDoorKbj
import Derived.Test.YtndniceeibflcaaGreatDoorKas
import Derived.Test.YtndniceeibflcaaGreatDoorKau
import Derived.Test.YtndniceeibflcaaGreatDoorKbe
import Derived.Test.YtndniceeibflcaaGreatDoorKbn
import Derived.Test.YtndniceeibflcaaGreatDoorKaf
import Derived.Test.YtndniceeibflcaaGreatDoorKbh
import Derived.Test.YtndniceeibflcaaGreatDoorKbw
import Derived.Test.YtndniceeibflcaaGreatDoorKbo
import Derived.Test.YtndniceeibflcaaGreatDoorKai
import Derived.Test.YtndniceeibflcaaGreatDoorKaq
import Derived.Test.YtndniceeibflcaaGreatDoorKca
import Derived.Test.YtndniceeibflcaaGreatDoorKap
import Derived.Test.YtndniceeibflcaaGreatDoorKcb
import Derived.Test.YtndniceeibflcaaGreatDoorKcc
import Derived.Test.YtndniceeibflcaaGreatDoorKcf
import Derived.Test.YtndniceeibflcaaGreatDoorKbk
import Derived.Test.YtndniceeibflcaaGreatDoorKay
import Derived.Test.YtndniceeibflcaaGreatDoorKcq
import Derived.Test.YtndniceeibflcaaGreatDoorKci
import Derived.Test.YtndniceeibflcaaGreatDoorKbc
set_option linter.unusedSimpArgs false
set_option linter.unusedVariables false
namespace Go.Proofs.YtndniceeibflcaaGreatDoor
namespace Aw
end Aw
namespace Mp
end Mp
end Go.Proofs.YtndniceeibflcaaGreatDoor
namespace Go.Proofs.YtndniceeibflcaaGreatDoor
open Aw Mp Go.RowKit
set_option linter.unusedSimpArgs false
set_option maxRecDepth 8000

theorem ok15 : okFn Tryz.prog 15 = true := by kernel_rfl
theorem s15 (n lm : Int) (ls : List (Int × Int)) (l : List By) (hs : ∀ o ∈ l, o.length ≤ 9223372036854775807) (o : By) (ho : o.length ≤ 9223372036854775807) : ASpec Tryz.prog 15 [labA n ls lm, .s 1 (strsA l), S o] (fun r Ms => r = B true ∧ Ms = []) := by
  refine aspec_of (own := [1004, 1006, 1007, 1008, 1010, 1011]) Tryz.func15 rfl ok15 ?_
  have h20 := s20 n lm ls
  simp only [labA] at h20
  simp only [wB, awp, asP, asN, loadA, St.ev, St.step, setS, killS, AV.kill, AV.killL, Mem.kill, AV.cells, AV.flat, AV.single, AV.cellular, AV.pure, AV.pureL, Nat.reduceAdd, Nat.reduceEqDiff, Nat.reduceSub, Nat.reduceLeDiff, Int.reduceAdd, Int.reduceSub, Tryz.ntmps15, labA]
  refine acall_v h20 (by simp [AV.pureL, AV.pure, prsA_pure]) rfl ?_
  by_cases h60 : 60 < ls.length
  · simp only [wB, awp, asB, St.ev, St.step, setS, killS, AV.kill, AV.killL, Mem.kill, Nat.reduceAdd, Nat.reduceEqDiff, Int.reduceAdd, decide_eq_true h60]
    refine acall_v s31 rfl rfl ?_
    simp only [wB, awp, asN, St.ev, St.step, setS, killS, AV.kill, AV.killL, Mem.kill, Nat.reduceEqDiff]
    exact aend_frz rfl ⟨rfl, rfl⟩
  simp only [wB, St.ev, St.step, setS, killS, AV.kill, AV.killL, Mem.kill, decide_eq_false h60]
  refine acall_v (s21 l) (by simp [AV.pureL, AV.pure, strsA_pure]) rfl ?_
  by_cases h150 : 150 < l.length
  · simp only [wB, awp, asB, St.ev, St.step, setS, killS, AV.kill, AV.killL, Mem.kill, Nat.reduceAdd, Nat.reduceEqDiff, Int.reduceAdd, decide_eq_true h150]
    refine acall_v s31 rfl rfl ?_
    simp only [wB, awp, asN, St.ev, St.step, setS, killS, AV.kill, AV.killL, Mem.kill, Nat.reduceEqDiff]
    exact aend_frz rfl ⟨rfl, rfl⟩
  simp only [wB, awp, asP, asB, loadA, St.ev, St.step, setS, killS, AV.kill, AV.killL, Mem.kill, AV.cells, AV.flat, AV.single, Nat.reduceAdd, Nat.reduceEqDiff, Nat.reduceLeDiff, Int.reduceAdd, decide_eq_false h150]
  by_cases h0 : vN n lm ls = 0
  case neg =>
    have h43 := s43n n lm ls (by omega) h0 l
    simp only [labA] at h43
    refine acall_v h43 (by simp [AV.pureL, AV.pure, prsA_pure, strsA_pure]) rfl ?_
    simp only [wB, awp, asN, St.ev, St.step, setS, killS, AV.kill, AV.killL, Mem.kill, Nat.reduceAdd, Nat.reduceEqDiff, Int.reduceAdd]
    refine awp_sound (own := []) _ _ _ _ _ ?_
    simp only [wB, awp, binC, eqC, asG, asB, asI, St.ev, St.step, setS, killS, AV.kill, AV.killL, Mem.kill, Nat.reduceAdd, Nat.reduceEqDiff, Int.reduceAdd, isNP, ptrN, asStr, nt32]
    refine acall_v s31 rfl rfl ?_
    simp only [wB, awp, asN, St.ev, St.step, setS, killS, AV.kill, AV.killL, Mem.kill, Nat.reduceEqDiff]
    exact aend_frz rfl ⟨rfl, rfl⟩
  have h43 := s43 n lm ls (by omega) h0 l hs
  have hA := doL_acc n lm ls (l.take 40)
  generalize doL n lm ls (l.take 40) = d at *
  simp only [labA] at h43
  refine acall_mk h43 (by simp [AV.pureL, AV.pure, prsA_pure, strsA_pure]) ?_
  simp only [wB, awp, asN, St.ev, St.step, setS, killS, AV.kill, AV.killL, Mem.kill, Nat.reduceAdd, Nat.reduceEqDiff, Int.reduceAdd, AV.sub, AV.up]
  refine swp_le (σ' := ⟨[.bot, .bot, S o, .bot, .bot, .bot, .bot, .q 0 13 0 0, .bot, .bot, .bot, .bot, .bot, .bot, .bot, .bot, .bot, .bot, .bot, .bot, .bot, .bot, .bot, .bot, .bot, .bot, .bot, .bot, .bot, .bot, .bot, .bot, .bot, .bot, .bot, .bot, .bot, .bot, .bot, .bot, .bot, .bot, .bot, .bot, .bot, .bot, .bot, .bot, .bot, .bot, .bot, .bot, .bot, .bot, .bot, .bot, .bot, .bot, .bot, .bot, .bot, .bot, .bot, .bot, .bot, .bot, .bot, .bot, .bot, .bot, .bot, .bot, .bot, .bot, .bot, .bot, .bot, .bot, .bot, .bot, .bot, .bot, .bot, .bot, .bot, .bot, .bot, .bot, .bot, .bot, .bot, .bot, .bot, .bot, .bot, .bot, .bot, .bot, .bot, .bot], memD (mkM n lm ls d)⟩) (le_mk (by simp [leSl, AV.sub, AV.subL, prsA_sub, prsA_msub, reF, reG, List.idxOf?, List.findIdx?, List.findIdx?.go])) ?_
  refine awp_sound (own := []) _ _ _ _ _ ?_
  simp only [wB, awp, binC, eqC, asG, asB, asI, St.ev, St.step, setS, killS, AV.kill, AV.killL, Mem.kill, Nat.reduceAdd, Nat.reduceEqDiff, Int.reduceAdd, isNP, ptrN, asStr, nt32, memD]
  obtain ⟨hT, hlm, _⟩ := vN_ok h0
  have hm := sml_of hA
  have hI := hA.inv.2
  have hp4 := hI.p4
  have hhl := hI.hl
  have hc10 := hI.c10
  have h44 : FSpec Tryz.prog 44 [.q 0 13 0 0] (memD (mkM n lm ls d)) (memD (mkM n lm ls d)) (.s 1 (intsA (stO d).place)) (memD (mkM n lm ls d)) := fG (m44 _ hm) rfl
  have h45 : FSpec Tryz.prog 45 [.q 0 13 0 0] (memD (mkM n lm ls d)) (memD (mkM n lm ls d)) (.s 1 (intsA (stO d).heats)) (memD (mkM n lm ls d)) := fG (m45 _ hm) rfl
  have h47 : FSpec Tryz.prog 47 [.q 0 13 0 0] (memD (mkM n lm ls d)) (memD (mkM n lm ls d)) (.s 4 (gtsA (stO d).circ)) (memD (mkM n lm ls d)) := fG (m47 _ hm) rfl
  have h23 : FSpec Tryz.prog 23 [.q 0 13 0 0] (memD (mkM n lm ls d)) (memD (mkM n lm ls d)) (S (lg 0 d)) (memD (mkM n lm ls d)) := fG (m23 _ hm) rfl
  have h54 : FSpec Tryz.prog 54 [.q 0 13 0 0] (memD (mkM n lm ls d)) (memD (mkM n lm ls d)) (.t [I (stO d).moves, I (stO d).cools, I (stO d).done]) (memD (mkM n lm ls d)) := fG (m54 _ hm) rfl
  refine swp_fs (own := []) [false, true, false, true, false, true, false, true, false, false, false, false] ?_
  simp only [wB, St.ev, St.step, setS, killS, AV.kill, AV.killL, Mem.kill]
  refine acall_f h23 ?_
  simp only [wB, St.ev, St.step, setS, killS, AV.kill, AV.killL, Mem.kill, memD, AV.sub, keepG, liveI, AV.isQ, List.any_cons, List.any_nil]
  refine acall_f h44 ?_
  simp only [wB, St.ev, St.step, setS, killS, AV.kill, AV.killL, Mem.kill, memD, AV.sub, keepG, liveI, AV.isQ, List.any_cons, List.any_nil]
  refine acall_f h45 ?_
  simp only [wB, St.ev, St.step, setS, killS, AV.kill, AV.killL, Mem.kill, memD, AV.sub, keepG, liveI, AV.isQ, List.any_cons, List.any_nil]
  refine acall_f h47 ?_
  simp only [wB, awp, asN, St.ev, St.step, setS, killS, AV.kill, AV.killL, Mem.kill, Nat.reduceAdd, Nat.reduceEqDiff, Int.reduceAdd, memD, AV.sub, keepG, liveI, AV.isQ, List.any_cons, List.any_nil]
  refine swp_fs (own := []) [false, true, false, false, false, false, false, false, false] ?_
  simp only [wB, St.ev, St.step, setS, killS, AV.kill, AV.killL, Mem.kill]
  refine acall_f h54 ?_
  simp only [wB, awp, asT, asN, St.ev, St.step, setS, killS, AV.kill, AV.killL, Mem.kill, Nat.reduceAdd, Nat.reduceEqDiff, Int.reduceAdd, memD, AV.sub, keepG, liveI, AV.isQ, List.any_cons, List.any_nil]
  refine swp_fs (own := []) [false, false, true, false] ?_
  simp only [wB, St.ev, St.step, setS, killS, AV.kill, AV.killL, Mem.kill]
  have h24 := f24 n lm ls hT (by omega) d hA o ho
  refine acall_f h24 ?_
  simp only [wB, awp, binC, cmpC, asB, asI, St.ev, St.step, setS, killS, AV.kill, AV.killL, Mem.kill, memD, AV.sub, AV.subL, keepG, liveI, AV.isQ, List.any_cons, List.any_nil]
  by_cases he : erO n lm ls d o = 0
  · simp only [wB, awp, Nat.reduceAdd, Nat.reduceEqDiff, Int.reduceAdd, decide_eq_true he]
    refine acall_v s31 rfl rfl ?_
    simp only [wB, awp, asN, St.ev, St.step, setS, killS, AV.kill, AV.killL, Mem.kill, Nat.reduceEqDiff]
    exact aend_frz rfl ⟨rfl, rfl⟩
  rw [doO_no he]
  simp only [awp, ACond_true, ACond_false, List.contains_nil, List.contains_cons, beq_self_eq_true, nbeq, decide_false, Bool.or_false, Bool.or_true, Nat.reduceAdd, Nat.reduceEqDiff, Int.reduceAdd, decide_eq_false he]
  refine swp_fs (own := []) [false, true, false, false, false, false, false, false, false] ?_
  simp only [wB, St.ev, St.step, setS, killS, AV.kill, AV.killL, Mem.kill]
  refine acall_f h54 ?_
  simp only [wB, awp, asT, asN, St.ev, St.step, setS, killS, AV.kill, AV.killL, Mem.kill, Nat.reduceAdd, Nat.reduceEqDiff, Int.reduceAdd, memD, AV.sub, AV.subL, keepG, liveI, AV.isQ, List.any_cons, List.any_nil]
  refine swp_fs (own := []) [false, true, false, false, false, false, true, false, false, false, false, false, true, false, false, false, false, false, true, false, false, false, false, false, false, false, false, false, false, false, false, false, false, false, false, false, false, false, false, true, false, false, false, false, false] ?_
  simp only [wB, St.ev, St.step, setS, killS, AV.kill, AV.killL, Mem.kill]
  refine acall_f h23 ?_
  simp only [wB, binC, eqC, asG, asB, asI, St.ev, St.step, setS, killS, AV.kill, AV.killL, Mem.kill, asStr, strC, memD, AV.sub, AV.subL, keepG, liveI, AV.isQ, List.any_cons, List.any_nil]
  refine acall_f h44 ?_
  simp only [wB, St.ev, St.step, setS, killS, AV.kill, AV.killL, Mem.kill, memD, AV.sub, AV.subL, keepG, liveI, AV.isQ, List.any_cons, List.any_nil]
  refine acall_v (s52 (stO d).place (stO d).place (by omega) (by omega)) (by simp [AV.pureL, AV.pure, intsA_pure]) rfl ?_
  simp only [wB, asB, St.ev, St.step, setS, killS, AV.kill, AV.killL, Mem.kill]
  refine acall_f h45 ?_
  simp only [wB, St.ev, St.step, setS, killS, AV.kill, AV.killL, Mem.kill, memD, AV.sub, AV.subL, keepG, liveI, AV.isQ, List.any_cons, List.any_nil]
  refine acall_v (s52 (stO d).heats (stO d).heats (by omega) (by omega)) (by simp [AV.pureL, AV.pure, intsA_pure]) rfl ?_
  simp only [wB, asB, St.ev, St.step, setS, killS, AV.kill, AV.killL, Mem.kill]
  refine acall_f h47 ?_
  simp only [wB, St.ev, St.step, setS, killS, AV.kill, AV.killL, Mem.kill, memD, AV.sub, AV.subL, keepG, liveI, AV.isQ, List.any_cons, List.any_nil]
  refine acall_v (s53 (stO d).circ (stO d).circ (by omega) (by omega)) (by simp [AV.pureL, AV.pure, gtsA_pure]) rfl ?_
  simp only [wB, binC, cmpC, asB, asI, St.ev, St.step, setS, killS, AV.kill, AV.killL, Mem.kill]
  refine acall_f (fG (m29 n lm ls (by omega) d h0 hA) rfl) ?_
  simp only [wB, asB, St.ev, St.step, setS, killS, AV.kill, AV.killL, Mem.kill, memD, AV.sub, AV.subL, keepG, liveI, AV.isQ, List.any_cons, List.any_nil]
  refine acall_v s31 rfl rfl ?_
  simp only [wB, awp, asB, asN, St.ev, St.step, setS, killS, AV.kill, AV.killL, Mem.kill]
  exact aend_frz rfl ⟨rfl, rfl⟩
end Go.Proofs.YtndniceeibflcaaGreatDoor

namespace Go.Proofs.YtndniceeibflcaaGreatDoor
open Aw Go.ChangeShapes Go.WideShapes Go.ChangeAt Go.RowKit Go.Deep Go.Joins

set_option maxRecDepth 100000 in
theorem machineRefuses_lifted (os : Os) (started : os.Started) (H : Type) (enc : TypeId × Value → H) :
    ReturnsInHanded {} Tryz.checked os 15 .any (fun w args => (Rows.machineRefusesSpec.pre enc Tryz.prog Tryz.f15 [] false w args ∧ laidMetH Tryz.prog Rows.machineRefusesRow.laid w) ∧ sizedMet enc Tryz.prog Tryz.f15 (OpenSpec.ofChange Rows.machineRefusesSpec) false w args)
      (Rows.machineRefusesSpec.post enc Tryz.prog Tryz.f15 false true false false) := by
  refine returns_laid (C := Tryz.checked) (X := fun w _ => laidMetH Tryz.prog Rows.machineRefusesRow.laid w) (fun _ _ _ hh h => h.of_heap hh) Tryz.own started (by kernel_rfl) Tryz.func15
    (ChangeSpec.witness_at (enc := enc) (C := Tryz.checked) (os := os) (X := fun w _ => laidMetH Tryz.prog Rows.machineRefusesRow.laid w) false (laidWorld os) #[.agg #[.int .i64 0, .slice none 0 0, .int .i64 0], .slice none 0 0, .string ⟨#[]⟩] 8 rfl (by kernel_rfl) (by kernel_rfl) (by kernel_rfl) (by kernel_rfl) (by kernel_rfl) (laidWorld_met os _)) ?_
  intro W base args ds gs before hval0 hW hsz hL hsh
  have hval : ∀ (j : Nat) t v, Tryz.f15.params[j]? = some t → args[j]? = some v → Value.okWide Tryz.prog W .any base t v := hval0
  have hG : GOk W := gok_of hL hsh
  have hW' := hW
  obtain ⟨p, q, hA0, hV, rfl, hfz, hnd⟩ := hW
  have hA : DataW.TrodAll enc Tryz.prog W 0 (fun _ => true) true Tryz.f15.params.toList args.toList ds p := hA0
  rw [Tryz.params15] at hA hval hsz
  obtain ⟨v0, v1, v2, d0, d1, d2, p0, p1, p2, rfl, rfl, rfl, h0, h1, h2⟩ := trodAll_three hA
  obtain ⟨rfl, rfl⟩ := trodVars_none hV
  obtain ⟨n0, ls0, lm0, r0⟩ := sa_lab (hval 0 26 v0 rfl rfl) h0
  obtain ⟨l1, r1, b1⟩ := sa_strs (hval 1 27 v1 rfl rfl) h1
  obtain ⟨o2, r2, e2, b2⟩ := sa_str (hval 2 9 v2 rfl rfl) h2
  have w2 : o2.length ≤ reachBytes := by
    subst e2
    simp only [List.append_nil, List.cons_append, List.nil_append, DataW.weightsEach, DataW.weights, List.all_append, List.all_cons, List.all_nil, Bool.and_true, Bool.and_eq_true, decide_eq_true_eq] at hsz
    omega
  unfold reachBytes at w2
  clear hA0 hval0
  simp only [List.append_nil] at hW'
  have hlt : ∀ x ∈ p0 ++ p1 ++ p2, x.block < W.heap.size := fun x hx => hW'.lt x (by simpa using hx)
  refine (calls_true (s15 n0 lm0 ls0 l1 b1 o2 b2) (vs := [v0, v1, v2]) (by simp only [RVL]; exact ⟨_, _, rfl, r0, _, _, rfl, r1, _, _, rfl, r2, rfl⟩) hG).mono fun e W' ⟨he, hb⟩ => ?_
  subst he
  refine ⟨_, rfl, law_shut hW' hb rfl (fun _ _ _ => trodAll_mk1 (shut_bool Tryz.underlying4 true)) (fun sp hsp => ?_) rfl (ok_one (by kernel_rfl) rfl (okWide_bool_mk Tryz.underlying4 true))⟩
  have g := trodAll_mk3 (arg_stays Tryz.laidOut rr26 lt26 h0 hb (fun x hx => hlt x (by simp [hx])) (sp := sp) (fun x hx => hsp x (by simp [hx])))
    (arg_stays Tryz.laidOut rr27 lt27 h1 hb (fun x hx => hlt x (by simp [hx])) (sp := sp) (fun x hx => hsp x (by simp [hx])))
    (arg_stays Tryz.laidOut rr9 lt9 h2 hb (fun x hx => hlt x (by simp [hx])) (sp := sp) (fun x hx => hsp x (by simp [hx])))
  rw [← List.append_assoc] at g
  exact g

theorem machineRefuses_func : Tryz.prog.funcNamed "quadrupole/quadrupolelaw09.MachineRefuses" = some 15 := by kernel_rfl
theorem machineRefuses_k10 : (Rows.machineRefusesRow.inPlace == Tryz.prog.inPlace 15) = true := by kernel_rfl
theorem machineRefuses_k11 : (Rows.machineRefusesRow.unfollowed == Tryz.prog.unfollowed 15) = true := by kernel_rfl
theorem machineRefuses_k12 : (Rows.machineRefusesRow.recurses == Tryz.prog.recurses 15) = true := by kernel_rfl
theorem machineRefuses_k13 : (Rows.machineRefusesRow.named == Tryz.prog.varsNamed 15) = true := by kernel_rfl
theorem machineRefuses_closed : joinedFacts Tryz.prog 15 Tryz.f15 Rows.machineRefusesSpec Rows.machineRefusesRow = true :=
  joined_of (by kernel_rfl) (by kernel_rfl) (by kernel_rfl) rfl rfl machineRefuses_k10 machineRefuses_k11 machineRefuses_k12 machineRefuses_k13 (by kernel_rfl) Tryz.keysE rfl Tryz.lifts Tryz.made (by kernel_rfl)
theorem machineRefuses_goes : false = Rows.machineRefusesRow.goesBy Tryz.prog := by kernel_rfl
theorem machineRefuses_row : Rows.MachineRefusesSaid :=
  OpenClaim.holds_of_wide 15 Tryz.f15 rfl rfl rfl rfl rfl rfl rfl ⟨rfl, rfl, rfl, rfl, rfl⟩ rfl rfl rfl rfl rfl machineRefuses_func Tryz.func15 machineRefuses_closed
    (of_decide_eq_true (by kernel_rfl)) (by unfold Func.isWrapper; rw [if_neg (of_decide_eq_false (by kernel_rfl))]; exact ⟨rfl, rfl⟩)
    (fun os started H enc _ => machineRefuses_lifted os started H enc)

theorem machineRefuses_holds : Rows.MachineRefusesCardSaid :=
  Claim7.holds_tied_plain_at .later [] [.data, .data, .data, .data, .handle, .sentinel, .sentinel, .pinned] true (true, "aa03d57e40d7f46a321b7a338959e31570b187a828c7cad4885241d6f19c00d7") true
    machineRefuses_row (fun _ h => by cases h) (by kernel_rfl) (fun _ h => by cases h) machineRefuses_row_tie rfl ⟨rfl, rfl⟩ Tryz.mainE rfl
    (fun f fn hf hfn => by
      obtain rfl : f = 15 := Option.some.inj (machineRefuses_func.symm.trans hf) |>.symm
      obtain rfl : fn = Tryz.f15 := (Option.some.inj (Tryz.func15.symm.trans hfn)).symm
      refine ⟨Tryz.looksE, fun j t ht => ?_⟩
      rw [Tryz.params15] at ht
      have h3 := Array.mem_of_getElem? ht
      simp only [List.mem_toArray, List.mem_cons, List.not_mem_nil, or_false] at h3
      rcases h3 with rfl | rfl | rfl
      · exact Tryz.st26
      · exact Tryz.st27
      · exact Tryz.st9)
    machineRefuses_goes
end Go.Proofs.YtndniceeibflcaaGreatDoor
