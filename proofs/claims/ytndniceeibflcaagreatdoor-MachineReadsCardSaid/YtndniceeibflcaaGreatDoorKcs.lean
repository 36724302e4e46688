/-
  The law MachineReads: for every input, with the listed variables as the program's text lays them, it answers true, and each argument reads as it did.
-/
import Derived.Test.YtndniceeibflcaaGreatDoorProg
import Derived.WalkKit
import Derived.Lib.ConvBytes
import Derived.LaidEql
import Derived.Lib.ItoaNum
import Derived.Lib.LaidTab
import Derived.KernelRfl
import GoSem.Claims
import GoSem.ClaimJoined
import Derived.Orders
import Derived.Laws.StructEq
import Derived.Maps.Keyed
import Derived.Lib.Strings
import Derived.Maps.AppendAt
import Derived.Laws.Concat
import Derived.MapKept
import Derived.Laws.MakeOwn
import Derived.Scope
import Derived.Laws.BitsLemmas
import Derived.Maps.RangeRun
import Derived.StillTail
import Derived.OrdersIn
import Derived.TacticsIn
import Derived.RangeFuncRecord
import Derived.RangeFuncCalls
import Derived.RangeFuncSeq
import Derived.Lib.Split
import Derived.Lib.AtoiAll
import Derived.Shelf.LaysM
import Derived.Shelf.LaysC
import Derived.Shelf.Strconv.Itoa3
import Derived.Shelf.Strconv.AtoiAll
import Derived.Shelf.Strings.Search3
import Derived.Shelf.Strings.Cut
import Derived.Shelf.Strings.Prefix
import Derived.Shelf.Strings.Split
import Derived.Lib.AppendIntMem
import Derived.Stop.Asserts
import Derived.RowKitTokens
import Derived.Conc.MuLone
import Derived.Test.YtndniceeibflcaaGreatDoorRows
import Derived.Test.YtndniceeibflcaaGreatDoorChecked
import Derived.ChangeSame
import Derived.ChangeVars
import Derived.JoinedOf
import Derived.ProofKit
import Derived.RowKit
import Derived.LaidLaws
import Derived.LaidHandle
import Derived.LaidMore
import Derived.Stop.Joined
import Derived.Stop.LaidErr
import Derived.HandedShaped
import Derived.Shelf.Vars
import Derived.Deep.Slices
import Derived.Deep.Strs
import Derived.Deep.Fields
import Derived.Lib.SmallJoins
import Derived.SliceStrings
import Derived.ChangeMaps5
import Derived.Test.YtndniceeibflcaaGreatDoorTie
import Derived.Test.YtndniceeibflcaaGreatDoorCards
import Derived.SevenTiedAt
import Derived.Test.YtndniceeibflcaaGreatDoorKaa
import Derived.Test.YtndniceeibflcaaGreatDoorKac
import Derived.Test.YtndniceeibflcaaGreatDoorKad
import Derived.Test.YtndniceeibflcaaGreatDoorKae
import Derived.Test.YtndniceeibflcaaGreatDoorKag
import Derived.Test.YtndniceeibflcaaGreatDoorKav
import Derived.Test.YtndniceeibflcaaGreatDoorKaw
import Derived.Test.YtndniceeibflcaaGreatDoorKbe
import Derived.Test.YtndniceeibflcaaGreatDoorKaf
import Derived.Test.YtndniceeibflcaaGreatDoorKbh
import Derived.Test.YtndniceeibflcaaGreatDoorKbs
import Derived.Test.YtndniceeibflcaaGreatDoorKbt
import Derived.Test.YtndniceeibflcaaGreatDoorKby
import Derived.Test.YtndniceeibflcaaGreatDoorKbk
import Derived.Test.YtndniceeibflcaaGreatDoorKcl
set_option linter.unusedSimpArgs false
set_option linter.unusedVariables false
namespace Go.Proofs.YtndniceeibflcaaGreatDoor
namespace Aw
end Aw
namespace Mp
end Mp
end Go.Proofs.YtndniceeibflcaaGreatDoor
namespace Go.Proofs.YtndniceeibflcaaGreatDoor
open Aw Mp Go.RowKit
set_option linter.unusedSimpArgs false
set_option maxRecDepth 8000

theorem ok8 : okFn Tryz.prog 8 = true := by kernel_rfl
theorem s8 (t : By) : ASpec Tryz.prog 8 [S t] (fun r Ms => r = B true ∧ Ms = []) := by
  refine aspec_of (own := []) Tryz.func8 rfl ok8 ?_
  obtain ⟨w1, w2⟩ := rd_wr t
  have hl := rd_len 100 0 t
  simp only [wB, awp, binC, cmpC, asB, asI, asN, lenA, St.ev, St.step, setS, killS, AV.kill, AV.killL, Mem.kill, Nat.reduceAdd, Nat.reduceSub, Int.reduceAdd, Int.reduceSub, lenK, Tryz.ntmps8]
  by_cases h : (10000 : Int) < t.length
  · simp only [wB, awp, Nat.reduceAdd, Int.reduceAdd, decide_eq_true h]
    refine acall_v s31 rfl rfl ?_
    simp only [wB, awp, asN, St.ev, St.step, setS, killS, AV.kill, AV.killL, Mem.kill]
    exact aend_frz rfl ⟨rfl, rfl⟩
  simp only [wB, awp, St.ev, St.step, setS, killS, AV.kill, AV.killL, Mem.kill, Nat.reduceAdd, Int.reduceAdd, decide_eq_false h]
  refine acall_v (s19 t (by omega)) rfl (by simp [AV.pure, AV.pureL, strsA_pure]) ?_
  simp only [wB, awp, asT, asN, St.ev, St.step, setS, killS, AV.kill, AV.killL, Mem.kill, Nat.reduceAdd, Int.reduceAdd]
  refine acall_v (s38 t (by omega)) rfl (by simp [AV.pure, AV.pureL, strsA_pure]) ?_
  simp only [wB, awp, asT, asN, St.ev, St.step, setS, killS, AV.kill, AV.killL, Mem.kill, Nat.reduceAdd, Int.reduceAdd]
  refine acall_v (s39 _ _ (by omega)) (by simp [AV.pureL, AV.pure, strsA_pure]) rfl ?_
  simp only [wB, awp, binC, eqC, asG, asB, asI, St.ev, St.step, setS, killS, AV.kill, AV.killL, Mem.kill, Nat.reduceAdd, Int.reduceAdd, asStr, strC]
  refine acall_v (s26 _) (by simp [AV.pureL, AV.pure, strsA_pure]) rfl ?_
  simp only [wB, awp, binC, cmpC, eqC, asT, asG, asB, asI, asN, St.ev, St.step, setS, killS, AV.kill, AV.killL, Mem.kill, Nat.reduceAdd, Int.reduceAdd, asStr, strC, w1, w2]
  have w3 : (lg 0 (rd 100 0 t).1).length + (rd 100 0 t).2.length = t.length := by rw [← List.length_append, w2]
  refine ⟨by omega, acall_v s31 rfl rfl ?_⟩
  simp only [wB, awp, asB, asN, St.ev, St.step, setS, killS, AV.kill, AV.killL, Mem.kill]
  exact aend_frz rfl ⟨rfl, rfl⟩
end Go.Proofs.YtndniceeibflcaaGreatDoor

namespace Go.Proofs.YtndniceeibflcaaGreatDoor
open Aw Go.ChangeShapes Go.WideShapes Go.ChangeAt Go.RowKit Go.Deep Go.Joins

set_option maxRecDepth 100000 in
theorem machineReads_lifted (os : Os) (started : os.Started) (H : Type) (enc : TypeId × Value → H) :
    ReturnsInHanded {} Tryz.checked os 8 .any (fun w args => (Rows.machineReadsSpec.pre enc Tryz.prog Tryz.f8 [] false w args ∧ laidMetH Tryz.prog Rows.machineReadsRow.laid w) ∧ sizedMet enc Tryz.prog Tryz.f8 (OpenSpec.ofChange Rows.machineReadsSpec) false w args)
      (Rows.machineReadsSpec.post enc Tryz.prog Tryz.f8 false true false false) := by
  refine returns_laid (C := Tryz.checked) (X := fun w _ => laidMetH Tryz.prog Rows.machineReadsRow.laid w) (fun _ _ _ hh h => h.of_heap hh) Tryz.own started (by kernel_rfl) Tryz.func8
    (ChangeSpec.witness_at (enc := enc) (C := Tryz.checked) (os := os) (X := fun w _ => laidMetH Tryz.prog Rows.machineReadsRow.laid w) false (laidWorld os) #[.string ⟨#[]⟩] 8 rfl (by kernel_rfl) (by kernel_rfl) (by kernel_rfl) (by kernel_rfl) (by kernel_rfl) (laidWorld_met os _)) ?_
  intro W base args ds gs before hval0 hW hsz hL hsh
  have hval : ∀ (j : Nat) t v, Tryz.f8.params[j]? = some t → args[j]? = some v → Value.okWide Tryz.prog W .any base t v := hval0
  have hG : GOk W := gok_of hL hsh
  have hW' := hW
  obtain ⟨p, q, hA0, hV, rfl, hfz, hnd⟩ := hW
  have hA : DataW.TrodAll enc Tryz.prog W 0 (fun _ => true) true Tryz.f8.params.toList args.toList ds p := hA0
  rw [Tryz.params8] at hA hval hsz
  obtain ⟨v0, d0, rfl, rfl, h0⟩ := trodAll_one hA
  obtain ⟨rfl, rfl⟩ := trodVars_none hV
  obtain ⟨o0, r0, e0, b0⟩ := sa_str (hval 0 9 v0 rfl rfl) h0
  have w0 : o0.length ≤ reachBytes := by
    subst e0
    simp only [List.append_nil, List.cons_append, List.nil_append, DataW.weightsEach, DataW.weights, List.all_append, List.all_cons, List.all_nil, Bool.and_true, Bool.and_eq_true, decide_eq_true_eq] at hsz
    omega
  unfold reachBytes at w0
  clear hA0 hval0
  simp only [List.append_nil] at hW'
  have hlt : ∀ x ∈ p, x.block < W.heap.size := fun x hx => hW'.lt x (by simpa using hx)
  refine (calls_true (s8 o0) (vs := [v0]) (by simp only [RVL]; exact ⟨_, _, rfl, r0, rfl⟩) hG).mono fun e W' ⟨he, hb⟩ => ?_
  subst he
  refine ⟨_, rfl, law_shut hW' hb rfl (fun _ _ _ => trodAll_mk1 (shut_bool Tryz.underlying4 true)) (fun sp hsp => ?_) rfl (ok_one (by kernel_rfl) rfl (okWide_bool_mk Tryz.underlying4 true))⟩
  exact trodAll_mk1 (arg_stays Tryz.laidOut rr9 lt9 h0 hb (fun x hx => hlt x (by simp [hx])) (sp := sp) (fun x hx => hsp x (by simp [hx])))

theorem machineReads_func : Tryz.prog.funcNamed "quadrupole/quadrupolelaw09.MachineReads" = some 8 := by kernel_rfl
theorem machineReads_k10 : (Rows.machineReadsRow.inPlace == Tryz.prog.inPlace 8) = true := by kernel_rfl
theorem machineReads_k11 : (Rows.machineReadsRow.unfollowed == Tryz.prog.unfollowed 8) = true := by kernel_rfl
theorem machineReads_k12 : (Rows.machineReadsRow.recurses == Tryz.prog.recurses 8) = true := by kernel_rfl
theorem machineReads_k13 : (Rows.machineReadsRow.named == Tryz.prog.varsNamed 8) = true := by kernel_rfl
theorem machineReads_closed : joinedFacts Tryz.prog 8 Tryz.f8 Rows.machineReadsSpec Rows.machineReadsRow = true :=
  joined_of (by kernel_rfl) (by kernel_rfl) (by kernel_rfl) rfl rfl machineReads_k10 machineReads_k11 machineReads_k12 machineReads_k13 (by kernel_rfl) Tryz.keysE rfl Tryz.lifts Tryz.made (by kernel_rfl)
theorem machineReads_goes : false = Rows.machineReadsRow.goesBy Tryz.prog := by kernel_rfl
theorem machineReads_row : Rows.MachineReadsSaid :=
  OpenClaim.holds_of_wide 8 Tryz.f8 rfl rfl rfl rfl rfl rfl rfl ⟨rfl, rfl, rfl, rfl, rfl⟩ rfl rfl rfl rfl rfl machineReads_func Tryz.func8 machineReads_closed
    (of_decide_eq_true (by kernel_rfl)) (by unfold Func.isWrapper; rw [if_neg (of_decide_eq_false (by kernel_rfl))]; exact ⟨rfl, rfl⟩)
    (fun os started H enc _ => machineReads_lifted os started H enc)

theorem machineReads_holds : Rows.MachineReadsCardSaid :=
  Claim7.holds_tied_plain_at .later [] [.data, .data, .data, .data, .handle, .sentinel, .sentinel, .pinned] true (true, "aa03d57e40d7f46a321b7a338959e31570b187a828c7cad4885241d6f19c00d7") true
    machineReads_row (fun _ h => by cases h) (by kernel_rfl) (fun _ h => by cases h) machineReads_row_tie rfl ⟨rfl, rfl⟩ Tryz.mainE rfl
    (fun f fn hf hfn => by
      obtain rfl : f = 8 := Option.some.inj (machineReads_func.symm.trans hf) |>.symm
      obtain rfl : fn = Tryz.f8 := (Option.some.inj (Tryz.func8.symm.trans hfn)).symm
      refine ⟨Tryz.looksE, fun j t ht => ?_⟩
      rw [Tryz.params8] at ht
      have h3 := Array.mem_of_getElem? ht
      simp only [List.mem_toArray, List.mem_cons, List.not_mem_nil, or_false] at h3
      rcases h3 with rfl
      · exact Tryz.st9)
    machineReads_goes
end Go.Proofs.YtndniceeibflcaaGreatDoor
