/-
  The law MachineNone: for every input, with the listed variables as the program's text lays them, it answers true, and each argument reads as it did.
-/
import Derived.Test.YtndniceeibflcaaGreatDoorProg
import Derived.WalkKit
import Derived.Lib.ConvBytes
import Derived.LaidEql
import Derived.Lib.ItoaNum
import Derived.Lib.LaidTab
import Derived.KernelRfl
import GoSem.Claims
import GoSem.ClaimJoined
import Derived.Orders
import Derived.Laws.StructEq
import Derived.Maps.Keyed
import Derived.Lib.Strings
import Derived.Maps.AppendAt
import Derived.Laws.Concat
import Derived.MapKept
import Derived.Laws.MakeOwn
import Derived.Scope
import Derived.Laws.BitsLemmas
import Derived.Maps.RangeRun
import Derived.StillTail
import Derived.OrdersIn
import Derived.TacticsIn
import Derived.RangeFuncRecord
import Derived.RangeFuncCalls
import Derived.RangeFuncSeq
import Derived.Lib.Split
import Derived.Lib.AtoiAll
import Derived.Test.YtndniceeibflcaaGreatDoorRows
import Derived.Test.YtndniceeibflcaaGreatDoorChecked
import Derived.ChangeSame
import Derived.ChangeVars
import Derived.JoinedOf
import Derived.ProofKit
import Derived.RowKit
import Derived.RowKitTokens
import Derived.LaidLaws
import Derived.LaidHandle
import Derived.LaidMore
import Derived.Stop.Joined
import Derived.Stop.LaidErr
import Derived.HandedShaped
import Derived.Shelf.Vars
import Derived.Deep.Slices
import Derived.Deep.Strs
import Derived.Deep.Fields
import Derived.Lib.SmallJoins
import Derived.SliceStrings
import Derived.ChangeMaps5
import Derived.Shelf.LaysM
import Derived.Shelf.LaysC
import Derived.Shelf.Strconv.Itoa3
import Derived.Shelf.Strconv.AtoiAll
import Derived.Shelf.Strings.Search3
import Derived.Shelf.Strings.Cut
import Derived.Shelf.Strings.Prefix
import Derived.Shelf.Strings.Split
import Derived.Lib.AppendIntMem
import Derived.Stop.Asserts
import Derived.Conc.MuLone
import Derived.Shelf.RegionOpenPlain
import Derived.Deep.LoopGhost
import Derived.Deep.RegionLaw
import Derived.Lib.Walk
import Derived.Sort.WalkB12
import Derived.Lib.SliceRun
import Derived.Lib.SlicesDelete
import Derived.Test.YtndniceeibflcaaGreatDoorTie
import Derived.Test.YtndniceeibflcaaGreatDoorCards
import Derived.SevenTiedAt
import Derived.Test.YtndniceeibflcaaGreatDoorLaa
import Derived.Test.YtndniceeibflcaaGreatDoorLac
import Derived.Test.YtndniceeibflcaaGreatDoorLad
import Derived.Test.YtndniceeibflcaaGreatDoorLae
import Derived.Test.YtndniceeibflcaaGreatDoorLag
import Derived.Test.YtndniceeibflcaaGreatDoorLaf
import Derived.Test.YtndniceeibflcaaGreatDoorLao
import Derived.Test.YtndniceeibflcaaGreatDoorLai
import Derived.Test.YtndniceeibflcaaGreatDoorLaj
import Derived.Test.YtndniceeibflcaaGreatDoorLal
import Derived.Test.YtndniceeibflcaaGreatDoorLam
set_option linter.unusedSimpArgs false
set_option linter.unusedVariables false
namespace Go.Proofs.YtndniceeibflcaaGreatDoor
namespace Aw
end Aw
namespace Mp
end Mp
end Go.Proofs.YtndniceeibflcaaGreatDoor
namespace Go.Proofs.YtndniceeibflcaaGreatDoor
open Aw Go.ChangeShapes Go.WideShapes Go.ChangeAt Go.RowKit Go.Deep Go.Joins Go.Stop
set_option maxRecDepth 100000

section
variable {H : Type} {enc : TypeId × Value → H} {w : World}

theorem sa_str {v : Value} {r : Reach} {b1 b0 : Nat} {sp : Nat → Bool} {hd : Bool} {d : DataW H} {p : List MemPlace} (hv : Value.okWide Tryz.prog w r b1 9 v) (h : DataW.Trod enc Tryz.prog w b0 sp hd 9 v d p) : ∃ l : List UInt8, RV w noA noHv (S l) v ∧ d = .lit (.string l) ∧ l.length ≤ 9223372036854775807 := by
  obtain ⟨s, rfl, rfl, _, hs⟩ := Go.ChangeMaps.open_string Tryz.underlying9 hv h
  refine ⟨s.data.toList, by simp [RV], rfl, ?_⟩
  have : s.size = s.data.size := rfl
  unfold maxLen at hs
  simp only [Array.length_toList]
  omega
theorem rr9 : Tryz.prog.readableRec 9 = true := by kernel_rfl
theorem lt9 : 9 < Tryz.prog.types.size := of_decide_eq_true (by kernel_rfl)
end
end Go.Proofs.YtndniceeibflcaaGreatDoor

namespace Go.Proofs.YtndniceeibflcaaGreatDoor
open Aw Mp Go.RowKit
set_option linter.unusedSimpArgs false
set_option maxRecDepth 8000

theorem ok44 : okFn Tryz.prog 44 = true := by kernel_rfl
theorem ok23 : okFn Tryz.prog 23 = true := by kernel_rfl
theorem ok54 : okFn Tryz.prog 54 = true := by kernel_rfl
theorem ok46 : okFn Tryz.prog 46 = true := by kernel_rfl
end Go.Proofs.YtndniceeibflcaaGreatDoor

namespace Go.Proofs.YtndniceeibflcaaGreatDoor
open Aw Mp Go.RowKit
set_option linter.unusedSimpArgs false
set_option maxRecDepth 8000

theorem ok29 : okFn Tryz.prog 29 = true := by kernel_rfl
end Go.Proofs.YtndniceeibflcaaGreatDoor

namespace Go.Proofs.YtndniceeibflcaaGreatDoor
open Aw Mp Go.RowKit
set_option linter.unusedSimpArgs false
set_option maxRecDepth 8000

theorem s67n : ASpec Tryz.prog 67 [.v (.pointer none)] (fun r Ms => r = .t [.g [.v (.slice none 0 0), .v (.slice none 0 0), .v (.slice none 0 0), I 0, I 0, I 0], S []] ∧ Ms = []) := by
  refine aspec_of (own := [2]) Tryz.func67 rfl ok67 ?_
  simp only [wB, awp, binC, eqC, asQ, asG, asB, asI, asN, obA, storeA, fillA, putsA, mkA, Aw.newRow, St.ev, St.step, setS, killS, AV.kill, AV.killL, Mem.kill, AV.cells, AV.flat, AV.single, AV.cellular, Nat.reduceAdd, Nat.reduceEqDiff, Nat.reduceSub, Nat.reduceLeDiff, Int.reduceAdd, Int.reduceSub, isNP, ptrN, asStr, nt32, Tryz.ntmps67]
  exact aend_frz rfl ⟨rfl, rfl⟩
theorem s44n : ASpec Tryz.prog 44 [.v (.pointer none)] (fun r Ms => r = .v (.slice none 0 0) ∧ Ms = []) := by
  refine aspec_of (own := [3]) Tryz.func44 rfl ok44 ?_
  simp only [wB, awp, asN, St.ev, St.step, setS, killS, AV.kill, AV.killL, Mem.kill, Nat.reduceAdd, Nat.reduceEqDiff, Nat.reduceSub, Int.reduceAdd, Int.reduceSub, Tryz.ntmps44]
  refine acall_v s67n rfl rfl ?_
  simp only [wB, awp, asP, asQ, asT, asN, obA, loadA, storeA, putsA, mkA, Aw.newRow, St.ev, St.step, setS, killS, AV.kill, AV.killL, Mem.kill, AV.cells, AV.flat, AV.single, AV.cellular, Nat.reduceAdd, Nat.reduceEqDiff, Nat.reduceLeDiff, Int.reduceAdd]
  exact aend_frz rfl ⟨rfl, rfl⟩
theorem s45n : ASpec Tryz.prog 45 [.v (.pointer none)] (fun r Ms => r = .v (.slice none 0 0) ∧ Ms = []) := by
  refine aspec_of (own := [3]) Tryz.func45 rfl ok45 ?_
  simp only [wB, awp, asN, St.ev, St.step, setS, killS, AV.kill, AV.killL, Mem.kill, Nat.reduceAdd, Nat.reduceEqDiff, Nat.reduceSub, Int.reduceAdd, Int.reduceSub, Tryz.ntmps45]
  refine acall_v s67n rfl rfl ?_
  simp only [wB, awp, asP, asQ, asT, asN, obA, loadA, storeA, putsA, mkA, Aw.newRow, St.ev, St.step, setS, killS, AV.kill, AV.killL, Mem.kill, AV.cells, AV.flat, AV.single, AV.cellular, Nat.reduceAdd, Nat.reduceEqDiff, Nat.reduceLeDiff, Int.reduceAdd]
  exact aend_frz rfl ⟨rfl, rfl⟩
theorem s47n : ASpec Tryz.prog 47 [.v (.pointer none)] (fun r Ms => r = .v (.slice none 0 0) ∧ Ms = []) := by
  refine aspec_of (own := [3]) Tryz.func47 rfl ok47 ?_
  simp only [wB, awp, asN, St.ev, St.step, setS, killS, AV.kill, AV.killL, Mem.kill, Nat.reduceAdd, Nat.reduceEqDiff, Nat.reduceSub, Int.reduceAdd, Int.reduceSub, Tryz.ntmps47]
  refine acall_v s67n rfl rfl ?_
  simp only [wB, awp, asP, asQ, asT, asN, obA, loadA, storeA, putsA, mkA, Aw.newRow, St.ev, St.step, setS, killS, AV.kill, AV.killL, Mem.kill, AV.cells, AV.flat, AV.single, AV.cellular, Nat.reduceAdd, Nat.reduceEqDiff, Nat.reduceLeDiff, Int.reduceAdd]
  exact aend_frz rfl ⟨rfl, rfl⟩
theorem s23n : ASpec Tryz.prog 23 [.v (.pointer none)] (fun r Ms => r = S [] ∧ Ms = []) := by
  refine aspec_of (own := [3]) Tryz.func23 rfl ok23 ?_
  simp only [wB, awp, asN, St.ev, St.step, setS, killS, AV.kill, AV.killL, Mem.kill, Nat.reduceAdd, Nat.reduceEqDiff, Nat.reduceSub, Int.reduceAdd, Int.reduceSub, Tryz.ntmps23]
  refine acall_v s67n rfl rfl ?_
  simp only [wB, awp, asQ, asT, asN, obA, storeA, putsA, mkA, Aw.newRow, St.ev, St.step, setS, killS, AV.kill, AV.killL, Mem.kill, AV.cells, AV.flat, AV.single, AV.cellular, Nat.reduceAdd, Nat.reduceEqDiff, Nat.reduceLeDiff, Int.reduceAdd]
  exact aend_frz rfl ⟨rfl, rfl⟩
theorem s54n : ASpec Tryz.prog 54 [.v (.pointer none)] (fun r Ms => r = .t [I 0, I 0, I 0] ∧ Ms = []) := by
  refine aspec_of (own := [5]) Tryz.func54 rfl ok54 ?_
  simp only [wB, awp, asN, St.ev, St.step, setS, killS, AV.kill, AV.killL, Mem.kill, Nat.reduceAdd, Nat.reduceEqDiff, Nat.reduceSub, Int.reduceAdd, Int.reduceSub, Tryz.ntmps54]
  refine acall_v s67n rfl rfl ?_
  simp only [wB, awp, asQ, asT, asN, obA, storeA, putsA, mkA, Aw.newRow, St.ev, St.step, setS, killS, AV.kill, AV.killL, Mem.kill, AV.cells, AV.flat, AV.single, AV.cellular, Nat.reduceAdd, Nat.reduceEqDiff, Nat.reduceLeDiff, Int.reduceAdd]
  refine swp_draw (own := [5]) (.take 0 .plain [] (.take 1 .reads [] (.take 2 .plain [] (.take 3 .reads [] (.take 4 .plain [] (.take 5 .reads [] (.take 6 .plain [] (.take 7 .plain [] (.take 8 .plain [] (.done)))))))))) [⟨13, 32, 0, 0, true⟩, ⟨14, 4096, 1, 0, true⟩, ⟨15, 32, 0, 0, true⟩, ⟨16, 16384, 4, 0, true⟩, ⟨17, 32, 0, 0, true⟩, ⟨18, 65536, 16, 0, true⟩, ⟨3, 8192, 3, 0, true⟩, ⟨4, 32768, 79, 0, true⟩, ⟨5, 131072, 255, 0, true⟩] mo (by kernel_rfl) ?_
  simp only [wB, awp, asP, asQ, asN, obA, loadA, St.ev, setS, AV.cells, AV.flat, AV.single, Nat.reduceAdd, Nat.reduceEqDiff, Nat.reduceLeDiff, Int.reduceAdd, ASch, St.put, Md.mem, Md.need]
  exact aend_frz rfl ⟨rfl, rfl⟩
theorem s24n (o : By) : ASpec Tryz.prog 24 [.v (.pointer none), S o] (fun r Ms => r = I 1 ∧ Ms = []) := by
  refine aspec_of (own := []) Tryz.func24 rfl ok24 ?_
  simp only [wB, awp, binC, eqC, asG, asB, asI, asN, St.ev, St.step, setS, killS, AV.kill, AV.killL, Mem.kill, Nat.reduceAdd, Nat.reduceSub, Int.reduceAdd, Int.reduceSub, isNP, ptrN, asStr, nt32, Tryz.ntmps24]
  exact aend_frz rfl ⟨rfl, rfl⟩
theorem s29n : ASpec Tryz.prog 29 [.v (.pointer none)] (fun r Ms => r = B false ∧ Ms = []) := by
  refine aspec_of (own := []) Tryz.func29 rfl ok29 ?_
  simp only [wB, awp, binC, eqC, asG, asB, asI, asN, St.ev, St.step, setS, killS, AV.kill, AV.killL, Mem.kill, Nat.reduceAdd, Nat.reduceSub, Int.reduceAdd, Int.reduceSub, isNP, ptrN, asStr, nt32, Tryz.ntmps29]
  exact aend_frz rfl ⟨rfl, rfl⟩
theorem s46n : ASpec Tryz.prog 46 [.v (.pointer none)] (fun r Ms => r = .s 1 [] ∧ Ms = []) := by
  refine aspec_of (own := [3, 5]) Tryz.func46 rfl ok46 ?_
  simp only [wB, awp, asN, St.ev, St.step, setS, killS, AV.kill, AV.killL, Mem.kill, Nat.reduceAdd, Nat.reduceEqDiff, Nat.reduceSub, Int.reduceAdd, Int.reduceSub, Tryz.ntmps46]
  refine acall_v s67n rfl rfl ?_
  simp only [wB, awp, asP, asQ, asT, asN, obA, lenA, loadA, storeA, putsA, mkA, Aw.newRow, St.ev, St.step, setS, killS, AV.kill, AV.killL, Mem.kill, AV.cells, AV.flat, AV.single, AV.cellular, Nat.reduceAdd, Nat.reduceEqDiff, Nat.reduceLeDiff, Int.reduceAdd, lenK]
  refine swp_loop' (fun _ : Nat => ⟨[.bot, .bot, .bot, .bot, .bot, .o 1, .bot, .bot, .bot, .bot, .bot, .bot, .bot, .bot, .bot, I 0, I 0, .bot, .bot, .bot, .bot, .bot, .bot, .bot, .bot, .bot, .bot, .bot, .bot, .bot, .bot, .bot, .bot], [some ⟨none, 105, 6, [.g [.v (.slice none 0 0), .v (.slice none 0 0), .v (.slice none 0 0), I 0, I 0, I 0]]⟩, some ⟨none, 3, 1, []⟩]⟩) (fun _ => True) (fun _ => 0) 0 (le_sl' (by simp) (by simp [leSl])) trivial ?_
  intro k _
  refine awp_sound (own := [3, 5]) _ _ _ _ _ ?_
  simp only [wB, awp, binC, cmpC, asB, asI, asN, St.ev, St.step, setS, killS, AV.kill, AV.killL, Mem.kill, Nat.reduceAdd, Nat.reduceEqDiff, Int.reduceAdd, Int.reduceLT]
  exact aend_frz rfl ⟨rfl, rfl⟩
theorem s56n : ASpec Tryz.prog 56 [.v (.pointer none)] (fun r Ms => r = .s 4 (gtsA (redC [])) ∧ Ms = []) := by
  refine aspec_of (own := [3, 1002]) Tryz.func56 rfl ok56 ?_
  simp only [wB, awp, asN, St.ev, St.step, setS, killS, AV.kill, AV.killL, Mem.kill, Nat.reduceAdd, Nat.reduceEqDiff, Nat.reduceSub, Int.reduceAdd, Int.reduceSub, Tryz.ntmps56]
  refine acall_v s67n rfl rfl ?_
  simp only [wB, awp, asQ, asT, asN, obA, storeA, putsA, mkA, Aw.newRow, St.ev, St.step, setS, killS, AV.kill, AV.killL, Mem.kill, AV.cells, AV.flat, AV.single, AV.cellular, Nat.reduceAdd, Nat.reduceEqDiff, Nat.reduceLeDiff, Int.reduceAdd]
  have h55 : ASpec Tryz.prog 55 [I 4, .s 4 []] (fun r Ms => r = .t [.s 4 (gtsA (redC [])), I 0] ∧ Ms = []) := by
    have h := s55 4 [] (by decide)
    have e : vC 4 [] = 0 := by decide
    rw [e, if_pos rfl] at h
    exact h
  refine swp_le (le_nils 0 2 4 rfl rfl rfl rfl) ?_
  refine awp_sound (own := [3]) _ _ _ _ _ ?_
  simp only [wB, awp, asP, asQ, obA, loadA, St.ev, St.step, setS, killS, AV.kill, AV.killL, Mem.kill, AV.cells, AV.flat, AV.single, Nat.reduceAdd, Nat.reduceEqDiff, Nat.reduceLeDiff, Int.reduceAdd]
  refine acall_v h55 rfl (by simp [AV.pure, AV.pureL, gtsA_pure]) ?_
  simp only [wB, awp, asT, asN, St.ev, St.step, setS, killS, AV.kill, AV.killL, Mem.kill, Nat.reduceAdd, Nat.reduceEqDiff, Int.reduceAdd]
  exact aend_frz rfl ⟨by simp [frz, AV.sub, AV.subL, gtsA_sub], rfl⟩
theorem ok17 : okFn Tryz.prog 17 = true := by kernel_rfl
theorem s17 (o : By) : ASpec Tryz.prog 17 [S o] (fun r Ms => r = B true ∧ Ms = []) := by
  refine aspec_of (own := []) Tryz.func17 rfl ok17 ?_
  simp only [wB, awp, asN, St.ev, St.step, setS, killS, AV.kill, AV.killL, Mem.kill, Nat.reduceAdd, Nat.reduceSub, Int.reduceAdd, Int.reduceSub, Tryz.ntmps17]
  refine acall_v s54n rfl rfl ?_
  simp only [wB, awp, asT, asN, St.ev, St.step, setS, killS, AV.kill, AV.killL, Mem.kill, Nat.reduceAdd, Int.reduceAdd]
  refine acall_v (s24n o) rfl rfl ?_
  simp only [wB, binC, cmpC, asI, St.ev, St.step, setS, killS, AV.kill, AV.killL, Mem.kill]
  refine acall_v s44n rfl rfl ?_
  simp only [wB, binC, cmpC, asB, asI, lenA, St.ev, St.step, setS, killS, AV.kill, AV.killL, Mem.kill, lenK]
  refine acall_v s45n rfl rfl ?_
  simp only [wB, binC, cmpC, asB, asI, lenA, St.ev, St.step, setS, killS, AV.kill, AV.killL, Mem.kill, lenK]
  refine acall_v s47n rfl rfl ?_
  simp only [wB, binC, cmpC, asB, asI, lenA, St.ev, St.step, setS, killS, AV.kill, AV.killL, Mem.kill, lenK]
  have hl := redC_len []
  refine acall_v s56n rfl (by simp [AV.pure, gtsA_pure]) ?_
  simp only [wB, binC, cmpC, asB, asI, lenA, St.ev, St.step, setS, killS, AV.kill, AV.killL, Mem.kill, lenK, gtsA_len]
  have hl0 : ((redC []).length : Int) = 0 := by simp only [List.length_nil] at hl; omega
  simp only [wB, St.ev, St.step, setS, killS, AV.kill, AV.killL, Mem.kill, decide_eq_true hl0]
  refine acall_v s46n rfl rfl ?_
  simp only [wB, binC, cmpC, asB, asI, lenA, St.ev, St.step, setS, killS, AV.kill, AV.killL, Mem.kill, lenK, Int.natCast_zero]
  refine acall_v s23n rfl rfl ?_
  simp only [wB, binC, eqC, asG, asB, asI, St.ev, St.step, setS, killS, AV.kill, AV.killL, Mem.kill, asStr, strC]
  refine acall_v s29n rfl rfl ?_
  simp only [wB, asB, St.ev, St.step, setS, killS, AV.kill, AV.killL, Mem.kill]
  refine acall_v s31 rfl rfl ?_
  simp only [wB, awp, asB, asN, St.ev, St.step, setS, killS, AV.kill, AV.killL, Mem.kill]
  exact aend_frz rfl ⟨rfl, rfl⟩
end Go.Proofs.YtndniceeibflcaaGreatDoor

namespace Go.Proofs.YtndniceeibflcaaGreatDoor
open Aw Go.ChangeShapes Go.WideShapes Go.ChangeAt Go.RowKit Go.Deep Go.Joins

set_option maxRecDepth 100000 in
theorem machineNone_lifted (os : Os) (started : os.Started) (H : Type) (enc : TypeId × Value → H) :
    ReturnsInHanded {} Tryz.checked os 17 .any (fun w args => (Rows.machineNoneSpec.pre enc Tryz.prog Tryz.f17 [] false w args ∧ laidMetH Tryz.prog Rows.machineNoneRow.laid w) ∧ sizedMet enc Tryz.prog Tryz.f17 (OpenSpec.ofChange Rows.machineNoneSpec) false w args)
      (Rows.machineNoneSpec.post enc Tryz.prog Tryz.f17 false true false false) := by
  refine returns_laid (C := Tryz.checked) (X := fun w _ => laidMetH Tryz.prog Rows.machineNoneRow.laid w) (fun _ _ _ hh h => h.of_heap hh) Tryz.own started (by kernel_rfl) Tryz.func17
    (ChangeSpec.witness_at (enc := enc) (C := Tryz.checked) (os := os) (X := fun w _ => laidMetH Tryz.prog Rows.machineNoneRow.laid w) false (laidWorld os) #[.string ⟨#[]⟩] 8 rfl (by kernel_rfl) (by kernel_rfl) (by kernel_rfl) (by kernel_rfl) (by kernel_rfl) (laidWorld_met os _)) ?_
  intro W base args ds gs before hval0 hW hsz hL hsh
  have hval : ∀ (j : Nat) t v, Tryz.f17.params[j]? = some t → args[j]? = some v → Value.okWide Tryz.prog W .any base t v := hval0
  have hG : GOk W := gok_of hL hsh
  have hW' := hW
  obtain ⟨p, q, hA0, hV, rfl, hfz, hnd⟩ := hW
  have hA : DataW.TrodAll enc Tryz.prog W 0 (fun _ => true) true Tryz.f17.params.toList args.toList ds p := hA0
  rw [Tryz.params17] at hA hval hsz
  obtain ⟨v0, d0, rfl, rfl, h0⟩ := trodAll_one hA
  obtain ⟨rfl, rfl⟩ := trodVars_none hV
  obtain ⟨o0, r0, e0, b0⟩ := sa_str (hval 0 9 v0 rfl rfl) h0
  have w0 : o0.length ≤ reachBytes := by
    subst e0
    simp only [List.append_nil, List.cons_append, List.nil_append, DataW.weightsEach, DataW.weights, List.all_append, List.all_cons, List.all_nil, Bool.and_true, Bool.and_eq_true, decide_eq_true_eq] at hsz
    omega
  unfold reachBytes at w0
  clear hA0 hval0
  simp only [List.append_nil] at hW'
  have hlt : ∀ x ∈ p, x.block < W.heap.size := fun x hx => hW'.lt x (by simpa using hx)
  refine (calls_true (s17 o0) (vs := [v0]) (by simp only [RVL]; exact ⟨_, _, rfl, r0, rfl⟩) hG).mono fun e W' ⟨he, hb⟩ => ?_
  subst he
  refine ⟨_, rfl, law_shut hW' hb rfl (fun _ _ _ => trodAll_mk1 (shut_bool Tryz.underlying4 true)) (fun sp hsp => ?_) rfl (ok_one (by kernel_rfl) rfl (okWide_bool_mk Tryz.underlying4 true))⟩
  exact trodAll_mk1 (arg_stays Tryz.laidOut rr9 lt9 h0 hb (fun x hx => hlt x (by simp [hx])) (sp := sp) (fun x hx => hsp x (by simp [hx])))

theorem machineNone_func : Tryz.prog.funcNamed "quadrupole/quadrupolelaw09.MachineNone" = some 17 := by kernel_rfl
theorem machineNone_k10 : (Rows.machineNoneRow.inPlace == Tryz.prog.inPlace 17) = true := by kernel_rfl
theorem machineNone_k11 : (Rows.machineNoneRow.unfollowed == Tryz.prog.unfollowed 17) = true := by kernel_rfl
theorem machineNone_k12 : (Rows.machineNoneRow.recurses == Tryz.prog.recurses 17) = true := by kernel_rfl
theorem machineNone_k13 : (Rows.machineNoneRow.named == Tryz.prog.varsNamed 17) = true := by kernel_rfl
theorem machineNone_closed : joinedFacts Tryz.prog 17 Tryz.f17 Rows.machineNoneSpec Rows.machineNoneRow = true :=
  joined_of (by kernel_rfl) (by kernel_rfl) (by kernel_rfl) rfl rfl machineNone_k10 machineNone_k11 machineNone_k12 machineNone_k13 (by kernel_rfl) Tryz.keysE rfl Tryz.lifts Tryz.made (by kernel_rfl)
theorem machineNone_goes : false = Rows.machineNoneRow.goesBy Tryz.prog := by kernel_rfl
theorem machineNone_row : Rows.MachineNoneSaid :=
  OpenClaim.holds_of_wide 17 Tryz.f17 rfl rfl rfl rfl rfl rfl rfl ⟨rfl, rfl, rfl, rfl, rfl⟩ rfl rfl rfl rfl rfl machineNone_func Tryz.func17 machineNone_closed
    (of_decide_eq_true (by kernel_rfl)) (by unfold Func.isWrapper; rw [if_neg (of_decide_eq_false (by kernel_rfl))]; exact ⟨rfl, rfl⟩)
    (fun os started H enc _ => machineNone_lifted os started H enc)

theorem machineNone_holds : Rows.MachineNoneCardSaid :=
  Claim7.holds_tied_plain_at .later [] [.data, .data, .data, .data, .handle, .sentinel, .sentinel, .pinned] true (true, "aa03d57e40d7f46a321b7a338959e31570b187a828c7cad4885241d6f19c00d7") true
    machineNone_row (fun _ h => by cases h) (by kernel_rfl) (fun _ h => by cases h) machineNone_row_tie rfl ⟨rfl, rfl⟩ Tryz.mainE rfl
    (fun f fn hf hfn => by
      obtain rfl : f = 17 := Option.some.inj (machineNone_func.symm.trans hf) |>.symm
      obtain rfl : fn = Tryz.f17 := (Option.some.inj (Tryz.func17.symm.trans hfn)).symm
      refine ⟨Tryz.looksE, fun j t ht => ?_⟩
      rw [Tryz.params17] at ht
      have h3 := Array.mem_of_getElem? ht
      simp only [List.mem_toArray, List.mem_cons, List.not_mem_nil, or_false] at h3
      rcases h3 with rfl
      · exact Tryz.st9)
    machineNone_goes
end Go.Proofs.YtndniceeibflcaaGreatDoor
