/-
  The law MachineMerges: for every input, with the listed variables as the program's text lays them, it answers true, and each argument reads as it did.
-/
import Derived.Test.YtndniceeibflcaaGreatDoorProg
import Derived.WalkKit
import Derived.Lib.ConvBytes
import Derived.LaidEql
import Derived.Lib.ItoaNum
import Derived.Lib.LaidTab
import Derived.KernelRfl
import GoSem.Claims
import GoSem.ClaimJoined
import Derived.Orders
import Derived.Laws.StructEq
import Derived.Maps.Keyed
import Derived.Lib.Strings
import Derived.Maps.AppendAt
import Derived.Laws.Concat
import Derived.MapKept
import Derived.Laws.MakeOwn
import Derived.Scope
import Derived.Laws.BitsLemmas
import Derived.Maps.RangeRun
import Derived.StillTail
import Derived.OrdersIn
import Derived.TacticsIn
import Derived.RangeFuncRecord
import Derived.RangeFuncCalls
import Derived.RangeFuncSeq
import Derived.Lib.Split
import Derived.Lib.AtoiAll
import Derived.Shelf.LaysM
import Derived.Shelf.LaysC
import Derived.Shelf.Strconv.Itoa3
import Derived.Shelf.Strconv.AtoiAll
import Derived.Shelf.Strings.Search3
import Derived.Shelf.Strings.Cut
import Derived.Shelf.Strings.Prefix
import Derived.Shelf.Strings.Split
import Derived.Lib.AppendIntMem
import Derived.Stop.Asserts
import Derived.RowKitTokens
import Derived.Conc.MuLone
import Derived.Test.YtndniceeibflcaaGreatDoorRows
import Derived.Test.YtndniceeibflcaaGreatDoorChecked
import Derived.ChangeSame
import Derived.ChangeVars
import Derived.JoinedOf
import Derived.ProofKit
import Derived.RowKit
import Derived.LaidLaws
import Derived.LaidHandle
import Derived.LaidMore
import Derived.Stop.Joined
import Derived.Stop.LaidErr
import Derived.HandedShaped
import Derived.Shelf.Vars
import Derived.Deep.Slices
import Derived.Deep.Strs
import Derived.Deep.Fields
import Derived.Lib.SmallJoins
import Derived.SliceStrings
import Derived.ChangeMaps5
import Derived.Test.YtndniceeibflcaaGreatDoorTie
import Derived.Test.YtndniceeibflcaaGreatDoorCards
import Derived.SevenTiedAt
import Derived.Test.YtndniceeibflcaaGreatDoorKaa
import Derived.Test.YtndniceeibflcaaGreatDoorKac
import Derived.Test.YtndniceeibflcaaGreatDoorKad
import Derived.Test.YtndniceeibflcaaGreatDoorKae
import Derived.Test.YtndniceeibflcaaGreatDoorKag
import Derived.Test.YtndniceeibflcaaGreatDoorKav
import Derived.Test.YtndniceeibflcaaGreatDoorKaw
import Derived.Test.YtndniceeibflcaaGreatDoorKbe
import Derived.Test.YtndniceeibflcaaGreatDoorKaf
import Derived.Test.YtndniceeibflcaaGreatDoorKbh
import Derived.Test.YtndniceeibflcaaGreatDoorKbx
import Derived.Test.YtndniceeibflcaaGreatDoorKby
import Derived.Test.YtndniceeibflcaaGreatDoorKbk
set_option linter.unusedSimpArgs false
set_option linter.unusedVariables false
namespace Go.Proofs.YtndniceeibflcaaGreatDoor
namespace Aw
end Aw
namespace Mp
end Mp
end Go.Proofs.YtndniceeibflcaaGreatDoor
namespace Go.Proofs.YtndniceeibflcaaGreatDoor
open Aw Mp Go.RowKit
set_option linter.unusedSimpArgs false

theorem ok41 : okFn Tryz.prog 41 = true := by kernel_rfl
theorem s41 (a b : By) (ha : a.length ≤ 1000000) (hb : b.length ≤ 1000000) : ASpec Tryz.prog 41 [S a, S b] (fun r Ms => r = .t [S (mgB a b).1, I (mgB a b).2.1, I (mgB a b).2.2] ∧ Ms = []) := by
  have hx := rd_len 100 0 a
  have hy := rd_len 100 0 b
  refine aspec_of (own := []) Tryz.func41 rfl ok41 ?_
  simp only [wB, awp, asN, St.ev, St.step, setS, killS, AV.kill, AV.killL, Mem.kill, Nat.reduceAdd, Nat.reduceSub, Int.reduceAdd, Int.reduceSub, Tryz.ntmps41]
  refine acall_v (s38 a ha) rfl (by simp [AV.pure, AV.pureL, strsA_pure]) ?_
  simp only [wB, awp, asT, asN, St.ev, St.step, setS, killS, AV.kill, AV.killL, Mem.kill, Nat.reduceAdd, Int.reduceAdd]
  refine acall_v (s38 b hb) rfl (by simp [AV.pure, AV.pureL, strsA_pure]) ?_
  simp only [wB, awp, binC, eqC, asT, asG, asB, asI, asN, St.ev, St.step, setS, killS, AV.kill, AV.killL, Mem.kill, Nat.reduceAdd, Int.reduceAdd, asStr, strC]
  by_cases h1 : (rd 100 0 a).2 = []
  case neg =>
    simp only [wB, awp, asB, asN, St.ev, St.step, setS, killS, AV.kill, AV.killL, Mem.kill, Nat.reduceAdd, Int.reduceAdd, decide_eq_false h1]
    exact aend_frz rfl ⟨by unfold mgB; rw [if_pos (.inl h1)]; rfl, rfl⟩
  simp only [wB, awp, binC, eqC, asG, asB, asI, St.ev, St.step, setS, killS, AV.kill, AV.killL, Mem.kill, asStr, strC, decide_eq_true h1]
  by_cases h2 : (rd 100 0 b).2 = []
  case neg =>
    simp only [wB, awp, asN, St.ev, St.step, setS, killS, AV.kill, AV.killL, Mem.kill, Nat.reduceAdd, Int.reduceAdd, decide_eq_false h2]
    exact aend_frz rfl ⟨by unfold mgB; rw [if_pos (.inr h2)]; rfl, rfl⟩
  simp only [wB, awp, asN, St.ev, St.step, setS, killS, AV.kill, AV.killL, Mem.kill, Nat.reduceAdd, Int.reduceAdd, decide_eq_true h2]
  obtain ⟨X, hX⟩ : ∃ X, X = (rd 100 0 a).1 := ⟨_, rfl⟩
  obtain ⟨Y, hY⟩ : ∃ Y, Y = (rd 100 0 b).1 := ⟨_, rfl⟩
  have hm : mgB a b = mgL a b X Y := by
    unfold mgB
    rw [if_neg (by simp [h1, h2]), hX, hY]
  rw [← hX] at hx
  rw [← hY] at hy
  rw [← hX, ← hY]
  refine swp_loop' (fun k : Nat => ⟨[S a, S b, .bot, .bot, .bot, .bot, .bot, .s 1 (strsA X), .bot, .s 1 (strsA Y), .bot, I k, .bot, .bot, .bot, .bot, .bot, .bot, .bot, .bot, .bot, .bot, .bot, .bot, .bot, .bot, .bot, .bot, .bot, .bot, .bot, .bot, .bot, .bot, .bot, .bot, .bot, .bot, .bot, .bot, .bot, .bot, .bot, .bot, .bot, .bot, .bot, .bot, .bot, .bot, .bot, .bot, .bot, .bot, .bot, .bot, .bot, .bot, .bot, .bot, .bot], []⟩) (fun k => k ≤ min X.length Y.length ∧ ∀ i, i < k → X[i]? = Y[i]?) (fun k => min X.length Y.length - k) 0 (le_sl (by simp [leSl])) ⟨Nat.zero_le _, by simp⟩ ?_
  rintro k ⟨hk, hall⟩
  refine awp_sound (own := []) _ _ _ _ _ ?_
  simp only [wB, awp, binC, cmpC, asI, lenA, St.ev, St.step, setS, killS, AV.kill, AV.killL, Mem.kill, Nat.reduceAdd, Int.reduceAdd, lenK, strsA_len]
  by_cases h : k < min X.length Y.length
  · have k1 : k < X.length := by omega
    have k2 : k < Y.length := by omega
    have k1' : (k : Int) < X.length := by omega
    have k2' : (k : Int) < Y.length := by omega
    simp only [wB, awp, binC, cmpC, asB, asI, lenA, St.ev, St.step, setS, killS, AV.kill, AV.killL, Mem.kill, lenK, strsA_len, decide_eq_true k1', decide_eq_true k2']
    refine swp_draw (own := []) (.take 0 .plain [] (.take 1 .plain [] (.take 2 .reads [] (.take 3 .reads [] (.take 4 .plain [] (.take 5 .plain [] (.take 6 .reads [] (.take 7 .reads [] (.take 8 .plain [] (.done)))))))))) [⟨41, 128, 0, 0, true⟩, ⟨42, 2048, 0, 0, true⟩, ⟨43, 3298534883328, 3, 0, true⟩, ⟨44, 4398046511104, 4, 0, true⟩, ⟨45, 512, 0, 0, true⟩, ⟨46, 2048, 0, 0, true⟩, ⟨47, 52776558133248, 48, 0, true⟩, ⟨48, 70368744177664, 64, 0, true⟩, ⟨49, 149533581377536, 136, 0, true⟩] mo (by kernel_rfl) ?_
    simp only [wB, awp, binC, idxC, eqC, asP, asS, asG, asB, asI, loadA, St.ev, setS, AV.cells, AV.flat, AV.single, ASch, St.put, Md.mem, Md.need, asStr, strC, Int.toNat_natCast, aget_strs k1, aget_strs k2]
    refine ⟨by omega, by omega, ?_⟩
    by_cases he : X[k] = Y[k]
    · simp only [wB, awp, binC, arithC, cmpC, asI, asN, St.ev, St.step, setS, killS, AV.kill, AV.killL, Mem.kill, Nat.reduceAdd, Int.reduceAdd, St.put, isU, decide_eq_true he]
      refine ⟨by unfold lim; omega, k + 1, le_sl (by simp [leSl]), ⟨by omega, fun i hi => ?_⟩, by omega⟩
      rcases Nat.lt_or_ge i k with h3 | h3
      · exact hall i h3
      · obtain rfl : i = k := by omega
        rw [List.getElem?_eq_getElem k1, List.getElem?_eq_getElem k2, he]
    · simp only [wB, awp, asN, St.ev, St.step, setS, killS, AV.kill, AV.killL, Mem.kill, Nat.reduceAdd, Int.reduceAdd, St.put, decide_eq_false he]
      refine aend_frz rfl ⟨?_, rfl⟩
      rw [hm, mgL, find_first h (by rw [List.getElem?_eq_getElem k1, List.getElem?_eq_getElem k2]; simpa using he) (fun i hi => by rw [hall i hi]; simp)]
      rfl
  · have hno : (List.range (min X.length Y.length)).find? (fun i => !decide (X[i]? = Y[i]?)) = none := find_no fun i hi => by rw [hall i (by omega)]; simp
    rw [mgL, hno] at hm
    simp only at hm
    by_cases k1 : (k : Int) < X.length
    case' pos => (have k2 : ¬ (k : Int) < Y.length := by omega
                  simp only [wB, awp, binC, cmpC, asB, asI, lenA, St.ev, St.step, setS, killS, AV.kill, AV.killL, Mem.kill, Nat.reduceAdd, Int.reduceAdd, lenK, strsA_len, decide_eq_true k1, decide_eq_false k2])
    case' neg => simp only [wB, awp, binC, cmpC, asB, asI, lenA, St.ev, St.step, setS, killS, AV.kill, AV.killL, Mem.kill, Nat.reduceAdd, Int.reduceAdd, lenK, strsA_len, decide_eq_false k1]
    all_goals
      by_cases hl : (X.length : Int) < Y.length
      · simp only [wB, awp, asN, lenA, St.ev, St.step, setS, killS, AV.kill, AV.killL, Mem.kill, Nat.reduceAdd, Int.reduceAdd, lenK, strsA_len, decide_eq_true hl]
        exact aend_frz rfl ⟨by rw [hm, if_pos (by omega)]; rfl, rfl⟩
      · simp only [wB, awp, asN, lenA, St.ev, St.step, setS, killS, AV.kill, AV.killL, Mem.kill, Nat.reduceAdd, Int.reduceAdd, lenK, strsA_len, decide_eq_false hl]
        exact aend_frz rfl ⟨by rw [hm, if_neg (by omega)]; rfl, rfl⟩
end Go.Proofs.YtndniceeibflcaaGreatDoor

namespace Go.Proofs.YtndniceeibflcaaGreatDoor
open Aw Mp Go.RowKit
set_option linter.unusedSimpArgs false
set_option maxRecDepth 8000

theorem ok10 : okFn Tryz.prog 10 = true := by kernel_rfl
theorem s10 (a b : By) : ASpec Tryz.prog 10 [S a, S b] (fun r Ms => r = B true ∧ Ms = []) := by
  refine aspec_of (own := []) Tryz.func10 rfl ok10 ?_
  simp only [wB, awp, binC, cmpC, asI, asN, lenA, St.ev, St.step, setS, killS, AV.kill, AV.killL, Mem.kill, Nat.reduceAdd, Nat.reduceSub, Int.reduceAdd, Int.reduceSub, lenK, Tryz.ntmps10]
  by_cases h : (6000 : Int) < a.length
  · simp only [wB, awp, asB, St.ev, St.step, setS, killS, AV.kill, AV.killL, Mem.kill, Nat.reduceAdd, Int.reduceAdd, decide_eq_true h]
    refine acall_v s31 rfl rfl ?_
    simp only [wB, awp, asN, St.ev, St.step, setS, killS, AV.kill, AV.killL, Mem.kill]
    exact aend_frz rfl ⟨rfl, rfl⟩
  simp only [wB, awp, binC, cmpC, asB, asI, lenA, St.ev, St.step, setS, killS, AV.kill, AV.killL, Mem.kill, lenK, decide_eq_false h]
  by_cases h2 : (6000 : Int) < b.length
  · simp only [wB, awp, Nat.reduceAdd, Int.reduceAdd, decide_eq_true h2]
    refine acall_v s31 rfl rfl ?_
    simp only [wB, awp, asN, St.ev, St.step, setS, killS, AV.kill, AV.killL, Mem.kill]
    exact aend_frz rfl ⟨rfl, rfl⟩
  simp only [wB, awp, St.ev, St.step, setS, killS, AV.kill, AV.killL, Mem.kill, Nat.reduceAdd, Int.reduceAdd, decide_eq_false h2]
  refine acall_v (s25 a b (by omega) (by omega)) rfl rfl ?_
  simp only [wB, awp, asT, asN, St.ev, St.step, setS, killS, AV.kill, AV.killL, Mem.kill, Nat.reduceAdd, Int.reduceAdd]
  refine acall_v (s41 a b (by omega) (by omega)) rfl rfl ?_
  simp only [wB, awp, binC, cmpC, eqC, asT, asG, asB, asI, asN, St.ev, St.step, setS, killS, AV.kill, AV.killL, Mem.kill, Nat.reduceAdd, Int.reduceAdd, asStr, strC]
  refine acall_v (s25 b a (by omega) (by omega)) rfl rfl ?_
  simp only [wB, awp, binC, cmpC, eqC, asT, asG, asB, asI, asN, St.ev, St.step, setS, killS, AV.kill, AV.killL, Mem.kill, Nat.reduceAdd, Int.reduceAdd, asStr, strC, mg_flip a b]
  refine acall_v s31 rfl rfl ?_
  simp only [wB, awp, asB, asN, St.ev, St.step, setS, killS, AV.kill, AV.killL, Mem.kill]
  exact aend_frz rfl ⟨rfl, rfl⟩
end Go.Proofs.YtndniceeibflcaaGreatDoor

namespace Go.Proofs.YtndniceeibflcaaGreatDoor
open Aw Go.ChangeShapes Go.WideShapes Go.ChangeAt Go.RowKit Go.Deep Go.Joins

set_option maxRecDepth 100000 in
theorem machineMerges_lifted (os : Os) (started : os.Started) (H : Type) (enc : TypeId × Value → H) :
    ReturnsInHanded {} Tryz.checked os 10 .any (fun w args => (Rows.machineMergesSpec.pre enc Tryz.prog Tryz.f10 [] false w args ∧ laidMetH Tryz.prog Rows.machineMergesRow.laid w) ∧ sizedMet enc Tryz.prog Tryz.f10 (OpenSpec.ofChange Rows.machineMergesSpec) false w args)
      (Rows.machineMergesSpec.post enc Tryz.prog Tryz.f10 false true false false) := by
  refine returns_laid (C := Tryz.checked) (X := fun w _ => laidMetH Tryz.prog Rows.machineMergesRow.laid w) (fun _ _ _ hh h => h.of_heap hh) Tryz.own started (by kernel_rfl) Tryz.func10
    (ChangeSpec.witness_at (enc := enc) (C := Tryz.checked) (os := os) (X := fun w _ => laidMetH Tryz.prog Rows.machineMergesRow.laid w) false (laidWorld os) #[.string ⟨#[]⟩, .string ⟨#[]⟩] 8 rfl (by kernel_rfl) (by kernel_rfl) (by kernel_rfl) (by kernel_rfl) (by kernel_rfl) (laidWorld_met os _)) ?_
  intro W base args ds gs before hval0 hW hsz hL hsh
  have hval : ∀ (j : Nat) t v, Tryz.f10.params[j]? = some t → args[j]? = some v → Value.okWide Tryz.prog W .any base t v := hval0
  have hG : GOk W := gok_of hL hsh
  have hW' := hW
  obtain ⟨p, q, hA0, hV, rfl, hfz, hnd⟩ := hW
  have hA : DataW.TrodAll enc Tryz.prog W 0 (fun _ => true) true Tryz.f10.params.toList args.toList ds p := hA0
  rw [Tryz.params10] at hA hval hsz
  obtain ⟨v0, v1, d0, d1, p0, p1, rfl, rfl, rfl, h0, h1⟩ := trodAll_two hA
  obtain ⟨rfl, rfl⟩ := trodVars_none hV
  obtain ⟨o0, r0, e0, b0⟩ := sa_str (hval 0 9 v0 rfl rfl) h0
  have w0 : o0.length ≤ reachBytes := by
    subst e0
    simp only [List.append_nil, List.cons_append, List.nil_append, DataW.weightsEach, DataW.weights, List.all_append, List.all_cons, List.all_nil, Bool.and_true, Bool.and_eq_true, decide_eq_true_eq] at hsz
    omega
  unfold reachBytes at w0
  obtain ⟨o1, r1, e1, b1⟩ := sa_str (hval 1 9 v1 rfl rfl) h1
  have w1 : o1.length ≤ reachBytes := by
    subst e1
    simp only [List.append_nil, List.cons_append, List.nil_append, DataW.weightsEach, DataW.weights, List.all_append, List.all_cons, List.all_nil, Bool.and_true, Bool.and_eq_true, decide_eq_true_eq] at hsz
    omega
  unfold reachBytes at w1
  clear hA0 hval0
  simp only [List.append_nil] at hW'
  have hlt : ∀ x ∈ p0 ++ p1, x.block < W.heap.size := fun x hx => hW'.lt x (by simpa using hx)
  refine (calls_true (s10 o0 o1) (vs := [v0, v1]) (by simp only [RVL]; exact ⟨_, _, rfl, r0, _, _, rfl, r1, rfl⟩) hG).mono fun e W' ⟨he, hb⟩ => ?_
  subst he
  refine ⟨_, rfl, law_shut hW' hb rfl (fun _ _ _ => trodAll_mk1 (shut_bool Tryz.underlying4 true)) (fun sp hsp => ?_) rfl (ok_one (by kernel_rfl) rfl (okWide_bool_mk Tryz.underlying4 true))⟩
  exact trodAll_mk2 (arg_stays Tryz.laidOut rr9 lt9 h0 hb (fun x hx => hlt x (by simp [hx])) (sp := sp) (fun x hx => hsp x (by simp [hx])))
    (arg_stays Tryz.laidOut rr9 lt9 h1 hb (fun x hx => hlt x (by simp [hx])) (sp := sp) (fun x hx => hsp x (by simp [hx])))

theorem machineMerges_func : Tryz.prog.funcNamed "quadrupole/quadrupolelaw09.MachineMerges" = some 10 := by kernel_rfl
theorem machineMerges_k10 : (Rows.machineMergesRow.inPlace == Tryz.prog.inPlace 10) = true := by kernel_rfl
theorem machineMerges_k11 : (Rows.machineMergesRow.unfollowed == Tryz.prog.unfollowed 10) = true := by kernel_rfl
theorem machineMerges_k12 : (Rows.machineMergesRow.recurses == Tryz.prog.recurses 10) = true := by kernel_rfl
theorem machineMerges_k13 : (Rows.machineMergesRow.named == Tryz.prog.varsNamed 10) = true := by kernel_rfl
theorem machineMerges_closed : joinedFacts Tryz.prog 10 Tryz.f10 Rows.machineMergesSpec Rows.machineMergesRow = true :=
  joined_of (by kernel_rfl) (by kernel_rfl) (by kernel_rfl) rfl rfl machineMerges_k10 machineMerges_k11 machineMerges_k12 machineMerges_k13 (by kernel_rfl) Tryz.keysE rfl Tryz.lifts Tryz.made (by kernel_rfl)
theorem machineMerges_goes : false = Rows.machineMergesRow.goesBy Tryz.prog := by kernel_rfl
theorem machineMerges_row : Rows.MachineMergesSaid :=
  OpenClaim.holds_of_wide 10 Tryz.f10 rfl rfl rfl rfl rfl rfl rfl ⟨rfl, rfl, rfl, rfl, rfl⟩ rfl rfl rfl rfl rfl machineMerges_func Tryz.func10 machineMerges_closed
    (of_decide_eq_true (by kernel_rfl)) (by unfold Func.isWrapper; rw [if_neg (of_decide_eq_false (by kernel_rfl))]; exact ⟨rfl, rfl⟩)
    (fun os started H enc _ => machineMerges_lifted os started H enc)

theorem machineMerges_holds : Rows.MachineMergesCardSaid :=
  Claim7.holds_tied_plain_at .later [] [.data, .data, .data, .data, .handle, .sentinel, .sentinel, .pinned] true (true, "aa03d57e40d7f46a321b7a338959e31570b187a828c7cad4885241d6f19c00d7") true
    machineMerges_row (fun _ h => by cases h) (by kernel_rfl) (fun _ h => by cases h) machineMerges_row_tie rfl ⟨rfl, rfl⟩ Tryz.mainE rfl
    (fun f fn hf hfn => by
      obtain rfl : f = 10 := Option.some.inj (machineMerges_func.symm.trans hf) |>.symm
      obtain rfl : fn = Tryz.f10 := (Option.some.inj (Tryz.func10.symm.trans hfn)).symm
      refine ⟨Tryz.looksE, fun j t ht => ?_⟩
      rw [Tryz.params10] at ht
      have h3 := Array.mem_of_getElem? ht
      simp only [List.mem_toArray, List.mem_cons, List.not_mem_nil, or_false] at h3
      rcases h3 with rfl | rfl
      · exact Tryz.st9
      · exact Tryz.st9)
    machineMerges_goes
end Go.Proofs.YtndniceeibflcaaGreatDoor
