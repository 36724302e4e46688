/-
  The law MachineWrites: for every input, with the listed variables as the program's text lays them, it answers true, and each argument reads as it did.
-/
import Derived.Lib.Split
import Derived.Lib.ItoaNum
import Derived.Lib.AtoiAll
import Derived.Test.YtndniceeibflcaaGreatDoorProg
import Derived.WalkKit
import Derived.Lib.ConvBytes
import Derived.LaidEql
import Derived.Lib.LaidTab
import Derived.KernelRfl
import GoSem.Claims
import GoSem.ClaimJoined
import Derived.Orders
import Derived.Laws.StructEq
import Derived.Maps.Keyed
import Derived.Lib.Strings
import Derived.Maps.AppendAt
import Derived.Laws.Concat
import Derived.MapKept
import Derived.Laws.MakeOwn
import Derived.Scope
import Derived.Laws.BitsLemmas
import Derived.Maps.RangeRun
import Derived.StillTail
import Derived.OrdersIn
import Derived.TacticsIn
import Derived.RangeFuncRecord
import Derived.RangeFuncCalls
import Derived.RangeFuncSeq
import Derived.Shelf.LaysM
import Derived.Shelf.LaysC
import Derived.Shelf.Strconv.Itoa3
import Derived.Shelf.Strconv.AtoiAll
import Derived.Shelf.Strings.Search3
import Derived.Shelf.Strings.Cut
import Derived.Shelf.Strings.Prefix
import Derived.Shelf.Strings.Split
import Derived.Lib.AppendIntMem
import Derived.Stop.Asserts
import Derived.RowKitTokens
import Derived.Conc.MuLone
import Derived.Test.YtndniceeibflcaaGreatDoorRows
import Derived.Test.YtndniceeibflcaaGreatDoorChecked
import Derived.ChangeSame
import Derived.ChangeVars
import Derived.JoinedOf
import Derived.ProofKit
import Derived.RowKit
import Derived.LaidLaws
import Derived.LaidHandle
import Derived.LaidMore
import Derived.Stop.Joined
import Derived.Stop.LaidErr
import Derived.HandedShaped
import Derived.Shelf.Vars
import Derived.Deep.Slices
import Derived.Deep.Strs
import Derived.Deep.Fields
import Derived.Lib.SmallJoins
import Derived.SliceStrings
import Derived.ChangeMaps5
import Derived.Test.YtndniceeibflcaaGreatDoorTie
import Derived.Test.YtndniceeibflcaaGreatDoorCards
import Derived.SevenTiedAt
import Derived.Test.YtndniceeibflcaaGreatDoorKaa
import Derived.Test.YtndniceeibflcaaGreatDoorKab
import Derived.Test.YtndniceeibflcaaGreatDoorKac
import Derived.Test.YtndniceeibflcaaGreatDoorKad
import Derived.Test.YtndniceeibflcaaGreatDoorKae
import Derived.Test.YtndniceeibflcaaGreatDoorKan
import Derived.Test.YtndniceeibflcaaGreatDoorKag
import Derived.Test.YtndniceeibflcaaGreatDoorKav
import Derived.Test.YtndniceeibflcaaGreatDoorKba
import Derived.Test.YtndniceeibflcaaGreatDoorKax
import Derived.Test.YtndniceeibflcaaGreatDoorKbm
import Derived.Test.YtndniceeibflcaaGreatDoorKbn
import Derived.Test.YtndniceeibflcaaGreatDoorKbf
import Derived.Test.YtndniceeibflcaaGreatDoorKaf
import Derived.Test.YtndniceeibflcaaGreatDoorKbg
import Derived.Test.YtndniceeibflcaaGreatDoorKbo
import Derived.Test.YtndniceeibflcaaGreatDoorKai
import Derived.Test.YtndniceeibflcaaGreatDoorKbp
import Derived.Test.YtndniceeibflcaaGreatDoorKbr
import Derived.Test.YtndniceeibflcaaGreatDoorKbs
import Derived.Test.YtndniceeibflcaaGreatDoorKbt
import Derived.Test.YtndniceeibflcaaGreatDoorKbk
set_option linter.unusedSimpArgs false
set_option linter.unusedVariables false
namespace Go.Proofs.YtndniceeibflcaaGreatDoor
namespace Aw
end Aw
namespace Mp
end Mp
end Go.Proofs.YtndniceeibflcaaGreatDoor
namespace Go.Proofs.YtndniceeibflcaaGreatDoor
namespace Mp
open Go
set_option linter.unusedSimpArgs false

/-- of two logs that begin alike the orders do. -/
theorem lg_pre : ∀ (l m : List By) (b : Int) (t u : By), (∀ o ∈ l, ordB o = true) → (∀ o ∈ m, ordB o = true) → lg b l ++ t = lg b m ++ u → l.length ≤ m.length → l <+: m
  | [], m, _, _, _, _, _, _, _ => List.nil_prefix
  | o :: l, [], _, _, _, _, _, _, h => by simp at h
  | o :: l, p :: m, b, t, u, h1, h2, he, hl => by
    have e1 := okLine_line b o (lg (sumB b o) l ++ t) (h1 o (by simp))
    have e2 := okLine_line b p (lg (sumB b p) m ++ u) (h2 p (by simp))
    simp only [lg, List.append_assoc] at he
    rw [he, e2.2.1, e2.2.2] at e1
    obtain ⟨_, rfl, e3⟩ := e1
    have := lg_pre l m (sumB b p) t u (fun x hx => h1 x (by simp [hx])) (fun x hx => h2 x (by simp [hx])) e3.symm (by simpa using hl)
    exact (List.prefix_cons_inj p).2 this
theorem lineB_pos (n : Int) (o : By) : 0 < (lineB n o).length := by simp [lineB]; omega
theorem lg_len : ∀ (l : List By) (b : Int), l.length ≤ (lg b l).length
  | [], _ => by simp [lg]
  | o :: l, b => by
    have := lg_len l (sumB b o)
    have := lineB_pos (sumB b o) o
    simp only [lg, List.length_append, List.length_cons]; omega
end Mp
end Go.Proofs.YtndniceeibflcaaGreatDoor

namespace Go.Proofs.YtndniceeibflcaaGreatDoor
open Aw Mp Go.RowKit
set_option linter.unusedSimpArgs false

theorem nt149 : nilT Tryz.prog 149 = some true := by kernel_rfl
theorem cc147 : conc Tryz.prog 147 = true := by kernel_rfl
end Go.Proofs.YtndniceeibflcaaGreatDoor

namespace Go.Proofs.YtndniceeibflcaaGreatDoor
open Aw Mp Go.RowKit
set_option linter.unusedSimpArgs false

theorem ok40 : okFn Tryz.prog 40 = true := by kernel_rfl
theorem s40 (l : List By) (hs : ∀ o ∈ l, o.length ≤ 9223372036854775807) : ASpec Tryz.prog 40 [.s 1 (strsA l)] (fun r Ms => r = .t [S (wrB l).1, I (wrB l).2] ∧ Ms = []) := by
  refine aspec_of (own := []) Tryz.func40 rfl ok40 ?_
  by_cases hl : (100 : Int) < l.length
  · simp only [wB, awp, binC, cmpC, asB, asI, asN, lenA, St.ev, St.step, setS, killS, AV.kill, AV.killL, Mem.kill, Nat.reduceAdd, Nat.reduceSub, Int.reduceAdd, Int.reduceSub, lenK, strsA_len, Tryz.ntmps40, decide_eq_true hl]
    exact aend_frz rfl ⟨by unfold wrB; rw [if_pos (by omega)]; rfl, rfl⟩
  simp only [wB, awp, binC, cmpC, asB, asI, asN, lenA, St.ev, St.step, setS, killS, AV.kill, AV.killL, Mem.kill, Nat.reduceAdd, Nat.reduceSub, Int.reduceAdd, Int.reduceSub, lenK, strsA_len, Tryz.ntmps40, decide_eq_false hl]
  refine swp_loop' (fun k : Nat => ⟨[.s 1 (strsA l), .bot, .bot, .bot, I k, .bot, .bot, .bot, .bot, .bot, .bot, .bot, .bot, .bot, .bot, .bot, .bot, .bot, .bot, .bot, .bot, .bot], []⟩) (fun k => k ≤ l.length ∧ ∀ o ∈ l.take k, ordB o = true) (fun k => l.length - k) 0 (le_sl (by simp [leSl])) ⟨Nat.zero_le _, by simp⟩ ?_
  rintro k ⟨hk, hall⟩
  refine awp_sound (own := []) _ _ _ _ _ ?_
  simp only [wB, awp, binC, cmpC, asB, asI, lenA, St.ev, St.step, setS, killS, AV.kill, AV.killL, Mem.kill, Nat.reduceAdd, Int.reduceAdd, lenK, strsA_len]
  by_cases h : k < l.length
  · have h' : (k : Int) < l.length := by omega
    simp only [wB, awp, idxC, asP, asS, asI, loadA, St.ev, St.step, setS, killS, AV.kill, AV.killL, Mem.kill, AV.cells, AV.flat, AV.single, Nat.reduceAdd, Int.reduceAdd, decide_eq_true h', Int.toNat_natCast, aget_strs h]
    refine ⟨by omega, acall_v (s85 _ (hs _ (List.getElem_mem h))) rfl rfl ?_⟩
    cases ho : ordB l[k] with
    | false =>
      simp only [wB, awp, asB, asN, St.ev, St.step, setS, killS, AV.kill, AV.killL, Mem.kill, Nat.reduceAdd, Int.reduceAdd]
      exact aend_frz rfl ⟨by rw [wr_bad (by omega) (List.getElem_mem h) ho]; rfl, rfl⟩
    | true =>
      simp only [wB, awp, binC, arithC, cmpC, asB, asI, asN, St.ev, St.step, setS, killS, AV.kill, AV.killL, Mem.kill, Nat.reduceAdd, Int.reduceAdd, isU]
      have e : l.take k ++ [l[k]] = l.take (k + 1) := by rw [List.take_add_one, List.getElem?_eq_getElem h]; rfl
      refine ⟨by unfold lim; omega, k + 1, le_sl (by simp [leSl]), ⟨by omega, fun o ho' => ?_⟩, by omega⟩
      rw [← e] at ho'
      rcases List.mem_append.1 ho' with ho' | ho'
      · exact hall o ho'
      · simp only [List.mem_singleton] at ho'; rw [ho']; exact ho
  · have h' : ¬ (k : Int) < l.length := by omega
    rw [List.take_of_length_le (by omega)] at hall
    simp only [wB, awp, St.ev, St.step, setS, killS, AV.kill, AV.killL, Mem.kill, Nat.reduceAdd, Int.reduceAdd, decide_eq_false h']
    refine acall_v (s36 l (by omega) hall) rfl rfl ?_
    simp only [wB, awp, asN, St.ev, St.step, setS, killS, AV.kill, AV.killL, Mem.kill]
    refine aend_frz rfl ⟨?_, rfl⟩
    rw [wr_all (by omega) hall]
    rfl

end Go.Proofs.YtndniceeibflcaaGreatDoor

namespace Go.Proofs.YtndniceeibflcaaGreatDoor
open Aw Mp Go.RowKit
set_option linter.unusedSimpArgs false
set_option maxRecDepth 8000

theorem wr_inv {l : List By} (h : (wrB l).2 = 0) : l.length ≤ 100 ∧ (∀ o ∈ l, ordB o = true) ∧ wrB l = (lg 0 l, 0) := by
  unfold wrB at h ⊢
  split at h
  · cases h
  rename_i h1
  split at h
  · rename_i h2
    exact ⟨by omega, List.all_eq_true.1 h2, by rw [if_neg h1, if_pos h2]⟩
  · cases h
theorem lg_inj0 {m : List By} {b : Int} (h : lg b m = []) : m = [] := by
  have := lg_len m b
  rw [h] at this
  exact List.length_eq_zero_iff.1 (by simpa using this)
/-- of a log without its end a beginning of the orders is read, and the torn line. -/
theorem cut_law {l : List By} (ho : ∀ o ∈ l, ordB o = true) (k : Nat) (hk : k ≤ (lg 0 l).length) :
    (rd 100 0 ((lg 0 l).take k)).2.length ≤ k ∧ ((lg 0 l).take k).drop (k - (rd 100 0 ((lg 0 l).take k)).2.length) = (rd 100 0 ((lg 0 l).take k)).2 ∧ (rd 100 0 ((lg 0 l).take k)).1.length ≤ l.length ∧ (rd 100 0 ((lg 0 l).take k)).1 = l.take (rd 100 0 ((lg 0 l).take k)).1.length := by
  have e1 := rd_lg 100 0 ((lg 0 l).take k)
  have o1 := rd_ord 100 0 ((lg 0 l).take k)
  generalize (rd 100 0 ((lg 0 l).take k)).1 = p at *
  generalize (rd 100 0 ((lg 0 l).take k)).2 = t at *
  have hlen : (lg 0 p).length + t.length = k := by
    have := congrArg List.length e1
    simp only [List.length_append, List.length_take] at this
    omega
  have e2 : lg 0 p ++ (t ++ (lg 0 l).drop k) = lg 0 l ++ [] := by
    rw [← List.append_assoc, e1, List.take_append_drop, List.append_nil]
  refine ⟨by omega, by rw [← e1, show k - t.length = (lg 0 p).length by omega, List.drop_left], ?_⟩
  rcases Nat.lt_or_ge l.length p.length with h | h
  · obtain ⟨m, rfl⟩ := lg_pre l p 0 [] (t ++ (lg 0 l).drop k) ho o1 e2.symm (by omega)
    rw [lg_app, List.append_assoc] at e2
    have e3 := List.append_cancel_left e2
    have : lg (sumL 0 l) m = [] := (List.append_eq_nil_iff.1 e3).1
    have := lg_inj0 this
    subst this
    simp at h
  · have hp := lg_pre p l 0 _ _ o1 ho e2 h
    exact ⟨h, List.prefix_iff_eq_take.1 hp⟩
end Go.Proofs.YtndniceeibflcaaGreatDoor

namespace Go.Proofs.YtndniceeibflcaaGreatDoor
open Aw Mp Go.RowKit
set_option linter.unusedSimpArgs false
set_option maxRecDepth 8000

theorem ok9 : okFn Tryz.prog 9 = true := by kernel_rfl
theorem s9 (l : List By) (hs : ∀ o ∈ l, o.length ≤ 9223372036854775807) (keep : Int) (hk : lim keep) : ASpec Tryz.prog 9 [.s 1 (strsA l), I keep] (fun r Ms => r = B true ∧ Ms = []) := by
  refine aspec_of (own := [1016]) Tryz.func9 rfl ok9 ?_
  simp only [wB, awp, asN, St.ev, St.step, setS, killS, AV.kill, AV.killL, Mem.kill, Nat.reduceAdd, Nat.reduceEqDiff, Nat.reduceSub, Int.reduceAdd, Int.reduceSub, Tryz.ntmps9]
  refine acall_v (s21 l) (by simp [AV.pureL, AV.pure, strsA_pure]) rfl ?_
  by_cases h : 150 < l.length
  · simp only [wB, awp, asB, St.ev, St.step, setS, killS, AV.kill, AV.killL, Mem.kill, Nat.reduceAdd, Nat.reduceEqDiff, Int.reduceAdd, decide_eq_true h]
    refine acall_v s31 rfl rfl ?_
    simp only [wB, awp, asN, St.ev, St.step, setS, killS, AV.kill, AV.killL, Mem.kill, Nat.reduceEqDiff]
    exact aend_frz rfl ⟨rfl, rfl⟩
  simp only [wB, awp, asB, St.ev, St.step, setS, killS, AV.kill, AV.killL, Mem.kill, Nat.reduceAdd, Nat.reduceEqDiff, Int.reduceAdd, decide_eq_false h]
  refine acall_v (s26 l) (by simp [AV.pureL, AV.pure, strsA_pure]) rfl ?_
  simp only [wB, awp, asT, asN, St.ev, St.step, setS, killS, AV.kill, AV.killL, Mem.kill, Nat.reduceAdd, Nat.reduceEqDiff, Int.reduceAdd]
  refine acall_v (s40 l hs) (by simp [AV.pureL, AV.pure, strsA_pure]) rfl ?_
  by_cases h0 : (wrB l).2 = 0
  case neg =>
    simp only [wB, awp, binC, cmpC, eqC, asT, asG, asB, asI, asN, St.ev, St.step, setS, killS, AV.kill, AV.killL, Mem.kill, Nat.reduceAdd, Nat.reduceEqDiff, Int.reduceAdd, asStr, strC, decide_eq_false h0]
    refine acall_v s31 rfl rfl ?_
    simp only [wB, awp, asN, St.ev, St.step, setS, killS, AV.kill, AV.killL, Mem.kill, Nat.reduceEqDiff]
    exact aend_frz rfl ⟨rfl, rfl⟩
  obtain ⟨hl, ho, hw⟩ := wr_inv h0
  rw [hw]
  simp only [wB, awp, binC, cmpC, eqC, asT, asG, asB, asI, asN, St.ev, St.step, setS, killS, AV.kill, AV.killL, Mem.kill, Nat.reduceAdd, Nat.reduceEqDiff, Int.reduceAdd, asStr, strC]
  have hlen := lg_size l 0 ho
  refine acall_v (s19 (lg 0 l) (by omega)) rfl (by simp [AV.pure, AV.pureL, strsA_pure]) ?_
  simp only [wB, awp, asT, asN, St.ev, St.step, setS, killS, AV.kill, AV.killL, Mem.kill, Nat.reduceAdd, Nat.reduceEqDiff, Int.reduceAdd, rd_all hl ho]
  refine acall_v (s39 l l (by omega)) (by simp [AV.pureL, AV.pure, strsA_pure]) rfl ?_
  simp only [wB, awp, binC, arithC, cmpC, eqC, asS, asG, asB, asI, asN, bndA, lenA, St.ev, St.step, setS, killS, AV.kill, AV.killL, Mem.kill, Nat.reduceAdd, Nat.reduceEqDiff, Int.reduceAdd, Int.reduceLE, isU, asStr, strC, arithU, lenK, io3, io46]
  obtain ⟨e1, k, hk1, e2⟩ := keep_at keep (lg 0 l).length (by omega)
  rw [e1, e2]
  obtain ⟨c1, c2, c3, c4⟩ := cut_law ho k hk1
  generalize hP : (rd 100 0 ((lg 0 l).take k)).1 = p at *
  generalize hT : (rd 100 0 ((lg 0 l).take k)).2 = tn at *
  refine ⟨by unfold lim; omega, by omega, ⟨by omega, by omega⟩, ?_⟩
  rw [Int.toNat_natCast, List.drop_zero]
  have h19 := s19 ((lg 0 l).take k) (by simp; omega)
  rw [hP, hT] at h19
  refine acall_v h19 rfl (by simp [AV.pure, AV.pureL, strsA_pure]) ?_
  simp only [wB, awp, binC, cmpC, asT, asI, asN, lenA, St.ev, St.step, setS, killS, AV.kill, AV.killL, Mem.kill, Nat.reduceAdd, Nat.reduceEqDiff, Int.reduceAdd, lenK]
  simp only [wB, binC, arithC, cmpC, eqC, asS, asG, asB, asI, bndA, lenA, St.ev, St.step, setS, killS, AV.kill, AV.killL, Mem.kill, isU, asStr, strC, lenK, decide_eq_false (show ¬ (k : Int) < tn.length by omega)]
  refine ⟨by unfold lim; omega, ⟨by omega, by omega, by omega⟩, ?_⟩
  rw [Int.toNat_natCast, show ((k : Int) - tn.length).toNat = k - tn.length by omega, c2]
  simp only [wB, awp, binC, cmpC, asB, asI, lenA, St.ev, St.step, setS, killS, AV.kill, AV.killL, Mem.kill, Nat.reduceAdd, Int.reduceAdd, lenK, strsA_len, strsA_len, decide_eq_false (show ¬ (l.length : Int) < p.length by omega)]
  refine swp_s ?_
  simp only [List.toList_toArray]
  refine sops_pre (own := []) [_, _, _, _, _, _] rfl ?_
  simp only [wB, awp, lenA, St.ev, St.step, setS, killS, AV.kill, AV.killL, Mem.kill, Nat.reduceAdd, Int.reduceAdd, lenK, strsA_len, strsA_len]
  refine sops_op (hop_slice3 (some 93) rfl rfl rfl rfl ti27 rfl ti9 rfl rfl rfl rfl (by omega) (by rw [strsA_len]; omega)) ?_
  simp only [setS, List.set_cons_succ, List.set_cons_zero, Nat.reduceAdd, Int.reduceAdd, strsA_take, Int.toNat_natCast]
  refine sops_pre (own := []) [_, _, _, _, _] rfl ?_
  simp only [wB, St.ev]
  rw [← c4]
  refine acall_v (s39 p p (by omega)) (by simp [AV.pureL, AV.pure, strsA_pure]) rfl ?_
  simp only [wB, St.ev, St.step, setS, killS, AV.kill, AV.killL, Mem.kill]
  refine acall_v s31 rfl rfl ?_
  simp only [wB, asB, asN, St.ev, St.step, setS, killS, AV.kill, AV.killL, Mem.kill, Nat.reduceAdd, Int.reduceAdd]
  refine sops_end ?_
  simp only [wB, lenM, oneOf, awp, binC, idxC, arithC, cmpC, eqC, asP, asQ, asO, asS, asT, asG, asF, asB, asI, asN, asE, obA, bndA, lenA, minmaxA, loadA, storeA, fillA, putsA, mkA, Aw.newRow, St.ev, St.step, setS, killS, AV.kill, AV.killL, Mem.kill, AV.cells, AV.flat, AV.single, AV.cellular, AV.size, AV.sizeL, AV.pure, AV.pureL, Value.oneCell', ints, Nat.reduceAdd, Nat.reduceEqDiff, Nat.reduceMul, Nat.reduceSub, Nat.reduceLeDiff, Nat.reduceBEq, Int.reduceAdd, Int.reduceSub, Int.reduceMul, Int.reduceNeg, Int.reduceToNat, Int.reduceLE, Int.reduceLT, Int.reduceEq, ASch, St.put, Md.mem, Md.need, isNP, isNI, isU, ptrN, ifcN, asStr, strC, arithU, lenK, Aw.valOf, Aw.valsOf, io3, io5, io46, nt32, nt149, nt114, cc139, cc147, us9, wrap_byte, bytesA_len, strsA_len, Tryz.ntmps9]
  exact aend_frz rfl ⟨rfl, rfl⟩
end Go.Proofs.YtndniceeibflcaaGreatDoor

namespace Go.Proofs.YtndniceeibflcaaGreatDoor
open Aw Go.ChangeShapes Go.WideShapes Go.ChangeAt Go.RowKit Go.Deep Go.Joins

set_option maxRecDepth 100000 in
theorem machineWrites_lifted (os : Os) (started : os.Started) (H : Type) (enc : TypeId × Value → H) :
    ReturnsInHanded {} Tryz.checked os 9 .any (fun w args => (Rows.machineWritesSpec.pre enc Tryz.prog Tryz.f9 [] false w args ∧ laidMetH Tryz.prog Rows.machineWritesRow.laid w) ∧ sizedMet enc Tryz.prog Tryz.f9 (OpenSpec.ofChange Rows.machineWritesSpec) false w args)
      (Rows.machineWritesSpec.post enc Tryz.prog Tryz.f9 false true false false) := by
  refine returns_laid (C := Tryz.checked) (X := fun w _ => laidMetH Tryz.prog Rows.machineWritesRow.laid w) (fun _ _ _ hh h => h.of_heap hh) Tryz.own started (by kernel_rfl) Tryz.func9
    (ChangeSpec.witness_at (enc := enc) (C := Tryz.checked) (os := os) (X := fun w _ => laidMetH Tryz.prog Rows.machineWritesRow.laid w) false (laidWorld os) #[.slice none 0 0, .int .i64 0] 8 rfl (by kernel_rfl) (by kernel_rfl) (by kernel_rfl) (by kernel_rfl) (by kernel_rfl) (laidWorld_met os _)) ?_
  intro W base args ds gs before hval0 hW hsz hL hsh
  have hval : ∀ (j : Nat) t v, Tryz.f9.params[j]? = some t → args[j]? = some v → Value.okWide Tryz.prog W .any base t v := hval0
  have hG : GOk W := gok_of hL hsh
  have hW' := hW
  obtain ⟨p, q, hA0, hV, rfl, hfz, hnd⟩ := hW
  have hA : DataW.TrodAll enc Tryz.prog W 0 (fun _ => true) true Tryz.f9.params.toList args.toList ds p := hA0
  rw [Tryz.params9] at hA hval hsz
  obtain ⟨v0, v1, d0, d1, p0, p1, rfl, rfl, rfl, h0, h1⟩ := trodAll_two hA
  obtain ⟨rfl, rfl⟩ := trodVars_none hV
  obtain ⟨l0, r0, b0⟩ := sa_strs (hval 0 27 v0 rfl rfl) h0
  obtain ⟨n1, r1, b1⟩ := sa_int (hval 1 3 v1 rfl rfl) h1
  clear hA0 hval0
  simp only [List.append_nil] at hW'
  have hlt : ∀ x ∈ p0 ++ p1, x.block < W.heap.size := fun x hx => hW'.lt x (by simpa using hx)
  refine (calls_true (s9 l0 b0 n1 b1) (vs := [v0, v1]) (by simp only [RVL]; exact ⟨_, _, rfl, r0, _, _, rfl, r1, rfl⟩) hG).mono fun e W' ⟨he, hb⟩ => ?_
  subst he
  refine ⟨_, rfl, law_shut hW' hb rfl (fun _ _ _ => trodAll_mk1 (shut_bool Tryz.underlying4 true)) (fun sp hsp => ?_) rfl (ok_one (by kernel_rfl) rfl (okWide_bool_mk Tryz.underlying4 true))⟩
  exact trodAll_mk2 (arg_stays Tryz.laidOut rr27 lt27 h0 hb (fun x hx => hlt x (by simp [hx])) (sp := sp) (fun x hx => hsp x (by simp [hx])))
    (arg_stays Tryz.laidOut rr3 lt3 h1 hb (fun x hx => hlt x (by simp [hx])) (sp := sp) (fun x hx => hsp x (by simp [hx])))

theorem machineWrites_func : Tryz.prog.funcNamed "quadrupole/quadrupolelaw09.MachineWrites" = some 9 := by kernel_rfl
theorem machineWrites_k10 : (Rows.machineWritesRow.inPlace == Tryz.prog.inPlace 9) = true := by kernel_rfl
theorem machineWrites_k11 : (Rows.machineWritesRow.unfollowed == Tryz.prog.unfollowed 9) = true := by kernel_rfl
theorem machineWrites_k12 : (Rows.machineWritesRow.recurses == Tryz.prog.recurses 9) = true := by kernel_rfl
theorem machineWrites_k13 : (Rows.machineWritesRow.named == Tryz.prog.varsNamed 9) = true := by kernel_rfl
theorem machineWrites_closed : joinedFacts Tryz.prog 9 Tryz.f9 Rows.machineWritesSpec Rows.machineWritesRow = true :=
  joined_of (by kernel_rfl) (by kernel_rfl) (by kernel_rfl) rfl rfl machineWrites_k10 machineWrites_k11 machineWrites_k12 machineWrites_k13 (by kernel_rfl) Tryz.keysE rfl Tryz.lifts Tryz.made (by kernel_rfl)
theorem machineWrites_goes : false = Rows.machineWritesRow.goesBy Tryz.prog := by kernel_rfl
theorem machineWrites_row : Rows.MachineWritesSaid :=
  OpenClaim.holds_of_wide 9 Tryz.f9 rfl rfl rfl rfl rfl rfl rfl ⟨rfl, rfl, rfl, rfl, rfl⟩ rfl rfl rfl rfl rfl machineWrites_func Tryz.func9 machineWrites_closed
    (of_decide_eq_true (by kernel_rfl)) (by unfold Func.isWrapper; rw [if_neg (of_decide_eq_false (by kernel_rfl))]; exact ⟨rfl, rfl⟩)
    (fun os started H enc _ => machineWrites_lifted os started H enc)

theorem machineWrites_holds : Rows.MachineWritesCardSaid :=
  Claim7.holds_tied_plain_at .later [] [.data, .data, .data, .data, .handle, .sentinel, .sentinel, .pinned] true (true, "aa03d57e40d7f46a321b7a338959e31570b187a828c7cad4885241d6f19c00d7") true
    machineWrites_row (fun _ h => by cases h) (by kernel_rfl) (fun _ h => by cases h) machineWrites_row_tie rfl ⟨rfl, rfl⟩ Tryz.mainE rfl
    (fun f fn hf hfn => by
      obtain rfl : f = 9 := Option.some.inj (machineWrites_func.symm.trans hf) |>.symm
      obtain rfl : fn = Tryz.f9 := (Option.some.inj (Tryz.func9.symm.trans hfn)).symm
      refine ⟨Tryz.looksE, fun j t ht => ?_⟩
      rw [Tryz.params9] at ht
      have h3 := Array.mem_of_getElem? ht
      simp only [List.mem_toArray, List.mem_cons, List.not_mem_nil, or_false] at h3
      rcases h3 with rfl | rfl
      · exact Tryz.st27
      · exact Tryz.st3)
    machineWrites_goes
end Go.Proofs.YtndniceeibflcaaGreatDoor
