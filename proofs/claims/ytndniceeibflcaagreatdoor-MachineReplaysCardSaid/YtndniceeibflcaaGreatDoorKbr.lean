/-
  Parts of several texts in one: MtD.
-/
import Derived.Test.YtndniceeibflcaaGreatDoorProg
import Derived.WalkKit
import Derived.Lib.ConvBytes
import Derived.LaidEql
import Derived.Lib.ItoaNum
import Derived.Lib.LaidTab
import Derived.KernelRfl
import GoSem.Claims
import GoSem.ClaimJoined
import Derived.Orders
import Derived.Laws.StructEq
import Derived.Maps.Keyed
import Derived.Lib.Strings
import Derived.Maps.AppendAt
import Derived.Laws.Concat
import Derived.MapKept
import Derived.Laws.MakeOwn
import Derived.Scope
import Derived.Laws.BitsLemmas
import Derived.Maps.RangeRun
import Derived.StillTail
import Derived.OrdersIn
import Derived.TacticsIn
import Derived.RangeFuncRecord
import Derived.RangeFuncCalls
import Derived.RangeFuncSeq
import Derived.Lib.Split
import Derived.Lib.AtoiAll
import Derived.Shelf.LaysM
import Derived.Shelf.LaysC
import Derived.Shelf.Strconv.Itoa3
import Derived.Shelf.Strconv.AtoiAll
import Derived.Shelf.Strings.Search3
import Derived.Shelf.Strings.Cut
import Derived.Shelf.Strings.Prefix
import Derived.Shelf.Strings.Split
import Derived.Lib.AppendIntMem
import Derived.Test.YtndniceeibflcaaGreatDoorKaa
import Derived.Test.YtndniceeibflcaaGreatDoorKac
import Derived.Test.YtndniceeibflcaaGreatDoorKad
import Derived.Test.YtndniceeibflcaaGreatDoorKae
import Derived.Test.YtndniceeibflcaaGreatDoorKag
import Derived.Test.YtndniceeibflcaaGreatDoorKai
import Derived.Test.YtndniceeibflcaaGreatDoorKbi
import Derived.Test.YtndniceeibflcaaGreatDoorKbq
set_option linter.unusedSimpArgs false
set_option linter.unusedVariables false
namespace Go.Proofs.YtndniceeibflcaaGreatDoor
namespace Aw
end Aw
namespace Mp
end Mp
end Go.Proofs.YtndniceeibflcaaGreatDoor
namespace Go.Proofs.YtndniceeibflcaaGreatDoor
open Aw Mp Go.RowKit
set_option linter.unusedSimpArgs false

theorem sumL_take {l : List By} {k : Nat} (h : k < l.length) : sumL 0 (l.take (k + 1)) = sumB (sumL 0 (l.take k)) l[k] := by
  rw [List.take_add_one, List.getElem?_eq_getElem h]
  simp only [Option.toList_some]
  unfold sumL
  rw [List.foldl_append]
  rfl
theorem lg_take {l : List By} {k : Nat} (h : k < l.length) : lg 0 (l.take (k + 1)) = lg 0 (l.take k) ++ lineB (sumB (sumL 0 (l.take k)) l[k]) l[k] := by
  rw [List.take_add_one, List.getElem?_eq_getElem h]
  simp only [Option.toList_some]
  rw [lg_app]
  simp [lg]
theorem ok36 : okFn Tryz.prog 36 = true := by kernel_rfl
theorem s36 (l : List By) (hl : l.length ≤ 10000) (ho : ∀ o ∈ l, ordB o = true) : ASpec Tryz.prog 36 [.s 1 (strsA l)] (fun r Ms => r = S (lg 0 l) ∧ Ms = []) := by
  refine aspec_of (own := []) Tryz.func36 rfl ok36 ?_
  simp only [wB, awp, asN, St.ev, St.step, setS, killS, AV.kill, AV.killL, Mem.kill, Nat.reduceAdd, Nat.reduceSub, Int.reduceAdd, Int.reduceSub, Tryz.ntmps36]
  refine swp_loop' (fun k : Nat => ⟨[.s 1 (strsA l), .bot, .bot, S (lg 0 (l.take k)), I (sumL 0 (l.take k)), I k, .bot, .bot, .bot, .bot, .bot, .bot, .bot, .bot, .bot, .bot, .bot, .bot, .bot, .bot, .bot, .bot, .bot, .bot, .bot, .bot, .bot, .bot, .bot, .bot], []⟩) (fun k => k ≤ l.length) (fun k => l.length - k) 0 (le_sl (by simp [leSl, lg, sumL])) (Nat.zero_le _) ?_
  intro k hk
  refine awp_sound (own := []) _ _ _ _ _ ?_
  simp only [wB, awp, binC, cmpC, asB, asI, lenA, St.ev, St.step, setS, killS, AV.kill, AV.killL, Mem.kill, Nat.reduceAdd, Int.reduceAdd, lenK, strsA_len]
  by_cases h : k < l.length
  · have h' : (k : Int) < l.length := by omega
    have hok := ho _ (List.getElem_mem h)
    obtain ⟨_, h30, _⟩ := (ordB_iff _).1 hok
    have hs := sumB_lim (sumL 0 (l.take k)) l[k]
    obtain ⟨n, hn⟩ : ∃ n : Nat, (n : Int) = sumB (sumL 0 (l.take k)) l[k] := ⟨(sumB (sumL 0 (l.take k)) l[k]).toNat, by omega⟩
    have hsz := lg_size (l.take k) 0 (fun o h => ho o (List.mem_of_mem_take h))
    rw [List.length_take] at hsz
    have hdl := dec_len (u := n) (by omega)
    simp only [wB, awp, idxC, asP, asS, asI, loadA, St.ev, St.step, setS, killS, AV.kill, AV.killL, Mem.kill, AV.cells, AV.flat, AV.single, Nat.reduceAdd, Int.reduceAdd, decide_eq_true h', Int.toNat_natCast, aget_strs h]
    refine ⟨by omega, acall_v (s32 _ _ (by omega)) rfl rfl ?_⟩
    simp only [wB, awp, asN, St.ev, St.step, setS, killS, AV.kill, AV.killL, Mem.kill, ← hn]
    refine swp_draw (own := []) (.take 0 .plain [] (.take 1 .plain [] (.take 5 .plain [] (.take 6 .plain [] (.take 7 .reads [] (.take 8 .reads [] (.alt 2 (.take 3 .plain [] (.take 4 .plain [] (.take 9 .plain [] (.take 10 .plain [] (.take 11 .plain [] (.done)))))) (.nil)))))))) [⟨19, 8, 0, 0, true⟩, ⟨20, 16, 0, 0, true⟩, ⟨21, 524288, 2, 0, false⟩, ⟨22, 1310720, 5, 0, true⟩, ⟨23, 2097152, 8, 0, true⟩, ⟨24, 1, 0, 0, true⟩, ⟨25, 32, 0, 0, true⟩, ⟨26, 25165824, 96, 0, true⟩, ⟨27, 33554432, 128, 0, true⟩, ⟨28, 71303168, 272, 0, true⟩, ⟨29, 134217728, 512, 0, true⟩, ⟨4, 268435456, 2047, 0, true⟩] mo (by kernel_rfl) ?_
    simp only [wB, idxC, asP, asS, asI, loadA, St.ev, setS, AV.cells, AV.flat, AV.single, ASch, St.put, Md.mem, Md.need, Int.toNat_natCast, aget_strs h]
    refine ⟨by omega, acall_v (s83 n (by omega)) rfl rfl ?_⟩
    simp only [wB, awp, binC, arithC, cmpC, eqC, asG, asB, asI, asN, St.ev, St.step, setS, killS, AV.kill, AV.killL, Mem.kill, Nat.reduceAdd, Nat.reduceLeDiff, Int.reduceAdd, ASch, St.put, Md.mem, Md.need, isU, asStr, strC]
    refine ⟨by omega, by omega, by omega, by omega, by unfold lim; omega, k + 1, ?_, by omega, by omega⟩
    rw [lg_take h, sumL_take h, ← hn]
    simp only [lineB, itoa_nat]
    exact le_sl (by simp [leSl])
  · have h' : ¬ (k : Int) < l.length := by omega
    simp only [wB, awp, asN, St.ev, St.step, setS, killS, AV.kill, AV.killL, Mem.kill, Nat.reduceAdd, Int.reduceAdd, decide_eq_false h']
    refine aend_frz rfl ⟨?_, rfl⟩
    rw [List.take_of_length_le (by omega)]
    rfl
end Go.Proofs.YtndniceeibflcaaGreatDoor
