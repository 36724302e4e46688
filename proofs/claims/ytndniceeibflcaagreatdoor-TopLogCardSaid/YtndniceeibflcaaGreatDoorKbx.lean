/-
  Parts of several texts in one: MtF, MxB.
-/
import Derived.Test.YtndniceeibflcaaGreatDoorProg
import Derived.WalkKit
import Derived.Lib.ConvBytes
import Derived.LaidEql
import Derived.Lib.ItoaNum
import Derived.Lib.LaidTab
import Derived.KernelRfl
import GoSem.Claims
import GoSem.ClaimJoined
import Derived.Orders
import Derived.Laws.StructEq
import Derived.Maps.Keyed
import Derived.Lib.Strings
import Derived.Maps.AppendAt
import Derived.Laws.Concat
import Derived.MapKept
import Derived.Laws.MakeOwn
import Derived.Scope
import Derived.Laws.BitsLemmas
import Derived.Maps.RangeRun
import Derived.StillTail
import Derived.OrdersIn
import Derived.TacticsIn
import Derived.RangeFuncRecord
import Derived.RangeFuncCalls
import Derived.RangeFuncSeq
import Derived.Lib.Split
import Derived.Lib.AtoiAll
import Derived.Shelf.LaysM
import Derived.Shelf.LaysC
import Derived.Shelf.Strconv.Itoa3
import Derived.Shelf.Strconv.AtoiAll
import Derived.Shelf.Strings.Search3
import Derived.Shelf.Strings.Cut
import Derived.Shelf.Strings.Prefix
import Derived.Shelf.Strings.Split
import Derived.Lib.AppendIntMem
import Derived.Stop.Asserts
import Derived.RowKitTokens
import Derived.Conc.MuLone
import Derived.Test.YtndniceeibflcaaGreatDoorKaa
import Derived.Test.YtndniceeibflcaaGreatDoorKac
import Derived.Test.YtndniceeibflcaaGreatDoorKad
import Derived.Test.YtndniceeibflcaaGreatDoorKae
import Derived.Test.YtndniceeibflcaaGreatDoorKag
import Derived.Test.YtndniceeibflcaaGreatDoorKav
import Derived.Test.YtndniceeibflcaaGreatDoorKaw
import Derived.Test.YtndniceeibflcaaGreatDoorKbm
set_option linter.unusedSimpArgs false
set_option linter.unusedVariables false
namespace Go.Proofs.YtndniceeibflcaaGreatDoor
namespace Aw
end Aw
namespace Mp
end Mp
end Go.Proofs.YtndniceeibflcaaGreatDoor
namespace Go.Proofs.YtndniceeibflcaaGreatDoor
open Aw Mp Go.RowKit
set_option linter.unusedSimpArgs false

/-- what 'Merge' answers. -/
def mgL (a b : By) (X Y : List By) : By × Int × Int :=
  match (List.range (min X.length Y.length)).find? (fun i => !decide (X[i]? = Y[i]?)) with
  | some i => ([], (i : Int), 7)
  | none => if X.length < Y.length then (b, (Y.length : Int), 0) else (a, (X.length : Int), 0)
def mgB (a b : By) : By × Int × Int := if (rd 100 0 a).2 ≠ [] ∨ (rd 100 0 b).2 ≠ [] then ([], 0, 10) else mgL a b (rd 100 0 a).1 (rd 100 0 b).1

theorem find_first {n : Nat} {q : Nat → Bool} {k : Nat} (hk : k < n) (h : q k = true) (hb : ∀ i, i < k → q i = false) : (List.range n).find? q = some k := by
  rw [List.find?_range_eq_some]
  exact ⟨h, by simpa using hk, fun i hi => by rw [hb i hi]; rfl⟩
theorem find_no {n : Nat} {q : Nat → Bool} (hb : ∀ i, i < n → q i = false) : (List.range n).find? q = none := by
  rw [List.find?_range_eq_none]
  intro i hi
  rw [hb i hi]; rfl

theorem ok25 : okFn Tryz.prog 25 = true := by kernel_rfl
theorem s25 (a b : By) (ha : a.length ≤ 1000000) (hb : b.length ≤ 1000000) : ASpec Tryz.prog 25 [S a, S b] (fun r Ms => r = .t [S (mgB a b).1, I (mgB a b).2.1, I (mgB a b).2.2] ∧ Ms = []) := by
  have hx := rd_len 100 0 a
  have hy := rd_len 100 0 b
  refine aspec_of (own := []) Tryz.func25 rfl ok25 ?_
  simp only [wB, awp, asN, St.ev, St.step, setS, killS, AV.kill, AV.killL, Mem.kill, Nat.reduceAdd, Nat.reduceSub, Int.reduceAdd, Int.reduceSub, Tryz.ntmps25]
  refine acall_v (s19 a ha) rfl (by simp [AV.pure, AV.pureL, strsA_pure]) ?_
  simp only [wB, awp, asT, asN, St.ev, St.step, setS, killS, AV.kill, AV.killL, Mem.kill, Nat.reduceAdd, Int.reduceAdd]
  refine acall_v (s19 b hb) rfl (by simp [AV.pure, AV.pureL, strsA_pure]) ?_
  simp only [wB, awp, binC, eqC, asT, asG, asB, asI, asN, St.ev, St.step, setS, killS, AV.kill, AV.killL, Mem.kill, Nat.reduceAdd, Int.reduceAdd, asStr, strC]
  by_cases h1 : (rd 100 0 a).2 = []
  case neg =>
    simp only [wB, awp, asB, asN, St.ev, St.step, setS, killS, AV.kill, AV.killL, Mem.kill, Nat.reduceAdd, Int.reduceAdd, decide_eq_false h1]
    exact aend_frz rfl ⟨by unfold mgB; rw [if_pos (.inl h1)]; rfl, rfl⟩
  simp only [wB, awp, binC, eqC, asG, asB, asI, St.ev, St.step, setS, killS, AV.kill, AV.killL, Mem.kill, asStr, strC, decide_eq_true h1]
  by_cases h2 : (rd 100 0 b).2 = []
  case neg =>
    simp only [wB, awp, asN, St.ev, St.step, setS, killS, AV.kill, AV.killL, Mem.kill, Nat.reduceAdd, Int.reduceAdd, decide_eq_false h2]
    exact aend_frz rfl ⟨by unfold mgB; rw [if_pos (.inr h2)]; rfl, rfl⟩
  simp only [wB, awp, lenA, minmaxA, St.ev, St.step, setS, killS, AV.kill, AV.killL, Mem.kill, Nat.reduceAdd, Int.reduceAdd, lenK, strsA_len, decide_eq_true h2]
  obtain ⟨X, hX⟩ : ∃ X, X = (rd 100 0 a).1 := ⟨_, rfl⟩
  obtain ⟨Y, hY⟩ : ∃ Y, Y = (rd 100 0 b).1 := ⟨_, rfl⟩
  have hm : mgB a b = mgL a b X Y := by
    unfold mgB
    rw [if_neg (by simp [h1, h2]), hX, hY]
  rw [← hX] at hx
  rw [← hY] at hy
  rw [← hX, ← hY]
  have hmin : min (X.length : Int) Y.length = ((min X.length Y.length : Nat) : Int) := by omega
  simp only [Bool.false_eq_true, if_false, hmin]
  refine swp_loop' (fun k : Nat => ⟨[S a, S b, .bot, .bot, .bot, .bot, .bot, .s 1 (strsA X), .bot, .s 1 (strsA Y), .bot, .bot, .bot, .bot, .bot, .bot, .bot, .bot, .bot, .bot, .bot, .bot, .bot, .bot, .bot, .bot, .bot, .bot, .bot, .bot, .bot, .bot, I (min X.length Y.length : Nat), I k, .bot, .bot, .bot, .bot, .bot, .bot, .bot, .bot, .bot, .bot, .bot, .bot, .bot, .bot, .bot, .bot, .bot, .bot, .bot, .bot, .bot, .bot, .bot, .bot], []⟩) (fun k => k ≤ min X.length Y.length ∧ ∀ i, i < k → X[i]? = Y[i]?) (fun k => min X.length Y.length - k) 0 (le_sl (by simp [leSl])) ⟨Nat.zero_le _, by simp⟩ ?_
  rintro k ⟨hk, hall⟩
  refine awp_sound (own := []) _ _ _ _ _ ?_
  simp only [wB, awp, binC, cmpC, asB, asI, St.ev, St.step, setS, killS, AV.kill, AV.killL, Mem.kill, Nat.reduceAdd, Int.reduceAdd]
  by_cases h : k < min X.length Y.length
  · have h' : (k : Int) < (min X.length Y.length : Nat) := by omega
    have k1 : k < X.length := by omega
    have k2 : k < Y.length := by omega
    simp only [wB, awp, asN, St.ev, St.step, setS, killS, AV.kill, AV.killL, Mem.kill, Nat.reduceAdd, Int.reduceAdd, decide_eq_true h']
    refine swp_draw (own := []) (.take 0 .plain [] (.take 1 .plain [] (.take 2 .reads [] (.take 3 .reads [] (.take 4 .plain [] (.take 5 .plain [] (.take 6 .reads [] (.take 7 .reads [] (.take 8 .plain [] (.done)))))))))) [⟨37, 128, 0, 0, true⟩, ⟨38, 2048, 0, 0, true⟩, ⟨39, 206158430208, 3, 0, true⟩, ⟨40, 274877906944, 4, 0, true⟩, ⟨41, 512, 0, 0, true⟩, ⟨42, 2048, 0, 0, true⟩, ⟨43, 3298534883328, 48, 0, true⟩, ⟨44, 4398046511104, 64, 0, true⟩, ⟨45, 9345848836096, 136, 0, true⟩] mo (by kernel_rfl) ?_
    simp only [wB, awp, binC, idxC, eqC, asP, asS, asG, asB, asI, loadA, St.ev, setS, AV.cells, AV.flat, AV.single, ASch, St.put, Md.mem, Md.need, asStr, strC, Int.toNat_natCast, aget_strs k1, aget_strs k2]
    refine ⟨by omega, by omega, ?_⟩
    by_cases he : X[k] = Y[k]
    · simp only [wB, awp, binC, arithC, cmpC, asI, St.ev, St.step, setS, killS, AV.kill, AV.killL, Mem.kill, Nat.reduceAdd, Int.reduceAdd, St.put, isU, decide_eq_true he]
      refine ⟨by unfold lim; omega, k + 1, le_sl (by simp [leSl]), ⟨by omega, fun i hi => ?_⟩, by omega⟩
      rcases Nat.lt_or_ge i k with h3 | h3
      · exact hall i h3
      · obtain rfl : i = k := by omega
        rw [List.getElem?_eq_getElem k1, List.getElem?_eq_getElem k2, he]
    · simp only [wB, awp, asN, St.ev, St.step, setS, killS, AV.kill, AV.killL, Mem.kill, Nat.reduceAdd, Int.reduceAdd, St.put, decide_eq_false he]
      refine aend_frz rfl ⟨?_, rfl⟩
      rw [hm, mgL, find_first h (by rw [List.getElem?_eq_getElem k1, List.getElem?_eq_getElem k2]; simpa using he) (fun i hi => by rw [hall i hi]; simp)]
      rfl
  · have h' : ¬ (k : Int) < (min X.length Y.length : Nat) := by omega
    have hno : (List.range (min X.length Y.length)).find? (fun i => !decide (X[i]? = Y[i]?)) = none := find_no fun i hi => by rw [hall i (by omega)]; simp
    rw [mgL, hno] at hm
    simp only at hm
    simp only [wB, awp, binC, cmpC, asB, asI, lenA, St.ev, St.step, setS, killS, AV.kill, AV.killL, Mem.kill, Nat.reduceAdd, Int.reduceAdd, lenK, strsA_len, decide_eq_false h']
    by_cases hl : (X.length : Int) < Y.length
    · simp only [wB, awp, asN, lenA, St.ev, St.step, setS, killS, AV.kill, AV.killL, Mem.kill, Nat.reduceAdd, Int.reduceAdd, lenK, strsA_len, decide_eq_true hl]
      exact aend_frz rfl ⟨by rw [hm, if_pos (by omega)]; rfl, rfl⟩
    · simp only [wB, awp, asN, lenA, St.ev, St.step, setS, killS, AV.kill, AV.killL, Mem.kill, Nat.reduceAdd, Int.reduceAdd, lenK, strsA_len, decide_eq_false hl]
      exact aend_frz rfl ⟨by rw [hm, if_neg (by omega)]; rfl, rfl⟩

end Go.Proofs.YtndniceeibflcaaGreatDoor

namespace Go.Proofs.YtndniceeibflcaaGreatDoor
open Aw Mp Go.RowKit
set_option linter.unusedSimpArgs false
set_option maxRecDepth 8000

theorem find_flip (X Y : List By) : ((List.range (min X.length Y.length)).find? fun i => !decide (X[i]? = Y[i]?)) = ((List.range (min Y.length X.length)).find? fun i => !decide (Y[i]? = X[i]?)) := by
  rw [Nat.min_comm]
  congr 1
  funext i
  congr 1
  exact decide_eq_decide.2 ⟨Eq.symm, Eq.symm⟩
/-- both orders of two logs are merged alike. -/
theorem mg_flip (a b : By) : mgB b a = mgB a b := by
  unfold mgB
  by_cases h : (rd 100 0 a).2 ≠ [] ∨ (rd 100 0 b).2 ≠ []
  · rw [if_pos h, if_pos h.symm]
  rw [if_neg h, if_neg (fun g => h g.symm)]
  have ha : (rd 100 0 a).2 = [] := Classical.byContradiction fun g => h (.inl g)
  have hb : (rd 100 0 b).2 = [] := Classical.byContradiction fun g => h (.inr g)
  have ea := rd_lg 100 0 a
  have eb := rd_lg 100 0 b
  rw [ha, List.append_nil] at ea
  rw [hb, List.append_nil] at eb
  generalize (rd 100 0 a).1 = X at *
  generalize (rd 100 0 b).1 = Y at *
  unfold mgL
  rw [find_flip Y X]
  cases hf : (List.range (min X.length Y.length)).find? (fun i => !decide (X[i]? = Y[i]?)) with
  | some i => rfl
  | none =>
    simp only
    rcases Nat.lt_trichotomy X.length Y.length with h1 | h1 | h1
    · rw [if_pos h1, if_neg (by omega)]
    · rw [if_neg (by omega), if_neg (by omega)]
      have : X = Y := by
        rw [List.find?_range_eq_none] at hf
        apply List.ext_getElem?
        intro i
        rcases Nat.lt_or_ge i X.length with hi | hi
        · have := hf i (by omega)
          simpa using this
        · rw [List.getElem?_eq_none hi, List.getElem?_eq_none (by omega)]
      subst this
      rw [← ea, ← eb]
    · rw [if_pos h1, if_neg (by omega)]
end Go.Proofs.YtndniceeibflcaaGreatDoor
