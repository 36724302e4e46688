/-
  Parts of several texts in one: MpA, MtS, MtB, MtC, MtF.
-/
import Derived.Lib.Split
import Derived.Lib.ItoaNum
import Derived.Lib.AtoiAll
import Derived.Test.YtndniceeibflcaaGreatDoorProg
import Derived.WalkKit
import Derived.Lib.ConvBytes
import Derived.LaidEql
import Derived.Lib.LaidTab
import Derived.KernelRfl
import GoSem.Claims
import GoSem.ClaimJoined
import Derived.Orders
import Derived.Laws.StructEq
import Derived.Maps.Keyed
import Derived.Lib.Strings
import Derived.Maps.AppendAt
import Derived.Laws.Concat
import Derived.MapKept
import Derived.Laws.MakeOwn
import Derived.Scope
import Derived.Laws.BitsLemmas
import Derived.Maps.RangeRun
import Derived.StillTail
import Derived.OrdersIn
import Derived.TacticsIn
import Derived.RangeFuncRecord
import Derived.RangeFuncCalls
import Derived.RangeFuncSeq
import Derived.Shelf.LaysM
import Derived.Shelf.LaysC
import Derived.Shelf.Strconv.Itoa3
import Derived.Shelf.Strconv.AtoiAll
import Derived.Shelf.Strings.Search3
import Derived.Shelf.Strings.Cut
import Derived.Shelf.Strings.Prefix
import Derived.Shelf.Strings.Split
import Derived.Lib.AppendIntMem
import Derived.Test.YtndniceeibflcaaGreatDoorKaa
import Derived.Test.YtndniceeibflcaaGreatDoorKac
import Derived.Test.YtndniceeibflcaaGreatDoorKad
import Derived.Test.YtndniceeibflcaaGreatDoorKae
import Derived.Test.YtndniceeibflcaaGreatDoorKag
import Derived.Test.YtndniceeibflcaaGreatDoorKai
set_option linter.unusedSimpArgs false
set_option linter.unusedVariables false
namespace Go.Proofs.YtndniceeibflcaaGreatDoor
namespace Aw
end Aw
namespace Mp
end Mp
end Go.Proofs.YtndniceeibflcaaGreatDoor
namespace Go.Proofs.YtndniceeibflcaaGreatDoor
namespace Mp
open Go
set_option linter.unusedSimpArgs false

/-- what is read of a log. -/
def okLine (b : Int) (log : By) : Bool :=
  (cutB 10 log).2.2 && (cutB 32 (cutB 10 log).1).2.2 && ordB (cutB 32 (cutB 10 log).1).2.1 && (Lib.itoa (sumB b (cutB 32 (cutB 10 log).1).2.1) == (cutB 32 (cutB 10 log).1).1)
def ordOf (log : By) : By := (cutB 32 (cutB 10 log).1).2.1
def restOf (log : By) : By := (cutB 10 log).2.1
def rd : Nat → Int → By → List By × By
  | 0, _, log => ([], log)
  | k + 1, b, log => if okLine b log = true then (ordOf log :: (rd k (sumB b (ordOf log)) (restOf log)).1, (rd k (sumB b (ordOf log)) (restOf log)).2) else ([], log)

theorem rd_succ (k : Nat) (b : Int) (log : By) : rd (k + 1) b log = if okLine b log = true then (ordOf log :: (rd k (sumB b (ordOf log)) (restOf log)).1, (rd k (sumB b (ordOf log)) (restOf log)).2) else ([], log) := rfl
theorem okLine_split {b : Int} {log : By} (h : okLine b log = true) : ordB (ordOf log) = true ∧ log = lineB (sumB b (ordOf log)) (ordOf log) ++ restOf log := by
  unfold okLine at h
  simp only [Bool.and_eq_true, beq_iff_eq] at h
  obtain ⟨⟨⟨h1, h2⟩, h3⟩, h4⟩ := h
  refine ⟨h3, ?_⟩
  obtain ⟨e1, _⟩ := cutB_yes 10 log h1
  obtain ⟨e2, _⟩ := cutB_yes 32 _ h2
  unfold lineB ordOf restOf
  rw [h4]
  conv => lhs; rw [e1]; rw [e2]
  simp
end Mp
end Go.Proofs.YtndniceeibflcaaGreatDoor

namespace Go.Proofs.YtndniceeibflcaaGreatDoor
open Go.Shelf
open Go.RowKit Go.Sort Go.Lib in
open Go.RowKit Go.Sort Go.Lib in
open Go.RowKit in
open Go.RowKit in
open Go.RowKit in
def Tryz.lays144_ren : Go.Shelf.Ren := ⟨fun | 144 => 90 | 143 => 125 | 219 => 124 | 217 => 159 | 225 => 160 | 224 => 161 | 267 => 162 | 266 => 191 | 314 => 192 | n => n, fun | 9 => 9 | 4 => 4 | 3 => 3 | 5 => 5 | 46 => 46 | 146 => 243 | 51 => 99 | n => n, fun | 1 => 1 | n => n⟩
theorem Tryz.lays144 : Go.Proofs.Lays.n144 Tryz.prog Tryz.lays144_ren := {
  mixed := by kernel_rfl
  f143 := Tryz.func125.trans (congrArg some (by kernel_rfl))
  f144 := Tryz.func90.trans (congrArg some (by kernel_rfl))
  f217 := Tryz.func159.trans (congrArg some (by kernel_rfl))
  f219 := Tryz.func124.trans (congrArg some (by kernel_rfl))
  f224 := Tryz.func161.trans (congrArg some (by kernel_rfl))
  f225 := Tryz.func160.trans (congrArg some (by kernel_rfl))
  f266 := Tryz.func191.trans (congrArg some (by kernel_rfl))
  f267 := Tryz.func162.trans (congrArg some (by kernel_rfl))
  f314 := Tryz.func192.trans (congrArg some (by kernel_rfl))
  t3 := Tryz.underlying3
  a3 := Tryz.isAgg3
  z3 := Tryz.sizeOf3
  v3 := Tryz.zeroValue3
  t4 := Tryz.underlying4
  a4 := Tryz.isAgg4
  z4 := Tryz.sizeOf4
  v4 := Tryz.zeroValue4
  t5 := Tryz.underlying5
  a5 := Tryz.isAgg5
  z5 := Tryz.sizeOf5
  v5 := Tryz.zeroValue5
  t9 := Tryz.underlying9
  a9 := Tryz.isAgg9
  z9 := Tryz.sizeOf9
  v9 := Tryz.zeroValue9
  t46 := Tryz.underlying46
  a46 := Tryz.isAgg46
  z46 := Tryz.sizeOf46
  v46 := Tryz.zeroValue46
  t51 := Tryz.underlying99
  a51 := Tryz.isAgg99
  z51 := Tryz.sizeOf99
  v51 := Tryz.zeroValue99
  t146 := Tryz.underlying243
  a146 := Tryz.isAgg243
  z146 := Tryz.sizeOf243
  v146 := Tryz.zeroValue243
  g1 := by kernel_rfl }
open Go.RowKit Go.Lib in
theorem Tryz.strings_Contains_one (s : ByteArray) (c : UInt8) (w : World) :
    Calls Tryz.prog 90 #[.string s, .string ⟨#[c]⟩] w fun e w' => e = .returned (.bool (decide (0 ≤ Lib.indexByte s.data.toList c))) ∧ w' = w := Any.strings_Contains_one Tryz.lays144 s c w
end Go.Proofs.YtndniceeibflcaaGreatDoor

namespace Go.Proofs.YtndniceeibflcaaGreatDoor
open Aw Mp Go.RowKit
set_option linter.unusedSimpArgs false

theorem indexByte_pos (c : UInt8) : ∀ l : By, decide (0 ≤ Lib.indexByte l c) = l.contains c
  | [] => rfl
  | b :: l => by
    have ih := indexByte_pos c l
    have hge := Lib.indexByte_ge l c
    unfold Lib.indexByte
    by_cases hb : b = c
    · subst hb; simp
    · have h1 : (b == c) = false := by simp [hb]
      have h2 : (c == b) = false := by simp [Ne.symm hb]
      rw [List.contains_cons, h2, Bool.false_or, ← ih, h1]
      simp only [Bool.false_eq_true, if_false]
      split
      · rename_i h; rw [beq_iff_eq] at h; rw [h]
      · rename_i h
        have : Lib.indexByte l c ≠ -1 := by simpa using h
        congr 1
        exact propext ⟨fun _ => by omega, fun _ => by omega⟩

theorem ok90 : okFn Tryz.prog 90 = true := by kernel_rfl
theorem s90 (l : By) (c : UInt8) : ASpec Tryz.prog 90 [S l, S [c]] (fun r Ms => r = B (l.contains c) ∧ Ms = []) := by
  refine aspec_cl ok90 ?_
  intro w vs A hG hA hv
  simp only [RVL, RV] at hv
  obtain ⟨_, _, rfl, rfl, _, _, rfl, rfl, rfl⟩ := hv
  refine (Tryz.strings_Contains_one ⟨l.toArray⟩ c w).mono ?_
  rintro e w' ⟨rfl, rfl⟩
  exact ⟨_, _, rfl, ⟨rfl, rfl⟩, Below.refl _ _, fun T _ => by simp only [RV]; rw [← indexByte_pos]⟩

end Go.Proofs.YtndniceeibflcaaGreatDoor

namespace Go.Proofs.YtndniceeibflcaaGreatDoor
open Aw Mp Go.RowKit
set_option linter.unusedSimpArgs false

theorem ok63 : okFn Tryz.prog 63 = true := by kernel_rfl
theorem s63 (l : By) : ASpec Tryz.prog 63 [S l] (fun r Ms => r = B (ordB l) ∧ Ms = []) := by
  refine aspec_of (own := []) Tryz.func63 rfl ok63 ?_
  simp only [wB, awp, binC, cmpC, asI, asN, lenA, St.ev, St.step, setS, killS, AV.kill, AV.killL, Mem.kill, Nat.reduceAdd, Nat.reduceSub, Int.reduceAdd, Int.reduceSub, lenK, Tryz.ntmps63]
  by_cases h1 : (1 : Int) ≤ l.length
  · simp only [wB, binC, cmpC, asB, asI, lenA, St.ev, St.step, setS, killS, AV.kill, AV.killL, Mem.kill, lenK, decide_eq_true h1]
    by_cases h2 : (l.length : Int) ≤ 30
    · simp only [wB, St.ev, St.step, setS, killS, AV.kill, AV.killL, Mem.kill, decide_eq_true h2]
      refine acall_v (s90 l 10) rfl rfl ?_
      simp only [wB, awp, asB, asN, St.ev, St.step, setS, killS, AV.kill, AV.killL, Mem.kill]
      refine aend_frz rfl ⟨?_, rfl⟩
      have e1 : decide (1 ≤ l.length) = true := decide_eq_true (by omega)
      have e2 : decide (l.length ≤ 30) = true := decide_eq_true (by omega)
      simp only [ordB, e1, e2, Bool.true_and]
      rfl
    · simp only [wB, awp, asB, asN, St.ev, St.step, setS, killS, AV.kill, AV.killL, Mem.kill, decide_eq_false h2]
      refine aend_frz rfl ⟨?_, rfl⟩
      have e2 : decide (l.length ≤ 30) = false := decide_eq_false (by omega)
      simp only [ordB, e2, Bool.and_false, Bool.false_and]
      rfl
  · simp only [wB, awp, asB, asN, St.ev, St.step, setS, killS, AV.kill, AV.killL, Mem.kill, decide_eq_false h1]
    refine aend_frz rfl ⟨?_, rfl⟩
    have e2 : decide (1 ≤ l.length) = false := decide_eq_false (by omega)
    simp only [ordB, e2, Bool.false_and]
    rfl

end Go.Proofs.YtndniceeibflcaaGreatDoor

namespace Go.Proofs.YtndniceeibflcaaGreatDoor
open Aw Mp Go.RowKit
set_option linter.unusedSimpArgs false

theorem rd_stop {k : Nat} {b : Int} {log : By} (h : okLine b log = false) : rd k b log = ([], log) := by
  cases k with
  | zero => rfl
  | succ k => rw [rd_succ, if_neg (by rw [h]; simp)]
theorem rest_len {b : Int} {log : By} (h : okLine b log = true) : (restOf log).length ≤ log.length := by
  have := (okLine_split h).2
  conv => rhs; rw [this]
  simp

theorem ok19 : okFn Tryz.prog 19 = true := by kernel_rfl
theorem s19 (L : By) (hL : L.length ≤ 1000000) : ASpec Tryz.prog 19 [S L] (fun r Ms => r = .t [.s 1 (strsA (rd 100 0 L).1), S (rd 100 0 L).2] ∧ Ms = []) := by
  refine aspec_of (own := [4]) Tryz.func19 rfl ok19 ?_
  simp only [wB, awp, asN, Aw.newRow, St.ev, St.step, setS, killS, AV.kill, AV.killL, Mem.kill, Nat.reduceAdd, Nat.reduceEqDiff, Nat.reduceSub, Int.reduceAdd, Int.reduceSub, Tryz.ntmps19]
  refine swp_loop' (fun s : List By × Int × By => ⟨[S s.2.2, .bot, .bot, .bot, .o 0, I s.2.1, .bot, .bot, .bot, .bot, .bot, .bot, .bot, .bot, .bot, .bot, .bot, .bot, .bot, .bot, .bot, .bot, .bot, .bot, .bot, .bot, .bot, .bot, .bot, .bot, .bot, .bot, .bot, .bot, .bot, .bot, .bot, .bot, .bot, .bot, .bot, .bot, .bot, .bot, .bot, .bot, .bot, .bot, .bot, .bot, .bot, .bot, .bot, .bot, .bot, .bot], [some ⟨none, 9, 1, strsA s.1⟩]⟩) (fun s => s.1.length ≤ 100 ∧ rd 100 0 L = (s.1 ++ (rd (100 - s.1.length) s.2.1 s.2.2).1, (rd (100 - s.1.length) s.2.1 s.2.2).2) ∧ s.2.2.length ≤ L.length) (fun s => 100 - s.1.length) ([], 0, L) (le_sl (by simp [leSl])) ⟨by simp, by simp, Nat.le_refl _⟩ ?_
  rintro ⟨p, b, log⟩ ⟨hp, hrd, hlog⟩
  simp only at hp hrd hlog
  have hc1 : (cutB 10 log).1.length ≤ log.length := by
    cases h : (cutB 10 log).2.2 with
    | true => obtain ⟨e, _⟩ := cutB_yes 10 log h; conv => rhs; rw [e]
              simp
    | false => rw [(cutB_no 10 log h).1]; exact Nat.le_refl _
  have hc2 : (cutB 32 (cutB 10 log).1).2.1.length ≤ (cutB 10 log).1.length := by
    cases h : (cutB 32 (cutB 10 log).1).2.2 with
    | true => obtain ⟨e, _⟩ := cutB_yes 32 _ h; conv => rhs; rw [e]
              simp; omega
    | false => rw [(cutB_no 32 _ h).2.1]; simp
  have hsum := sumB_lim b (cutB 32 (cutB 10 log).1).2.1
  have stop : okLine b log = false → rd 100 0 L = (p, log) := fun h => by rw [hrd, rd_stop h]; simp
  refine awp_sound (own := [4]) _ _ _ _ _ ?_
  simp only [wB, awp, binC, cmpC, asB, asI, lenA, St.ev, St.step, setS, killS, AV.kill, AV.killL, Mem.kill, Nat.reduceAdd, Nat.reduceEqDiff, Int.reduceAdd, lenK, strsA_len]
  by_cases h : (p.length : Int) < 100
  case neg =>
    simp only [wB, awp, asN, St.ev, St.step, setS, killS, AV.kill, AV.killL, Mem.kill, Nat.reduceAdd, Nat.reduceEqDiff, Int.reduceAdd, decide_eq_false h]
    have e : 100 - p.length = 0 := by omega
    rw [e] at hrd
    refine aend_frz rfl ⟨?_, rfl⟩
    rw [hrd]
    simp [frz, AV.sub, AV.subL, strsA_pure, rd]
  simp only [wB, awp, St.ev, St.step, setS, killS, AV.kill, AV.killL, Mem.kill, Nat.reduceAdd, Nat.reduceEqDiff, Int.reduceAdd, decide_eq_true h]
  refine acall_v (s62 log 10 (by omega)) rfl rfl ?_
  simp only [wB, awp, asT, asN, St.ev, St.step, setS, killS, AV.kill, AV.killL, Mem.kill, Nat.reduceAdd, Nat.reduceEqDiff, Int.reduceAdd]
  refine acall_v (s62 (cutB 10 log).1 32 (by omega)) rfl rfl ?_
  simp only [wB, awp, asT, asN, St.ev, St.step, setS, killS, AV.kill, AV.killL, Mem.kill, Nat.reduceAdd, Nat.reduceEqDiff, Int.reduceAdd]
  refine acall_v (s28 b _ (by omega)) rfl rfl ?_
  cases h1 : (cutB 10 log).2.2 with
  | false =>
    simp only [wB, awp, asB, asN, St.ev, St.step, setS, killS, AV.kill, AV.killL, Mem.kill, Nat.reduceAdd, Nat.reduceEqDiff, Int.reduceAdd]
    refine aend_frz rfl ⟨?_, rfl⟩
    rw [stop (by simp [okLine, h1])]
    simp [frz, AV.sub, AV.subL, strsA_pure]
  | true =>
  cases h2 : (cutB 32 (cutB 10 log).1).2.2 with
  | false =>
    simp only [wB, awp, asB, asN, St.ev, St.step, setS, killS, AV.kill, AV.killL, Mem.kill, Nat.reduceAdd, Nat.reduceEqDiff, Int.reduceAdd]
    refine aend_frz rfl ⟨?_, rfl⟩
    rw [stop (by simp [okLine, h1, h2])]
    simp [frz, AV.sub, AV.subL, strsA_pure]
  | true =>
  simp only [wB, awp, asB, asN, St.ev, St.step, setS, killS, AV.kill, AV.killL, Mem.kill, Nat.reduceAdd, Nat.reduceEqDiff, Int.reduceAdd]
  refine acall_v (s63 _) rfl rfl ?_
  cases h3 : ordB (cutB 32 (cutB 10 log).1).2.1 with
  | false =>
    simp only [wB, awp, asB, asN, St.ev, St.step, setS, killS, AV.kill, AV.killL, Mem.kill, Nat.reduceAdd, Nat.reduceEqDiff, Int.reduceAdd]
    refine aend_frz rfl ⟨?_, rfl⟩
    rw [stop (by simp [okLine, h1, h2, h3])]
    simp [frz, AV.sub, AV.subL, strsA_pure]
  | true =>
  simp only [wB, asB, St.ev, St.step, setS, killS, AV.kill, AV.killL, Mem.kill]
  refine acall_v (s64 _ (by unfold lim; omega)) rfl rfl ?_
  by_cases h4 : Lib.itoa (sumB b (cutB 32 (cutB 10 log).1).2.1) = (cutB 32 (cutB 10 log).1).1
  · have hok : okLine b log = true := by simp [okLine, h1, h2, h3, h4]
    have hrl := rest_len hok
    simp only [wB, awp, binC, eqC, asO, asS, asG, asB, asI, asN, obA, St.ev, St.step, setS, killS, AV.kill, AV.killL, Mem.kill, AV.cells, AV.flat, AV.single, AV.cellular, AV.size, AV.pure, AV.pureL, Value.oneCell', Nat.reduceAdd, Nat.reduceEqDiff, Nat.reduceMul, Nat.reduceLeDiff, Int.reduceAdd, Int.reduceMul, asStr, strC, strsA_len, decide_eq_true h4]
    refine ⟨by decide, ⟨by decide, by omega⟩, (p ++ [ordOf log], sumB b (ordOf log), restOf log), ?_, ⟨by simp; omega, ?_, by simp only; omega⟩, by simp; omega⟩
    · rw [strsA_kill, strsA_app]
      exact le_sl (by simp [leSl, ordOf, restOf])
    · simp only [List.length_append, List.length_cons, List.length_nil]
      rw [hrd, show 100 - p.length = (100 - (p.length + (0 + 1))) + 1 by omega, rd_succ, if_pos hok]
      simp
  · simp only [wB, awp, binC, eqC, asG, asB, asI, asN, St.ev, St.step, setS, killS, AV.kill, AV.killL, Mem.kill, Nat.reduceAdd, Nat.reduceEqDiff, Int.reduceAdd, asStr, strC, decide_eq_false h4]
    refine aend_frz rfl ⟨?_, rfl⟩
    rw [stop (by simp [okLine, h1, h2, h3, h4])]
    simp [frz, AV.sub, AV.subL, strsA_pure]

end Go.Proofs.YtndniceeibflcaaGreatDoor
