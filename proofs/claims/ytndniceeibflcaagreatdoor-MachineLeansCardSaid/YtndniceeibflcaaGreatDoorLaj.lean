/-
  Parts of several texts in one: MrC, MrD, MrE, MrF, MrG, MrH, MrI, MrJ.
-/
import Derived.Test.YtndniceeibflcaaGreatDoorProg
import Derived.WalkKit
import Derived.Lib.ConvBytes
import Derived.LaidEql
import Derived.Lib.ItoaNum
import Derived.Lib.LaidTab
import Derived.KernelRfl
import GoSem.Claims
import GoSem.ClaimJoined
import Derived.Orders
import Derived.Laws.StructEq
import Derived.Maps.Keyed
import Derived.Lib.Strings
import Derived.Maps.AppendAt
import Derived.Laws.Concat
import Derived.MapKept
import Derived.Laws.MakeOwn
import Derived.Scope
import Derived.Laws.BitsLemmas
import Derived.Maps.RangeRun
import Derived.StillTail
import Derived.OrdersIn
import Derived.TacticsIn
import Derived.RangeFuncRecord
import Derived.RangeFuncCalls
import Derived.RangeFuncSeq
import Derived.Lib.Split
import Derived.Lib.AtoiAll
import Derived.Shelf.LaysM
import Derived.Shelf.LaysC
import Derived.Shelf.Strconv.Itoa3
import Derived.Shelf.Strconv.AtoiAll
import Derived.Shelf.Strings.Search3
import Derived.Shelf.Strings.Cut
import Derived.Shelf.Strings.Prefix
import Derived.Shelf.Strings.Split
import Derived.Lib.AppendIntMem
import Derived.Test.YtndniceeibflcaaGreatDoorLaa
import Derived.Test.YtndniceeibflcaaGreatDoorLab
import Derived.Test.YtndniceeibflcaaGreatDoorLac
import Derived.Test.YtndniceeibflcaaGreatDoorLad
import Derived.Test.YtndniceeibflcaaGreatDoorLae
import Derived.Test.YtndniceeibflcaaGreatDoorLag
import Derived.Test.YtndniceeibflcaaGreatDoorLah
import Derived.Test.YtndniceeibflcaaGreatDoorLai
set_option linter.unusedSimpArgs false
set_option linter.unusedVariables false
namespace Go.Proofs.YtndniceeibflcaaGreatDoor
namespace Aw
end Aw
namespace Mp
end Mp
end Go.Proofs.YtndniceeibflcaaGreatDoor
namespace Go.Proofs.YtndniceeibflcaaGreatDoor
open Aw Mp Go.RowKit
set_option linter.unusedSimpArgs false

theorem s146 (l : List Int) (hp : 0 < l.length) (hl : l.length ≤ 100000) : ASpec Tryz.prog 146 [.s 1 (intsA l)] (fun r Ms => r = I (minP (l.getD 0 0) l) ∧ Ms = []) := by
  refine aspec_of (own := []) Tryz.func146 rfl ok146 ?_
  simp only [wB, awp, binC, cmpC, asB, asI, asN, lenA, St.ev, St.step, setS, killS, AV.kill, AV.killL, Mem.kill, Nat.reduceAdd, Nat.reduceSub, Int.reduceAdd, Int.reduceSub, lenK, Tryz.ntmps146]
  have h0 : ¬ ((l.length : Nat) : Int) < 1 := by omega
  have hg : l.getD 0 0 = l[0] := by rw [List.getD_eq_getElem?_getD, List.getElem?_eq_getElem hp]; rfl
  have h1 : minP l[0] (l.take 1) = l[0] := by
    cases l with
    | nil => simp at hp
    | cons a r => simp [minP]
  rw [hg]
  simp only [wB, awp, idxC, asP, asS, asI, asN, loadA, St.ev, St.step, setS, killS, AV.kill, AV.killL, Mem.kill, AV.cells, AV.flat, AV.single, Nat.reduceAdd, Int.reduceAdd, Int.reduceLE, decide_eq_false h0, aget_ints hp]
  refine swp_loop' (fun m : Nat => ⟨[.s 1 (intsA l), .bot, .bot, I (minP l[0] (l.take m)), I m, .bot, .bot, .bot, .bot, .bot, .bot, .bot, .bot, .bot, .bot, .bot, .bot, .bot, .bot, .bot, .bot, .bot, .bot, .bot, .bot], []⟩) (fun m => 1 ≤ m ∧ m ≤ l.length) (fun m => l.length - m) 1 (le_sl (by simp [leSl, h1])) ⟨Nat.le_refl _, hp⟩ ?_
  rintro m ⟨hm1, hm⟩
  refine awp_sound (own := []) _ _ _ _ _ ?_
  simp only [wB, awp, binC, cmpC, asB, asI, lenA, St.ev, St.step, setS, killS, AV.kill, AV.killL, Mem.kill, Nat.reduceAdd, Int.reduceAdd, lenK]
  by_cases h : m < l.length
  · have h' : (m : Int) < (l.length : Int) := by omega
    simp only [wB, awp, binC, idxC, arithC, cmpC, asP, asS, asI, asN, minmaxA, loadA, St.ev, St.step, setS, killS, AV.kill, AV.killL, Mem.kill, AV.cells, AV.flat, AV.single, Nat.reduceAdd, Int.reduceAdd, isU, decide_eq_true h', aget_ints h, Int.toNat_natCast, ← minP_take h]
    exact ⟨by omega, by unfold lim; omega, m + 1, le_sl (by simp [leSl]), ⟨by omega, h⟩, by omega⟩
  · have h' : ¬ (m : Int) < (l.length : Int) := by omega
    simp only [wB, awp, asN, St.ev, St.step, setS, killS, AV.kill, AV.killL, Mem.kill, Nat.reduceAdd, Int.reduceAdd, decide_eq_false h']
    refine aend_frz rfl ⟨?_, rfl⟩
    rw [List.take_of_length_le (by omega)]
    rfl

theorem ok147 : okFn Tryz.prog 147 = true := by kernel_rfl
theorem s147 (l : List Int) (hp : 0 < l.length) (hl : l.length ≤ 100000) : ASpec Tryz.prog 147 [.s 1 (intsA l)] (fun r Ms => r = I (maxP (l.getD 0 0) l) ∧ Ms = []) := by
  refine aspec_of (own := []) Tryz.func147 rfl ok147 ?_
  simp only [wB, awp, binC, cmpC, asB, asI, asN, lenA, St.ev, St.step, setS, killS, AV.kill, AV.killL, Mem.kill, Nat.reduceAdd, Nat.reduceSub, Int.reduceAdd, Int.reduceSub, lenK, Tryz.ntmps147]
  have h0 : ¬ ((l.length : Nat) : Int) < 1 := by omega
  have hg : l.getD 0 0 = l[0] := by rw [List.getD_eq_getElem?_getD, List.getElem?_eq_getElem hp]; rfl
  have h1 : maxP l[0] (l.take 1) = l[0] := by
    cases l with
    | nil => simp at hp
    | cons a r => simp [maxP]
  rw [hg]
  simp only [wB, awp, idxC, asP, asS, asI, asN, loadA, St.ev, St.step, setS, killS, AV.kill, AV.killL, Mem.kill, AV.cells, AV.flat, AV.single, Nat.reduceAdd, Int.reduceAdd, Int.reduceLE, decide_eq_false h0, aget_ints hp]
  refine swp_loop' (fun m : Nat => ⟨[.s 1 (intsA l), .bot, .bot, I (maxP l[0] (l.take m)), I m, .bot, .bot, .bot, .bot, .bot, .bot, .bot, .bot, .bot, .bot, .bot, .bot, .bot, .bot, .bot, .bot, .bot, .bot, .bot, .bot], []⟩) (fun m => 1 ≤ m ∧ m ≤ l.length) (fun m => l.length - m) 1 (le_sl (by simp [leSl, h1])) ⟨Nat.le_refl _, hp⟩ ?_
  rintro m ⟨hm1, hm⟩
  refine awp_sound (own := []) _ _ _ _ _ ?_
  simp only [wB, awp, binC, cmpC, asB, asI, lenA, St.ev, St.step, setS, killS, AV.kill, AV.killL, Mem.kill, Nat.reduceAdd, Int.reduceAdd, lenK]
  by_cases h : m < l.length
  · have h' : (m : Int) < (l.length : Int) := by omega
    simp only [wB, awp, binC, idxC, arithC, cmpC, asP, asS, asI, asN, minmaxA, loadA, St.ev, St.step, setS, killS, AV.kill, AV.killL, Mem.kill, AV.cells, AV.flat, AV.single, Nat.reduceAdd, Int.reduceAdd, isU, decide_eq_true h', aget_ints h, Int.toNat_natCast, ← maxP_take h]
    exact ⟨by omega, by unfold lim; omega, m + 1, le_sl (by simp [leSl]), ⟨by omega, h⟩, by omega⟩
  · have h' : ¬ (m : Int) < (l.length : Int) := by omega
    simp only [wB, awp, asN, St.ev, St.step, setS, killS, AV.kill, AV.killL, Mem.kill, Nat.reduceAdd, Int.reduceAdd, decide_eq_false h']
    refine aend_frz rfl ⟨?_, rfl⟩
    rw [List.take_of_length_le (by omega)]
    rfl

/-- the error of the first rule that is broken. -/
def rlA (l : List (Bool × Int)) : List AV := l.map fun r => .g [B r.1, I r.2]
def fstE (l : List (Bool × Int)) : AV := match l.find? (·.1) with | some r => errV r.2 | none => .v .nilIface
theorem rlA_len (l : List (Bool × Int)) : (rlA l).length = l.length := by simp [rlA]
theorem aget_rl {l : List (Bool × Int)} {j : Nat} (h : j < l.length) (K : HK (AV → Prop)) : @AGet (rlA l) j K = K.k (.g [B l[j].1, I l[j].2]) := by simp [AGet, rlA, h]
theorem find_skip {l : List (Bool × Int)} {m : Nat} (hno : ∀ j, j < m → ∀ h : j < l.length, l[j].1 = false) (h : m < l.length) (hb : l[m].1 = true) : l.find? (·.1) = some l[m] := by
  rw [List.find?_eq_some_iff_getElem]
  exact ⟨hb, m, h, rfl, fun j hj => by rw [hno j hj (by omega)]; rfl⟩
theorem find_end {l : List (Bool × Int)} (hno : ∀ j, ∀ h : j < l.length, l[j].1 = false) : l.find? (·.1) = none := by
  rw [List.find?_eq_none]
  intro x hx
  obtain ⟨j, hj, rfl⟩ := List.mem_iff_getElem.1 hx
  rw [hno j hj]
  simp
theorem ok101 : okFn Tryz.prog 101 = true := by kernel_rfl
theorem s101 (l : List (Bool × Int)) (hl : l.length ≤ 100000) : ASpec Tryz.prog 101 [.s 2 (rlA l)] (fun r Ms => r = fstE l ∧ Ms = []) := by
  refine aspec_of (own := [4]) Tryz.func101 rfl ok101 ?_
  simp only [wB, awp, asN, lenA, St.ev, St.step, setS, killS, AV.kill, AV.killL, Mem.kill, Nat.reduceAdd, Nat.reduceEqDiff, Nat.reduceSub, Int.reduceAdd, Int.reduceSub, lenK, Tryz.ntmps101, rlA_len]
  refine swp_loop' (fun m : Nat => ⟨[.s 2 (rlA l), .bot, .bot, .bot, .bot, .s 2 (rlA l), I l.length, I m, .bot, .bot, .bot, .bot, .bot, .bot, .bot, .bot, .bot, .bot], []⟩) (fun m => m ≤ l.length ∧ ∀ j, j < m → ∀ h : j < l.length, l[j].1 = false) (fun m => l.length - m) 0 (le_sl (by simp [leSl])) ⟨Nat.zero_le _, fun j h => absurd h (Nat.not_lt_zero _)⟩ ?_
  rintro m ⟨hm, hno⟩
  refine awp_sound (own := [4]) _ _ _ _ _ ?_
  simp only [wB, awp, binC, cmpC, asB, asI, St.ev, St.step, setS, killS, AV.kill, AV.killL, Mem.kill, Nat.reduceAdd, Nat.reduceEqDiff, Int.reduceAdd]
  by_cases h : m < l.length
  · have h' : (m : Int) < (l.length : Int) := by omega
    simp only [wB, awp, idxC, asP, asQ, asS, asB, asI, obA, loadA, storeA, putsA, mkA, Aw.newRow, St.ev, St.step, setS, killS, AV.kill, AV.killL, Mem.kill, AV.cells, AV.flat, AV.single, AV.cellular, Nat.reduceAdd, Nat.reduceEqDiff, Nat.reduceLeDiff, Int.reduceAdd, decide_eq_true h', aget_rl h, Int.toNat_natCast]
    refine ⟨by omega, ?_⟩
    cases hb : l[m].1 with
    | true =>
      simp only [wB, awp, asP, asQ, asN, obA, loadA, fillA, putsA, St.ev, St.step, setS, killS, AV.kill, AV.killL, Mem.kill, AV.cells, AV.flat, AV.single, AV.cellular, Value.oneCell', Nat.reduceAdd, Nat.reduceEqDiff, Nat.reduceLeDiff, Int.reduceAdd, Aw.valOf, Aw.valsOf, cc139]
      refine aend_frz rfl ⟨?_, rfl⟩
      unfold fstE
      rw [find_skip hno h hb]
      rfl
    | false =>
      simp only [wB, awp, binC, arithC, cmpC, asI, St.ev, St.step, setS, killS, AV.kill, AV.killL, Mem.kill, Nat.reduceAdd, Nat.reduceEqDiff, Int.reduceAdd, isU]
      exact ⟨by unfold lim; omega, m + 1, le_all (by simp [leSl]) rfl, ⟨h, upto hno fun _ => hb⟩, by omega⟩
  · have h' : ¬ (m : Int) < (l.length : Int) := by omega
    simp only [wB, awp, asN, St.ev, St.step, setS, killS, AV.kill, AV.killL, Mem.kill, Nat.reduceAdd, Nat.reduceEqDiff, Int.reduceAdd, decide_eq_false h']
    refine aend_frz rfl ⟨?_, rfl⟩
    unfold fstE
    rw [find_end fun j hj => hno j (by omega) hj]
    rfl
end Go.Proofs.YtndniceeibflcaaGreatDoor

namespace Go.Proofs.YtndniceeibflcaaGreatDoor
open Aw Mp Go.RowKit
set_option linter.unusedSimpArgs false
set_option maxRecDepth 8000

theorem subL_pure (F : Nat → AV) (G : Nat → Nat → Nat → Nat → AV) : ∀ {l : List AV}, AV.pureL l = true → AV.subL F G l = l
  | [], _ => rfl
  | x :: l, h => by
    simp only [AV.pureL, Bool.and_eq_true] at h
    simp only [AV.subL, AV.sub_pure F G x h.1, subL_pure F G h.2]
theorem intsA_sub (F : Nat → AV) (G : Nat → Nat → Nat → Nat → AV) (l : List Int) : AV.subL F G (intsA l) = intsA l := subL_pure F G (intsA_pure l)
theorem gtsA_sub (F : Nat → AV) (G : Nat → Nat → Nat → Nat → AV) (l : List G4) : AV.subL F G (gtsA l) = gtsA l := subL_pure F G (gtsA_pure l)
theorem prsA_sub (F : Nat → AV) (G : Nat → Nat → Nat → Nat → AV) (l : List (Int × Int)) : AV.subL F G (prsA l) = prsA l := subL_pure F G (prsA_pure l)
theorem strsA_sub (F : Nat → AV) (G : Nat → Nat → Nat → Nat → AV) (l : List By) : AV.subL F G (strsA l) = strsA l := subL_pure F G (strsA_pure l)
theorem intsA_free (Z : List Nat) (l : List Int) : AV.freeL Z (intsA l) = true := freeL_pure Z (intsA_pure l)
theorem gtsA_free (Z : List Nat) (l : List G4) : AV.freeL Z (gtsA l) = true := freeL_pure Z (gtsA_pure l)
theorem prsA_free (Z : List Nat) (l : List (Int × Int)) : AV.freeL Z (prsA l) = true := freeL_pure Z (prsA_pure l)
theorem strsA_free (Z : List Nat) (l : List By) : AV.freeL Z (strsA l) = true := freeL_pure Z (strsA_pure l)

theorem intsA_set' (l : List Int) (i : Nat) (x : Int) : (intsA l).set i (I x) = intsA (l.set i x) := by simp [intsA, List.map_set]

/-- a state, its rows frozen; a state whose rows are objects. -/
def stA (s : MS) : AV := .g [.s 1 (intsA s.place), .s 1 (intsA s.heats), .s 4 (gtsA s.circ), I s.moves, I s.cools, I s.done]
def stO' (i j k : Nat) (s : MS) : AV := .g [.o i, .o j, .o k, I s.moves, I s.cools, I s.done]
def rowP (l : List Int) : Ob := ⟨none, 3, 1, intsA l⟩
def rowC (l : List G4) : Ob := ⟨none, 81, 4, gtsA l⟩

theorem ok72 : okFn Tryz.prog 72 = true := by kernel_rfl
theorem s72 (s : MS) (h1 : s.place.length ≤ 1000) (h2 : s.heats.length ≤ 1000) (h3 : s.circ.length ≤ 1000) : ASpec Tryz.prog 72 [stA s] (fun r Ms => r = stO' 0 1 2 s ∧ Ms = [rowP s.place, rowP s.heats, rowC s.circ]) := by
  refine aspec_of (own := [1, 2]) Tryz.func72 rfl ok72 ?_
  simp only [wB, awp, mkA, Aw.newRow, St.ev, St.step, setS, killS, AV.kill, AV.killL, Mem.kill, AV.cellular, AV.size, AV.sizeL, Nat.reduceAdd, Nat.reduceEqDiff, Nat.reduceSub, Int.reduceAdd, Int.reduceSub, Tryz.ntmps72, stA]
  refine swp_draw (own := [1, 2]) (.take 0 .plain [] (.take 1 .reads [] (.take 3 .plain [] (.take 4 .reads [] (.take 6 .plain [] (.take 7 .reads [] (.alt 2 (.take 9 .plain [] (.alt 5 (.alt 8 (.alt 10 (.take 11 .plain [] (.alt 12 (.take 13 .plain [] (.alt 14 (.done) (.nil))) (.nil))) (.nil)) (.nil)) (.nil))) (.nil)))))))) [⟨4, 2, 0, 0, true⟩, ⟨5, 8, 1, 0, true⟩, ⟨6, 16, 2, 0, false⟩, ⟨7, 2, 0, 0, true⟩, ⟨8, 64, 8, 0, true⟩, ⟨9, 128, 20, 0, false⟩, ⟨10, 2, 0, 0, true⟩, ⟨11, 512, 64, 0, true⟩, ⟨12, 1024, 160, 0, false⟩, ⟨13, 2, 223, 0, true⟩, ⟨0, 4128, 991, 1, false⟩, ⟨14, 2, 1791, 0, true⟩, ⟨0, 8448, 3839, 1, false⟩, ⟨15, 2, 8191, 0, true⟩, ⟨0, 18432, 16383, 1, false⟩] mo (by kernel_rfl) ?_
  simp only [wB, asP, asQ, obA, loadA, St.ev, setS, AV.cells, AV.flat, AV.single, Nat.reduceAdd, Nat.reduceEqDiff, Nat.reduceLeDiff, Int.reduceAdd, ASch, St.put, Md.mem, Md.need]
  refine acall_o (s99 s.place (by omega)) (by simp [AV.pureL, AV.pure, intsA_pure]) (intsA_pure _) ?_
  simp only [wB, asP, asQ, St.ev, St.step, setS, killS, AV.kill, AV.killL, Mem.kill, Nat.reduceAdd, Nat.reduceEqDiff, Int.reduceAdd, ASch, St.put, Md.mem, Md.need, AV.up, AV.sub]
  refine acall_o (s99 s.heats (by omega)) (by simp [AV.pureL, AV.pure, intsA_pure]) (intsA_pure _) ?_
  simp only [wB, St.ev, St.step, setS, killS, AV.kill, AV.killL, Mem.kill, Nat.reduceAdd, Int.reduceAdd, ASch, AV.up, AV.sub]
  refine acall_o (s100 s.circ (by omega)) (by simp [AV.pureL, AV.pure, gtsA_pure]) (gtsA_pure _) ?_
  simp only [wB, awp, asP, asQ, obA, loadA, storeA, putsA, St.ev, St.step, setS, killS, AV.kill, AV.killL, Mem.kill, AV.cells, AV.flat, AV.single, AV.cellular, Nat.reduceAdd, Nat.reduceEqDiff, Nat.reduceLeDiff, Int.reduceAdd, ASch, St.put, Md.mem, Md.need, AV.up, AV.sub]
  exact aend_ren [2, 3, 4] (by decide) [rowP s.place, rowP s.heats, rowC s.circ] rfl (by simp [reM, intsA_sub, gtsA_sub, rowP, rowC]) ⟨rfl, rfl⟩

theorem ok104 : okFn Tryz.prog 104 = true := by kernel_rfl
/-- the memory of a state that is worked on. -/
def memS (s : MS) : Mem := [none, none, none, none, some (rowP s.place), some (rowP s.heats), some (rowC s.circ), some ⟨none, 105, 6, [stO' 4 5 6 s]⟩]
theorem m104 (s : MS) (i : Nat) (hi : i < s.heats.length) (n : Int) (hn : 0 ≤ n ∧ n ≤ 1000) (hh : ∀ h ∈ s.heats, 0 ≤ h ∧ h ≤ 1000) : MSpec Tryz.prog 104 [.q 7 6 0 0, I i, I n] (memS s) (fun r N => r = .t [] ∧ N = memS { s with heats := bump s.heats i n }) := by
  refine mspec_of2 (own := []) Tryz.func104 rfl ok104 ?_
  intro vs
  simp only [awp, List.length_cons, List.length_nil, List.replicate_succ, List.replicate_zero, List.cons_append, List.nil_append, Nat.zero_add, Nat.reduceAdd, Nat.reduceSub, Int.reduceAdd, Int.reduceSub, Tryz.ntmps104, memS, stO', rowP, rowC]
  have hl : s.heats[i] ∈ s.heats := List.getElem_mem hi
  have hh' := hh _ hl
  have hg : s.heats.getD i 0 = s.heats[i] := by rw [List.getD_eq_getElem?_getD, List.getElem?_eq_getElem hi]; rfl
  refine swp_draw (own := []) (.take 0 .plain [] (.take 1 .plain [] (.take 2 .plain [] (.take 3 .reads [] (.take 4 .plain [] (.take 5 .plain [] (.take 6 .plain [] (.take 7 .plain [] (.take 8 .reads [] (.take 9 .plain [] (.take 10 .reads [] (.take 11 .reads [] (.take 12 .plain [] (.take 13 .plain [] (.take 14 .reads [] (.take 15 .reads [] (.alt 16 (.done) (.nil)))))))))))))))))) [⟨7, 1, 0, 0, true⟩, ⟨8, 64, 1, 0, true⟩, ⟨9, 128, 2, 0, true⟩, ⟨10, 256, 4, 0, true⟩, ⟨11, 2, 0, 0, true⟩, ⟨12, 1, 0, 0, true⟩, ⟨13, 2048, 32, 0, true⟩, ⟨14, 4096, 64, 0, true⟩, ⟨15, 8192, 128, 0, true⟩, ⟨16, 2, 0, 0, true⟩, ⟨17, 49152, 768, 0, true⟩, ⟨18, 65536, 1024, 0, true⟩, ⟨19, 4, 0, 0, true⟩, ⟨20, 393216, 6144, 0, true⟩, ⟨21, 524288, 8192, 0, true⟩, ⟨22, 1536, 32767, 0, true⟩, ⟨0, 3145728, 65535, 1, false⟩] mo (by kernel_rfl) ?_
  simp only [wB, binC, idxC, arithC, cmpC, asP, asQ, asO, asS, asI, obA, minmaxA, loadA, storeA, putsA, St.ev, St.step, setS, killS, AV.kill, AV.killL, Mem.kill, AV.cells, AV.flat, AV.single, AV.cellular, Value.oneCell', Nat.reduceAdd, Nat.reduceEqDiff, Nat.reduceLeDiff, Int.reduceAdd, ASch, St.put, Md.mem, Md.need, isU, aget_ints hi, Int.toNat_natCast, intsA_set']
  refine ⟨⟨by omega, by omega⟩, by unfold lim; omega, ⟨by omega, by omega⟩, _, .t [], memS { s with heats := bump s.heats i n }, [], Le.refl _, rfl, ?_, rfl, rfl, ?_, ⟨rfl, rfl⟩⟩
  · simp only [memS, stO', rowP, rowC, bump, hg]
    rfl
  · simp [freeM, memS, stO', rowP, rowC, intsA_free, gtsA_free, AV.freeL, AV.free, Zr]
end Go.Proofs.YtndniceeibflcaaGreatDoor

namespace Go.Proofs.YtndniceeibflcaaGreatDoor
namespace Aw
open Go.RowKit
set_option linter.unusedSimpArgs false

def subM : Mem → Mem → Prop
  | [], _ => True
  | none :: M, _ :: Mc => subM M Mc
  | some ob :: M, c :: Mc => c = some ob ∧ subM M Mc
  | _ :: _, [] => False
theorem subM_get : ∀ (M Mc : Mem), subM M Mc → ∀ (i : Nat) (ob : Ob), M[i]? = some (some ob) → Mc[i]? = some (some ob)
  | [], _, _, i, ob, h => by simp at h
  | none :: M, [], hs, i, ob, h => hs.elim
  | some o :: M, [], hs, i, ob, h => hs.elim
  | none :: M, c :: Mc, hs, i, ob, h => by
    cases i with
    | zero => simp at h
    | succ i => exact subM_get M Mc hs i ob (by simpa using h)
  | some o :: M, c :: Mc, hs, i, ob, h => by
    cases i with
    | zero => simp at h; subst h; rw [hs.1]; rfl
    | succ i => exact subM_get M Mc hs.2 i ob (by simpa using h)
def lvL (M : Mem) : List Bool := M.map Option.isSome
theorem lvL_eq {M M' : Mem} (h : lvL M' = lvL M) (i : Nat) : liveI M' i = liveI M i := by
  have : (M'[i]?).map Option.isSome = (M[i]?).map Option.isSome := by
    have := congrArg (fun l => l[i]?) h
    simpa [lvL] using this
  unfold liveI
  cases h1 : M'[i]? with
  | none => rw [h1] at this; cases h2 : M[i]? with
    | none => rfl
    | some o => rw [h2] at this; cases this
  | some o1 => rw [h1] at this; cases h2 : M[i]? with
    | none => rw [h2] at this; cases this
    | some o2 =>
      rw [h2] at this
      simp only [Option.map_some, Option.some.injEq] at this
      cases o1 <;> cases o2 <;> simp_all
def deadL (M : Mem) (n : Nat) : List Nat := (List.range n).filter fun i => !liveI M i
theorem mem_deadL {M : Mem} {n i : Nat} (hi : i < n) (h : liveI M i = false) : i ∈ deadL M n := by
  unfold deadL
  rw [List.mem_filter]
  exact ⟨List.mem_range.2 hi, by rw [h]; rfl⟩
/-- the memory behind a call, object by object. -/
def combR (F : Nat → AV) (G : Nat → Nat → Nat → Nat → AV) : Mem → Mem → Mem → Mem
  | _, [], _ => []
  | some _ :: M, _ :: Mc, c :: M' => c :: combR F G M Mc M'
  | some _ :: M, _ :: Mc, [] => none :: combR F G M Mc []
  | none :: M, c :: Mc, M' => (c.map fun ob => { ob with xs := AV.subL F G ob.xs }) :: combR F G M Mc (M'.drop 1)
  | [], c :: Mc, M' => (c.map fun ob => { ob with xs := AV.subL F G ob.xs }) :: combR F G [] Mc (M'.drop 1)
theorem combR_get (F : Nat → AV) (G : Nat → Nat → Nat → Nat → AV) : ∀ (M Mc M' : Mem) (i : Nat), i < Mc.length → (combR F G M Mc M')[i]? = some (if liveI M i = true then (M'[i]?).getD none else ((Mc[i]?).getD none).map fun ob => { ob with xs := AV.subL F G ob.xs })
  | _, [], _, i, hi => by simp at hi
  | some o :: M, c :: Mc, c' :: M', i, hi => by
    cases i with
    | zero => rfl
    | succ i =>
      have := combR_get F G M Mc M' i (by simpa using hi)
      simp only [combR, List.getElem?_cons_succ]
      rw [this]
      rfl
  | some o :: M, c :: Mc, [], i, hi => by
    cases i with
    | zero => rfl
    | succ i =>
      have := combR_get F G M Mc [] i (by simpa using hi)
      simp only [combR, List.getElem?_cons_succ]
      rw [this]
      rfl
  | none :: M, c :: Mc, M', i, hi => by
    cases i with
    | zero => simp [combR, liveI]
    | succ i =>
      have := combR_get F G M Mc (M'.drop 1) i (by simpa using hi)
      rw [List.getElem?_drop, Nat.add_comm 1 i] at this
      simp only [combR, List.getElem?_cons_succ]
      rw [this]
      rfl
  | [], c :: Mc, M', i, hi => by
    cases i with
    | zero => simp [combR, liveI]
    | succ i =>
      have := combR_get F G [] Mc (M'.drop 1) i (by simpa using hi)
      rw [List.getElem?_drop, Nat.add_comm 1 i] at this
      simp only [combR, List.getElem?_cons_succ]
      rw [this]
      rfl
theorem combR_len (F : Nat → AV) (G : Nat → Nat → Nat → Nat → AV) : ∀ (M Mc M' : Mem), (combR F G M Mc M').length = Mc.length
  | _, [], _ => by simp [combR]
  | some o :: M, c :: Mc, c' :: M' => by simp only [combR, List.length_cons, combR_len F G M Mc M']
  | some o :: M, c :: Mc, [] => by simp only [combR, List.length_cons, combR_len F G M Mc []]
  | none :: M, c :: Mc, M' => by simp only [combR, List.length_cons, combR_len F G M Mc (M'.drop 1)]
  | [], c :: Mc, M' => by simp only [combR, List.length_cons, combR_len F G [] Mc (M'.drop 1)]
theorem combM_combR (M : Mem) (ars : List AV) (Mc M' : Mem) : combM M ars Mc M' = combR (keepF M ars) (keepG M ars) M Mc M' := by
  apply List.ext_getElem?
  intro i
  rcases Nat.lt_or_ge i Mc.length with hi | hi
  · rw [combM_at hi, combR_get _ _ M Mc M' i hi]
  · rw [List.getElem?_eq_none (by unfold combM; simpa using hi), List.getElem?_eq_none (by rw [combR_len]; exact hi)]
/-- a function is lent the objects of M out of Mc. -/
theorem fspec_of {P : Program} {f : FuncId} {ars : List AV} {M Mc M' N : Mem} {x : AV} (spec : MSpec P f ars M (fun r N => r = x ∧ N = M')) (Z : List Nat) (hl : lvL M' = lvL M) (hsub : subM M Mc) (hZ : deadL M Mc.length = Z) (hfa : AV.freeL Z ars = true) (hfm : freeM Z M = true)
    (hN : combR (keepF M ars) (keepG M ars) M Mc M' = N) : FSpec P f ars M Mc x N := by
  have := MSpec.frame spec (fun i hi => by rw [lvL_eq hl i]; exact hi) (Mc := Mc) (subM_get M Mc hsub) (Z := Z) (fun i hi hd => hZ ▸ mem_deadL hi hd) hfa hfm
  rw [combM_combR, hN] at this
  exact this
end Aw
end Go.Proofs.YtndniceeibflcaaGreatDoor

namespace Go.Proofs.YtndniceeibflcaaGreatDoor
open Aw Mp Go.RowKit
set_option linter.unusedSimpArgs false
set_option maxRecDepth 8000

/-- what a machine is made of besides what it is worked on: the lock's word, the zones, the limit, the links, the state, the log, the orders. -/
structure Mch where
  mu : Int
  n : Int
  lim : Int
  ls : List (Int × Int)
  st : MS
  log : By
  ords : List By
def Mch.cells (m : Mch) (L O : AV) : AV := .g [.v (.int .i32 m.mu), .v (.int .u32 0), I m.n, L, I m.lim, .s 1 (intsA m.st.place), .s 1 (intsA m.st.heats), .s 4 (gtsA m.st.circ), I m.st.moves, I m.st.cools, I m.st.done, O, S m.log]
def Mch.ob (m : Mch) : Ob := ⟨none, 107, 13, [m.cells (.s 2 (prsA m.ls)) (.o 2)]⟩
def Mch.od (m : Mch) : Ob := ⟨none, 9, 1, strsA m.ords⟩
def rowS (i j k : Nat) (s : MS) : Ob := ⟨none, 105, 6, [stO' i j k s]⟩
def memG (m : Mch) (t : MS) : Mem := [some m.ob, none, some m.od, none, some (rowP t.place), some (rowP t.heats), some (rowC t.circ), some (rowS 4 5 6 t)]

theorem ok145 : okFn Tryz.prog 145 = true := by kernel_rfl
theorem s145 (m : Mch) (t : MS) (z : Nat) (hz : z < t.heats.length) : ASpec Tryz.prog 145 [I z, .p (.p (stA t) 0) 0, .p (.p (m.cells (.s 2 (prsA m.ls)) (.s 1 (strsA m.ords))) 0) 0] (fun r Ms => r = B (decide (m.lim < t.heats.getD z 0)) ∧ Ms = []) := by
  refine aspec_of (own := []) Tryz.func145 rfl ok145 ?_
  have hg : t.heats.getD z 0 = t.heats[z] := by rw [List.getD_eq_getElem?_getD, List.getElem?_eq_getElem hz]; rfl
  simp only [wB, awp, asN, St.ev, St.step, setS, killS, AV.kill, AV.killL, Mem.kill, AV.cells, Nat.reduceAdd, Nat.reduceSub, Int.reduceAdd, Int.reduceSub, Tryz.ntmps145, stA, Mch.cells]
  refine swp_draw (own := []) (.take 0 .reads [] (.take 1 .plain [] (.take 2 .plain [] (.take 3 .reads [] (.take 4 .plain [] (.take 5 .reads [] (.take 6 .reads [] (.take 7 .reads [] (.take 8 .plain [] (.take 9 .plain [] (.take 10 .reads [] (.take 11 .plain [] (.take 12 .plain [] (.done)))))))))))))) [⟨6, 2, 0, 0, true⟩, ⟨7, 32, 1, 0, true⟩, ⟨8, 64, 2, 0, true⟩, ⟨9, 128, 4, 0, true⟩, ⟨10, 1, 0, 0, true⟩, ⟨11, 768, 24, 0, true⟩, ⟨12, 1024, 32, 0, true⟩, ⟨13, 4, 0, 0, true⟩, ⟨14, 4096, 128, 0, true⟩, ⟨15, 8192, 256, 0, true⟩, ⟨16, 16384, 512, 0, true⟩, ⟨17, 34816, 1088, 0, true⟩, ⟨5, 65536, 4095, 0, true⟩] mo (by kernel_rfl) ?_
  simp only [wB, awp, binC, idxC, cmpC, asP, asS, asI, asN, loadA, St.ev, setS, AV.cells, AV.flat, AV.single, Nat.reduceAdd, Nat.reduceEqDiff, Nat.reduceLeDiff, Int.reduceAdd, ASch, St.put, Md.mem, Md.need, aget_ints hz, Int.toNat_natCast, hg]
  exact ⟨by omega, aend_frz rfl ⟨rfl, rfl⟩⟩

/-- the error's value. -/
def erV (e : Int) : AV := if e = 0 then .v .nilIface else errV e
theorem fstE_pure (l : List (Bool × Int)) : (fstE l).pure = true := by unfold fstE; split <;> rfl
theorem fst4 (a b c d : Bool) : fstE [(a, 1), (b, 9), (c, 8), (d, 3)] = erV (if a then 1 else if b then 9 else if c then 8 else if d then 3 else 0) := by
  cases a <;> cases b <;> cases c <;> cases d <;> rfl

theorem free_G (k : Nat) (m : Mch) (t : MS) : freeM (Zr 8 k) (memG m t) = true := by
  have h : ∀ i, i < 8 → (Zr 8 k).contains i = false := fun i hi => by
    cases hc : (Zr 8 k).contains i with
    | false => rfl
    | true => have := mem_Zr.1 (List.contains_iff_mem.1 hc); omega
  simp [freeM, memG, Mch.ob, Mch.od, Mch.cells, rowP, rowC, rowS, stO', AV.freeL, AV.free, intsA_free, gtsA_free, prsA_free, strsA_free, -List.contains_eq_mem, h]
theorem m104i (s : MS) (x : Int) (hx : 0 ≤ x ∧ x < s.heats.length) (n : Int) (hn : 0 ≤ n ∧ n ≤ 1000) (hh : ∀ h ∈ s.heats, 0 ≤ h ∧ h ≤ 1000) : MSpec Tryz.prog 104 [.q 7 6 0 0, I x, I n] (memS s) (fun r N => r = .t [] ∧ N = memS { s with heats := bump s.heats x.toNat n }) := by
  have := m104 s x.toNat (by omega) n hn hh
  rwa [show ((x.toNat : Nat) : Int) = x by omega] at this
theorem free_S (Z : List Nat) (s : MS) (h : (Z.contains 4 || Z.contains 5 || Z.contains 6) = false) : freeM Z (memS s) = true := by
  simp only [Bool.or_eq_false_iff] at h
  simp [freeM, memS, rowP, rowC, stO', AV.freeL, AV.free, intsA_free, gtsA_free, -List.contains_eq_mem, h.1.1, h.1.2, h.2]
theorem ok105 : okFn Tryz.prog 105 = true := by kernel_rfl
/-- the state behind a gate of one ion. -/
def nx1 (t : MS) (k x y : Int) : MS := { t with circ := t.circ ++ [⟨k, x, -1, y⟩], heats := bump t.heats x.toNat 1, done := t.done + 1 }
theorem m105a (m : Mch) (t : MS) {c : Nat} (hI : InvS m.n c t) (hc : c ≤ 1000) (k x y : Int) (hx : 0 ≤ x ∧ x < t.place.length) :
    MSpec Tryz.prog 105 [.q 7 6 0 0, .q 0 13 0 0, I k, I 1, I y, .s 1 (intsA [x])] (memG m t) (fun r N => r = erV (er1 m.lim t x y) ∧ N = memG m (if er1 m.lim t x y = 0 then nx1 t k x y else t)) := by
  refine mspec_of2 (own := [6, 7, 19, 1018]) Tryz.func105 rfl ok105 ?_
  intro vs
  have hxl : x.toNat < t.heats.length := by rw [hI.hl]; omega
  have hxn : ((x.toNat : Nat) : Int) = x := by omega
  have e1 : ((1 : Nat) : Int) = 1 := rfl
  have hhe : t.heats.getD x.toNat 0 = t.heats[x.toNat] := by rw [List.getD_eq_getElem?_getD, List.getElem?_eq_getElem hxl]; rfl
  simp only [wB, awp, binC, cmpC, asB, asI, asN, lenA, Aw.newRow, St.ev, St.step, setS, killS, AV.kill, AV.killL, Mem.kill, AV.cells, AV.single, AV.cellular, AV.size, Value.oneCell', Nat.reduceAdd, Nat.reduceEqDiff, Nat.reduceSub, Int.reduceAdd, Int.reduceSub, Int.reduceEq, lenK, Tryz.ntmps105, memG, e1, Mch.ob, Mch.od, Mch.cells, rowP, rowC, rowS, stO', ghost]
  refine ⟨rfl, acall_ln 2 (s75 [x] (fun z => decide (m.lim < t.heats.getD z.toNat 0)) 145 [.p (.p (stA t) 0) 0, .p (.p (m.cells (.s 2 (prsA m.ls)) (.s 1 (strsA m.ords))) 0) 0] (by simp) rfl (fun z hz => ?_)) ?_ rfl rfl ?_⟩
  · obtain rfl : z = x := by simpa using hz
    rw [← hxn]
    exact s145 m t z.toNat hxl
  · simp [frzN, AV.sub, AV.subL, intsA_pure, gtsA_pure, strsA_pure, prsA_pure, stA, Mch.cells, frz]
  have hany : [x].any (fun z => decide (m.lim < t.heats.getD z.toNat 0)) = decide (m.lim < t.heats.getD x.toNat 0) := by simp
  simp only [wB, awp, asN, St.ev, St.step, setS, killS, AV.kill, AV.killL, Mem.kill, Nat.reduceEqDiff, hany]
  refine swp_draw (own := [6, 7, 19]) (.take 0 .plain [] (.take 1 .reads [] (.take 2 .plain [] (.take 3 .plain [] (.take 4 .plain [] (.take 5 .reads [] (.take 6 .reads [] (.take 7 .plain [] (.take 8 .reads [] (.take 9 .reads [] (.take 10 .plain [] (.take 11 .plain [] (.take 12 .plain [] (.done)))))))))))))) [⟨57, 32, 0, 0, true⟩, ⟨58, 72057594037927936, 1, 0, true⟩, ⟨59, 144115188075855872, 2, 0, true⟩, ⟨60, 288230376151711744, 4, 0, true⟩, ⟨61, 576460752303423520, 8, 0, true⟩, ⟨62, 1729382256910270464, 24, 0, true⟩, ⟨63, 2882303761517117440, 40, 0, true⟩, ⟨64, 576460752303423520, 8, 0, true⟩, ⟨65, 9799832789158199296, 136, 0, true⟩, ⟨66, 19023204826012975104, 264, 0, true⟩, ⟨67, 42081634918149914624, 584, 0, true⟩, ⟨68, 74363437047141629952, 1032, 0, true⟩, ⟨18, 147573952589676412928, 4095, 0, true⟩] mo (by kernel_rfl) ?_
  simp only [wB, awp, binC, cmpC, asB, asI, asN, lenA, St.ev, St.step, setS, killS, AV.kill, AV.killL, Mem.kill, Nat.reduceAdd, Nat.reduceEqDiff, Int.reduceAdd, Int.reduceEq, ASch, St.put, Md.mem, Md.need, lenK, e1]
  by_cases c1 : y < 1
  · simp only [wB, binC, cmpC, asP, asQ, asB, asI, obA, lenA, loadA, fillA, putsA, St.ev, St.step, setS, killS, AV.kill, AV.killL, Mem.kill, AV.cells, AV.flat, AV.single, AV.cellular, AV.size, AV.sizeL, AV.pure, AV.pureL, Value.oneCell', Nat.reduceAdd, Nat.reduceEqDiff, Nat.reduceMul, Nat.reduceLeDiff, Int.reduceAdd, Int.reduceMul, lenK, decide_eq_true c1, gtsA_len]
    refine ⟨⟨by decide, rfl⟩, acall_v (s101 [(true, 1), (false, 9), (decide (m.lim < t.heats.getD x.toNat 0), 8), (decide ((t.circ.length : Int) = 10), 3)] (Nat.le_of_ble_eq_true rfl)) rfl (fstE_pure _) ?_⟩
    have he : er1 m.lim t x y = 1 := by unfold er1; rw [if_pos (.inl c1)]
    simp only [wB, awp, binC, eqC, asG, asB, asI, asN, St.ev, St.step, setS, killS, AV.kill, AV.killL, Mem.kill, Nat.reduceAdd, Nat.reduceEqDiff, Int.reduceAdd, Int.reduceEq, isNI, ptrN, ifcN, asStr, nt114, fst4, erV, errV]
    exact ⟨_, _, memG m t, _, Le.refl _, rfl, rfl, rfl, rfl, free_G _ m t, by simp [he], by simp [he]⟩
  simp only [wB, binC, cmpC, asB, asI, St.ev, St.step, setS, killS, AV.kill, AV.killL, Mem.kill, decide_eq_false c1]
  by_cases c2 : 16 ≤ y
  · simp only [wB, binC, cmpC, asP, asQ, asB, asI, obA, lenA, loadA, fillA, putsA, St.ev, St.step, setS, killS, AV.kill, AV.killL, Mem.kill, AV.cells, AV.flat, AV.single, AV.cellular, AV.size, AV.sizeL, AV.pure, AV.pureL, Value.oneCell', Nat.reduceAdd, Nat.reduceEqDiff, Nat.reduceMul, Nat.reduceLeDiff, Int.reduceAdd, Int.reduceMul, lenK, decide_eq_true c2, gtsA_len]
    refine ⟨⟨by decide, rfl⟩, acall_v (s101 [(true, 1), (false, 9), (decide (m.lim < t.heats.getD x.toNat 0), 8), (decide ((t.circ.length : Int) = 10), 3)] (Nat.le_of_ble_eq_true rfl)) rfl (fstE_pure _) ?_⟩
    have he : er1 m.lim t x y = 1 := by unfold er1; rw [if_pos (.inr c2)]
    simp only [wB, awp, binC, eqC, asG, asB, asI, asN, St.ev, St.step, setS, killS, AV.kill, AV.killL, Mem.kill, Nat.reduceAdd, Nat.reduceEqDiff, Int.reduceAdd, Int.reduceEq, isNI, ptrN, ifcN, asStr, nt114, fst4, erV, errV]
    exact ⟨_, _, memG m t, _, Le.refl _, rfl, rfl, rfl, rfl, free_G _ m t, by simp [he], by simp [he]⟩
  simp only [wB, binC, cmpC, asP, asQ, asB, asI, obA, lenA, loadA, fillA, putsA, St.ev, St.step, setS, killS, AV.kill, AV.killL, Mem.kill, AV.cells, AV.flat, AV.single, AV.cellular, AV.size, AV.sizeL, AV.pure, AV.pureL, Value.oneCell', Nat.reduceAdd, Nat.reduceEqDiff, Nat.reduceMul, Nat.reduceLeDiff, Int.reduceAdd, Int.reduceMul, lenK, decide_eq_false c2, gtsA_len]
  refine ⟨⟨by decide, rfl⟩, acall_v (s101 [(false, 1), (false, 9), (decide (m.lim < t.heats.getD x.toNat 0), 8), (decide ((t.circ.length : Int) = 10), 3)] (Nat.le_of_ble_eq_true rfl)) rfl (fstE_pure _) ?_⟩
  have he : er1 m.lim t x y = if decide (m.lim < t.heats.getD x.toNat 0) = true then 8 else if decide ((t.circ.length : Int) = 10) = true then 3 else 0 := by
    unfold er1
    rw [if_neg (by omega)]
    have : (t.circ.length = 10) = ((t.circ.length : Int) = 10) := propext ⟨fun h => by omega, fun h => by omega⟩
    simp only [decide_eq_true_eq, this]
  simp only [fst4, Bool.false_eq_true, if_false]
  by_cases c3 : m.lim < t.heats.getD x.toNat 0
  · rw [decide_eq_true c3] at he
    simp only [wB, awp, binC, eqC, asG, asB, asI, asN, St.ev, St.step, setS, killS, AV.kill, AV.killL, Mem.kill, Nat.reduceAdd, Nat.reduceEqDiff, Int.reduceAdd, Int.reduceEq, isNI, ptrN, ifcN, asStr, nt114, decide_eq_true c3, erV, errV]
    exact ⟨_, _, memG m t, _, Le.refl _, rfl, rfl, rfl, rfl, free_G _ m t, by simp [he], by simp [he]⟩
  by_cases c4 : (t.circ.length : Int) = 10
  · rw [decide_eq_false c3, decide_eq_true c4] at he
    simp only [wB, awp, binC, eqC, asG, asB, asI, asN, St.ev, St.step, setS, killS, AV.kill, AV.killL, Mem.kill, Nat.reduceAdd, Nat.reduceEqDiff, Int.reduceAdd, Int.reduceEq, isNI, ptrN, ifcN, asStr, nt114, decide_eq_false c3, decide_eq_true c4, erV, errV]
    exact ⟨_, _, memG m t, _, Le.refl _, rfl, rfl, rfl, rfl, free_G _ m t, by simp [he], by simp [he]⟩
  rw [decide_eq_false c3, decide_eq_false c4] at he
  have he : er1 m.lim t x y = 0 := he
  simp only [wB, awp, binC, eqC, asG, asB, asI, asN, St.ev, St.step, setS, killS, AV.kill, AV.killL, Mem.kill, Nat.reduceAdd, Nat.reduceEqDiff, Int.reduceAdd, Int.reduceNeg, isNI, ptrN, ifcN, asStr, nt114, decide_eq_false c3, decide_eq_false c4, erV, errV]
  refine acall_v (s146 [x] (by simp) (by simp)) rfl rfl ?_
  rw [show minP ([x].getD 0 0) [x] = x by simp [minP]]
  simp only [wB, awp, binC, cmpC, asQ, asB, asI, obA, lenA, storeA, fillA, putsA, mkA, Aw.newRow, St.ev, St.step, setS, killS, AV.kill, AV.killL, Mem.kill, AV.cells, AV.flat, AV.single, AV.cellular, Value.oneCell', Nat.reduceAdd, Nat.reduceEqDiff, Nat.reduceLeDiff, Int.reduceAdd, Int.reduceNeg, Int.reduceEq, lenK, e1]
  obtain ⟨gh, hgh⟩ : ∃ gh, gh = some (ghost vs [AV.q 7 6 0 0, AV.q 0 13 0 0, I k, I 1, I y, AV.s 1 (intsA [x])]) := ⟨_, rfl⟩
  refine swp_to ⟨[.bot, .bot, .bot, I 1, .bot, .s 1 (intsA [x]), .q 9 1 0 0, .bot, .bot, .bot, .bot, .bot, .bot, .bot, .bot, .bot, .bot, .bot, .bot, .bot, .bot, .bot, .bot, .bot, .bot, .bot, .bot, .bot, .bot, .bot, .bot, .bot, .bot, .bot, .bot, .bot, .bot, .bot, .bot, .bot, .bot, .bot, .bot, .bot, .bot, .bot, .bot, .bot, .bot, .bot, .bot, .bot, .bot, .bot, .bot, .bot, .bot, .bot, .bot, .bot, .bot, .bot, .bot, .bot, .bot, .bot, .bot, .bot, .bot, .bot, .bot, .bot, .bot, .bot, .bot, .bot, .bot, .bot, .bot, .bot, .bot, .bot, .bot, .bot, .bot, .bot, .bot, .bot, .bot, .bot, .bot, .bot, .bot, .bot, .bot, .bot, .bot, .bot, .bot, .bot, .bot, .bot, .bot, .bot, .bot, .bot, .bot, .bot, .bot, .bot, .bot, .bot, .bot, .bot, .bot, .bot, .bot, .bot, .bot, .bot, .bot, .bot, .bot, .bot, .bot, .bot, .bot, .bot, .bot, .bot, .bot, .bot, .bot, .bot], memG m { t with circ := t.circ ++ [⟨k, x, -1, y⟩] } ++ [gh, some ⟨none, 149, 1, [.q 7 6 0 0]⟩, some ⟨none, 32, 1, [.q 0 13 0 0]⟩, some ⟨none, 81, 4, [gA ⟨k, x, -1, y⟩]⟩]⟩ (swp_draw (own := [6, 7, 19]) (.take 1 .reads [] (.take 2 .plain [] (.take 3 .plain [] (.take 4 .reads [] (.take 5 .reads [] (.take 6 .plain [] (.alt 0 (.alt 7 (.take 8 .plain [] (.take 9 .plain [] (.alt 10 (.done) (.nil)))) (.nil)) (.alt 7 (.take 0 .reads [] (.take 8 .plain [] (.take 9 .plain [] (.alt 10 (.done) (.nil))))) (.nil))))))))) [⟨107, 64, 0, 0, true⟩, ⟨108, 64, 0, 0, true⟩, ⟨109, 162259276829213363391578010288128, 2, 0, true⟩, ⟨110, 324518553658426726783156020576256, 4, 0, true⟩, ⟨111, 649037107316853453566312041152512, 8, 0, true⟩, ⟨112, 524288, 0, 0, true⟩, ⟨113, 2596148429267413814265248164610048, 32, 0, true⟩, ⟨114, 6490371073168534535663120411525120, 80, 2, false⟩, ⟨115, 81129638414606681695789005144064, 255, 0, true⟩, ⟨116, 20769187434139310514121985316880384, 511, 0, true⟩, ⟨0, 51922968585348276285304963292200960, 767, 1, false⟩] mo (by kernel_rfl) ?_) ?_
  · simp only [wB, asP, asQ, asO, asS, obA, loadA, storeA, putsA, St.ev, St.step, setS, killS, AV.kill, AV.killL, Mem.kill, AV.cells, AV.flat, AV.single, AV.cellular, AV.size, AV.sizeL, AV.pure, AV.pureL, Value.oneCell', Nat.reduceAdd, Nat.reduceEqDiff, Nat.reduceMul, Nat.reduceLeDiff, Int.reduceAdd, Int.reduceMul, Int.reduceNeg, ASch, St.put, Md.mem, Md.need, gtsA_len]
    have hle : (0 : Nat) < 4 := by decide
    have hcl : t.circ.length ≤ 999999 := by have := hI.c10; omega
    refine ⟨⟨hle, rfl⟩, ⟨⟨hle, hcl⟩, le_sl' ?_ (by simp [leSl])⟩, ⟨hle, hcl⟩, le_sl' ?_ (by simp [leSl])⟩ <;>
    simp only [memG, Mch.ob, Mch.od, Mch.cells, rowP, rowC, rowS, stO', hgh, ghost, prsA_kill, strsA_kill, intsA_kill, gtsA_kill, gtsA_app, List.cons_append, List.nil_append, gA]
  have hdl := hI.dn
  simp only [wB, awp, binC, arithC, cmpC, asP, asQ, asI, obA, lenA, loadA, storeA, putsA, St.ev, St.step, setS, killS, AV.kill, AV.killL, Mem.kill, AV.cells, AV.flat, AV.single, AV.cellular, Value.oneCell', Nat.reduceAdd, Nat.reduceEqDiff, Nat.reduceLeDiff, Int.reduceAdd, Int.reduceNeg, isU, lenK, e1, memG, Mch.ob, Mch.od, Mch.cells, rowP, rowC, rowS, stO', hgh, ghost]
  refine ⟨by unfold lim; omega, ?_⟩
  refine swp_loop' (fun j : Nat => ⟨[.bot, .bot, .bot, I 1, .bot, .s 1 (intsA [x]), .q 9 1 0 0, .bot, .bot, .bot, .bot, .bot, .bot, .bot, .bot, .bot, .bot, .bot, .bot, .bot, .bot, .bot, .bot, .bot, .bot, .bot, .bot, .bot, .bot, .bot, .bot, .bot, .bot, .bot, .bot, .bot, .bot, .bot, .bot, .bot, .bot, .bot, .bot, .bot, .bot, .bot, .bot, .bot, .bot, .bot, .bot, .bot, .bot, .bot, .bot, .bot, .bot, .bot, .bot, .bot, .bot, .bot, .bot, .bot, .bot, .bot, .bot, .bot, .bot, .bot, .bot, .bot, .bot, .bot, .bot, .bot, .bot, .bot, .bot, .bot, .bot, .bot, .bot, .bot, .bot, .bot, .bot, .bot, .bot, .bot, .bot, .bot, .bot, .bot, .bot, .bot, .bot, .bot, .bot, .bot, .bot, .bot, .bot, .bot, .bot, .bot, .bot, .bot, .bot, .bot, .bot, .bot, .bot, .bot, .bot, .bot, .bot, .bot, .bot, .bot, .bot, .bot, .bot, .s 1 (intsA [x]), I 1, I j, .bot, .bot, .bot, .bot, .bot, .bot, .bot, .bot], memG m { t with circ := t.circ ++ [⟨k, x, -1, y⟩], done := t.done + 1, heats := if j = 0 then t.heats else bump t.heats x.toNat 1 } ++ [gh, some ⟨none, 149, 1, [.q 7 6 0 0]⟩, some ⟨none, 32, 1, [.q 0 13 0 0]⟩, some ⟨none, 81, 4, [gA ⟨k, x, -1, y⟩]⟩]⟩) (fun j => j ≤ 1) (fun j => 1 - j) 0 (le_sl' ?_ (by simp [leSl])) (Nat.zero_le _) ?_
  · simp only [memG, Mch.ob, Mch.od, Mch.cells, rowP, rowC, rowS, stO', hgh, ghost, List.cons_append, List.nil_append, gA, if_true]
  intro j hj
  refine awp_sound (own := [6, 7, 19, 1018]) _ _ _ _ _ ?_
  simp only [wB, awp, binC, cmpC, asB, asI, St.ev, St.step, setS, killS, AV.kill, AV.killL, Mem.kill, AV.cells, Nat.reduceAdd, Nat.reduceEqDiff, Int.reduceAdd, Int.reduceNeg, memG, Mch.ob, Mch.od, Mch.cells, rowP, rowC, rowS, stO', hgh, ghost, gA]
  rcases (show j = 0 ∨ j = 1 by omega) with rfl | rfl
  case inr =>
    simp only [wB, awp, asN, St.ev, St.step, setS, killS, AV.kill, AV.killL, Mem.kill, Nat.reduceAdd, Nat.reduceEqDiff, Int.reduceAdd, Int.reduceNeg, Int.reduceLT, memG, e1]
    exact ⟨_, _, memG m (nx1 t k x y), _, Le.refl _, rfl, rfl, rfl, rfl, free_G _ m _, by simp [he, erV], by simp [he, memG]⟩
  simp only [wB, awp, idxC, asP, asS, asI, asN, loadA, St.ev, St.step, setS, killS, AV.kill, AV.killL, Mem.kill, AV.cells, AV.flat, AV.single, Nat.reduceAdd, Nat.reduceEqDiff, Int.reduceAdd, Int.reduceNeg, Int.reduceLE, Int.reduceLT, aget_ints (show 0 < [x].length by simp), Int.natCast_zero, List.getElem_cons_zero]
  refine swp_fm (own := [6, 7, 19]) 3 rfl rfl rfl ?_
  simp only [wB, asP, asQ, obA, loadA, St.ev, St.step, setS, killS, AV.kill, AV.killL, Mem.kill, AV.cells, AV.flat, AV.single, Int.reduceNeg, List.take_succ_cons, List.take_zero]
  refine acall_f (fspec_of (m104i { t with circ := t.circ ++ [⟨k, x, -1, y⟩], done := t.done + 1 } x ⟨hx.1, by simp only; rw [hI.hl]; exact hx.2⟩ 1 (by omega) hI.hin) [0, 1, 2, 3, 8, 9, 10, 11] rfl (by exact ⟨rfl, rfl, rfl, rfl, trivial⟩) rfl rfl (free_S _ _ (by decide)) (N := memG m { t with circ := t.circ ++ [⟨k, x, -1, y⟩], done := t.done + 1, heats := bump t.heats x.toNat 1 } ++ [gh, some ⟨none, 149, 1, [.q 7 6 0 0]⟩, some ⟨none, 32, 1, [.q 0 13 0 0]⟩, some ⟨none, 81, 4, [gA ⟨k, x, -1, y⟩]⟩]) ?_) ?_
  · simp only [memG, memS, Mch.ob, Mch.od, Mch.cells, rowP, rowC, rowS, stO', combR, List.cons_append, List.nil_append, Option.map_some, Option.map_none, List.drop_succ_cons, List.drop_zero, prsA_sub, strsA_sub, intsA_sub, gtsA_sub, AV.sub, AV.subL, keepF, keepG, liveI, List.getElem?_cons_succ, List.getElem?_cons_zero, List.getElem?_nil, AV.isO, AV.isQ, List.any_cons, List.any_nil, ghost, gA, List.take_succ_cons, List.take_zero, List.drop_nil, hgh]
    rfl
  · simp only [wB, awp, binC, arithC, cmpC, asI, St.ev, St.step, setS, killS, AV.kill, AV.killL, Mem.kill, AV.cells, Nat.reduceAdd, Nat.reduceEqDiff, Nat.reduceSub, Int.reduceAdd, Int.reduceSub, Int.reduceNeg, isU, memG, memS, Mch.ob, Mch.od, Mch.cells, rowP, rowC, rowS, stO', List.drop_succ_cons, AV.sub, keepG, liveI, AV.isQ, List.any_cons, List.any_nil, ghost, gA, List.drop_nil, hgh]
    refine ⟨by unfold lim; omega, 1, le_sl' ?_ (by simp [leSl]), Nat.le_refl _, by omega⟩
    simp only [memG, memS, Mch.ob, Mch.od, Mch.cells, rowP, rowC, rowS, stO', combR, List.cons_append, List.nil_append, Option.map_some, Option.map_none, List.drop_succ_cons, List.drop_zero, prsA_sub, strsA_sub, intsA_sub, gtsA_sub, AV.sub, AV.subL, keepF, keepG, liveI, List.getElem?_cons_succ, List.getElem?_cons_zero, List.getElem?_nil, AV.isO, AV.isQ, List.any_cons, List.any_nil, ghost, gA, List.take_succ_cons, List.take_zero, List.drop_nil, hgh, if_neg (show ¬ (1 : Nat) = 0 by decide)]
end Go.Proofs.YtndniceeibflcaaGreatDoor

namespace Go.Proofs.YtndniceeibflcaaGreatDoor
open Aw Mp Go.RowKit
set_option linter.unusedSimpArgs false
set_option maxRecDepth 8000

theorem mem_up {n : Int} {p : Int → Bool} {q : Int} (h0 : 0 ≤ q) (hn : q < n) : memL (upL n.toNat p) q = p q := by
  unfold memL upL
  cases hp : p q with
  | true =>
    refine decide_eq_true ?_
    rw [List.mem_filter]
    refine ⟨List.mem_map.2 ⟨q.toNat, List.mem_range.2 (by omega), by omega⟩, hp⟩
  | false =>
    refine decide_eq_false fun h => ?_
    rw [List.mem_filter, hp] at h
    cases h.2
theorem getD_eq {l : List Int} {i : Nat} (h : i < l.length) : l.getD i 0 = l[i] := by rw [List.getD_eq_getElem?_getD, List.getElem?_eq_getElem h]; rfl
/-- the state behind a gate of two ions. -/
def nx2 (t : MS) (x w y : Int) : MS := { t with circ := t.circ ++ [⟨2, min x w, max x w, y⟩], heats := bump (bump t.heats x.toNat 2) w.toNat 2, done := t.done + 1 }

theorem m105b (m : Mch) (t : MS) {c : Nat} (hI : InvS m.n c t) (hc : c ≤ 1000) (hT : vT m.n m.ls = 0) (hls : m.ls.length ≤ 1000000) (x w y : Int) (hx : 0 ≤ x ∧ x < t.place.length) (hw : 0 ≤ w ∧ w < t.place.length) :
    MSpec Tryz.prog 105 [.q 7 6 0 0, .q 0 13 0 0, I 2, I 2, I y, .s 1 (intsA [x, w])] (memG m t) (fun r N => r = erV (er2 m.lim m.ls t x w y) ∧ N = memG m (if er2 m.lim m.ls t x w y = 0 then nx2 t x w y else t)) := by
  refine mspec_of2 (own := [6, 7, 19, 1018]) Tryz.func105 rfl ok105 ?_
  intro vs
  have hxp : x.toNat < t.place.length := by omega
  have hwp : w.toNat < t.place.length := by omega
  have hxl : x.toNat < t.heats.length := by rw [hI.hl]; omega
  have hwl : w.toNat < t.heats.length := by rw [hI.hl]; omega
  have hxn : ((x.toNat : Nat) : Int) = x := by omega
  have hwn : ((w.toNat : Nat) : Int) = w := by omega
  have e2 : ((2 : Nat) : Int) = 2 := rfl
  have hpx := hI.pin _ (List.getElem_mem hxp)
  have hpw := hI.pin _ (List.getElem_mem hwp)
  have g0 : 0 < [x, w].length := by simp
  have g1 : 1 < [x, w].length := by simp
  obtain ⟨gh, hgh⟩ : ∃ gh, gh = some (ghost vs [AV.q 7 6 0 0, AV.q 0 13 0 0, I 2, I 2, I y, AV.s 1 (intsA [x, w])]) := ⟨_, rfl⟩
  simp only [wB, awp, binC, cmpC, asB, asI, asN, lenA, Aw.newRow, St.ev, St.step, setS, killS, AV.kill, AV.killL, Mem.kill, AV.cells, AV.cellular, AV.size, Nat.reduceAdd, Nat.reduceEqDiff, Nat.reduceSub, Int.reduceAdd, Int.reduceSub, lenK, Tryz.ntmps105, memG, Mch.ob, Mch.od, Mch.cells, rowP, rowC, rowS, stO', ghost, e2]
  refine swp_draw (own := [6, 7, 19]) (.take 0 .reads [] (.take 1 .plain [] (.take 2 .plain [] (.take 3 .reads [] (.take 4 .reads [] (.take 5 .plain [] (.take 6 .plain [] (.take 7 .reads [] (.take 8 .plain [] (.take 9 .reads [] (.take 10 .reads [] (.take 11 .reads [] (.take 12 .reads [] (.alt 13 (.take 14 .plain [] (.take 15 .plain [] (.take 16 .plain [] (.take 17 .plain [] (.take 18 .plain [] (.done)))))) (.nil))))))))))))))) [⟨27, 128, 0, 0, true⟩, ⟨28, 67108864, 1, 0, true⟩, ⟨29, 134217728, 2, 0, true⟩, ⟨30, 268435456, 4, 0, true⟩, ⟨31, 64, 0, 0, true⟩, ⟨32, 1073741824, 16, 0, true⟩, ⟨33, 2147483648, 32, 0, true⟩, ⟨34, 4294967296, 64, 0, true⟩, ⟨35, 32, 0, 0, true⟩, ⟨36, 17179869184, 256, 0, true⟩, ⟨37, 34359738368, 512, 0, true⟩, ⟨38, 77309411328, 1152, 0, true⟩, ⟨39, 137438953472, 2048, 0, true⟩, ⟨40, 275414777856, 4104, 0, false⟩, ⟨26, 549755813888, 8192, 0, true⟩, ⟨41, 33554432, 16384, 0, true⟩, ⟨42, 33554432, 16384, 0, true⟩, ⟨15, 1099511627776, 65535, 0, true⟩, ⟨16, 2199023255552, 262143, 0, true⟩] mo (by kernel_rfl) ?_
  simp only [wB, idxC, asP, asQ, asO, asS, asI, obA, loadA, St.ev, setS, AV.cells, AV.flat, AV.single, Nat.reduceAdd, Nat.reduceEqDiff, Nat.reduceLeDiff, Int.reduceAdd, Int.reduceLE, ASch, St.put, Md.mem, Md.need, Mch.cells, List.drop_succ_cons, List.drop_zero, List.take_succ_cons, List.take_zero, aget_ints g0, List.getElem_cons_zero, aget_ints hxp]
  have n3 := s103 m.n m.ls t.place[x.toNat] hls
  rw [if_neg (by rw [hT]; simp), if_pos hpx] at n3
  refine ⟨hx, acall_v n3 (by simp [AV.pureL, AV.pure, prsA_pure]) (by simp [AV.pure, AV.pureL, intsA_pure]) ?_⟩
  simp only [wB, awp, asT, asN, St.ev, St.step, setS, killS, AV.kill, AV.killL, Mem.kill, Nat.reduceEqDiff, ASch, St.put, Md.mem, Md.need]
  refine swp_draw (own := [6, 7, 19]) (.take 0 .plain [] (.take 1 .reads [] (.take 2 .plain [] (.take 3 .plain [] (.take 4 .reads [] (.take 5 .plain [] (.take 6 .reads [] (.take 7 .reads [] (.take 8 .reads [] (.take 9 .reads [] (.alt 10 (.take 11 .plain [] (.done)) (.nil)))))))))))) [⟨43, 16384, 0, 0, true⟩, ⟨44, 64, 0, 0, true⟩, ⟨45, 8796093022208, 2, 0, true⟩, ⟨46, 17592186044416, 4, 0, true⟩, ⟨47, 35184372088832, 8, 0, true⟩, ⟨48, 32, 0, 0, true⟩, ⟨49, 140737488355328, 32, 0, true⟩, ⟨50, 281474976710656, 64, 0, true⟩, ⟨51, 633318697598976, 144, 0, true⟩, ⟨52, 1125899906842624, 256, 0, true⟩, ⟨53, 2256197860196352, 513, 0, false⟩, ⟨14, 4503599627370496, 2047, 0, true⟩] mo (by kernel_rfl) ?_
  simp only [wB, idxC, asP, asQ, asO, asS, asI, obA, loadA, St.ev, setS, AV.cells, AV.flat, AV.single, Nat.reduceAdd, Nat.reduceEqDiff, Nat.reduceLeDiff, Int.reduceAdd, Int.reduceLE, ASch, St.put, Md.mem, Md.need, Mch.cells, List.drop_zero, List.take_succ_cons, List.take_zero, aget_ints g1, List.getElem_cons_zero, List.getElem_cons_succ, aget_ints hwp]
  have hul := upL_len m.n.toNat (lnk m.ls t.place[x.toNat])
  have hn6 : m.n ≤ 6 := by
    unfold vT at hT
    split at hT
    · cases hT
    · omega
  refine ⟨hw, acall_v (s102 _ _ (by omega)) (by simp [AV.pureL, AV.pure, intsA_pure]) rfl ?_⟩
  rw [mem_up hpw.1 hpw.2]
  simp only [wB, awp, asN, St.ev, St.step, setS, killS, AV.kill, AV.killL, Mem.kill, AV.single, AV.cellular, Value.oneCell', Nat.reduceAdd, Nat.reduceEqDiff, Int.reduceAdd, ASch, St.put, Md.mem, Md.need]
  refine ⟨rfl, acall_ln 2 (s75 [x, w] (fun z => decide (m.lim < t.heats.getD z.toNat 0)) 145 [.p (.p (stA t) 0) 0, .p (.p (m.cells (.s 2 (prsA m.ls)) (.s 1 (strsA m.ords))) 0) 0] (by simp) rfl (fun z hz => ?_)) ?_ rfl rfl ?_⟩
  · have hz' : z = x ∨ z = w := by simpa using hz
    rcases hz' with rfl | rfl
    · have := s145 m t z.toNat hxl
      rwa [hxn] at this
    · have := s145 m t z.toNat hwl
      rwa [hwn] at this
  · simp [frzN, AV.sub, AV.subL, intsA_pure, gtsA_pure, strsA_pure, prsA_pure, stA, Mch.cells, frz]
  obtain ⟨H, hH⟩ : ∃ H, H = [x, w].any (fun z => decide (m.lim < t.heats.getD z.toNat 0)) := ⟨_, rfl⟩
  have hH' : H = decide (m.lim < t.heats.getD x.toNat 0 ∨ m.lim < t.heats.getD w.toNat 0) := by rw [hH]; simp
  rw [← hH]
  simp only [wB, awp, asN, St.ev, St.step, setS, killS, AV.kill, AV.killL, Mem.kill, Nat.reduceEqDiff]
  refine swp_draw (own := [6, 7, 19]) (.take 0 .plain [] (.take 1 .reads [] (.take 2 .plain [] (.take 3 .plain [] (.take 4 .plain [] (.take 5 .reads [] (.take 6 .reads [] (.take 7 .plain [] (.take 8 .reads [] (.take 9 .reads [] (.take 10 .plain [] (.take 11 .plain [] (.take 12 .plain [] (.done)))))))))))))) [⟨57, 32, 0, 0, true⟩, ⟨58, 72057594037927936, 1, 0, true⟩, ⟨59, 144115188075855872, 2, 0, true⟩, ⟨60, 288230376151711744, 4, 0, true⟩, ⟨61, 576460752303423520, 8, 0, true⟩, ⟨62, 1729382256910270464, 24, 0, true⟩, ⟨63, 2882303761517117440, 40, 0, true⟩, ⟨64, 576460752303423520, 8, 0, true⟩, ⟨65, 9799832789158199296, 136, 0, true⟩, ⟨66, 19023204826012975104, 264, 0, true⟩, ⟨67, 42081634918149914624, 584, 0, true⟩, ⟨68, 74363437047141629952, 1032, 0, true⟩, ⟨18, 147573952589676412928, 4095, 0, true⟩] mo (by kernel_rfl) ?_
  simp only [wB, awp, binC, idxC, cmpC, asP, asS, asB, asI, asN, lenA, loadA, St.ev, St.step, setS, killS, AV.kill, AV.killL, Mem.kill, AV.cells, AV.flat, AV.single, Nat.reduceAdd, Nat.reduceEqDiff, Int.reduceAdd, Int.reduceLE, ASch, St.put, Md.mem, Md.need, lenK, Mch.cells, e2, aget_ints g0, aget_ints g1, List.getElem_cons_zero, List.getElem_cons_succ]
  have pl0 : t.place.getD x.toNat 0 = t.place[x.toNat] := getD_eq hxp
  have pl1 : t.place.getD w.toNat 0 = t.place[w.toNat] := getD_eq hwp
  have hcl10 : (t.circ.length = 10) = ((t.circ.length : Int) = 10) := propext ⟨fun h => by omega, fun h => by omega⟩
  by_cases c1 : y < 1
  · simp only [wB, binC, cmpC, asP, asQ, asB, asI, obA, lenA, loadA, fillA, putsA, St.ev, St.step, setS, killS, AV.kill, AV.killL, Mem.kill, AV.cells, AV.flat, AV.single, AV.cellular, AV.size, AV.sizeL, AV.pure, AV.pureL, Value.oneCell', Nat.reduceAdd, Nat.reduceEqDiff, Nat.reduceMul, Nat.reduceLeDiff, Int.reduceAdd, Int.reduceMul, lenK, Mch.cells, List.drop_succ_cons, List.drop_zero, List.take_succ_cons, List.take_zero, decide_eq_true c1, gtsA_len]
    refine ⟨⟨by decide, rfl⟩, acall_v (s101 [(true, 1), (!lnk m.ls t.place[x.toNat] t.place[w.toNat], 9), (H, 8), (decide ((t.circ.length : Int) = 10), 3)] (Nat.le_of_ble_eq_true rfl)) rfl (fstE_pure _) ?_⟩
    have he : er2 m.lim m.ls t x w y = 1 := by unfold er2; rw [if_pos (.inl (.inl c1))]
    simp only [wB, awp, binC, eqC, asG, asB, asI, asN, St.ev, St.step, setS, killS, AV.kill, AV.killL, Mem.kill, Nat.reduceAdd, Nat.reduceEqDiff, Int.reduceAdd, Int.reduceEq, isNI, ptrN, ifcN, asStr, nt114, fst4, erV, errV]
    exact ⟨_, _, memG m t, _, Le.refl _, rfl, rfl, rfl, rfl, free_G _ m t, by simp [he], by simp [he]⟩
  simp only [wB, binC, cmpC, asB, asI, St.ev, St.step, setS, killS, AV.kill, AV.killL, Mem.kill, decide_eq_false c1]
  by_cases c2 : 16 ≤ y
  · simp only [wB, binC, cmpC, asP, asQ, asB, asI, obA, lenA, loadA, fillA, putsA, St.ev, St.step, setS, killS, AV.kill, AV.killL, Mem.kill, AV.cells, AV.flat, AV.single, AV.cellular, AV.size, AV.sizeL, AV.pure, AV.pureL, Value.oneCell', Nat.reduceAdd, Nat.reduceEqDiff, Nat.reduceMul, Nat.reduceLeDiff, Int.reduceAdd, Int.reduceMul, lenK, Mch.cells, List.drop_succ_cons, List.drop_zero, List.take_succ_cons, List.take_zero, decide_eq_true c2, gtsA_len]
    refine ⟨⟨by decide, rfl⟩, acall_v (s101 [(true, 1), (!lnk m.ls t.place[x.toNat] t.place[w.toNat], 9), (H, 8), (decide ((t.circ.length : Int) = 10), 3)] (Nat.le_of_ble_eq_true rfl)) rfl (fstE_pure _) ?_⟩
    have he : er2 m.lim m.ls t x w y = 1 := by unfold er2; rw [if_pos (.inl (.inr c2))]
    simp only [wB, awp, binC, eqC, asG, asB, asI, asN, St.ev, St.step, setS, killS, AV.kill, AV.killL, Mem.kill, Nat.reduceAdd, Nat.reduceEqDiff, Int.reduceAdd, Int.reduceEq, isNI, ptrN, ifcN, asStr, nt114, fst4, erV, errV]
    exact ⟨_, _, memG m t, _, Le.refl _, rfl, rfl, rfl, rfl, free_G _ m t, by simp [he], by simp [he]⟩
  simp only [wB, binC, cmpC, asP, asQ, asB, asI, obA, lenA, loadA, fillA, putsA, St.ev, St.step, setS, killS, AV.kill, AV.killL, Mem.kill, AV.cells, AV.flat, AV.single, AV.cellular, AV.size, AV.sizeL, AV.pure, AV.pureL, Value.oneCell', Nat.reduceAdd, Nat.reduceEqDiff, Nat.reduceMul, Nat.reduceLeDiff, Int.reduceAdd, Int.reduceMul, lenK, Mch.cells, List.drop_succ_cons, List.drop_zero, List.take_succ_cons, List.take_zero, decide_eq_false c2, gtsA_len]
  refine ⟨⟨by decide, rfl⟩, acall_v (s101 [(decide (x = w), 1), (!lnk m.ls t.place[x.toNat] t.place[w.toNat], 9), (H, 8), (decide ((t.circ.length : Int) = 10), 3)] (Nat.le_of_ble_eq_true rfl)) rfl (fstE_pure _) ?_⟩
  have he : er2 m.lim m.ls t x w y = if decide (x = w) = true then 1 else if (!lnk m.ls t.place[x.toNat] t.place[w.toNat]) = true then 9 else if H = true then 8 else if decide ((t.circ.length : Int) = 10) = true then 3 else 0 := by
    unfold er2
    have e0 : ((y < 1 ∨ 16 ≤ y) ∨ x = w) = (x = w) := propext ⟨fun h => by omega, fun h => .inr h⟩
    rw [pl0, pl1, hH']
    simp only [e0, decide_eq_true_eq, hcl10, Bool.not_eq_true']
  rw [fst4, ← he]
  by_cases c5 : er2 m.lim m.ls t x w y = 0
  case neg =>
    simp only [wB, awp, binC, eqC, asG, asB, asI, asN, St.ev, St.step, setS, killS, AV.kill, AV.killL, Mem.kill, AV.cells, Nat.reduceAdd, Nat.reduceEqDiff, Int.reduceAdd, isNI, ptrN, ifcN, asStr, nt114, memG, Mch.ob, Mch.od, Mch.cells, rowP, rowC, rowS, stO', erV, if_neg c5, errV]
    exact ⟨_, _, memG m t, _, Le.refl _, rfl, rfl, rfl, rfl, free_G _ m t, by first | rfl | simp [c5], by first | rfl | simp [c5]⟩
  have hneq : x ≠ w := fun e => by rw [he, decide_eq_true e] at c5; cases c5
  have hnear : lnk m.ls t.place[x.toNat] t.place[w.toNat] = true := by
    cases hh : lnk m.ls t.place[x.toNat] t.place[w.toNat] with
    | true => rfl
    | false => rw [he, decide_eq_false hneq, hh] at c5; cases c5
  have hc10 : t.circ.length < 10 := by
    have h1 := hI.c10
    rcases Nat.lt_or_ge t.circ.length 10 with h2 | h2
    · exact h2
    · have h3 : (t.circ.length : Int) = 10 := by omega
      rw [he, decide_eq_false hneq, hnear, decide_eq_true h3] at c5
      cases H <;> cases c5
  simp only [wB, awp, binC, eqC, asG, asB, asI, asN, St.ev, St.step, setS, killS, AV.kill, AV.killL, Mem.kill, Nat.reduceAdd, Nat.reduceEqDiff, Int.reduceAdd, Int.reduceNeg, isNI, ptrN, ifcN, asStr, nt114, erV, if_pos c5, errV]
  refine acall_v (s146 [x, w] (by simp) (by simp)) rfl rfl ?_
  rw [show minP ([x, w].getD 0 0) [x, w] = min x w by simp [minP]]
  simp only [wB, awp, binC, cmpC, asQ, asB, asI, obA, lenA, storeA, fillA, putsA, mkA, Aw.newRow, St.ev, St.step, setS, killS, AV.kill, AV.killL, Mem.kill, AV.cells, AV.flat, AV.single, AV.cellular, Value.oneCell', Nat.reduceAdd, Nat.reduceEqDiff, Nat.reduceLeDiff, Int.reduceAdd, Int.reduceNeg, lenK, Mch.cells, e2]
  refine acall_v (s147 [x, w] (by simp) (by simp)) rfl rfl ?_
  rw [show maxP ([x, w].getD 0 0) [x, w] = max x w by simp [maxP]]
  simp only [wB, awp, asP, asQ, obA, storeA, putsA, St.ev, St.step, setS, killS, AV.kill, AV.killL, Mem.kill, AV.cells, AV.flat, AV.single, AV.cellular, Value.oneCell', Nat.reduceAdd, Nat.reduceEqDiff, Nat.reduceLeDiff, Int.reduceAdd, Int.reduceNeg, Mch.cells]
  refine swp_to ⟨[.bot, .bot, .bot, I 2, .bot, .s 1 (intsA [x, w]), .q 9 1 0 0, .bot, .bot, .bot, .bot, .bot, .bot, .bot, .bot, .bot, .bot, .bot, .bot, .bot, .bot, .bot, .bot, .bot, .bot, .bot, .bot, .bot, .bot, .bot, .bot, .bot, .bot, .bot, .bot, .bot, .bot, .bot, .bot, .bot, .bot, .bot, .bot, .bot, .bot, .bot, .bot, .bot, .bot, .bot, .bot, .bot, .bot, .bot, .bot, .bot, .bot, .bot, .bot, .bot, .bot, .bot, .bot, .bot, .bot, .bot, .bot, .bot, .bot, .bot, .bot, .bot, .bot, .bot, .bot, .bot, .bot, .bot, .bot, .bot, .bot, .bot, .bot, .bot, .bot, .bot, .bot, .bot, .bot, .bot, .bot, .bot, .bot, .bot, .bot, .bot, .bot, .bot, .bot, .bot, .bot, .bot, .bot, .bot, .bot, .bot, .bot, .bot, .bot, .bot, .bot, .bot, .bot, .bot, .bot, .bot, .bot, .bot, .bot, .bot, .bot, .bot, .bot, .bot, .bot, .bot, .bot, .bot, .bot, .bot, .bot, .bot, .bot, .bot], memG m { t with circ := t.circ ++ [⟨2, min x w, max x w, y⟩] } ++ [gh, some ⟨none, 149, 1, [.q 7 6 0 0]⟩, some ⟨none, 32, 1, [.q 0 13 0 0]⟩, some ⟨none, 81, 4, [gA ⟨2, min x w, max x w, y⟩]⟩]⟩ (swp_draw (own := [6, 7, 19]) (.take 1 .reads [] (.take 2 .plain [] (.take 3 .plain [] (.take 4 .reads [] (.take 5 .reads [] (.take 6 .plain [] (.alt 0 (.alt 7 (.take 8 .plain [] (.take 9 .plain [] (.alt 10 (.done) (.nil)))) (.nil)) (.alt 7 (.take 0 .reads [] (.take 8 .plain [] (.take 9 .plain [] (.alt 10 (.done) (.nil))))) (.nil))))))))) [⟨107, 64, 0, 0, true⟩, ⟨108, 64, 0, 0, true⟩, ⟨109, 162259276829213363391578010288128, 2, 0, true⟩, ⟨110, 324518553658426726783156020576256, 4, 0, true⟩, ⟨111, 649037107316853453566312041152512, 8, 0, true⟩, ⟨112, 524288, 0, 0, true⟩, ⟨113, 2596148429267413814265248164610048, 32, 0, true⟩, ⟨114, 6490371073168534535663120411525120, 80, 2, false⟩, ⟨115, 81129638414606681695789005144064, 255, 0, true⟩, ⟨116, 20769187434139310514121985316880384, 511, 0, true⟩, ⟨0, 51922968585348276285304963292200960, 767, 1, false⟩] mo (by kernel_rfl) ?_) ?_
  · simp only [wB, asP, asQ, asO, asS, obA, loadA, storeA, putsA, St.ev, St.step, setS, killS, AV.kill, AV.killL, Mem.kill, AV.cells, AV.flat, AV.single, AV.cellular, AV.size, AV.sizeL, AV.pure, AV.pureL, Value.oneCell', Nat.reduceAdd, Nat.reduceEqDiff, Nat.reduceMul, Nat.reduceLeDiff, Int.reduceAdd, Int.reduceMul, Int.reduceNeg, ASch, St.put, Md.mem, Md.need, memG, Mch.ob, Mch.od, Mch.cells, rowP, rowC, rowS, stO', List.drop_succ_cons, List.drop_zero, gA, List.take_succ_cons, List.take_zero, gtsA_len]
    have hle : (0 : Nat) < 4 := by decide
    have hcl : t.circ.length ≤ 999999 := by omega
    refine ⟨⟨hle, rfl⟩, ⟨⟨hle, hcl⟩, le_sl' ?_ (by simp [leSl])⟩, ⟨hle, hcl⟩, le_sl' ?_ (by simp [leSl])⟩ <;>
    simp only [memG, memS, Mch.ob, Mch.od, Mch.cells, rowP, rowC, rowS, stO', combR, List.cons_append, List.nil_append, Option.map_some, Option.map_none, List.drop_succ_cons, List.drop_zero, prsA_sub, strsA_sub, intsA_sub, gtsA_sub, AV.sub, AV.subL, keepF, keepG, liveI, List.getElem?_cons_succ, List.getElem?_cons_zero, List.getElem?_nil, AV.isO, AV.isQ, List.any_cons, List.any_nil, ghost, gA, List.take_succ_cons, List.take_zero, List.drop_nil, hgh, prsA_kill, strsA_kill, intsA_kill, gtsA_kill, gtsA_app]
  have hdl := hI.dn
  simp only [wB, awp, binC, arithC, cmpC, asP, asQ, asI, obA, lenA, loadA, storeA, putsA, St.ev, St.step, setS, killS, AV.kill, AV.killL, Mem.kill, AV.cells, AV.flat, AV.single, AV.cellular, Value.oneCell', Nat.reduceAdd, Nat.reduceEqDiff, Nat.reduceLeDiff, Int.reduceAdd, isU, lenK, memG, Mch.ob, Mch.od, Mch.cells, rowP, rowC, rowS, stO', List.drop_succ_cons, List.drop_zero, ghost, gA, List.take_succ_cons, List.take_zero, e2, hgh]
  refine ⟨by unfold lim; omega, ?_⟩
  refine swp_loop' (fun j : Nat => ⟨[.bot, .bot, .bot, I 2, .bot, .s 1 (intsA [x, w]), .q 9 1 0 0, .bot, .bot, .bot, .bot, .bot, .bot, .bot, .bot, .bot, .bot, .bot, .bot, .bot, .bot, .bot, .bot, .bot, .bot, .bot, .bot, .bot, .bot, .bot, .bot, .bot, .bot, .bot, .bot, .bot, .bot, .bot, .bot, .bot, .bot, .bot, .bot, .bot, .bot, .bot, .bot, .bot, .bot, .bot, .bot, .bot, .bot, .bot, .bot, .bot, .bot, .bot, .bot, .bot, .bot, .bot, .bot, .bot, .bot, .bot, .bot, .bot, .bot, .bot, .bot, .bot, .bot, .bot, .bot, .bot, .bot, .bot, .bot, .bot, .bot, .bot, .bot, .bot, .bot, .bot, .bot, .bot, .bot, .bot, .bot, .bot, .bot, .bot, .bot, .bot, .bot, .bot, .bot, .bot, .bot, .bot, .bot, .bot, .bot, .bot, .bot, .bot, .bot, .bot, .bot, .bot, .bot, .bot, .bot, .bot, .bot, .bot, .bot, .bot, .bot, .bot, .bot, .s 1 (intsA [x, w]), I 2, I j, .bot, .bot, .bot, .bot, .bot, .bot, .bot, .bot], memG m { t with circ := t.circ ++ [⟨2, min x w, max x w, y⟩], done := t.done + 1, heats := if j = 0 then t.heats else if j = 1 then bump t.heats x.toNat 2 else bump (bump t.heats x.toNat 2) w.toNat 2 } ++ [gh, some ⟨none, 149, 1, [.q 7 6 0 0]⟩, some ⟨none, 32, 1, [.q 0 13 0 0]⟩, some ⟨none, 81, 4, [gA ⟨2, min x w, max x w, y⟩]⟩]⟩) (fun j => j ≤ 2) (fun j => 2 - j) 0 (le_sl' ?_ (by simp [leSl])) (Nat.zero_le _) ?_
  · simp only [memG, memS, Mch.ob, Mch.od, Mch.cells, rowP, rowC, rowS, stO', combR, List.cons_append, List.nil_append, Option.map_some, Option.map_none, List.drop_succ_cons, List.drop_zero, prsA_sub, strsA_sub, intsA_sub, gtsA_sub, AV.sub, AV.subL, keepF, keepG, liveI, List.getElem?_cons_succ, List.getElem?_cons_zero, List.getElem?_nil, AV.isO, AV.isQ, List.any_cons, List.any_nil, ghost, gA, List.take_succ_cons, List.take_zero, List.drop_nil, hgh, if_true]
  intro j hj
  refine awp_sound (own := [6, 7, 19, 1018]) _ _ _ _ _ ?_
  simp only [wB, awp, binC, cmpC, asB, asI, St.ev, St.step, setS, killS, AV.kill, AV.killL, Mem.kill, AV.cells, Nat.reduceAdd, Nat.reduceEqDiff, Int.reduceAdd, memG, Mch.ob, Mch.od, Mch.cells, rowP, rowC, rowS, stO', ghost, gA, hgh]
  have k1 : ¬ (1 : Nat) = 0 := by decide
  have k2 : ¬ (2 : Nat) = 0 := by decide
  have k3 : ¬ (2 : Nat) = 1 := by decide
  rcases (show j = 0 ∨ j = 1 ∨ j = 2 by omega) with rfl | rfl | rfl
  case inr.inr =>
    simp only [wB, awp, asN, St.ev, St.step, setS, killS, AV.kill, AV.killL, Mem.kill, Nat.reduceAdd, Nat.reduceEqDiff, Int.reduceAdd, Int.reduceLT, memG, e2]
    exact ⟨_, _, memG m (nx2 t x w y), _, Le.refl _, rfl, rfl, rfl, rfl, free_G _ m _, by simp [c5, erV], by simp [c5, memG]⟩
  case inl =>
    simp only [wB, awp, idxC, asP, asS, asI, asN, loadA, St.ev, St.step, setS, killS, AV.kill, AV.killL, Mem.kill, AV.cells, AV.flat, AV.single, Nat.reduceAdd, Nat.reduceEqDiff, Int.reduceAdd, Int.reduceLE, Int.reduceLT, aget_ints g0, Int.natCast_zero, List.getElem_cons_zero]
    refine swp_fm (own := [6, 7, 19]) 3 rfl rfl rfl ?_
    simp only [wB, asP, asQ, obA, loadA, St.ev, St.step, setS, killS, AV.kill, AV.killL, Mem.kill, AV.cells, AV.flat, AV.single, List.take_succ_cons, List.take_zero]
    refine acall_f (fspec_of (m104i { t with circ := t.circ ++ [⟨2, min x w, max x w, y⟩], done := t.done + 1 } x ⟨hx.1, by simp only; rw [hI.hl]; exact hx.2⟩ 2 (by omega) hI.hin) [0, 1, 2, 3, 8, 9, 10, 11] rfl (by exact ⟨rfl, rfl, rfl, rfl, trivial⟩) rfl rfl (free_S _ _ (by decide)) (N := memG m { t with circ := t.circ ++ [⟨2, min x w, max x w, y⟩], done := t.done + 1, heats := bump t.heats x.toNat 2 } ++ [gh, some ⟨none, 149, 1, [.q 7 6 0 0]⟩, some ⟨none, 32, 1, [.q 0 13 0 0]⟩, some ⟨none, 81, 4, [gA ⟨2, min x w, max x w, y⟩]⟩]) ?_) ?_
    · simp only [memG, memS, Mch.ob, Mch.od, Mch.cells, rowP, rowC, rowS, stO', combR, List.cons_append, List.nil_append, Option.map_some, Option.map_none, List.drop_succ_cons, List.drop_zero, prsA_sub, strsA_sub, intsA_sub, gtsA_sub, AV.sub, AV.subL, keepF, keepG, liveI, List.getElem?_cons_succ, List.getElem?_cons_zero, List.getElem?_nil, AV.isO, AV.isQ, List.any_cons, List.any_nil, ghost, gA, List.take_succ_cons, List.take_zero, List.drop_nil, hgh]
      rfl
    · simp only [wB, awp, binC, arithC, cmpC, asI, St.ev, St.step, setS, killS, AV.kill, AV.killL, Mem.kill, AV.cells, Nat.reduceAdd, Nat.reduceEqDiff, Nat.reduceSub, Int.reduceAdd, Int.reduceSub, isU, memG, memS, Mch.ob, Mch.od, Mch.cells, rowP, rowC, rowS, stO', List.drop_succ_cons, AV.sub, keepG, liveI, AV.isQ, List.any_cons, List.any_nil, ghost, gA, List.drop_nil, hgh]
      refine ⟨by unfold lim; omega, 1, le_sl' ?_ (by simp [leSl]), by omega, by omega⟩
      simp only [memG, memS, Mch.ob, Mch.od, Mch.cells, rowP, rowC, rowS, stO', combR, List.cons_append, List.nil_append, Option.map_some, Option.map_none, List.drop_succ_cons, List.drop_zero, prsA_sub, strsA_sub, intsA_sub, gtsA_sub, AV.sub, AV.subL, keepF, keepG, liveI, List.getElem?_cons_succ, List.getElem?_cons_zero, List.getElem?_nil, AV.isO, AV.isQ, List.any_cons, List.any_nil, ghost, gA, List.take_succ_cons, List.take_zero, List.drop_nil, hgh, if_neg k1, if_true]
  case inr.inl =>
    simp only [wB, awp, idxC, asP, asS, asI, asN, loadA, St.ev, St.step, setS, killS, AV.kill, AV.killL, Mem.kill, AV.cells, AV.flat, AV.single, Nat.reduceAdd, Nat.reduceEqDiff, Int.reduceAdd, Int.reduceLE, Int.reduceLT, aget_ints g1, Int.natCast_one, if_neg k1, List.getElem_cons_succ, List.getElem_cons_zero]
    refine swp_fm (own := [6, 7, 19]) 3 rfl rfl rfl ?_
    simp only [wB, asP, asQ, obA, loadA, St.ev, St.step, setS, killS, AV.kill, AV.killL, Mem.kill, AV.cells, AV.flat, AV.single, List.take_succ_cons, List.take_zero]
    refine acall_f (fspec_of (m104i { t with circ := t.circ ++ [⟨2, min x w, max x w, y⟩], done := t.done + 1, heats := bump t.heats x.toNat 2 } w ⟨hw.1, by simp only [bump_len]; rw [hI.hl]; exact hw.2⟩ 2 (by omega) (bump_in hI.hin _ (by omega))) [0, 1, 2, 3, 8, 9, 10, 11] rfl (by exact ⟨rfl, rfl, rfl, rfl, trivial⟩) rfl rfl (free_S _ _ (by decide)) (N := memG m { t with circ := t.circ ++ [⟨2, min x w, max x w, y⟩], done := t.done + 1, heats := bump (bump t.heats x.toNat 2) w.toNat 2 } ++ [gh, some ⟨none, 149, 1, [.q 7 6 0 0]⟩, some ⟨none, 32, 1, [.q 0 13 0 0]⟩, some ⟨none, 81, 4, [gA ⟨2, min x w, max x w, y⟩]⟩]) ?_) ?_
    · simp only [memG, memS, Mch.ob, Mch.od, Mch.cells, rowP, rowC, rowS, stO', combR, List.cons_append, List.nil_append, Option.map_some, Option.map_none, List.drop_succ_cons, List.drop_zero, prsA_sub, strsA_sub, intsA_sub, gtsA_sub, AV.sub, AV.subL, keepF, keepG, liveI, List.getElem?_cons_succ, List.getElem?_cons_zero, List.getElem?_nil, AV.isO, AV.isQ, List.any_cons, List.any_nil, ghost, gA, List.take_succ_cons, List.take_zero, List.drop_nil, hgh]
      rfl
    · simp only [wB, awp, binC, arithC, cmpC, asI, St.ev, St.step, setS, killS, AV.kill, AV.killL, Mem.kill, AV.cells, Nat.reduceAdd, Nat.reduceEqDiff, Nat.reduceSub, Int.reduceAdd, Int.reduceSub, isU, memG, memS, Mch.ob, Mch.od, Mch.cells, rowP, rowC, rowS, stO', List.drop_succ_cons, AV.sub, keepG, liveI, AV.isQ, List.any_cons, List.any_nil, ghost, gA, List.drop_nil, hgh]
      refine ⟨by unfold lim; omega, 2, le_sl' ?_ (by simp [leSl]), by omega, by omega⟩
      simp only [memG, memS, Mch.ob, Mch.od, Mch.cells, rowP, rowC, rowS, stO', combR, List.cons_append, List.nil_append, Option.map_some, Option.map_none, List.drop_succ_cons, List.drop_zero, prsA_sub, strsA_sub, intsA_sub, gtsA_sub, AV.sub, AV.subL, keepF, keepG, liveI, List.getElem?_cons_succ, List.getElem?_cons_zero, List.getElem?_nil, AV.isO, AV.isQ, List.any_cons, List.any_nil, ghost, gA, List.take_succ_cons, List.take_zero, List.drop_nil, hgh, if_neg k2, if_neg k3]
end Go.Proofs.YtndniceeibflcaaGreatDoor

namespace Go.Proofs.YtndniceeibflcaaGreatDoor
namespace Aw
open Go.RowKit
set_option linter.unusedSimpArgs false
section
variable {P : Program} {own : List Nat} {ops pre : Array Oper}
/-- a region whose order is drawn, its last operations one after another; the first of them is a call that is lent objects. -/
theorem swp_splitF {id : Nat} {σ : St} {N : HN} {E : HE} {Rt : HR} (o : Oper) (suf : List Oper) (hap : ops.toList = pre.toList ++ o :: suf) (s : Sch) (tb : List Inf) (hm : P.follows .mixedOrders = true) (hok : s.fits P own pre tb = true) (hsp : (headB ops pre.size && (Region.sinkB .any ops pre.size && (Region.chainB .any ops pre.size && decide (pre.size < ops.size)))) = true)
    (h : @ASch P own pre.toList s σ ⟨fun σ' => ∃ σ'', Le σ' σ'' ∧ @afc P o σ'' ⟨fun σ3 => @AOps P own ops.toList suf σ3 N⟩⟩) : @SWp P (.region id ops true) σ N E Rt := by
  intro C a w hS
  simp only [Bool.and_eq_true, decide_eq_true_eq] at hsp
  obtain ⟨hh, hs, hc, hn⟩ := hsp
  unfold Sch.fits at hok
  rw [Bool.and_eq_true] at hok
  obtain ⟨h1, h2⟩ := hok
  have htb := tbOk_eq pre.toList tb h1
  subst htb
  rw [show (pre.toList.map (infOf P own pre)).length = pre.size by simp] at h2
  have hf : Fits pre (Array.replicate pre.size false) 0 := ⟨by simp, fun j => by
    simp only [Array.getD_eq_getD_getElem?, Array.getElem?_replicate, Nat.zero_testBit]
    split <;> rfl⟩
  have hA := (asch_any s true pre.size _ 0 σ hf h2 h).1 rfl
  have hsuf : (o :: suf).length = ops.size - pre.size := by
    have := congrArg List.length hap
    simp at this
    simp
    omega
  refine wp_region_any hm ?_
  have hpre : ∀ j, j < pre.size → pre[j]? = ops[j]? := fun j hj => by
    have : ops.toList[j]? = pre.toList[j]? := by rw [hap, List.getElem?_append_left (by simpa using hj)]
    simpa using this.symm
  have ho : ops[pre.size]? = some o := by
    have : ops.toList[pre.size]? = some o := by rw [hap]; simp
    simpa using this
  have hinv : HeadInv .any ops pre.size (Array.replicate ops.size false) := ⟨by simp, fun j oj hj hl => (by rw [getD_replicate_false] at hl; cases hl), fun t h1 h2 => by simp [h2]⟩
  have := aany_split (P := P) (own := own) (ops := ops) (pre := pre) (n := pre.size) (C := C) (Q := APost C N.k E.k (fun σ => Rt.k σ ())) hpre rfl hn hh hs hc (fun σ' a w hN hS => by
    obtain ⟨σ'', hle, hA⟩ := hN
    rw [← hsuf, List.length_cons, List.range'_succ, wpOps_cons]
    refine wpOp_mono (fun a' w' hS' => ?_) (afc_sound (N := ⟨fun σ3 => @AOps P own ops.toList suf σ3 N⟩) ho hA (hle C a w hS))
    obtain ⟨σ3, h3, h4⟩ := hS'
    exact aops_sound (P := P) (own := own) (ops := ops) (Q := APost C N.k E.k (fun σ => Rt.k σ ())) (C := C) (fun σ a w hN hS => ⟨σ, hN, hS⟩) suf (pre.size + 1) σ3 a' w' (by rw [hap, ← List.drop_drop]; simp) h3 h4) pre.size (Array.replicate pre.size false) (Array.replicate ops.size false) σ a { w with drawn := w.drawn + 1 } (by simp) (fun j hj => by simp [hj, show j < ops.size by omega]) hinv hA hS.drawn
  rwa [show pre.size + (ops.size - pre.size) = ops.size by omega] at this
end
end Aw
end Go.Proofs.YtndniceeibflcaaGreatDoor

namespace Go.Proofs.YtndniceeibflcaaGreatDoor
open Aw Mp Go.RowKit
set_option linter.unusedSimpArgs false
set_option maxRecDepth 8000

/-- heats of which the first j are warmed. -/
def warmL (l : List Int) (x : Int) (j : Nat) : List Int := (l.take j).map (fun h => min (h + x) 1000) ++ l.drop j
theorem warmL_len (l : List Int) (x : Int) (j : Nat) : (warmL l x j).length = l.length := by simp [warmL]; omega
theorem warmL_bump {l : List Int} {x : Int} {j : Nat} (h : j < l.length) : bump (warmL l x j) j x = warmL l x (j + 1) := by
  have hl : ((l.take j).map fun h => min (h + x) 1000).length = j := by simp; omega
  unfold bump warmL
  rw [List.take_add_one, List.getElem?_eq_getElem h, List.drop_eq_getElem_cons h, List.getD_eq_getElem?_getD, List.getElem?_append_right (by omega), List.set_append_right _ _ (by omega), hl, Nat.sub_self]
  simp only [List.map_append, Option.toList_some, List.map_cons, List.map_nil, List.append_assoc, List.set_cons_zero, List.getElem?_cons_zero, Option.getD_some, List.cons_append, List.nil_append]
theorem warmL_in {l : List Int} {x : Int} (hl : ∀ h ∈ l, 0 ≤ h ∧ h ≤ 1000) (hx : 0 ≤ x) (j : Nat) : ∀ h ∈ warmL l x j, 0 ≤ h ∧ h ≤ 1000 := fun h hm => by
  unfold warmL at hm
  rcases List.mem_append.1 hm with hm | hm
  · obtain ⟨q, hq, rfl⟩ := List.mem_map.1 hm
    have := hl q (List.mem_of_mem_take hq)
    omega
  · exact hl h (List.mem_of_mem_drop hm)
theorem fst2 (a b : Bool) (p q : Int) (hp : p ≠ 0) (hq : q ≠ 0) : fstE [(a, p), (b, q)] = erV (if a = true then p else if b = true then q else 0) := by
  cases a <;> cases b <;> simp [fstE, erV, hp, hq]
theorem free_GZ (Z : List Nat) (m : Mch) (t : MS) (h : (Z.contains 2 || (Z.contains 4 || (Z.contains 5 || Z.contains 6))) = false) : freeM Z (memG m t) = true := by
  simp only [Bool.or_eq_false_iff] at h
  simp [freeM, memG, Mch.ob, Mch.od, Mch.cells, rowP, rowC, rowS, stO', AV.freeL, AV.free, intsA_free, gtsA_free, prsA_free, strsA_free, -List.contains_eq_mem, h.1, h.2.1, h.2.2.1, h.2.2.2]
theorem erV_free (e : Int) (Z : List Nat) : (erV e).free Z = true := by unfold erV; split <;> rfl
theorem ok73 : okFn Tryz.prog 73 = true := by kernel_rfl
theorem m73_2 (m : Mch) (t : MS) {c : Nat} (hI : InvS m.n c t) (hc : c ≤ 1000) (hT : vT m.n m.ls = 0) (hls : m.ls.length ≤ 1000000) (x : Int) (hx : 0 ≤ x ∧ x ≤ 99) :
    MSpec Tryz.prog 73 [.q 7 6 0 0, .q 0 13 0 0, frmA (2, 1, 1, -1), .s 1 (intsA [x])] (memG m t) (fun r N => r = erV (erS m.n m.lim m.ls t 2 x 0 0) ∧ N = memG m (if erS m.n m.lim m.ls t 2 x 0 0 = 0 then nxS t 2 x 0 0 else t)) := by
  refine mspec_of2 (own := [6, 1022, 1033]) Tryz.func73 rfl ok73 ?_
  intro vs
  have hp4 := hI.p4
  have hhl := hI.hl
  have e0 : ((0 : Nat) : Int) = 0 := rfl
  have e1 : ((1 : Nat) : Int) = 1 := rfl
  have e2 : ((2 : Nat) : Int) = 2 := rfl
  have e3 : ((3 : Nat) : Int) = 3 := rfl
  have g0 : 0 < [x].length := by simp
  obtain ⟨gh, hgh⟩ : ∃ gh, gh = some (ghost vs [AV.q 7 6 0 0, AV.q 0 13 0 0, frmA (2, 1, 1, -1), AV.s 1 (intsA [x])]) := ⟨_, rfl⟩
  simp only [wB, awp, asP, asQ, asS, asN, obA, bndA, lenA, loadA, Aw.newRow, St.ev, St.step, setS, killS, AV.kill, AV.killL, Mem.kill, AV.cells, AV.flat, AV.single, AV.cellular, AV.size, AV.sizeL, Nat.reduceAdd, Nat.reduceEqDiff, Nat.reduceSub, Nat.reduceLeDiff, Int.reduceAdd, Int.reduceSub, Int.reduceNeg, Int.reduceLE, lenK, Tryz.ntmps73, memG, Mch.ob, Mch.od, Mch.cells, rowP, rowC, rowS, stO', List.drop_succ_cons, List.drop_zero, ghost, List.take_succ_cons, List.take_zero, e1, frmA, ← hgh]
  refine swp_loop' (fun j : Nat => ⟨[.q 7 6 0 0, .q 0 13 0 0, .bot, .s 1 (intsA [x]), .bot, .bot, .q 9 4 0 0, .bot, .v .nilIface, .bot, .bot, .bot, .bot, .bot, .bot, .bot, .bot, .bot, .bot, .s 1 (intsA [x]), I 1, I j, .bot, .bot, .bot, .bot, .bot, .bot, .bot, .bot, .bot, .bot, .bot, .bot, .bot, .bot, .bot, .bot, .bot, .bot, .bot, .bot, .bot, .bot, .bot, .bot, .bot, .bot, .bot, .bot, .bot, .bot, .bot, .bot, .bot, .bot, .bot, .bot, .bot, .bot, .bot, .bot, .bot, .bot, .bot, .bot, .bot, .bot, .bot, .bot, .bot, .bot, .bot, .bot, .bot, .bot, .bot, .bot, .bot, .bot, .bot, .bot, .bot, .bot, .bot, .bot, .bot, .bot, .bot, .bot, .bot, .bot, .bot, .bot, .bot, .bot, .bot, .bot, .bot, .bot, .bot, .bot, .bot, .bot, .bot, .bot, .bot, .bot, .bot, .bot, .bot, .bot, .bot, .bot, .bot, .bot, .bot, .bot, .bot, .bot, .bot, .bot, .bot, .bot, .bot, .bot, .bot, .bot, .bot, .bot, .bot, .bot, .bot, .bot, .bot, .bot, .bot, .bot, .bot, .bot, .bot, .bot, .bot, .bot, .bot, .bot, .bot, .bot, .bot, .bot, .bot, .bot, .bot, .bot, .bot, .bot, .bot, .bot, .bot, .bot, .bot, .bot, .bot, .bot, .bot, .bot, .bot, .bot, .bot, .bot, .bot, .bot, .bot, .bot, .bot, .bot, .bot, .bot, .bot, .bot, .bot, .bot, .bot, .bot, .bot, .bot, .bot, .bot, .bot, .bot, .bot, .bot, .bot, .bot, .bot, .bot, .bot, .bot, .bot, .bot, .bot, .bot, .bot, .bot, .bot, .bot, .bot, .bot, .bot, .bot, .bot, .bot, .bot, .bot, .bot, .bot, .bot, .bot, .bot, .bot, .bot, .bot, .bot, .bot, .bot, .bot, .bot, .bot, .bot, .bot, .bot, .bot, .bot, .bot, .bot, .bot, .bot, .bot, .bot, .bot, .bot, .bot, .bot, .bot, .bot, .bot, .bot, .bot, .bot, .bot, .bot, .bot, .bot, .bot], memG m t ++ [gh, some ⟨none, 112, 4, [frmA (2, 1, 1, -1)]⟩]⟩) (fun j => j ≤ 1 ∧ ∀ i, i < j → ∀ h : i < ([x] : List Int).length, ([x] : List Int)[i] < t.place.length) (fun j => 1 - j) 0 (le_sl' ?_ ?_) ⟨Nat.zero_le _, fun i h => absurd h (Nat.not_lt_zero _)⟩ ?_
  · simp only [memG, memS, Mch.ob, Mch.od, Mch.cells, rowP, rowC, rowS, stO', combR, List.cons_append, List.nil_append, Option.map_some, Option.map_none, List.drop_succ_cons, List.drop_zero, prsA_sub, strsA_sub, intsA_sub, gtsA_sub, AV.sub, AV.subL, keepF, keepG, liveI, List.getElem?_cons_succ, List.getElem?_cons_zero, List.getElem?_nil, AV.isO, AV.isQ, List.any_cons, List.any_nil, ghost, gA, List.take_succ_cons, List.take_zero, List.drop_nil, hgh, frmA]
  · simp [leSl, intsA]
  rintro j ⟨hj, hno⟩
  refine awp_sound (own := [6, 1022, 1033]) _ _ _ _ _ ?_
  simp only [wB, awp, binC, cmpC, asB, asI, St.ev, St.step, setS, killS, AV.kill, AV.killL, Mem.kill, AV.cells, Nat.reduceAdd, Nat.reduceEqDiff, Int.reduceAdd, Int.reduceNeg, memG, Mch.ob, Mch.od, Mch.cells, rowP, rowC, rowS, stO', ghost, hgh, frmA]
  by_cases h : (j : Int) < 1
  case pos =>
    have hjl : j < ([x] : List Int).length := by simp; omega
    simp only [wB, awp, binC, idxC, cmpC, asP, asQ, asS, asB, asI, asN, obA, lenA, loadA, St.ev, St.step, setS, killS, AV.kill, AV.killL, Mem.kill, AV.cells, AV.flat, AV.single, Nat.reduceAdd, Nat.reduceEqDiff, Nat.reduceLeDiff, Int.reduceAdd, Int.reduceNeg, lenK, Mch.cells, List.drop_zero, List.take_succ_cons, List.take_zero, decide_eq_true h, aget_ints hjl, Int.toNat_natCast]
    refine ⟨by omega, ?_⟩
    obtain ⟨q, hq⟩ : ∃ q, q = ([x] : List Int)[j] := ⟨_, rfl⟩
    rw [← hq]
    by_cases hp : (t.place.length : Int) ≤ q
    · simp only [wB, awp, asN, fillA, putsA, St.ev, St.step, setS, killS, AV.kill, AV.killL, Mem.kill, AV.cells, AV.flat, AV.single, AV.cellular, Value.oneCell', Nat.reduceAdd, Nat.reduceEqDiff, Nat.reduceLeDiff, Int.reduceAdd, Int.reduceNeg, Aw.valOf, Aw.valsOf, cc139, memG, Mch.ob, Mch.od, Mch.cells, rowP, rowC, rowS, stO', decide_eq_true hp]
      have he : erS m.n m.lim m.ls t 2 x 0 0 = 4 := by
        obtain rfl : j = 0 := by omega
        simp only [List.getElem_cons_zero] at hq
        subst hq
        simp only [erS]
        rw [if_pos hp]
      exact ⟨_, _, memG m t, _, Le.refl _, rfl, rfl, rfl, rfl, free_G _ m t, by simp [he, erV, errV], by first | (simp [he]; done) | (simp [he]; rfl)⟩
    · simp only [wB, awp, binC, arithC, cmpC, asI, St.ev, St.step, setS, killS, AV.kill, AV.killL, Mem.kill, AV.cells, Nat.reduceAdd, Nat.reduceEqDiff, Int.reduceAdd, Int.reduceNeg, isU, memG, Mch.ob, Mch.od, Mch.cells, rowP, rowC, rowS, stO', decide_eq_false hp]
      refine ⟨by unfold lim; omega, j + 1, le_sl' ?_ (by simp [leSl]), ⟨by omega, fun i hi hl => ?_⟩, by omega⟩
      · simp only [memG, memS, Mch.ob, Mch.od, Mch.cells, rowP, rowC, rowS, stO', combR, List.cons_append, List.nil_append, Option.map_some, Option.map_none, List.drop_succ_cons, List.drop_zero, prsA_sub, strsA_sub, intsA_sub, gtsA_sub, AV.sub, AV.subL, keepF, keepG, liveI, List.getElem?_cons_succ, List.getElem?_cons_zero, List.getElem?_nil, AV.isO, AV.isQ, List.any_cons, List.any_nil, ghost, gA, List.take_succ_cons, List.take_zero, List.drop_nil, hgh, frmA]
      · rcases Nat.lt_or_ge i j with h1 | h1
        · exact hno i h1 hl
        · obtain rfl : i = j := by omega
          rw [← hq]; omega
  obtain rfl : j = 1 := by omega
  have px : x < t.place.length := by have := hno 0 (by omega) (by simp); simpa using this
  clear hno
  simp only [awp, ACond_false, if_true, decide_false, Int.reduceNeg, Int.reduceLT, e1]
  refine swp_draw (own := [6]) (.take 0 .plain [] (.take 1 .reads [] (.take 2 .plain [] (.take 3 .plain [] (.take 4 .plain [] (.take 5 .plain [] (.take 6 .reads [] (.take 7 .reads [] (.take 8 .reads [] (.take 9 .plain [] (.take 10 .plain [] (.take 11 .plain [] (.take 12 .plain [] (.take 13 .reads [] (.take 14 .plain [] (.take 15 .plain [] (.done))))))))))))))))) [⟨36, 64, 0, 0, true⟩, ⟨37, 34359738368, 1, 0, true⟩, ⟨38, 68719476736, 2, 0, true⟩, ⟨39, 137438953472, 4, 0, true⟩, ⟨40, 274877906952, 8, 0, true⟩, ⟨41, 274877907008, 8, 0, true⟩, ⟨42, 1374389534720, 40, 0, true⟩, ⟨43, 3023656976384, 88, 0, true⟩, ⟨44, 4672924418048, 136, 0, true⟩, ⟨45, 274877906946, 8, 0, true⟩, ⟨46, 17867063951360, 520, 0, true⟩, ⟨47, 35459249995776, 1032, 0, true⟩, ⟨48, 70643622084608, 2056, 0, true⟩, ⟨49, 141012366262272, 4104, 0, true⟩, ⟨50, 290545947639808, 8456, 0, true⟩, ⟨51, 563224831328256, 16392, 0, true⟩] mo (by kernel_rfl) ?_
  simp only [wB, awp, binC, cmpC, asP, asQ, asB, asI, asN, obA, loadA, St.ev, St.step, setS, killS, AV.kill, AV.killL, Mem.kill, AV.cells, AV.flat, AV.single, Nat.reduceAdd, Nat.reduceEqDiff, Nat.reduceLeDiff, Int.reduceAdd, Int.reduceNeg, Int.reduceLE, Int.reduceEq, ASch, St.put, Md.mem, Md.need, Mch.cells, List.drop_succ_cons, List.drop_zero, List.take_succ_cons, List.take_zero, aget_ints g0]
  have hxl : x.toNat < t.heats.length := by rw [hhl]; omega
  have hst : (intsA t.heats)[x.toNat]? = some (I t.heats[x.toNat]) := by simp [intsA, hxl]
  refine swp_draw (own := [6]) (.take 0 .plain [] (.take 1 .plain [] (.take 2 .plain [] (.take 3 .reads [] (.take 4 .plain [] (.take 5 .reads [] (.take 6 .reads [] (.take 7 .reads [] (.alt 8 (.done) (.nil)))))))))) [⟨165, 1, 0, 0, true⟩, ⟨166, 23384026197294446691258957323460528314494920687616, 1, 0, true⟩, ⟨167, 46768052394588893382517914646921056628989841375232, 2, 0, true⟩, ⟨168, 93536104789177786765035829293842113257979682750464, 4, 0, true⟩, ⟨169, 8, 0, 0, true⟩, ⟨170, 374144419156711147060143317175368453031918731001856, 16, 0, true⟩, ⟨171, 748288838313422294120286634350736906063837462003712, 32, 0, true⟩, ⟨172, 1683649886205200161770644927289158038643634289508352, 127, 0, true⟩, ⟨0, 2993155353253689176481146537402947624255349848014848, 255, 1, false⟩] mo (by kernel_rfl) ?_
  simp only [wB, awp, binC, idxC, arithC, cmpC, asP, asQ, asO, asS, asI, asN, obA, loadA, storeA, putsA, St.ev, St.step, setS, killS, AV.kill, AV.killL, Mem.kill, AV.cells, AV.flat, AV.single, AV.cellular, Value.oneCell', Nat.reduceAdd, Nat.reduceEqDiff, Nat.reduceLeDiff, Int.reduceAdd, Int.reduceNeg, Int.reduceLE, ASch, St.put, Md.mem, Md.need, isU, memG, Mch.ob, Mch.od, Mch.cells, rowP, rowC, rowS, stO', List.drop_succ_cons, List.drop_zero, List.take_succ_cons, List.take_zero, List.getElem_cons_zero, aget_ints g0, intsA_set', aget_ints hxl]
  have he : erS m.n m.lim m.ls t 2 x 0 0 = 0 := by simp only [erS]; rw [if_neg (by omega)]
  have hco := hI.co
  refine ⟨⟨hx.1, by omega⟩, by unfold lim; omega, ?_⟩
  exact ⟨_, _, memG m (nxS t 2 x 0 0), _, Le.refl _, rfl, rfl, rfl, rfl, free_G _ m _, by simp [he, erV], by rw [if_pos he]; rfl⟩
end Go.Proofs.YtndniceeibflcaaGreatDoor

namespace Go.Proofs.YtndniceeibflcaaGreatDoor
open Aw Mp Go.RowKit
set_option linter.unusedSimpArgs false
set_option maxRecDepth 8000

theorem m73_7 (m : Mch) (t : MS) {c : Nat} (hI : InvS m.n c t) (hc : c ≤ 1000) (hT : vT m.n m.ls = 0) (hls : m.ls.length ≤ 1000000)  :
    MSpec Tryz.prog 73 [.q 7 6 0 0, .q 0 13 0 0, frmA (7, 0, 0, -1), .s 1 (intsA [])] (memG m t) (fun r N => r = erV (erS m.n m.lim m.ls t 7 0 0 0) ∧ N = memG m (if erS m.n m.lim m.ls t 7 0 0 0 = 0 then nxS t 7 0 0 0 else t)) := by
  refine mspec_of2 (own := [6, 1022, 1033]) Tryz.func73 rfl ok73 ?_
  intro vs
  have hp4 := hI.p4
  have hhl := hI.hl
  have e0 : ((0 : Nat) : Int) = 0 := rfl
  have e1 : ((1 : Nat) : Int) = 1 := rfl
  have e2 : ((2 : Nat) : Int) = 2 := rfl
  have e3 : ((3 : Nat) : Int) = 3 := rfl
  obtain ⟨gh, hgh⟩ : ∃ gh, gh = some (ghost vs [AV.q 7 6 0 0, AV.q 0 13 0 0, frmA (7, 0, 0, -1), AV.s 1 (intsA [])]) := ⟨_, rfl⟩
  simp only [wB, awp, asP, asQ, asS, asN, obA, bndA, lenA, loadA, Aw.newRow, St.ev, St.step, setS, killS, AV.kill, AV.killL, Mem.kill, AV.cells, AV.flat, AV.single, AV.cellular, AV.size, AV.sizeL, Nat.reduceAdd, Nat.reduceEqDiff, Nat.reduceSub, Nat.reduceLeDiff, Int.reduceAdd, Int.reduceSub, Int.reduceNeg, Int.reduceLE, lenK, Tryz.ntmps73, memG, Mch.ob, Mch.od, Mch.cells, rowP, rowC, rowS, stO', List.drop_succ_cons, List.drop_zero, ghost, List.take_succ_cons, List.take_zero, List.drop_nil, e0, frmA, ← hgh]
  refine swp_loop' (fun j : Nat => ⟨[.q 7 6 0 0, .q 0 13 0 0, .bot, .s 1 (intsA []), .bot, .bot, .q 9 4 0 0, .bot, .v .nilIface, .bot, .bot, .bot, .bot, .bot, .bot, .bot, .bot, .bot, .bot, .s 1 (intsA []), I 0, I j, .bot, .bot, .bot, .bot, .bot, .bot, .bot, .bot, .bot, .bot, .bot, .bot, .bot, .bot, .bot, .bot, .bot, .bot, .bot, .bot, .bot, .bot, .bot, .bot, .bot, .bot, .bot, .bot, .bot, .bot, .bot, .bot, .bot, .bot, .bot, .bot, .bot, .bot, .bot, .bot, .bot, .bot, .bot, .bot, .bot, .bot, .bot, .bot, .bot, .bot, .bot, .bot, .bot, .bot, .bot, .bot, .bot, .bot, .bot, .bot, .bot, .bot, .bot, .bot, .bot, .bot, .bot, .bot, .bot, .bot, .bot, .bot, .bot, .bot, .bot, .bot, .bot, .bot, .bot, .bot, .bot, .bot, .bot, .bot, .bot, .bot, .bot, .bot, .bot, .bot, .bot, .bot, .bot, .bot, .bot, .bot, .bot, .bot, .bot, .bot, .bot, .bot, .bot, .bot, .bot, .bot, .bot, .bot, .bot, .bot, .bot, .bot, .bot, .bot, .bot, .bot, .bot, .bot, .bot, .bot, .bot, .bot, .bot, .bot, .bot, .bot, .bot, .bot, .bot, .bot, .bot, .bot, .bot, .bot, .bot, .bot, .bot, .bot, .bot, .bot, .bot, .bot, .bot, .bot, .bot, .bot, .bot, .bot, .bot, .bot, .bot, .bot, .bot, .bot, .bot, .bot, .bot, .bot, .bot, .bot, .bot, .bot, .bot, .bot, .bot, .bot, .bot, .bot, .bot, .bot, .bot, .bot, .bot, .bot, .bot, .bot, .bot, .bot, .bot, .bot, .bot, .bot, .bot, .bot, .bot, .bot, .bot, .bot, .bot, .bot, .bot, .bot, .bot, .bot, .bot, .bot, .bot, .bot, .bot, .bot, .bot, .bot, .bot, .bot, .bot, .bot, .bot, .bot, .bot, .bot, .bot, .bot, .bot, .bot, .bot, .bot, .bot, .bot, .bot, .bot, .bot, .bot, .bot, .bot, .bot, .bot, .bot, .bot, .bot, .bot, .bot, .bot], memG m t ++ [gh, some ⟨none, 112, 4, [frmA (7, 0, 0, -1)]⟩]⟩) (fun j => j ≤ 0 ∧ ∀ i, i < j → ∀ h : i < ([] : List Int).length, ([] : List Int)[i] < t.place.length) (fun j => 0 - j) 0 (le_sl' ?_ ?_) ⟨Nat.zero_le _, fun i h => absurd h (Nat.not_lt_zero _)⟩ ?_
  · simp only [memG, memS, Mch.ob, Mch.od, Mch.cells, rowP, rowC, rowS, stO', combR, List.cons_append, List.nil_append, Option.map_some, Option.map_none, List.drop_succ_cons, List.drop_zero, prsA_sub, strsA_sub, intsA_sub, gtsA_sub, AV.sub, AV.subL, keepF, keepG, liveI, List.getElem?_cons_succ, List.getElem?_cons_zero, List.getElem?_nil, AV.isO, AV.isQ, List.any_cons, List.any_nil, ghost, gA, List.take_succ_cons, List.take_zero, List.drop_nil, hgh, frmA]
  · simp [leSl, intsA]
  rintro j ⟨hj, hno⟩
  refine awp_sound (own := [6, 1022, 1033]) _ _ _ _ _ ?_
  simp only [wB, awp, binC, cmpC, asB, asI, St.ev, St.step, setS, killS, AV.kill, AV.killL, Mem.kill, AV.cells, Nat.reduceAdd, Nat.reduceEqDiff, Int.reduceAdd, Int.reduceNeg, memG, Mch.ob, Mch.od, Mch.cells, rowP, rowC, rowS, stO', ghost, hgh, frmA]
  by_cases h : (j : Int) < 0
  case pos =>
    omega
  obtain rfl : j = 0 := by omega
  clear hno
  simp only [awp, ACond_false, if_true, decide_false, Int.reduceNeg, Int.reduceLT, e0]
  refine swp_draw (own := [6]) (.take 0 .plain [] (.take 1 .reads [] (.take 2 .plain [] (.take 3 .plain [] (.take 4 .plain [] (.take 5 .plain [] (.take 6 .reads [] (.take 7 .reads [] (.take 8 .reads [] (.take 9 .plain [] (.take 10 .plain [] (.take 11 .plain [] (.take 12 .plain [] (.take 13 .reads [] (.take 14 .plain [] (.take 15 .plain [] (.done))))))))))))))))) [⟨36, 64, 0, 0, true⟩, ⟨37, 34359738368, 1, 0, true⟩, ⟨38, 68719476736, 2, 0, true⟩, ⟨39, 137438953472, 4, 0, true⟩, ⟨40, 274877906952, 8, 0, true⟩, ⟨41, 274877907008, 8, 0, true⟩, ⟨42, 1374389534720, 40, 0, true⟩, ⟨43, 3023656976384, 88, 0, true⟩, ⟨44, 4672924418048, 136, 0, true⟩, ⟨45, 274877906946, 8, 0, true⟩, ⟨46, 17867063951360, 520, 0, true⟩, ⟨47, 35459249995776, 1032, 0, true⟩, ⟨48, 70643622084608, 2056, 0, true⟩, ⟨49, 141012366262272, 4104, 0, true⟩, ⟨50, 290545947639808, 8456, 0, true⟩, ⟨51, 563224831328256, 16392, 0, true⟩] mo (by kernel_rfl) ?_
  simp only [wB, awp, binC, cmpC, asP, asQ, asB, asI, asN, obA, lenA, loadA, St.ev, St.step, setS, killS, AV.kill, AV.killL, Mem.kill, AV.cells, AV.flat, AV.single, Nat.reduceAdd, Nat.reduceEqDiff, Nat.reduceLeDiff, Int.reduceAdd, Int.reduceNeg, Int.reduceLE, Int.reduceEq, ASch, St.put, Md.mem, Md.need, lenK, Mch.cells, List.drop_succ_cons, List.drop_zero, List.take_succ_cons, List.take_zero]
  by_cases hc0 : (t.circ.length : Int) = 0
  · simp only [wB, awp, asN, fillA, putsA, St.ev, St.step, setS, killS, AV.kill, AV.killL, Mem.kill, AV.cells, AV.flat, AV.single, AV.cellular, Value.oneCell', Nat.reduceAdd, Nat.reduceEqDiff, Nat.reduceLeDiff, Int.reduceAdd, Int.reduceNeg, Aw.valOf, Aw.valsOf, cc139, memG, Mch.ob, Mch.od, Mch.cells, rowP, rowC, rowS, stO', gtsA_len, decide_eq_true hc0]
    have he : erS m.n m.lim m.ls t 7 0 0 0 = 9 := by simp only [erS]; rw [if_pos (List.eq_nil_of_length_eq_zero (by omega))]
    exact ⟨_, _, memG m t, _, Le.refl _, rfl, rfl, rfl, rfl, free_G _ m t, by simp [he, erV, errV], by first | (simp [he]; done) | (simp [he]; rfl)⟩
  · simp only [wB, awp, asP, asQ, asN, obA, storeA, putsA, St.ev, St.step, setS, killS, AV.kill, AV.killL, Mem.kill, AV.cells, AV.flat, AV.single, AV.cellular, Value.oneCell', Nat.reduceAdd, Nat.reduceEqDiff, Nat.reduceLeDiff, Int.reduceAdd, Int.reduceNeg, memG, Mch.ob, Mch.od, Mch.cells, rowP, rowC, rowS, stO', gtsA_len, decide_eq_false hc0]
    have he : erS m.n m.lim m.ls t 7 0 0 0 = 0 := by simp only [erS]; rw [if_neg (fun h => hc0 (by rw [h]; rfl))]
    refine ⟨_, .v .nilIface, memG m (nxS t 7 0 0 0), [], Le.trans (le_nil 7 0 2 81 4 rfl rfl rfl rfl) (le_ren [0, 1, 2, 3, 4, 5, 10, 7, 8] (by decide)), rfl, ?_, rfl, rfl, free_G _ m _, by simp [he, erV], by rw [if_pos he]; rfl⟩
    simp only [hgh, ghost]
    simp [reM, reF, reG, memG, Mch.ob, Mch.od, Mch.cells, rowP, rowC, rowS, stO', AV.sub, AV.subL, intsA_sub, gtsA_sub, prsA_sub, strsA_sub, nxS, frmA, List.idxOf?, List.findIdx?, List.findIdx?.go, ghost]
    rfl
end Go.Proofs.YtndniceeibflcaaGreatDoor
