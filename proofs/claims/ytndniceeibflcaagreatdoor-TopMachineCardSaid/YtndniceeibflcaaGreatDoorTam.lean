/-
  Parts of several texts in one: NaB, NaC, NaD, NaE, NaF, NaG, NaH, NaI, NaJ, NaK, NaL, NcA, NcB, NcC.
-/
import Derived.Test.YtndniceeibflcaaGreatDoorProg
import Derived.WalkKit
import Derived.Lib.ConvBytes
import Derived.LaidEql
import Derived.Lib.ItoaNum
import Derived.Lib.LaidTab
import Derived.KernelRfl
import GoSem.Claims
import GoSem.ClaimJoined
import Derived.Orders
import Derived.Laws.StructEq
import Derived.Maps.Keyed
import Derived.Lib.Strings
import Derived.Maps.AppendAt
import Derived.Laws.Concat
import Derived.MapKept
import Derived.Laws.MakeOwn
import Derived.Scope
import Derived.Laws.BitsLemmas
import Derived.Maps.RangeRun
import Derived.StillTail
import Derived.OrdersIn
import Derived.TacticsIn
import Derived.RangeFuncRecord
import Derived.RangeFuncCalls
import Derived.RangeFuncSeq
import Derived.Lib.Split
import Derived.Lib.AtoiAll
import Derived.Shelf.LaysM
import Derived.Shelf.LaysC
import Derived.Shelf.Strconv.Itoa3
import Derived.Shelf.Strconv.AtoiAll
import Derived.Shelf.Strings.Search3
import Derived.Shelf.Strings.Cut
import Derived.Shelf.Strings.Prefix
import Derived.Shelf.Strings.Split
import Derived.Lib.AppendIntMem
import Derived.Stop.Asserts
import Derived.RowKitTokens
import Derived.Conc.MuLone
import Derived.Test.YtndniceeibflcaaGreatDoorRows
import Derived.Test.YtndniceeibflcaaGreatDoorChecked
import Derived.ChangeSame
import Derived.ChangeVars
import Derived.JoinedOf
import Derived.ProofKit
import Derived.RowKit
import Derived.LaidLaws
import Derived.LaidHandle
import Derived.LaidMore
import Derived.Stop.Joined
import Derived.Stop.LaidErr
import Derived.HandedShaped
import Derived.Shelf.Vars
import Derived.Deep.Slices
import Derived.Deep.Strs
import Derived.Deep.Fields
import Derived.Lib.SmallJoins
import Derived.SliceStrings
import Derived.ChangeMaps5
import Derived.Shelf.RegionOpenPlain
import Derived.Deep.LoopGhost
import Derived.Deep.RegionLaw
import Derived.Lib.Walk
import Derived.Sort.WalkB12
import Derived.Lib.SliceRun
import Derived.Lib.SlicesDelete
import Derived.Test.YtndniceeibflcaaGreatDoorTaa
import Derived.Test.YtndniceeibflcaaGreatDoorTab
import Derived.Test.YtndniceeibflcaaGreatDoorTac
import Derived.Test.YtndniceeibflcaaGreatDoorTad
import Derived.Test.YtndniceeibflcaaGreatDoorTae
import Derived.Test.YtndniceeibflcaaGreatDoorTag
import Derived.Test.YtndniceeibflcaaGreatDoorTah
import Derived.Test.YtndniceeibflcaaGreatDoorTai
import Derived.Test.YtndniceeibflcaaGreatDoorTak
import Derived.Test.YtndniceeibflcaaGreatDoorTal
set_option linter.unusedSimpArgs false
set_option linter.unusedVariables false
namespace Go.Proofs.YtndniceeibflcaaGreatDoor
namespace Aw
end Aw
namespace Mp
end Mp
end Go.Proofs.YtndniceeibflcaaGreatDoor
namespace Go.Proofs.YtndniceeibflcaaGreatDoor
open Aw Mp Go.RowKit
set_option linter.unusedSimpArgs false

set_option maxRecDepth 8000

set_option maxHeartbeats 2000000 in
theorem s121 (c : List G4) (hl : c.length ≤ 10000) : ASpec Tryz.prog 121 [.s 4 (gtsA c)] (fun r Ms => r = mtA (pm c) ∧ Ms = []) := by
  refine aspec_of (own := [7]) Tryz.func121 rfl ok121 ?_
  simp only [wB, awp, asN, lenA, St.ev, St.step, setS, killS, AV.kill, AV.killL, Mem.kill, Nat.reduceAdd, Nat.reduceEqDiff, Nat.reduceSub, Int.reduceAdd, Int.reduceSub, lenK, Tryz.ntmps121, gtsA_len]
  refine swp_loop' (fun i : Nat => ⟨[.s 4 (gtsA c), .bot, .bot, .bot, .bot, .bot, .bot, .bot, .bot, .bot, .bot, .s 4 (gtsA c), I c.length, I i, .bot, .bot, .bot, .bot, .bot, .bot, .bot, .bot, .bot, .bot, .bot, .bot, .bot, .bot, .bot, .bot, .bot, .bot, .bot, .bot, .bot, .bot, .bot, .bot, .bot, .bot, .bot, .bot, .bot, .bot, .bot, .bot, .bot, .bot, .bot, .bot, .bot, .bot, .bot, .bot, .bot], []⟩) (fun i => i ≤ c.length ∧ pm c = (pm (c.drop i)).map fun p => (p.1 + i, p.2 + i)) (fun i => c.length - i) 0 (le_sl (by simp [leSl])) ⟨Nat.zero_le _, by simp⟩ ?_
  rintro i ⟨hi, hm⟩
  refine awp_sound (own := [7]) _ _ _ _ _ ?_
  simp only [wB, awp, binC, cmpC, asB, asI, St.ev, St.step, setS, killS, AV.kill, AV.killL, Mem.kill, Nat.reduceAdd, Nat.reduceEqDiff, Int.reduceAdd]
  by_cases h : i < c.length
  · have h' : (i : Int) < (c.length : Int) := by omega
    simp only [wB, awp, binC, idxC, arithC, cmpC, asP, asQ, asS, asI, asN, obA, bndA, lenA, loadA, storeA, putsA, mkA, Aw.newRow, St.ev, St.step, setS, killS, AV.kill, AV.killL, Mem.kill, AV.cells, AV.flat, AV.single, AV.cellular, Nat.reduceAdd, Nat.reduceEqDiff, Nat.reduceLeDiff, Int.reduceAdd, isU, lenK, gtsA_len, decide_eq_true h', aget_gts h, Int.toNat_natCast]
    refine ⟨by omega, by unfold lim; omega, by omega, ?_⟩
    have ed : List.drop ((i : Int) + 1).toNat (List.take (c.length : Int).toNat (gtsA c)) = gtsA (c.drop (i + 1)) := by
      rw [show ((i : Int) + 1).toNat = i + 1 by omega, Int.toNat_natCast, gtsA_take, List.take_length, gtsA_drop]
    obtain ⟨l, hld⟩ : ∃ l, l = c.drop (i + 1) := ⟨_, rfl⟩
    have hll : l.length = c.length - (i + 1) := by rw [hld]; simp
    refine swp_loop' (fun j : Nat × List G4 => ⟨[.s 4 (gtsA c), .bot, .bot, .bot, .bot, I i, .q 0 4 0 0, .o 1, .bot, .bot, .bot, .s 4 (gtsA c), I c.length, I i, .bot, .bot, .bot, .bot, .bot, .bot, .bot, .s 4 (gtsA l), I l.length, I j.1, .bot, .bot, .bot, .bot, .bot, .bot, .bot, .bot, .bot, .bot, .bot, .bot, .bot, .bot, .bot, .bot, .bot, .bot, .bot, .bot, .bot, .bot, .bot, .bot, .bot, .bot, .bot, .bot, .bot, .bot, .bot], [some ⟨none, 81, 4, [.g [I c[i].k, I c[i].a, I c[i].b, I c[i].t]]⟩, some ⟨none, 81, 4, gtsA j.2⟩]⟩)
      (fun j => j.1 ≤ l.length ∧ j.2.length ≤ j.1 ∧ pmIn c[i] [] l = (pmIn c[i] j.2 (l.drop j.1)).map (· + j.1)) (fun j => l.length - j.1) (0, []) (le_sl (by simp [leSl, gtsA_len]; exact ⟨by rw [hld, gtsA_take, List.take_length, gtsA_drop], by omega⟩)) ⟨Nat.zero_le _, Nat.le_refl _, by simp⟩ ?_
    rintro ⟨j, beh⟩ ⟨hj, hbl, hn⟩
    simp only at hj hbl hn
    refine awp_sound (own := [7]) _ _ _ _ _ ?_
    simp only [wB, awp, binC, cmpC, asB, asI, St.ev, St.step, setS, killS, AV.kill, AV.killL, Mem.kill, Nat.reduceAdd, Nat.reduceEqDiff, Int.reduceAdd]
    by_cases hjl : j < l.length
    · have hj' : (j : Int) < (l.length : Int) := by omega
      simp only [wB, awp, idxC, asP, asQ, asS, asI, asN, obA, loadA, storeA, putsA, mkA, Aw.newRow, St.ev, St.step, setS, killS, AV.kill, AV.killL, Mem.kill, AV.cells, AV.flat, AV.single, AV.cellular, Value.oneCell', Nat.reduceAdd, Nat.reduceEqDiff, Nat.reduceLeDiff, Int.reduceAdd, decide_eq_true hj', aget_gts hjl, Int.toNat_natCast]
      refine ⟨by omega, rfl, acall_l2 (s118 beh (fun x => l[j].bound x) 151 [.p (gA l[j]) 0] (by omega) rfl (fun z => s151 z l[j])) (by simp [frz2, AV.sub, AV.subL, gtsA_pure, frz, gA]) rfl rfl ?_⟩
      simp only [wB, awp, asP, asQ, asN, obA, loadA, St.ev, St.step, setS, killS, AV.kill, AV.killL, Mem.kill, AV.cells, AV.flat, AV.single, Nat.reduceAdd, Nat.reduceEqDiff, Nat.reduceLeDiff, Int.reduceAdd]
      refine acall_v (s153 c[i] l[j]) rfl rfl ?_
      cases hw : beh.any (fun x => l[j].bound x) with
      | true =>
        cases d1 : c[i].same l[j] with
        | true =>
          simp only [wB, awp, binC, arithC, cmpC, asP, asQ, asO, asS, asB, asI, asN, obA, loadA, St.ev, St.step, setS, killS, AV.kill, AV.killL, Mem.kill, AV.cells, AV.flat, AV.single, AV.cellular, AV.size, AV.sizeL, AV.pure, AV.pureL, Value.oneCell', Nat.reduceAdd, Nat.reduceEqDiff, Nat.reduceMul, Nat.reduceLeDiff, Int.reduceAdd, Int.reduceMul, isU, gtsA_len]
          refine ⟨⟨by decide, rfl⟩, ⟨by decide, by omega⟩, by unfold lim; omega, (j + 1, beh ++ [l[j]]), ?_, ⟨hjl, by simp; omega, ?_⟩, by simp only; omega⟩
          · rw [gtsA_kill, gtsA_app]
            exact le_cut (Mx := [_]) (M' := [_, _]) (by simp [leSl]) rfl (by simp [AV.freeL, AV.free, freeL_pure, gtsA_pure]) (by simp [freeM, AV.freeL, AV.free, freeL_pure, gtsA_pure])
          · rw [hn, pmIn_step hjl, hw, d1]
            simp only [Bool.and_false, Bool.and_true, Bool.false_and, Bool.true_or, Bool.or_true, Bool.not_true, Bool.not_false, Bool.false_eq_true, if_false, if_true, Option.map_map]
            congr 1
            funext x
            simp
            omega
        | false =>
          simp only [wB, awp, binC, arithC, cmpC, asP, asQ, asO, asS, asB, asI, asN, obA, loadA, St.ev, St.step, setS, killS, AV.kill, AV.killL, Mem.kill, AV.cells, AV.flat, AV.single, AV.cellular, AV.size, AV.sizeL, AV.pure, AV.pureL, Value.oneCell', Nat.reduceAdd, Nat.reduceEqDiff, Nat.reduceMul, Nat.reduceLeDiff, Int.reduceAdd, Int.reduceMul, isU, gtsA_len]
          refine ⟨⟨by decide, rfl⟩, ⟨by decide, by omega⟩, by unfold lim; omega, (j + 1, beh ++ [l[j]]), ?_, ⟨hjl, by simp; omega, ?_⟩, by simp only; omega⟩
          · rw [gtsA_kill, gtsA_app]
            exact le_cut (Mx := [_]) (M' := [_, _]) (by simp [leSl]) rfl (by simp [AV.freeL, AV.free, freeL_pure, gtsA_pure]) (by simp [freeM, AV.freeL, AV.free, freeL_pure, gtsA_pure])
          · rw [hn, pmIn_step hjl, hw, d1]
            simp only [Bool.and_false, Bool.and_true, Bool.false_and, Bool.true_or, Bool.or_true, Bool.not_true, Bool.not_false, Bool.false_eq_true, if_false, if_true, Option.map_map]
            congr 1
            funext x
            simp
            omega
      | false =>
        cases d1 : c[i].same l[j] with
        | true =>
          simp only [wB, awp, binC, arithC, cmpC, asB, asI, asN, St.ev, St.step, setS, killS, AV.kill, AV.killL, Mem.kill, Nat.reduceAdd, Nat.reduceEqDiff, Int.reduceAdd, isU]
          have e1 : pmIn c[i] [] l = some j := by rw [hn, pmIn_step hjl, hw, d1]; simp
          have e2 : pm c = some (i, i + 1 + j) := by rw [hm, pm_step h, ← hld, e1]; simp; omega
          refine ⟨by unfold lim; omega, by unfold lim; omega, ?_⟩
          exact aend_frz rfl ⟨by rw [e2]; simp [frz, AV.sub, AV.subL, mtA], rfl⟩
        | false =>
          simp only [wB, awp, asP, asQ, asB, obA, loadA, St.ev, St.step, setS, killS, AV.kill, AV.killL, Mem.kill, AV.cells, AV.flat, AV.single, Nat.reduceAdd, Nat.reduceEqDiff, Nat.reduceLeDiff, Int.reduceAdd]
          refine acall_v (s152 c[i] l[j]) rfl rfl ?_
          cases d2 : c[i].bound l[j] with
          | true =>
            simp only [wB, awp, binC, arithC, cmpC, asP, asQ, asO, asS, asB, asI, asN, obA, loadA, St.ev, St.step, setS, killS, AV.kill, AV.killL, Mem.kill, AV.cells, AV.flat, AV.single, AV.cellular, AV.size, AV.sizeL, AV.pure, AV.pureL, Value.oneCell', Nat.reduceAdd, Nat.reduceEqDiff, Nat.reduceMul, Nat.reduceLeDiff, Int.reduceAdd, Int.reduceMul, isU, gtsA_len]
            refine ⟨⟨by decide, rfl⟩, ⟨by decide, by omega⟩, by unfold lim; omega, (j + 1, beh ++ [l[j]]), ?_, ⟨hjl, by simp; omega, ?_⟩, by simp only; omega⟩
            · rw [gtsA_kill, gtsA_app]
              exact le_cut (Mx := [_]) (M' := [_, _]) (by simp [leSl]) rfl (by simp [AV.freeL, AV.free, freeL_pure, gtsA_pure]) (by simp [freeM, AV.freeL, AV.free, freeL_pure, gtsA_pure])
            · rw [hn, pmIn_step hjl, hw, d1, d2]
              simp only [Bool.and_false, Bool.and_true, Bool.false_and, Bool.true_or, Bool.or_true, Bool.not_true, Bool.not_false, Bool.false_eq_true, if_false, if_true, Option.map_map]
              congr 1
              funext x
              simp
              omega
          | false =>
            simp only [wB, awp, binC, arithC, cmpC, asB, asI, St.ev, St.step, setS, killS, AV.kill, AV.killL, Mem.kill, Nat.reduceAdd, Nat.reduceEqDiff, Int.reduceAdd, isU]
            refine ⟨by unfold lim; omega, (j + 1, beh), ?_, ⟨hjl, by simp only; omega, ?_⟩, by simp only; omega⟩
            · exact le_cut (Mx := [_]) (M' := [_, _]) (by simp [leSl]) rfl (by simp [AV.freeL, AV.free, freeL_pure, gtsA_pure]) (by simp [freeM, AV.freeL, AV.free, freeL_pure, gtsA_pure])
            · rw [hn, pmIn_step hjl, hw, d1, d2]
              simp only [Bool.and_false, Bool.and_true, Bool.false_and, Bool.true_or, Bool.or_true, Bool.or_false, Bool.not_true, Bool.not_false, Bool.false_eq_true, if_false, if_true, Option.map_map]
              congr 1
              funext x
              simp
              omega
    · have hj' : ¬ (j : Int) < (l.length : Int) := by omega
      have hje : j = l.length := by omega
      simp only [wB, awp, binC, arithC, cmpC, asI, asN, St.ev, St.step, setS, killS, AV.kill, AV.killL, Mem.kill, Nat.reduceAdd, Nat.reduceEqDiff, Int.reduceAdd, isU, decide_eq_false hj']
      have e1 : pmIn c[i] [] l = none := by rw [hn, hje, List.drop_length]; simp [pmIn]
      refine ⟨by unfold lim; omega, i + 1, le_all (by simp [leSl]) rfl, ⟨h, ?_⟩, by omega⟩
      rw [hm, pm_step h, ← hld, e1]
      simp only [Option.map_map]
      rw [hld]
      congr 1
      funext x
      simp
      omega
  · have h' : ¬ (i : Int) < (c.length : Int) := by omega
    simp only [wB, awp, asN, St.ev, St.step, setS, killS, AV.kill, AV.killL, Mem.kill, Nat.reduceAdd, Nat.reduceEqDiff, Int.reduceAdd, decide_eq_false h']
    have e1 : pm c = none := by rw [hm, show i = c.length by omega, List.drop_length]; rfl
    exact aend_frz rfl ⟨by rw [e1]; rfl, rfl⟩
end Go.Proofs.YtndniceeibflcaaGreatDoor

namespace Go.Proofs.YtndniceeibflcaaGreatDoor
open Aw Mp Go.RowKit
set_option linter.unusedSimpArgs false
set_option maxRecDepth 8000

def wo (c : List G4) (i : Nat) : List G4 := c.take i ++ c.drop (i + 1)
theorem wo_len (c : List G4) {i : Nat} (h : i < c.length) : (wo c i).length = c.length - 1 := by unfold wo; simp; omega
/-- the place of the smallest of some gates. -/
def bstL (lt : G4 → G4 → Bool) (c : List G4) : List Nat → Nat
  | [] => 0
  | x :: t => t.foldl (fun b y => if lt (c.getD y default) (c.getD b default) then y else b) x
theorem bstL_one (lt : G4 → G4 → Bool) (c : List G4) (l : List Nat) (h : 0 < l.length) : bstL lt c (l.take 1) = l[0] := by
  cases l with
  | nil => simp at h
  | cons x l => rfl
theorem bstL_succ (lt : G4 → G4 → Bool) (c : List G4) (l : List Nat) {j : Nat} (h1 : 1 ≤ j) (h : j < l.length) : bstL lt c (l.take (j + 1)) = if lt (c.getD l[j] default) (c.getD (bstL lt c (l.take j)) default) then l[j] else bstL lt c (l.take j) := by
  cases l with
  | nil => simp at h
  | cons x l =>
    obtain ⟨i, rfl⟩ : ∃ i, j = i + 1 := ⟨j - 1, by omega⟩
    simp only [List.take_succ_cons, bstL, List.getElem_cons_succ]
    rw [List.take_add_one, List.foldl_append, List.getElem?_eq_getElem (by simpa using h)]
    rfl
theorem foldl_mem (f : Nat → Nat → Nat) (hf : ∀ a b, f a b = a ∨ f a b = b) : ∀ (l : List Nat) (x : Nat), l.foldl f x = x ∨ l.foldl f x ∈ l
  | [], x => .inl rfl
  | y :: l, x => by
    simp only [List.foldl_cons]
    rcases foldl_mem f hf l (f x y) with h | h
    · rw [h]
      rcases hf x y with h | h
      · exact .inl h
      · right; rw [h]; simp
    · exact .inr (List.mem_cons_of_mem _ h)
theorem bstL_mem (lt : G4 → G4 → Bool) (c : List G4) (l : List Nat) (h : l ≠ []) : bstL lt c l ∈ l := by
  cases l with
  | nil => exact absurd rfl h
  | cons x l =>
    rcases foldl_mem (fun b y => if lt (c.getD y default) (c.getD b default) then y else b) (fun a b => by split <;> simp) l x with h | h
    · show List.foldl _ x l ∈ _
      rw [h]; simp
    · exact List.mem_cons_of_mem _ h

theorem fsN_lt {bd : G4 → G4 → Bool} {c : List G4} {k i : Nat} (h : i ∈ fsN bd c k) : i < k := by
  unfold fsN at h
  have := (List.mem_filter.1 h).1
  simpa using this
theorem fsN_ne {bd : G4 → G4 → Bool} {c : List G4} {k : Nat} (h : 0 < k) : fsN bd c k ≠ [] := by
  have : 0 ∈ fsN bd c k := by unfold fsN; simp [h, fst1]
  intro e
  rw [e] at this
  cases this
theorem fsI_lenN (bd : G4 → G4 → Bool) (c : List G4) (k : Nat) : (fsI bd c k).length = (fsN bd c k).length := by simp [fsI]

/-- the place of the gate that the name begins with. -/
def bst (lt bd : G4 → G4 → Bool) (c : List G4) : Nat := bstL lt c (fsN bd c c.length)
theorem bst_lt (lt bd : G4 → G4 → Bool) (c : List G4) (h : 0 < c.length) : bst lt bd c < c.length := fsN_lt (bstL_mem lt c _ (fsN_ne h))

/-- the name of a circuit. -/
def nmF (lt bd : G4 → G4 → Bool) : Nat → List G4 → List G4
  | 0, _ => []
  | n + 1, c => if c.isEmpty then [] else c.getD (bst lt bd c) default :: nmF lt bd n (wo c (bst lt bd c))
def nmR (lt bd : G4 → G4 → Bool) (c : List G4) : List G4 := nmF lt bd c.length c
theorem nmR_nil (lt bd : G4 → G4 → Bool) : nmR lt bd [] = [] := rfl
theorem nmR_step (lt bd : G4 → G4 → Bool) (c : List G4) (h : 0 < c.length) : nmR lt bd c = c.getD (bst lt bd c) default :: nmR lt bd (wo c (bst lt bd c)) := by
  unfold nmR
  rw [wo_len c (bst_lt lt bd c h)]
  obtain ⟨n, hn⟩ : ∃ n, c.length = n + 1 := ⟨c.length - 1, by omega⟩
  have hne : c.isEmpty = false := by cases c with | nil => simp at h | cons => rfl
  rw [hn, nmF, hne]
  simp
theorem nmR_len (lt bd : G4 → G4 → Bool) : ∀ (n : Nat) (c : List G4), c.length = n → (nmR lt bd c).length = n
  | 0, c, h => by
    have : c = [] := List.eq_nil_of_length_eq_zero h
    subst this
    rfl
  | n + 1, c, h => by
    have hp : 0 < c.length := by omega
    rw [nmR_step lt bd c hp, List.length_cons, nmR_len lt bd n _ (by rw [wo_len c (bst_lt lt bd c hp)]; omega)]


/-- two gates that meet are taken together. -/
def rstep (d : List G4) (i k : Nat) : List G4 :=
  if ((d.getD i default).t + (d.getD k default).t) % 16 = 0 then wo (wo (d.set i { (d.getD i default) with t := ((d.getD i default).t + (d.getD k default).t) % 16 }) k) i else wo (d.set i { (d.getD i default) with t := ((d.getD i default).t + (d.getD k default).t) % 16 }) k
theorem pmIn_lt : ∀ (g : G4) (l beh : List G4) (k : Nat), pmIn g beh l = some k → k < l.length
  | g, [], beh, k, h => by simp [pmIn] at h
  | g, x :: l, beh, k, h => by
    rw [pmIn] at h
    split at h
    · simp at h; subst h; simp
    · simp only [Option.map_eq_some_iff] at h
      obtain ⟨j, hj, rfl⟩ := h
      have := pmIn_lt g l _ j hj
      simp only [List.length_cons]; omega
theorem pm_lt : ∀ (c : List G4) (i k : Nat), pm c = some (i, k) → i < k ∧ k < c.length
  | [], i, k, h => by simp [pm] at h
  | g :: t, i, k, h => by
    rw [pm] at h
    split at h
    · rename_i j hj
      simp only [Option.some.injEq, Prod.mk.injEq] at h
      have := pmIn_lt g t [] j hj
      simp only [List.length_cons]
      omega
    · simp only [Option.map_eq_some_iff, Prod.mk.injEq] at h
      obtain ⟨⟨a, b⟩, hp, h1, h2⟩ := h
      have := pm_lt t a b hp
      simp only at h1 h2
      simp only [List.length_cons]
      omega
/-- the angles of gates. -/
def OkT (c : List G4) : Prop := ∀ g ∈ c, 1 ≤ g.t ∧ g.t ≤ 15
theorem OkT.wo {c : List G4} (h : OkT c) (i : Nat) : OkT (wo c i) := fun g hg => by
  unfold Go.Proofs.YtndniceeibflcaaGreatDoor.wo at hg
  rcases List.mem_append.1 hg with hg | hg
  · exact h g (List.mem_of_mem_take hg)
  · exact h g (List.mem_of_mem_drop hg)
theorem vC_OkT {n : Int} {c : List G4} (h : vC n c = 0) : OkT c := by
  unfold vC at h
  split at h
  · cases h
  split at h
  · cases h
  unfold vG at h
  split at h
  · rename_i ho
    intro g hg
    have := ho g hg
    unfold okG at this
    have := of_decide_eq_true this
    omega
  · cases h
theorem rstep_len {c : List G4} {i k : Nat} (h : pm c = some (i, k)) : (rstep c i k).length < c.length := by
  obtain ⟨h1, h2⟩ := pm_lt c i k h
  unfold rstep
  split
  · rw [wo_len _ (by rw [wo_len _ (by simpa using h2)]; simp; omega), wo_len _ (by simpa using h2)]
    simp; omega
  · rw [wo_len _ (by simpa using h2)]
    simp; omega
theorem wo_set_self (c : List G4) (i : Nat) (x : G4) : wo (c.set i x) i = wo c i := by
  unfold wo
  rw [List.take_set, List.drop_set, if_pos (by omega), List.set_eq_of_length_le (by simp; omega)]
theorem wo_set (c : List G4) {i k : Nat} (x : G4) (h : i < k) (hk : k < c.length) : wo (c.set i x) k = (wo c k).set i x := by
  unfold wo
  rw [List.take_set, List.drop_set, if_pos (by omega), List.set_append_left _ _ (by simp; omega)]
theorem rstep_ok {c : List G4} {i k : Nat} (ho : OkT c) (h : pm c = some (i, k)) : OkT (rstep c i k) := by
  obtain ⟨h1, h2⟩ := pm_lt c i k h
  unfold rstep
  split
  · rw [wo_set _ _ h1 h2, wo_set_self]
    exact OkT.wo (OkT.wo ho _) _
  · rename_i h0
    refine OkT.wo (fun g hg => ?_) _
    rcases List.mem_or_eq_of_mem_set hg with hg | rfl
    · exact ho g hg
    · simp only
      omega
def rdF : Nat → List G4 → List G4
  | 0, c => c
  | n + 1, c => match pm c with | none => c | some p => rdF n (rstep c p.1 p.2)
theorem rdF_fuel : ∀ (n : Nat) (c : List G4), c.length ≤ n → rdF n c = rdF c.length c
  | 0, c, h => by rw [show c.length = 0 by omega]
  | n + 1, c, h => by
    cases hc : c.length with
    | zero =>
      rw [show c = [] from List.length_eq_zero_iff.1 hc]; rfl
    | succ m =>
      rw [rdF, rdF]
      cases hp : pm c with
      | none => rfl
      | some p =>
        simp only
        have hl := rstep_len (show pm c = some (p.1, p.2) from hp)
        rw [rdF_fuel n _ (by omega), rdF_fuel m _ (by omega)]
  termination_by n => n
/-- what is left of a circuit. -/
def redC (c : List G4) : List G4 := nmR G4.less G4.bound (rdF c.length c)
theorem redC_none {c : List G4} (h : pm c = none) : redC c = nmR G4.less G4.bound c := by
  unfold redC
  congr 1
  cases c.length with
  | zero => rfl
  | succ n => rw [rdF, h]
theorem redC_some {c : List G4} {i k : Nat} (h : pm c = some (i, k)) : redC c = redC (rstep c i k) := by
  unfold redC
  congr 1
  have hl := rstep_len h
  cases hc : c.length with
  | zero => omega
  | succ n =>
    rw [rdF, h]
    have hn : (rstep c i k).length ≤ n := by omega
    exact rdF_fuel n _ hn
theorem rdF_len : ∀ (n : Nat) (c : List G4), (rdF n c).length ≤ c.length
  | 0, c => Nat.le_refl _
  | n + 1, c => by
    rw [rdF]
    cases hp : pm c with
    | none => exact Nat.le_refl _
    | some p => exact Nat.le_trans (rdF_len n _) (Nat.le_of_lt (rstep_len (show pm c = some (p.1, p.2) from hp)))
theorem redC_len (c : List G4) : (redC c).length ≤ c.length := by
  unfold redC
  rw [nmR_len _ _ _ _ rfl]
  exact rdF_len _ _
end Go.Proofs.YtndniceeibflcaaGreatDoor

namespace Go.Proofs.YtndniceeibflcaaGreatDoor
open Aw Mp Go.RowKit
set_option linter.unusedSimpArgs false
set_option maxRecDepth 8000

theorem ok156 : okFn Tryz.prog 156 = true := by kernel_rfl
theorem s156 (l : List G4) (nx : Int) (i k : Nat) (hi : i < l.length) (hk : k < l.length) : ASpec Tryz.prog 156 [I i, I k, .p (.g [.s 4 (gtsA l), I nx]) 0] (fun r Ms => r = I (cmpG l[i] l[k]) ∧ Ms = []) := by
  refine aspec_of (own := []) Tryz.func156 rfl ok156 ?_
  simp only [wB, awp, asN, St.ev, St.step, setS, killS, AV.kill, AV.killL, Mem.kill, Nat.reduceAdd, Nat.reduceSub, Int.reduceAdd, Int.reduceSub, Tryz.ntmps156]
  refine swp_draw (own := []) (.take 0 .plain [] (.take 1 .reads [] (.take 2 .plain [] (.take 3 .reads [] (.take 4 .reads [] (.take 5 .plain [] (.take 6 .reads [] (.take 7 .plain [] (.take 8 .reads [] (.take 9 .reads [] (.alt 10 (.take 11 .plain [] (.done)) (.nil)))))))))))) [⟨7, 4, 0, 0, true⟩, ⟨8, 64, 1, 0, true⟩, ⟨9, 1, 0, 0, true⟩, ⟨10, 384, 6, 0, true⟩, ⟨11, 512, 8, 0, true⟩, ⟨12, 4, 0, 0, true⟩, ⟨13, 2048, 32, 0, true⟩, ⟨14, 2, 0, 0, true⟩, ⟨15, 12288, 192, 0, true⟩, ⟨16, 16384, 256, 0, true⟩, ⟨17, 33792, 528, 0, false⟩, ⟨6, 65536, 2047, 0, true⟩] mo (by kernel_rfl) ?_
  simp only [wB, idxC, asP, asS, asI, loadA, St.ev, setS, AV.cells, AV.flat, AV.single, Nat.reduceAdd, Nat.reduceEqDiff, Nat.reduceLeDiff, Int.reduceAdd, ASch, St.put, Md.mem, Md.need, aget_gts hi, aget_gts hk, Int.toNat_natCast]
  refine ⟨by omega, by omega, acall_v (s157 l[i] l[k]) rfl rfl ?_⟩
  simp only [wB, awp, asN, St.ev, St.step, setS, killS, AV.kill, AV.killL, Mem.kill, ASch, St.put, Md.mem, Md.need]
  exact aend_frz rfl ⟨rfl, rfl⟩

theorem cmpG_less (g h : G4) : decide (cmpG g h < 0) = g.less h := by
  unfold cmpG G4.less orL orL orL orL orL cmpI
  apply decide_eq_decide.2
  repeat' split
  all_goals first
    | omega
    | (constructor <;> intro _ <;> omega)

/-- MinFunc over places in a circuit. -/
theorem ok154 : okFn Tryz.prog 154 = true := by kernel_rfl
theorem s154 (c : List G4) (l : List Nat) (f : FuncId) (cap : List AV) (hne : 0 < l.length) (hl : l.length ≤ 10000) (hlt : ∀ x ∈ l, x < c.length) (hcp : AV.pureL cap = true)
    (hs : ∀ i k (hi : i < c.length) (hk : k < c.length), ASpec Tryz.prog f (I i :: I k :: cap) (fun r Ms => r = I (cmpG c[i] c[k]) ∧ Ms = [])) :
    ASpec Tryz.prog 154 [.s 1 (intsA (l.map fun i : Nat => (i : Int))), .f (.func f) cap] (fun r Ms => r = I (bstL G4.less c l : Nat) ∧ Ms = []) := by
  obtain ⟨li, hli⟩ : ∃ li : List Int, li = l.map fun i : Nat => (i : Int) := ⟨_, rfl⟩
  have hlen : li.length = l.length := by rw [hli, List.length_map]
  have hat : ∀ j (hj : j < l.length) (hj' : j < li.length), li[j] = ((l[j] : Nat) : Int) := fun j hj hj' => by subst hli; simp
  rw [← hli]
  clear hli
  have h0l : 0 < li.length := by omega
  refine aspec_of (own := []) Tryz.func154 rfl ok154 ?_
  simp only [wB, awp, binC, cmpC, asB, asI, asN, lenA, St.ev, St.step, setS, killS, AV.kill, AV.killL, Mem.kill, Nat.reduceAdd, Nat.reduceSub, Int.reduceAdd, Int.reduceSub, lenK, Tryz.ntmps154, hlen]
  have h1 : ¬ (l.length : Int) < 1 := by omega
  simp only [wB, awp, idxC, asP, asS, asI, asN, loadA, St.ev, St.step, setS, killS, AV.kill, AV.killL, Mem.kill, AV.cells, AV.flat, AV.single, Nat.reduceAdd, Int.reduceAdd, Int.reduceLE, decide_eq_false h1, aget_ints h0l, hat 0 hne h0l]
  refine swp_loop' (fun j : Nat => ⟨[.s 1 (intsA li), .f (.func f) cap, .bot, .bot, .bot, I (bstL G4.less c (l.take j) : Nat), I j, .bot, .bot, .bot, .bot, .bot, .bot, .bot, .bot, .bot, .bot, .bot, .bot, .bot, .bot, .bot, .bot, .bot, .bot, .bot, .bot, .bot, .bot, .bot, .bot, .bot, .bot], []⟩) (fun j => 1 ≤ j ∧ j ≤ l.length) (fun j => l.length - j) 1 (le_sl (by simp [leSl, bstL_one _ _ _ hne])) ⟨Nat.le_refl _, hne⟩ ?_
  rintro j ⟨hj1, hj⟩
  refine awp_sound (own := []) _ _ _ _ _ ?_
  simp only [wB, awp, binC, cmpC, asB, asI, lenA, St.ev, St.step, setS, killS, AV.kill, AV.killL, Mem.kill, Nat.reduceAdd, Int.reduceAdd, lenK, hlen]
  by_cases hjl : j < l.length
  · have hjl' : (j : Int) < (l.length : Int) := by omega
    have hjli : j < li.length := by omega
    have hlj : l[j] < c.length := hlt _ (List.getElem_mem hjl)
    have hs' := bstL_succ G4.less c l hj1 hjl
    have hbj : bstL G4.less c (l.take j) < c.length := by
      refine hlt _ (List.mem_of_mem_take (bstL_mem _ _ _ fun e => ?_))
      have := congrArg List.length e
      rw [List.length_take, List.length_nil] at this
      omega
    generalize hbe : bstL G4.less c (l.take j) = b at hs' hbj
    simp only [wB, awp, idxC, asP, asS, asF, asI, loadA, St.ev, St.step, setS, killS, AV.kill, AV.killL, Mem.kill, AV.cells, AV.flat, AV.single, Nat.reduceAdd, Int.reduceAdd, decide_eq_true hjl', aget_ints hjli, hat j hjl hjli, Int.toNat_natCast]
    refine ⟨by omega, acall_v (hs l[j] b hlj hbj) (by simp [AV.pureL, AV.pure, hcp]) rfl ?_⟩
    have g1 : c.getD l[j] default = c[l[j]] := by simp [hlj]
    have g2 : c.getD b default = c[b] := by simp [hbj]
    rw [g1, g2, ← cmpG_less] at hs'
    simp only [wB, awp, binC, cmpC, asB, asI, St.ev, St.step, setS, killS, AV.kill, AV.killL, Mem.kill]
    by_cases hc : cmpG c[l[j]] c[b] < 0
    · simp only [wB, awp, binC, idxC, arithC, cmpC, asP, asS, asI, asN, loadA, St.ev, St.step, setS, killS, AV.kill, AV.killL, Mem.kill, AV.cells, AV.flat, AV.single, Nat.reduceAdd, Int.reduceAdd, isU, decide_eq_true hc, aget_ints hjli, hat j hjl hjli, Int.toNat_natCast]
      refine ⟨by omega, by unfold lim; omega, j + 1, le_sl ?_, ⟨by omega, hjl⟩, by omega⟩
      simp [leSl, hs', hc]
    · simp only [wB, awp, binC, arithC, cmpC, asI, asN, St.ev, St.step, setS, killS, AV.kill, AV.killL, Mem.kill, Nat.reduceAdd, Int.reduceAdd, isU, decide_eq_false hc]
      refine ⟨by unfold lim; omega, j + 1, le_sl ?_, ⟨by omega, hjl⟩, by omega⟩
      simp [leSl, hs', hc]
  · have hjl' : ¬ (j : Int) < (l.length : Int) := by omega
    have hje : j = l.length := by omega
    subst hje
    simp only [wB, awp, asN, St.ev, St.step, setS, killS, AV.kill, AV.killL, Mem.kill, Nat.reduceAdd, Int.reduceAdd, decide_eq_false hjl', List.take_length]
    exact aend_frz rfl ⟨rfl, rfl⟩
end Go.Proofs.YtndniceeibflcaaGreatDoor

namespace Go.Proofs.YtndniceeibflcaaGreatDoor
open Aw Go.RowKit Go.Lib Go.Sort Go.Shelf
set_option linter.unusedSimpArgs false

/-- clear, at one gate. -/
theorem run_clear_gate (w : World) (t ty : TypeId) (ht : Tryz.prog.underlying t = some (.slice 81)) (b o c : Nat) (hc : ∀ j, j < 4 → (w.cell? ⟨b, o + j, none⟩).isSome = true) (hf : ∀ j, j < 4 → w.frozen? ⟨b, o + j, none⟩ = false) :
    (Builtin.clear_ #[t] ty #[.slice (some ⟨b, o, none⟩) 1 c]).run Tryz.prog w = .ok (.tuple #[]) (w.setCells b o [.int .i64 0, .int .i64 0, .int .i64 0, .int .i64 0]) := by
  have hv : ∀ w, (zeroValue 81).run Tryz.prog w = .ok (.agg #[.int .i64 0, .int .i64 0, .int .i64 0, .int .i64 0]) w := fun w => Tryz.zeroValue81 w
  have hzc : (Builtin.zeroCells (Value.cells (.agg #[.int .i64 0, .int .i64 0, .int .i64 0, .int .i64 0])) 1).toList = [.int .i64 0, .int .i64 0, .int .i64 0, .int .i64 0] := by
    simp [Builtin.zeroCells, Value.cells, Array.range, List.range_succ]
  have hst := run_storeCells_cells (P := Tryz.prog) b o [.int .i64 0, .int .i64 0, .int .i64 0, .int .i64 0] 0 w (by simpa using hc) (by simpa using hf) (by intro v hv'; simp at hv'; subst hv'; rfl)
  simp only [Nat.add_zero] at hst
  simp [Builtin.clear_, run_underlying ht, hv, hzc, hst]

theorem ti81i : ∃ i, Tryz.prog.info? 81 = some i ∧ i.size = 4 := by
  obtain ⟨i, d, z, hi, _, _, _, _, _, hs, _, _⟩ := tiOf_spec (ti81 : tiOf Tryz.prog 81 = some _)
  exact ⟨i, hi, hs.symm⟩

set_option maxHeartbeats 4000000 in
set_option maxRecDepth 1000000 in
theorem del_calls103 (w : World) (g n cap i j : Nat) (L : List Value) (hg : w.heap[g]? = some (.cells L.toArray 81 (0, 0))) (hnc : n ≤ cap) (hcm : cap ≤ 9223372036854775807) (hs : L.length = cap * 4) (hi : i < n) (hj : j = i + 1) (h1 : ∀ v ∈ L.take (n * 4), v.oneCell' = true) :
    Calls Tryz.prog 189 #[.slice (some ⟨g, 0, none⟩) n cap, .int .i64 i, .int .i64 j] w fun e w' => e = .returned (.slice (some ⟨g, 0, none⟩) (n - 1) cap) ∧
      w' = (w.drew.setCells g (i * 4) ((L.take (n * 4)).drop (j * 4))).setCells g ((n - 1) * 4) [.int .i64 0, .int .i64 0, .int .i64 0, .int .i64 0] := by
  have mixed : Tryz.prog.follows .mixedOrders = true := mo
  have t22 : Tryz.prog.underlying 199 = some (.slice 81) := by kernel_rfl
  obtain ⟨i0, hi0, hz1⟩ := ti81i
  have hcell : ∀ t, t < cap * 4 → w.cell? ⟨g, t, none⟩ = L[t]? ∧ w.frozen? ⟨g, t, none⟩ = false := by
    intro t ht
    simp [World.cell?, World.frozen?, hg]
  obtain ⟨news, hnews⟩ : ∃ news, news = (L.take (n * 4)).drop (j * 4) := ⟨_, rfl⟩
  have hlen : news.length = (n - j) * 4 := by rw [hnews]; simp; omega
  have hget : ∀ t, t < (n - j) * 4 → news[t]? = L[j * 4 + t]? := by
    intro t ht
    rw [hnews, List.getElem?_drop, List.getElem?_take, if_pos (by omega)]
  obtain ⟨A, hA, hsrc⟩ : ∃ A : Addr, (if cap = j then some (⟨g, 0, none⟩ : Addr) else some ⟨g, j * 4, none⟩) = some A ∧ Hid (∀ t u, news[t]? = some u → w.drew.cell? (A.add t) = some u) := by
    by_cases h : cap = j
    · refine ⟨⟨g, 0, none⟩, by simp [h], fun t u hu => ?_⟩
      have h0 : news.length = 0 := by rw [hlen]; omega
      rw [List.length_eq_zero_iff.1 h0] at hu
      simp at hu
    · refine ⟨⟨g, j * 4, none⟩, by simp [h], fun t u hu => ?_⟩
      have ht : t < (n - j) * 4 := by
        have := (List.getElem?_eq_some_iff.1 hu).1
        rwa [hlen] at this
      rw [hget t ht] at hu
      rw [Addr.add_lit]
      exact (hcell (j * 4 + t) (by omega)).1.trans hu
  have s1 : Hid (news.length = (n - j) * 4) := hlen
  have s2 : Hid (∀ u ∈ news, u.oneCell' = true) := fun u hu => h1 u (by rw [hnews] at hu; exact List.mem_of_mem_drop hu)
  have s3 : Hid (∀ t, t < news.length → (w.drew.cell? ⟨g, 0 + i * 4 + t, none⟩).isSome = true ∧ w.drew.frozen? ⟨g, 0 + i * 4 + t, none⟩ = false) := by
    intro t ht
    rw [hlen] at ht
    have := hcell (0 + i * 4 + t) (by omega)
    refine ⟨?_, this.2⟩
    show (w.cell? _).isSome = true
    rw [this.1, List.getElem?_eq_getElem (by omega)]
    rfl
  obtain ⟨W1, hW1⟩ : ∃ W1, W1 = w.drew.setCells g (0 + i * 4) news := ⟨_, rfl⟩
  have hcl : ∀ ty, (Builtin.clear_ #[199] ty #[.slice (some ⟨g, (i + (n - j)) * 4, none⟩) (n - (i + (n - j))) (cap - (i + (n - j)))]).run Tryz.prog W1 = .ok (.tuple #[]) (W1.setCells g ((i + (n - j)) * 4) [.int .i64 0, .int .i64 0, .int .i64 0, .int .i64 0]) := by
    intro ty
    have hc1 : ∀ m, m < 4 → (W1.cell? ⟨g, (i + (n - j)) * 4 + m, none⟩).isSome = true := fun m hm => by
      have h0 := hcell ((i + (n - j)) * 4 + m) (by omega)
      rw [hW1]
      by_cases hin : (i + (n - j)) * 4 + m < i * 4 + news.length
      · rw [hlen] at hin; omega
      · rw [World.cell?_setCells_out]
        · show (w.cell? _).isSome = true
          rw [h0.1, List.getElem?_eq_getElem (by omega)]
          rfl
        · intro _ _
          right
          simp only
          omega
    have hf1 : ∀ m, m < 4 → W1.frozen? ⟨g, (i + (n - j)) * 4 + m, none⟩ = false := fun m hm => by
      rw [hW1, World.frozen?_setCells]
      exact (hcell ((i + (n - j)) * 4 + m) (by omega)).2
    rw [show n - (i + (n - j)) = 1 by omega]
    exact run_clear_gate W1 199 ty t22 g _ _ hc1 hf1
  have hW : Hid (W1 = w.drew.setCells g (0 + i * 4) news) := hW1
  have X : Aside (W1 = w.drew.setCells g (0 + i * 4) news) := hW1
  have hic : i ≤ cap := by omega
  have hjc : j ≤ cap := by omega
  have hin : i ≤ n := by omega
  have hjn : j ≤ n := by omega
  have hne : i ≠ j := by omega
  have hlt : i < j := by omega
  have hj' : Hid (j = i + 1) := hj
  have hnews' : Hid (news = (L.take (n * 4)).drop (j * 4)) := hnews
  clear hW1 hget hnews hlen hcell hj hi hg h1 hs
  go_enter Tryz.func189, Tryz.ntmps189
  go_wp2_with fail
  go_region_law_o (refine step_append_room rfl (.tmp 22) (.tmp 25) 199 rfl 81 i0 4 t22 hi0 hz1 g 0 i cap (by simp [Act.eval, Act.put]) A (n - j) (cap - j) news (by simp [Act.eval, Act.put, hA]) s1.out hsrc.out s2.out (by omega) s3.out ?_; rw [← hW.out])
  go_wp2
  go_ret
  have e1 : i + (n - j) = n - 1 := by have := hj'.out; omega
  refine ⟨by rw [e1]; rfl, ?_⟩
  rw [e1, hW.out, hnews'.out, Nat.zero_add]
set_option maxHeartbeats 4000000 in
set_option maxRecDepth 1000000 in
theorem del_calls93 (w : World) (g n cap i j : Nat) (L : List Value) (hg : w.heap[g]? = some (.cells L.toArray 81 (0, 0))) (hnc : n ≤ cap) (hcm : cap ≤ 9223372036854775807) (hs : L.length = cap * 4) (hi : i < n) (hj : j = i + 1) (h1 : ∀ v ∈ L.take (n * 4), v.oneCell' = true) :
    Calls Tryz.prog 123 #[.slice (some ⟨g, 0, none⟩) n cap, .int .i64 i, .int .i64 j] w fun e w' => e = .returned (.slice (some ⟨g, 0, none⟩) (n - 1) cap) ∧
      w' = (w.drew.setCells g (i * 4) ((L.take (n * 4)).drop (j * 4))).setCells g ((n - 1) * 4) [.int .i64 0, .int .i64 0, .int .i64 0, .int .i64 0] := by
  have mixed : Tryz.prog.follows .mixedOrders = true := mo
  have t22 : Tryz.prog.underlying 72 = some (.slice 81) := by kernel_rfl
  obtain ⟨i0, hi0, hz1⟩ := ti81i
  have hcell : ∀ t, t < cap * 4 → w.cell? ⟨g, t, none⟩ = L[t]? ∧ w.frozen? ⟨g, t, none⟩ = false := by
    intro t ht
    simp [World.cell?, World.frozen?, hg]
  obtain ⟨news, hnews⟩ : ∃ news, news = (L.take (n * 4)).drop (j * 4) := ⟨_, rfl⟩
  have hlen : news.length = (n - j) * 4 := by rw [hnews]; simp; omega
  have hget : ∀ t, t < (n - j) * 4 → news[t]? = L[j * 4 + t]? := by
    intro t ht
    rw [hnews, List.getElem?_drop, List.getElem?_take, if_pos (by omega)]
  obtain ⟨A, hA, hsrc⟩ : ∃ A : Addr, (if cap = j then some (⟨g, 0, none⟩ : Addr) else some ⟨g, j * 4, none⟩) = some A ∧ Hid (∀ t u, news[t]? = some u → w.drew.cell? (A.add t) = some u) := by
    by_cases h : cap = j
    · refine ⟨⟨g, 0, none⟩, by simp [h], fun t u hu => ?_⟩
      have h0 : news.length = 0 := by rw [hlen]; omega
      rw [List.length_eq_zero_iff.1 h0] at hu
      simp at hu
    · refine ⟨⟨g, j * 4, none⟩, by simp [h], fun t u hu => ?_⟩
      have ht : t < (n - j) * 4 := by
        have := (List.getElem?_eq_some_iff.1 hu).1
        rwa [hlen] at this
      rw [hget t ht] at hu
      rw [Addr.add_lit]
      exact (hcell (j * 4 + t) (by omega)).1.trans hu
  have s1 : Hid (news.length = (n - j) * 4) := hlen
  have s2 : Hid (∀ u ∈ news, u.oneCell' = true) := fun u hu => h1 u (by rw [hnews] at hu; exact List.mem_of_mem_drop hu)
  have s3 : Hid (∀ t, t < news.length → (w.drew.cell? ⟨g, 0 + i * 4 + t, none⟩).isSome = true ∧ w.drew.frozen? ⟨g, 0 + i * 4 + t, none⟩ = false) := by
    intro t ht
    rw [hlen] at ht
    have := hcell (0 + i * 4 + t) (by omega)
    refine ⟨?_, this.2⟩
    show (w.cell? _).isSome = true
    rw [this.1, List.getElem?_eq_getElem (by omega)]
    rfl
  obtain ⟨W1, hW1⟩ : ∃ W1, W1 = w.drew.setCells g (0 + i * 4) news := ⟨_, rfl⟩
  have hcl : ∀ ty, (Builtin.clear_ #[72] ty #[.slice (some ⟨g, (i + (n - j)) * 4, none⟩) (n - (i + (n - j))) (cap - (i + (n - j)))]).run Tryz.prog W1 = .ok (.tuple #[]) (W1.setCells g ((i + (n - j)) * 4) [.int .i64 0, .int .i64 0, .int .i64 0, .int .i64 0]) := by
    intro ty
    have hc1 : ∀ m, m < 4 → (W1.cell? ⟨g, (i + (n - j)) * 4 + m, none⟩).isSome = true := fun m hm => by
      have h0 := hcell ((i + (n - j)) * 4 + m) (by omega)
      rw [hW1]
      by_cases hin : (i + (n - j)) * 4 + m < i * 4 + news.length
      · rw [hlen] at hin; omega
      · rw [World.cell?_setCells_out]
        · show (w.cell? _).isSome = true
          rw [h0.1, List.getElem?_eq_getElem (by omega)]
          rfl
        · intro _ _
          right
          simp only
          omega
    have hf1 : ∀ m, m < 4 → W1.frozen? ⟨g, (i + (n - j)) * 4 + m, none⟩ = false := fun m hm => by
      rw [hW1, World.frozen?_setCells]
      exact (hcell ((i + (n - j)) * 4 + m) (by omega)).2
    rw [show n - (i + (n - j)) = 1 by omega]
    exact run_clear_gate W1 72 ty t22 g _ _ hc1 hf1
  have hW : Hid (W1 = w.drew.setCells g (0 + i * 4) news) := hW1
  have X : Aside (W1 = w.drew.setCells g (0 + i * 4) news) := hW1
  have hic : i ≤ cap := by omega
  have hjc : j ≤ cap := by omega
  have hin : i ≤ n := by omega
  have hjn : j ≤ n := by omega
  have hne : i ≠ j := by omega
  have hlt : i < j := by omega
  have hj' : Hid (j = i + 1) := hj
  have hnews' : Hid (news = (L.take (n * 4)).drop (j * 4)) := hnews
  clear hW1 hget hnews hlen hcell hj hi hg h1 hs
  go_enter Tryz.func123, Tryz.ntmps123
  go_wp2_with fail
  go_region_law_o (refine step_append_room rfl (.tmp 22) (.tmp 25) 72 rfl 81 i0 4 t22 hi0 hz1 g 0 i cap (by simp [Act.eval, Act.put]) A (n - j) (cap - j) news (by simp [Act.eval, Act.put, hA]) s1.out hsrc.out s2.out (by omega) s3.out ?_; rw [← hW.out])
  go_wp2
  go_ret
  have e1 : i + (n - j) = n - 1 := by have := hj'.out; omega
  refine ⟨by rw [e1]; rfl, ?_⟩
  rw [e1, hW.out, hnews'.out, Nat.zero_add]
end Go.Proofs.YtndniceeibflcaaGreatDoor

namespace Go.Proofs.YtndniceeibflcaaGreatDoor
open Aw Mp Go.RowKit
set_option linter.unusedSimpArgs false
set_option maxRecDepth 8000

/-- the cells of gates. -/
def enc4 (l : List G4) : List Value := l.flatMap fun g => [.int .i64 g.k, .int .i64 g.a, .int .i64 g.b, .int .i64 g.t]
theorem enc4_len (l : List G4) : (enc4 l).length = l.length * 4 := by
  induction l with
  | nil => rfl
  | cons x l ih => simp only [enc4, List.flatMap_cons, List.length_append, List.length_cons, List.length_nil] at ih ⊢; omega
theorem enc4_app (l m : List G4) : enc4 (l ++ m) = enc4 l ++ enc4 m := by simp [enc4]
theorem enc4_take (l : List G4) (i : Nat) : (enc4 l).take (i * 4) = enc4 (l.take i) := by
  by_cases h : i ≤ l.length
  · have e : enc4 l = enc4 (l.take i) ++ enc4 (l.drop i) := by rw [← enc4_app, List.take_append_drop]
    have hl : (enc4 (l.take i)).length = i * 4 := by rw [enc4_len, List.length_take, Nat.min_eq_left h]
    rw [e, List.take_append_of_le_length (by omega), List.take_of_length_le (by omega)]
  · rw [List.take_of_length_le (by rw [enc4_len]; omega), List.take_of_length_le (by omega)]
theorem enc4_drop (l : List G4) (i : Nat) : (enc4 l).drop (i * 4) = enc4 (l.drop i) := by
  by_cases h : i ≤ l.length
  · have e : enc4 l = enc4 (l.take i) ++ enc4 (l.drop i) := by rw [← enc4_app, List.take_append_drop]
    have hl : (enc4 (l.take i)).length = i * 4 := by rw [enc4_len, List.length_take, Nat.min_eq_left h]
    rw [e, List.drop_append_of_le_length (by omega), List.drop_of_length_le (by omega)]
    rfl
  · rw [List.drop_of_length_le (by rw [enc4_len]; omega), List.drop_of_length_le (by omega)]
    rfl
theorem enc4_one (l : List G4) : ∀ v ∈ enc4 l, v.oneCell' = true := by
  intro v hv
  simp only [enc4, List.mem_flatMap] at hv
  obtain ⟨g, _, hg⟩ := hv
  simp at hg
  rcases hg with rfl | rfl | rfl | rfl <;> rfl
theorem rl_enc4 {w : World} {T : Nat → Prop} {hv : Nat → Option Value} : ∀ (l : List G4), RL w T hv (gtsA l) (enc4 l)
  | [] => by simp [gtsA, enc4, RL]
  | x :: l => by
    have ih := rl_enc4 (w := w) (T := T) (hv := hv) l
    simp only [gtsA, List.map_cons, RL] at ih ⊢
    refine ⟨[.int .i64 x.k, .int .i64 x.a, .int .i64 x.b, .int .i64 x.t], enc4 l, rfl, ?_, ih⟩
    simp [gA, R, RL, Value.oneCell']

theorem rl_gts {w : World} {T : Nat → Prop} {hv : Nat → Option Value} : ∀ (l : List G4) (us : List Value), RL w T hv (gtsA l) us → us = l.flatMap fun g => [.int .i64 g.k, .int .i64 g.a, .int .i64 g.b, .int .i64 g.t]
  | [], us, h => by simpa [gtsA, RL] using h
  | x :: l, us, h => by
    simp only [gtsA, List.map_cons, RL] at h
    obtain ⟨u1, u2, rfl, h1, h2⟩ := h
    simp only [gA, R, RL] at h1
    obtain ⟨a1, b1, rfl, ⟨rfl, _⟩, a2, b2, rfl, ⟨rfl, _⟩, a3, b3, rfl, ⟨rfl, _⟩, a4, b4, rfl, ⟨rfl, _⟩, rfl⟩ := h1
    rw [rl_gts l u2 h2]
    rfl
theorem zdel {f : FuncId} (hok : okFn Tryz.prog f = true) (hcall : ∀ (w : World) (g n cap i j : Nat) (L : List Value), w.heap[g]? = some (.cells L.toArray 81 (0, 0)) → n ≤ cap → cap ≤ 9223372036854775807 → L.length = cap * 4 → i < n → j = i + 1 → (∀ v ∈ L.take (n * 4), v.oneCell' = true) →
    Calls Tryz.prog f #[.slice (some ⟨g, 0, none⟩) n cap, .int .i64 i, .int .i64 j] w fun e w' => e = .returned (.slice (some ⟨g, 0, none⟩) (n - 1) cap) ∧
      w' = (w.drew.setCells g (i * 4) ((L.take (n * 4)).drop (j * 4))).setCells g ((n - 1) * 4) [.int .i64 0, .int .i64 0, .int .i64 0, .int .i64 0])
    (l : List G4) (i : Nat) (hi : i < l.length) (M : Mem) (g : Nat) (hg : M[g]? = some (some ⟨none, 81, 4, gtsA l⟩)) :
    ZSpec Tryz.prog f [.o g, I i, I ((i : Int) + 1)] M [g] (.o g) ((Mem.kill [g] M).set g (some ⟨none, 81, 4, gtsA (wo l i)⟩)) := by
  refine ⟨hok, fun w vs A hv hM hsep hvs => ?_⟩
  simp only [RVL, RV, R] at hvs
  obtain ⟨v, vs1, rfl, ⟨v', hv1, he, h1c⟩, v2, vs2, rfl, rfl, v3, vs3, rfl, rfl, rfl⟩ := hvs
  simp only [List.cons.injEq, and_true] at he
  subst he
  obtain ⟨us, hrow, hks, hus⟩ := (hM_ob hM hg hv1).row rfl
  have husE : us = enc4 l := rl_gts l us hus
  rcases hrow.2 with ⟨rfl, h0⟩ | ⟨b, cap, cur, rfl, hb0, hgb, hnc, hcm, hcs, htk⟩
  · rw [gtsA_len] at h0; omega
  rw [gtsA_len] at hnc htk
  have hL : cur.toList.length = cap * 4 := by simpa using hcs
  have htk' : cur.toList.take (l.length * 4) = enc4 l := htk.trans husE
  have hj : ((i : Int) + 1) = ((i + 1 : Nat) : Int) := by omega
  have hgL : w.heap[b]? = some (.cells cur.toList.toArray 81 (0, 0)) := by simpa using hgb
  have hC := hcall w b l.length cap i (i + 1) cur.toList hgL hnc hcm hL hi rfl (by rw [htk']; exact enc4_one l)
  rw [gtsA_len, hj]
  refine hC.mono ?_
  rintro e w' ⟨rfl, rfl⟩
  rw [htk', enc4_drop]
  have hnl : (enc4 (l.drop (i + 1))).length = (l.length - (i + 1)) * 4 := by rw [enc4_len, List.length_drop]
  have r1 := setCells_to b 81 (enc4 (l.drop (i + 1))) (i * 4) w.drew cur.toList hgL (by rw [hnl, hL]; omega)
  have et : cur.toList.take (i * 4) = enc4 (l.take i) := by
    rw [← enc4_take, ← htk', List.take_take, Nat.min_eq_left (by omega)]
  rw [et] at r1
  have e4 : ([.int .i64 0, .int .i64 0, .int .i64 0, .int .i64 0] : List Value).length = 4 := rfl
  have hl1 : (enc4 (l.take i) ++ enc4 (l.drop (i + 1))).length = (l.length - 1) * 4 := by
    rw [List.length_append, enc4_len, hnl, List.length_take]; omega
  have r2 := setCells_to b 81 [.int .i64 0, .int .i64 0, .int .i64 0, .int .i64 0] ((l.length - 1) * 4) _ _ r1.row (by
    rw [List.length_append, hl1, List.length_drop, hnl, hL, e4]; omega)
  rw [List.take_append_of_le_length (by omega), List.take_of_length_le (by omega)] at r2
  have hr := r1.trans r2
  have hwd : ∀ k : Nat, w.drew.heap[k]? = w.heap[k]? := fun _ => rfl
  have hwo : enc4 (l.take i) ++ enc4 (l.drop (i + 1)) = enc4 (wo l i) := by rw [← enc4_app]; rfl
  rw [hwo] at hr hl1
  have hwl := wo_len l hi
  obtain ⟨m1, m2⟩ := mem_row (ys := gtsA (wo l i)) (news := enc4 (wo l i)) hM hg rfl (v := .slice (some ⟨b, 0, none⟩) (gtsA l).length cap) (v' := .slice (some ⟨b, 0, none⟩) (l.length - 1) cap) rfl rfl hv1
    (by
      refine ⟨by rw [enc4_len, gtsA_len], .inr ⟨b, cap, _, by rw [gtsA_len, hwl], hb0, hr.row, by rw [gtsA_len]; omega, hcm, ?_, ?_⟩⟩
      · simp only [List.size_toArray, List.length_append, List.length_drop, List.length_cons, List.length_nil]
        rw [hl1, hnl, hL]
        have := hwo ▸ hl1
        simp only [enc4_len, List.length_take] at *
        omega
      · simp only [gtsA_len, hwl]
        show List.take _ (_ ++ _ ++ _) = _
        rw [List.append_assoc, List.take_append_of_le_length (by omega), List.take_of_length_le (by omega)])
    ⟨hr.os, hr.tape, hr.output, by rw [hr.size]; exact Nat.le_refl _, fun k _ hne => (hr.block k fun e => hne (by rw [e]; rfl)).trans (hwd k)⟩ (Nat.le_refl 0) (.inl rfl) (by intro y hy; obtain ⟨z, _, rfl⟩ := List.mem_map.1 hy; rfl) (fun _ => rl_enc4 _)
  refine ⟨_, _, rfl, m1, ?_, m2⟩
  simp only [RV, R]
  exact ⟨_, by simp [hvSet], rfl, rfl⟩

theorem ok189 : okFn Tryz.prog 189 = true := by kernel_rfl
theorem ok123 : okFn Tryz.prog 123 = true := by kernel_rfl
theorem z189 (l : List G4) (i : Nat) (hi : i < l.length) (M : Mem) (g : Nat) (hg : M[g]? = some (some ⟨none, 81, 4, gtsA l⟩)) : ZSpec Tryz.prog 189 [.o g, I i, I ((i : Int) + 1)] M [g] (.o g) ((Mem.kill [g] M).set g (some ⟨none, 81, 4, gtsA (wo l i)⟩)) := zdel ok189 del_calls103 l i hi M g hg
theorem z123 (l : List G4) (i : Nat) (hi : i < l.length) (M : Mem) (g : Nat) (hg : M[g]? = some (some ⟨none, 81, 4, gtsA l⟩)) : ZSpec Tryz.prog 123 [.o g, I i, I ((i : Int) + 1)] M [g] (.o g) ((Mem.kill [g] M).set g (some ⟨none, 81, 4, gtsA (wo l i)⟩)) := zdel ok123 del_calls93 l i hi M g hg
end Go.Proofs.YtndniceeibflcaaGreatDoor

namespace Go.Proofs.YtndniceeibflcaaGreatDoor
open Aw Mp Go.RowKit
set_option linter.unusedSimpArgs false
set_option maxRecDepth 8000

theorem ok190 : okFn Tryz.prog 190 = true := by kernel_rfl
theorem s190 (l : List G4) (hl : l.length ≤ 100000) : ASpec Tryz.prog 190 [.s 4 (gtsA l)] (fun r Ms => r = .o 0 ∧ Ms = [⟨none, 81, 4, gtsA l⟩]) := by
  refine aspec_of (own := [2, 5]) Tryz.func190 rfl ok190 ?_
  simp only [wB, awp, binC, asS, asG, asB, asI, asN, asE, Aw.newRow, St.ev, St.step, setS, killS, AV.kill, AV.killL, Mem.kill, Nat.reduceAdd, Nat.reduceEqDiff, Nat.reduceSub, Int.reduceAdd, Int.reduceSub, ptrN, ifcN, asStr, Tryz.ntmps190]
  intro b hb
  cases b with
  | true =>
    have hn : l = [] := by have := hb rfl; simpa [gtsA] using this
    subst hn
    simp only [wB, awp, asN, Aw.newRow, St.ev, St.step, setS, killS, AV.kill, AV.killL, Mem.kill, Nat.reduceAdd, Nat.reduceEqDiff, Int.reduceAdd]
    exact aend_exp 1 rfl rfl rfl ⟨rfl, rfl⟩
  | false =>
    simp only [wB, awp, asO, asS, asN, obA, Aw.newRow, St.ev, St.step, setS, killS, AV.kill, AV.killL, Mem.kill, AV.cells, AV.flat, AV.single, AV.cellular, Value.oneCell', Nat.reduceAdd, Nat.reduceEqDiff, Nat.reduceMul, Nat.reduceLeDiff, Int.reduceAdd, Int.reduceMul, gtsA_len]
    refine ⟨⟨by decide, rfl⟩, ⟨by decide, by omega⟩, ?_⟩
    exact aend_exp 1 rfl rfl (gtsA_pure l) ⟨rfl, rfl⟩

end Go.Proofs.YtndniceeibflcaaGreatDoor

namespace Go.Proofs.YtndniceeibflcaaGreatDoor
open Aw Mp Go.RowKit
set_option linter.unusedSimpArgs false
set_option maxRecDepth 8000

/-- the reader of a circuit. -/
def rdO (l : List G4) (nx : Int) : Ob := ⟨none, 201, 2, [.g [.s 4 (gtsA l), I nx]]⟩

theorem ok158 : okFn Tryz.prog 158 = true := by kernel_rfl
theorem s158 (l : List G4) (nx : Int) (i : Nat) (hi : i < l.length) (hl : l.length ≤ 10000) (hn : lim (nx + 1)) :
    MSpec Tryz.prog 158 [.q 0 2 0 0, I i] [some (rdO l nx)] (fun r M' => r = gA l[i] ∧ M' = [some (rdO (wo l i) (nx + 1))]) := by
  refine mspec_of2 (own := [4, 5, 1002]) Tryz.func158 rfl ok158 fun vs => ?_
  simp only [wB, awp, idxC, asP, asQ, asS, asI, obA, loadA, storeA, putsA, mkA, Aw.newRow, St.ev, St.step, setS, killS, AV.kill, AV.killL, Mem.kill, AV.cells, AV.flat, AV.single, AV.cellular, Nat.reduceAdd, Nat.reduceEqDiff, Nat.reduceSub, Nat.reduceLeDiff, Int.reduceAdd, Int.reduceSub, Tryz.ntmps158, rdO, ghost, aget_gts hi, Int.toNat_natCast]
  refine ⟨by omega, swp_zm (own := [4, 5]) 9 rfl rfl rfl ?_⟩
  simp only [wB, asP, asQ, obA, loadA, St.ev, St.step, setS, killS, AV.kill, AV.killL, Mem.kill, AV.cells, AV.flat, AV.single, Nat.reduceAdd, Nat.reduceEqDiff, Nat.reduceLeDiff, Int.reduceAdd, List.take_succ_cons, List.take_zero, List.drop_zero]
  refine acall_o (s190 l (by omega)) (by simp [AV.pureL, AV.pure, gtsA_pure]) (by simp [AV.pureL, AV.pure, gtsA_pure]) ?_
  simp only [wB, binC, arithC, cmpC, asI, St.ev, St.step, setS, killS, AV.kill, AV.killL, Mem.kill, Nat.reduceAdd, Int.reduceAdd, isU, AV.up, AV.sub]
  refine ⟨by unfold lim; omega, acall_z (z189 l i hi _ 4 rfl) ?_⟩
  simp only [wB, awp, binC, arithC, cmpC, asP, asQ, asI, obA, loadA, storeA, putsA, St.ev, St.step, setS, killS, AV.kill, AV.killL, Mem.kill, AV.cells, AV.flat, AV.single, AV.cellular, Value.oneCell', Nat.reduceAdd, Nat.reduceEqDiff, Nat.reduceLeDiff, Int.reduceAdd, isU, List.take_succ_cons, List.take_zero, List.drop_succ_cons, List.drop_zero]
  refine ⟨hn, _, .g [I l[i].k, I l[i].a, I l[i].b, I l[i].t], [some (rdO (wo l i) (nx + 1))], _, le_frz 4 rfl (gtsA_pure _), ?_, rfl, rfl, rfl, ?_, ⟨rfl, rfl⟩⟩
  · show resA Tryz.prog [.cell 4 81] _ = _
    simp [resA, resL, resOne, ti81, loadA, AV.flat, AV.cells, AV.single, frz1, frzM, AV.sub, AV.subL]
  · simp [freeM, rdO, AV.freeL, AV.free, freeL_pure, gtsA_pure]
end Go.Proofs.YtndniceeibflcaaGreatDoor

namespace Go.Proofs.YtndniceeibflcaaGreatDoor
open Aw Mp Go.RowKit
set_option linter.unusedSimpArgs false
set_option maxRecDepth 8000

theorem sub_free (F : Nat → AV) (G : Nat → Nat → Nat → Nat → AV) (Z : List Nat) (hF : ∀ i, i ∉ Z → F i = .o i) (hG : ∀ i k j off, i ∉ Z → G i k j off = .q i k j off) (a : AV) : a.free Z = true → a.sub F G = a := by
  refine AV.rec (motive_1 := fun a => a.free Z = true → a.sub F G = a) (motive_2 := fun l => AV.freeL Z l = true → AV.subL F G l = l) ?_ ?_ ?_ ?_ ?_ ?_ ?_ ?_ ?_ ?_ ?_ a <;> intros <;> simp_all [AV.free, AV.freeL, AV.sub, AV.subL]
theorem subL_free (F : Nat → AV) (G : Nat → Nat → Nat → Nat → AV) (Z : List Nat) (hF : ∀ i, i ∉ Z → F i = .o i) (hG : ∀ i k j off, i ∉ Z → G i k j off = .q i k j off) : ∀ (l : List AV), AV.freeL Z l = true → AV.subL F G l = l
  | [], _ => rfl
  | x :: l, h => by
    simp only [AV.freeL, Bool.and_eq_true] at h
    simp only [AV.subL, sub_free F G Z hF hG x h.1, subL_free F G Z hF hG l h.2]

/-- a call is lent the first object alone. -/
theorem mspec_first2 {f : FuncId} {ars : List AV} {ob ob' : Ob} {x : AV} (h : MSpec Tryz.prog f ars [some ob] (fun r N => r = x ∧ N = [some ob'])) (rest : Mem)
    (hfa : AV.freeL (Zr 1 rest.length) ars = true) (hfm : AV.freeL (Zr 1 rest.length) ob.xs = true) (hr : ∀ o, some o ∈ rest → AV.subL (keepF [some ob] ars) (keepG [some ob] ars) o.xs = o.xs) :
    FSpec Tryz.prog f ars [some ob] (some ob :: rest) x (some ob' :: rest) := by
  have hl : ∀ (y : Ob) i, liveI [some y] i = decide (i = 0) := fun y i => by
    cases i with
    | zero => rfl
    | succ i => simp [liveI]
  have := MSpec.frame h (fun i hi => by rw [hl] at hi ⊢; exact hi) (Mc := some ob :: rest) (fun i o hi => by
      cases i with
      | zero => simpa using hi
      | succ i => simp at hi) (Z := Zr 1 rest.length) (fun i hi hn => by
      rw [hl] at hn
      rw [mem_Zr]
      simp only [decide_eq_false_iff_not] at hn
      simp at hi
      omega) hfa (by simpa [freeM] using hfm)
  have e : combM [some ob] ars (some ob :: rest) [some ob'] = some ob' :: rest := by
    apply List.ext_getElem?
    intro i
    rcases Nat.lt_or_ge i (rest.length + 1) with hi | hi
    · rw [combM_at (by simpa using hi), hl]
      cases i with
      | zero => rfl
      | succ i =>
        have hi' : i < rest.length := by omega
        simp only [Nat.add_eq_zero_iff, Nat.succ_ne_zero, and_false, decide_false, List.getElem?_cons_succ, Bool.false_eq_true, if_false, List.getElem?_eq_getElem hi', Option.getD_some]
        congr 1
        cases ho : rest[i] with
        | none => rfl
        | some o =>
          simp only [Option.map_some]
          rw [hr o (by rw [← ho]; exact List.getElem_mem hi')]
    · rw [List.getElem?_eq_none (by unfold combM; simpa using hi), List.getElem?_eq_none (by simpa using hi)]
  rw [e] at this
  exact this
theorem mspec_first {f : FuncId} {ars : List AV} {ob ob' : Ob} {x : AV} (h : MSpec Tryz.prog f ars [some ob] (fun r N => r = x ∧ N = [some ob'])) (rest : Mem)
    (hfa : AV.freeL (Zr 1 rest.length) ars = true) (hfm : AV.freeL (Zr 1 rest.length) ob.xs = true) (hr : freeM [0] rest = true) :
    FSpec Tryz.prog f ars [some ob] (some ob :: rest) x (some ob' :: rest) := by
  have hl : ∀ (y : Ob) i, liveI [some y] i = decide (i = 0) := fun y i => by
    cases i with
    | zero => rfl
    | succ i => simp [liveI]
  refine mspec_first2 h rest hfa hfm fun o ho => ?_
  have hf : AV.freeL [0] o.xs = true := by
    simp only [freeM, List.all_eq_true] at hr
    exact hr (some o) ho
  refine subL_free _ _ [0] (fun j hj => ?_) (fun j k l off hj => ?_) _ hf
  · unfold keepF
    rw [hl, if_neg (by simpa using hj)]
  · unfold keepG
    rw [hl, if_neg (by simpa using hj)]

theorem s158f (l : List G4) (nx : Int) (i : Nat) (hi : i < l.length) (hl : l.length ≤ 10000) (hn : lim (nx + 1)) (rest : Mem) (hr : freeM [0] rest = true) :
    FSpec Tryz.prog 158 [.q 0 2 0 0, I i] [some (rdO l nx)] (some (rdO l nx) :: rest) (gA l[i]) (some (rdO (wo l i) (nx + 1)) :: rest) :=
  mspec_first (s158 l nx i hi hl hn) rest (by simp [AV.freeL, AV.free, Zr]) (by simp [rdO, AV.freeL, AV.free, freeL_pure, gtsA_pure]) hr

/-! make, at gates. -/
def zG : G4 := ⟨0, 0, 0, 0⟩
def AMk (σ : St) (l : Operand) [K : HK (Nat → Prop)] : Prop := ∃ n : Nat, σ.ev l = I n ∧ n ≤ 1000000 ∧ K.k n
theorem amk {σ : St} {l : Operand} {K : HK (Nat → Prop)} (n : Nat) (h : σ.ev l = I n) (hn : n ≤ 1000000) (hK : K.k n) : AMk σ l (K := K) := ⟨n, h, hn, hK⟩

theorem mk_sound {C : Ctx} {σ : St} {a : Act} {w : World} {Q : Exit → Act → World → Prop} {ops : Array Oper} {i : Nat} {o : Oper} {l : Operand} (n : Nat) (ho : ops[i]? = some o) (hg : o.guard = none) (hop : o.op = .makeSlice 72 l l)
    (hl : σ.ev l = I n) (hn : n ≤ 1000000) (hS : StR C σ a w) : wpOp Tryz.prog ops Q i (fun a' w' => StR C (σ.step o.dst (.o σ.M.length) [] (σ.M ++ [some ⟨none, 81, 4, gtsA (List.replicate n zG)⟩])) a' w') a w := by
  obtain ⟨hv, hd, hsz, hsl, hM, hF⟩ := hS
  unfold wpOp
  simp only [ho]
  rw [if_pos (wanted_none hg _)]
  left
  have hu : Tryz.prog.underlying 72 = some (.slice 81) := by kernel_rfl
  obtain ⟨i0, d, z, hi, _, hz, hz1, hz2, _, hs, hby, hzero, _⟩ := tiOf_spec (ti81 : tiOf Tryz.prog 81 = some _)
  have hlv := ev_ok hsl l
  rw [hl] at hlv
  simp only [RV] at hlv
  have hs4 : i0.size = 4 := hs.symm
  have hb32 : i0.bytes = 32 := hby.symm
  have hrun := run_makeSlice (P := Tryz.prog) w 72 81 i0 z hu hi hz .i64 .i64 (n : Int) (n : Int) (by omega) (Int.le_refl _) (by rw [hs4]; omega) (by rw [hb32]; omega) (by omega)
  have hzc : z.cells.toList = [.int .i64 0, .int .i64 0, .int .i64 0, .int .i64 0] := hzero.symm
  have hmc : (madeCells z.cells ((n : Int).toNat * i0.size)).toList = enc4 (List.replicate n zG) := by
    have hz4 : z.cells = #[.int .i64 0, .int .i64 0, .int .i64 0, .int .i64 0] := by rw [← Array.toList_inj, hzc]
    rw [hs4, hz4, Int.toNat_natCast]
    apply List.ext_getElem
    · rw [enc4_len]; simp [madeCells]
    · intro m h1 h2
      have e0 : ∀ v ∈ enc4 (List.replicate n zG), v = .int .i64 0 := by
        intro v hv
        simp only [enc4, List.mem_flatMap] at hv
        obtain ⟨g, hg, hv⟩ := hv
        rw [List.eq_of_mem_replicate hg] at hv
        simp [zG] at hv
        exact hv
      rw [e0 _ (List.getElem_mem h2)]
      simp only [madeCells, Array.getElem_toList, Array.getElem_map, Array.getElem_range]
      have h4 : m % 4 < 4 := Nat.mod_lt _ (by decide)
      generalize m % 4 = r at h4
      have : r = 0 ∨ r = 1 ∨ r = 2 ∨ r = 3 := by omega
      rcases this with rfl | rfl | rfl | rfl <;> simp
  obtain ⟨m1, m2⟩ := mem_add hM (own_lit w (.cells (madeCells z.cells ((n : Int).toNat * i0.size)) 81)) (ob := ⟨none, 81, 4, gtsA (List.replicate n zG)⟩) (v := .slice (some ⟨w.heap.size, 0, none⟩) n n) (fun b hb => by simp [blk, Value.ownBlock] at hb; omega)
    (fun _ => ObR.of_row rfl ⟨enc4 (List.replicate n zG), by
      rw [← hmc, gtsA_len, List.length_replicate]
      exact row_new 81 4 n _ (by simp [madeCells, hs4]) (by simp only [maxLen]; omega), by intro x hx; obtain ⟨z, _, rfl⟩ := List.mem_map.1 hx; rfl, rl_enc4 _⟩)
  refine wp_value (v := .slice (some ⟨w.heap.size, 0, none⟩) n n) (w' := w.alloc (.cells (madeCells z.cells ((n : Int).toNat * i0.size)) 81)) ?_ ?_
  · simp only [execOp, hop, hlv, Sem.run_bind, hrun, Result.andThen_ok, Sem.run_pure, Int.toNat_natCast]
  · refine StR.next hd hsz hsl hF m1 ?_ m2
    simp only [RV, R]
    exact ⟨_, hvAdd_self _ _, rfl, rfl⟩

theorem swp_mk {σ : St} {own : List Nat} {id : Nat} {ops : Array Oper} {N : HN} {E : HE} {Rt : HR} {o : Oper} {l : Operand} (m : Nat) (ho : ops.toList[m]? = some o) (hg : o.guard = none) (hop : o.op = .makeSlice 72 l l)
    (h : @AOps Tryz.prog own ops.toList (ops.toList.take m) σ ⟨fun σ' => @AMk σ' l ⟨fun n => @AOps Tryz.prog own ops.toList (ops.toList.drop (m + 1)) (σ'.step o.dst (.o σ'.M.length) [] (σ'.M ++ [some ⟨none, 81, 4, gtsA (List.replicate n zG)⟩])) N⟩⟩) : @SWp Tryz.prog (.region id ops false) σ N E Rt := by
  intro C a w hS
  refine wp_region ?_
  obtain ⟨hlt, hoe⟩ := List.getElem?_eq_some_iff.1 ho
  have hops : ops.toList = ops.toList.take m ++ o :: ops.toList.drop (m + 1) := by rw [← hoe, ← List.drop_eq_getElem_cons hlt, List.take_append_drop]
  have hpl : (ops.toList.take m).length = m := by rw [List.length_take]; omega
  generalize ops.toList.take m = pre at *
  generalize ops.toList.drop (m + 1) = suf at *
  have hl : ops.size = (pre ++ o :: suf).length := by rw [← hops]; simp
  rw [List.range_eq_range', hl]
  refine aops_then (P := Tryz.prog) (own := own) _ pre 0 σ a w (by simpa using hops) h hS ?_
  rintro σ' a w ⟨n, hn1, hn2, hA⟩ hS
  have ho : ops[0 + pre.length]? = some o := by
    have : ops.toList[pre.length]? = some o := by rw [hops]; simp
    rw [Nat.zero_add]; simpa using this
  rw [List.length_cons, List.range'_succ, wpOps_cons]
  refine wpOp_mono (fun a' w' hS' => ?_) (mk_sound n ho hg hop hn1 hn2 hS)
  exact aops_sound (P := Tryz.prog) (own := own) (ops := ops) (fun σ a w hN hS => ⟨σ, hN, hS⟩) suf (0 + pre.length + 1) _ a' w' (by rw [hops, Nat.zero_add, ← List.drop_drop]; simp) hA hS'
end Go.Proofs.YtndniceeibflcaaGreatDoor

namespace Go.Proofs.YtndniceeibflcaaGreatDoor
open Aw Mp Go.RowKit
set_option linter.unusedSimpArgs false
set_option maxRecDepth 8000

theorem gtsA_set (L : List G4) (i : Nat) (k a b t : Int) : (gtsA L).set i (.g [I k, I a, I b, I t]) = gtsA (L.set i ⟨k, a, b, t⟩) := by simp [gtsA, gA, List.map_set]
/-- the result so far. -/
def outL (n : Nat) (out : List G4) : List G4 := out ++ List.replicate (n - out.length) zG

theorem ok122 : okFn Tryz.prog 122 = true := by kernel_rfl
set_option maxHeartbeats 1000000 in
theorem s122 (c : List G4) (hl : c.length ≤ 10000) : ASpec Tryz.prog 122 [.s 4 (gtsA c)] (fun r Ms => r = .s 4 (gtsA (nmR G4.less G4.bound c)) ∧ Ms = []) := by
  refine aspec_of (own := [3, 4, 1002, 1006]) Tryz.func122 rfl ok122 ?_
  simp only [wB, awp, asQ, asN, obA, storeA, fillA, putsA, mkA, Aw.newRow, St.ev, St.step, setS, killS, AV.kill, AV.killL, Mem.kill, AV.cells, AV.flat, AV.single, AV.cellular, Nat.reduceAdd, Nat.reduceEqDiff, Nat.reduceSub, Nat.reduceLeDiff, Int.reduceAdd, Int.reduceSub, Tryz.ntmps122]
  refine swp_mk (own := [3, 4]) 2 rfl rfl rfl ?_
  simp only [wB, lenA, St.ev, St.step, setS, killS, AV.kill, AV.killL, Mem.kill, lenK, gtsA_len, gtsA_len, List.take_succ_cons, List.take_zero]
  refine amk c.length rfl (by omega) ?_
  simp only [wB, awp, asN, St.ev, St.step, setS, killS, AV.kill, AV.killL, Mem.kill, Nat.reduceAdd, Nat.reduceEqDiff, Int.reduceAdd, List.drop_succ_cons, List.drop_zero]
  refine swp_loop' (fun j : List G4 × List G4 => ⟨[.s 4 (gtsA c), .bot, .bot, .q 0 2 0 0, .o 1, .bot, .bot, .bot, .bot, .bot, .bot, .bot, .bot, .bot, .bot, .bot, .bot, .bot, .bot, .bot, .bot, .bot, .bot, .bot, .bot, .bot, .bot, .bot, .bot, .bot], [some (rdO j.1 j.2.length), some ⟨none, 81, 4, gtsA (outL c.length j.2)⟩]⟩) (fun j => j.1.length + j.2.length = c.length ∧ nmR G4.less G4.bound c = j.2 ++ nmR G4.less G4.bound j.1) (fun j => j.1.length) (c, []) (le_sl (by simp [leSl])) ⟨by simp, by simp⟩ ?_
  rintro ⟨d, out⟩ ⟨hd, hn⟩
  simp only at hd hn
  refine awp_sound (own := [3, 4, 1006]) _ _ _ _ _ ?_
  have hol : (outL c.length out).length = c.length := by unfold outL; simp; omega
  simp only [wB, awp, binC, cmpC, asP, asQ, asB, asI, obA, lenA, loadA, St.ev, St.step, setS, killS, AV.kill, AV.killL, Mem.kill, AV.cells, AV.flat, AV.single, Nat.reduceAdd, Nat.reduceEqDiff, Nat.reduceLeDiff, Int.reduceAdd, lenK, gtsA_len, rdO, gtsA_len, hol]
  by_cases h : out.length < c.length
  · have h' : (out.length : Int) < (c.length : Int) := by omega
    have hdl : 0 < d.length := by omega
    simp only [wB, awp, asP, asQ, asN, obA, loadA, St.ev, St.step, setS, killS, AV.kill, AV.killL, Mem.kill, AV.cells, AV.flat, AV.single, Nat.reduceAdd, Nat.reduceEqDiff, Nat.reduceLeDiff, Int.reduceAdd, decide_eq_true h']
    refine acall_v (s155 d (by omega)) rfl rfl ?_
    simp only [wB, St.ev, St.step, setS, killS, AV.kill, AV.killL, Mem.kill, AV.single, AV.cellular, Value.oneCell']
    refine ⟨rfl, acall_l2 (s154 d (fsN G4.bound d d.length) 156 [.p (.g [.s 4 (gtsA d), I out.length]) 0] (List.length_pos_iff.2 (fsN_ne hdl)) (by have := fsI_len G4.bound d d.length; rw [fsI_lenN] at this; omega) (fun x hx => fsN_lt hx) rfl (fun i k hi hk => s156 d out.length i k hi hk)) (by simp [frz2, AV.sub, AV.subL, gtsA_pure, frz, gA, fsI]) rfl rfl ?_⟩
    simp only [wB, awp, asN, St.ev, St.step, setS, killS, AV.kill, AV.killL, Mem.kill, Nat.reduceAdd, Nat.reduceEqDiff, Int.reduceAdd]
    have hb := bst_lt G4.less G4.bound d hdl
    have hst := nmR_step G4.less G4.bound d hdl
    rw [show bstL G4.less d (fsN G4.bound d d.length) = bst G4.less G4.bound d from rfl]
    generalize bst G4.less G4.bound d = b at hb hst
    refine swp_fm (own := [3, 4]) 3 rfl rfl rfl ?_
    simp only [wB, St.ev, St.step, setS, killS, AV.kill, AV.killL, Mem.kill, List.take_succ_cons, List.take_zero]
    refine acall_f (s158f d out.length b hb (by omega) (by unfold lim; omega) [some ⟨none, 81, 4, gtsA (outL c.length out)⟩] (by simp [freeM, freeL_pure, gtsA_pure])) ?_
    simp only [wB, idxC, asQ, asO, asS, asI, obA, St.ev, St.step, setS, killS, AV.kill, AV.killL, Mem.kill, Nat.reduceAdd, Nat.reduceEqDiff, Int.reduceAdd, gtsA_len, rdO, gtsA_len, hol, keepF, keepG, liveI, AV.sub, AV.subL, AV.isO, AV.isQ, List.any_cons, List.any_nil, gA, Int.toNat_natCast, List.drop_succ_cons, List.drop_zero]
    have hat : out.length < (outL c.length out).length := by omega
    have hset : (outL c.length out).set out.length ⟨d[b].k, d[b].a, d[b].b, d[b].t⟩ = outL c.length (out ++ [d[b]]) := by
      unfold outL
      rw [List.set_append_right _ _ (Nat.le_refl _), Nat.sub_self, List.length_append, List.length_singleton]
      obtain ⟨m, hm⟩ : ∃ m, c.length - out.length = m + 1 := ⟨c.length - out.length - 1, by omega⟩
      rw [hm, List.replicate_succ, List.set_cons_zero, show c.length - (out.length + 1) = m by omega]
      simp
    have hwl := wo_len d hb
    simp only [wB, storeA, putsA, St.ev, St.step, setS, killS, AV.kill, AV.killL, Mem.kill, AV.cells, AV.flat, AV.single, AV.cellular, Nat.reduceAdd, Nat.reduceLeDiff, Int.reduceAdd, aget_gts hat, gtsA_set, hset]
    rw [show ((out.length : Int) + 1) = (((out ++ [d[b]]).length : Nat) : Int) from by simp]
    refine ⟨by omega, (wo d b, out ++ [d[b]]), le_sl (by simp [leSl]), ⟨by simp; omega, ?_⟩, by simp only; omega⟩
    rw [hn, hst]
    simp [hb]
  · have h' : ¬ (out.length : Int) < (c.length : Int) := by omega
    simp only [wB, awp, asN, St.ev, St.step, setS, killS, AV.kill, AV.killL, Mem.kill, Nat.reduceAdd, Nat.reduceEqDiff, Int.reduceAdd, decide_eq_false h']
    have hdn : d = [] := List.eq_nil_of_length_eq_zero (by omega)
    subst hdn
    have hoe : outL c.length out = out := by unfold outL; rw [show c.length - out.length = 0 by omega]; simp
    exact aend_frz rfl ⟨by simp [frz, AV.sub, gtsA_pure, hn, nmR_nil, hoe], rfl⟩
end Go.Proofs.YtndniceeibflcaaGreatDoor

namespace Go.Proofs.YtndniceeibflcaaGreatDoor
open Aw Mp Go.RowKit
set_option linter.unusedSimpArgs false
set_option maxRecDepth 8000

theorem getD_g4 {c : List G4} {i : Nat} (h : i < c.length) : c.getD i default = c[i] := by
  rw [List.getD_eq_getElem?_getD, List.getElem?_eq_getElem h]; rfl
theorem wo_er (c : List G4) (i : Nat) : wo c i = c.eraseIdx i := by
  unfold wo
  rw [List.eraseIdx_eq_take_drop_succ]
theorem ok88 : okFn Tryz.prog 88 = true := by kernel_rfl
set_option maxHeartbeats 1000000 in
theorem s88 (c : List G4) (hl : c.length ≤ 10000) (ho : OkT c) : ASpec Tryz.prog 88 [.s 4 (gtsA c)] (fun r Ms => r = .s 4 (gtsA (redC c)) ∧ Ms = []) := by
  refine aspec_of (own := [0, 1004, 1006, 1008]) Tryz.func88 rfl ok88 ?_
  simp only [wB, awp, asN, St.ev, St.step, setS, killS, AV.kill, AV.killL, Mem.kill, Nat.reduceAdd, Nat.reduceEqDiff, Nat.reduceSub, Int.reduceAdd, Int.reduceSub, Tryz.ntmps88]
  refine acall_o (s100 c (by omega)) (by simp [AV.pureL, AV.pure, gtsA_pure]) (by simp [AV.pureL, AV.pure, gtsA_pure]) ?_
  simp only [wB, awp, asN, St.ev, St.step, setS, killS, AV.kill, AV.killL, Mem.kill, Nat.reduceEqDiff, AV.up, AV.sub]
  refine swp_loop' (fun d : List G4 => ⟨[.o 0, .bot, .bot, .bot, .bot, .bot, .bot, .bot, .bot, .bot, .bot, .bot, .bot, .bot, .bot, .bot, .bot, .bot, .bot, .bot, .bot, .bot, .bot, .bot, .bot, .bot, .bot, .bot, .bot, .bot, .bot, .bot, .bot, .bot, .bot, .bot, .bot, .bot, .bot, .bot, .bot, .bot, .bot, .bot, .bot, .bot, .bot, .bot, .bot, .bot], [some ⟨none, 81, 4, gtsA d⟩]⟩) (fun d => OkT d ∧ d.length ≤ c.length ∧ redC c = redC d) (fun d => d.length) c (le_sl (by simp [leSl])) ⟨ho, Nat.le_refl _, rfl⟩ ?_
  rintro d ⟨hd, hdl, hr⟩
  refine awp_sound (own := [0, 1004, 1006, 1008]) _ _ _ _ _ ?_
  simp only [wB, awp, St.ev, St.step, setS, killS, AV.kill, AV.killL, Mem.kill, Nat.reduceAdd, Nat.reduceEqDiff, Int.reduceAdd]
  refine acall_l (s121 d (by omega)) (by simp [frz, AV.sub, gtsA_pure]) (by cases pm d <;> rfl) (by cases pm d <;> rfl) ?_
  cases hm : pm d with
  | none =>
    simp only [wB, awp, asT, asB, asN, St.ev, St.step, setS, killS, AV.kill, AV.killL, Mem.kill, Nat.reduceAdd, Nat.reduceEqDiff, Int.reduceAdd, mtA]
    refine swp_le (le_frz 0 rfl (gtsA_pure d)) (swp_text (own := [0, 1006, 1008]) ?_)
    simp only [wB, St.ev, St.step, setS, killS, AV.kill, AV.killL, Mem.kill, frz1, frzM, AV.sub, AV.subL]
    refine acall_v (s122 d (by omega)) rfl rfl ?_
    simp only [wB, awp, asN, St.ev, St.step, setS, killS, AV.kill, AV.killL, Mem.kill, Nat.reduceEqDiff]
    refine aend_frz rfl ⟨?_, rfl⟩
    rw [hr, redC_none hm]
    rfl
  | some p =>
    obtain ⟨i, k⟩ := p
    have hik := pm_lt d i k hm
    have hrs := redC_some hm
    have hlt := rstep_len hm
    have hok := rstep_ok hd hm
    have hi : i < d.length := by omega
    have hk : k < d.length := hik.2
    have hit := hd d[i] (List.getElem_mem hi)
    have hkt := hd d[k] (List.getElem_mem hk)
    simp only [wB, awp, asT, asB, asN, St.ev, St.step, setS, killS, AV.kill, AV.killL, Mem.kill, Nat.reduceAdd, Nat.reduceEqDiff, Int.reduceAdd, mtA]
    refine swp_draw (own := [0]) (.take 0 .plain [] (.take 1 .plain [] (.take 2 .plain [] (.take 3 .plain [] (.take 4 .reads [] (.take 5 .plain [] (.take 6 .reads [] (.take 7 .plain [] (.take 8 .plain [] (.take 9 .reads [] (.take 10 .plain [] (.take 11 .reads [] (.take 12 .plain [] (.take 13 .plain [] (.take 14 .reads [] (.take 15 .plain [] (.alt 16 (.done) (.nil)))))))))))))))))) [⟨19, 1, 0, 0, true⟩, ⟨20, 8, 0, 0, true⟩, ⟨21, 1, 0, 0, true⟩, ⟨22, 8, 0, 0, true⟩, ⟨23, 3145728, 12, 0, true⟩, ⟨24, 4194304, 16, 0, true⟩, ⟨25, 8388608, 32, 0, true⟩, ⟨26, 1, 0, 0, true⟩, ⟨27, 16, 0, 0, true⟩, ⟨28, 100663296, 384, 0, true⟩, ⟨29, 134217728, 512, 0, true⟩, ⟨30, 268435456, 1024, 0, true⟩, ⟨31, 553648128, 2112, 0, true⟩, ⟨32, 1073741824, 4096, 0, true⟩, ⟨33, 786432, 16383, 0, true⟩, ⟨34, 4294967296, 32767, 0, true⟩, ⟨0, 10737418240, 49151, 1, false⟩] mo (by kernel_rfl) ?_
    simp only [wB, awp, binC, idxC, arithC, cmpC, asP, asQ, asO, asS, asI, obA, loadA, storeA, putsA, St.ev, St.step, setS, killS, AV.kill, AV.killL, Mem.kill, AV.cells, AV.flat, AV.single, AV.cellular, Value.oneCell', Nat.reduceAdd, Nat.reduceEqDiff, Nat.reduceLeDiff, Int.reduceAdd, Int.reduceEq, ASch, St.put, Md.mem, Md.need, isU, gtsA_len, gtsA_len, aget_gts hi, aget_gts hk, Int.toNat_natCast]
    have ht : (d[i].t + d[k].t).tmod 16 = (d[i].t + d[k].t) % 16 := Int.tmod_eq_emod_of_nonneg (by omega)
    have hrE : rstep d i k = if (d[i].t + d[k].t) % 16 = 0 then wo (wo (d.set i ⟨d[i].k, d[i].a, d[i].b, (d[i].t + d[k].t) % 16⟩) k) i else wo (d.set i ⟨d[i].k, d[i].a, d[i].b, (d[i].t + d[k].t) % 16⟩) k := by
      unfold rstep
      rw [getD_g4 hi, getD_g4 hk]
    rw [ht, gtsA_set]
    obtain ⟨e, he⟩ : ∃ e, e = d.set i ⟨d[i].k, d[i].a, d[i].b, (d[i].t + d[k].t) % 16⟩ := ⟨_, rfl⟩
    have hel : e.length = d.length := by rw [he]; simp
    rw [← he] at hrE ⊢
    have hek : k < e.length := by omega
    have hwl := wo_len e hek
    refine ⟨by omega, by omega, by unfold lim; omega, by omega, swp_zm (own := [0]) 4 rfl rfl rfl ?_⟩
    simp only [wB, binC, arithC, cmpC, asI, St.ev, St.step, setS, killS, AV.kill, AV.killL, Mem.kill, isU, List.take_succ_cons, List.take_zero]
    refine ⟨by unfold lim; omega, acall_z (z123 e k hek _ 0 rfl) ?_⟩
    have hi2 : i < (wo e k).length := by omega
    have hit2 : ((wo e k)[i]).t = (d[i].t + d[k].t) % 16 := by
      have h1 : (wo e k)[i]? = e[i]? := by
        rw [wo_er, List.getElem?_eraseIdx, if_pos hik.1]
      rw [List.getElem?_eq_getElem hi2, List.getElem?_eq_getElem (by omega)] at h1
      injection h1 with h1
      rw [h1]
      simp [he]
    simp only [wB, awp, binC, idxC, cmpC, asP, asQ, asO, asS, asB, asI, asN, obA, loadA, St.ev, St.step, setS, killS, AV.kill, AV.killL, Mem.kill, AV.cells, AV.flat, AV.single, Nat.reduceAdd, Nat.reduceEqDiff, Nat.reduceLeDiff, Int.reduceAdd, gtsA_len, gtsA_len, aget_gts hi2, Int.toNat_natCast, List.take_succ_cons, List.take_zero, List.drop_succ_cons, List.drop_zero, hit2]
    refine ⟨by omega, ?_⟩
    by_cases hz : (d[i].t + d[k].t) % 16 = 0
    · simp only [awp, ACond_true, List.contains_nil, List.contains_cons, beq_self_eq_true, nbeq, decide_false, Bool.or_false, Bool.or_true, Nat.reduceAdd, Nat.reduceEqDiff, Int.reduceAdd, decide_eq_true hz]
      refine swp_zm (own := [0]) 4 rfl rfl rfl ?_
      simp only [wB, binC, arithC, cmpC, asI, St.ev, St.step, setS, killS, AV.kill, AV.killL, Mem.kill, isU, List.take_succ_cons, List.take_zero]
      refine ⟨by unfold lim; omega, acall_z (z123 (wo e k) i hi2 _ 0 rfl) ?_⟩
      simp only [wB, asN, St.ev, St.step, setS, killS, AV.kill, AV.killL, Mem.kill, Nat.reduceAdd, Int.reduceAdd, List.drop_succ_cons, List.drop_zero]
      rw [if_pos hz] at hrE
      rw [← hrE]
      exact ⟨rstep d i k, le_sl (by simp [leSl]), ⟨hok, by omega, by rw [hr, hrs]⟩, hlt⟩
    · simp only [awp, ACond_false, decide_eq_false hz]
      rw [if_neg hz] at hrE
      rw [← hrE]
      exact ⟨rstep d i k, le_sl (by simp [leSl]), ⟨hok, by omega, by rw [hr, hrs]⟩, hlt⟩
end Go.Proofs.YtndniceeibflcaaGreatDoor

namespace Go.Proofs.YtndniceeibflcaaGreatDoor
open Aw Mp Go.RowKit
set_option linter.unusedSimpArgs false
set_option maxRecDepth 8000

theorem ok55 : okFn Tryz.prog 55 = true := by kernel_rfl
theorem s55 (n : Int) (c : List G4) (hl : c.length ≤ 10000) : ASpec Tryz.prog 55 [I n, .s 4 (gtsA c)] (fun r Ms => r = .t [.s 4 (gtsA (if vC n c = 0 then redC c else [])), I (vC n c)] ∧ Ms = []) := by
  refine aspec_of (own := [4]) Tryz.func55 rfl ok55 ?_
  simp only [wB, awp, asN, Aw.newRow, St.ev, St.step, setS, killS, AV.kill, AV.killL, Mem.kill, Nat.reduceAdd, Nat.reduceEqDiff, Nat.reduceSub, Int.reduceAdd, Int.reduceSub, Tryz.ntmps55]
  refine acall_v (s49 n c (by omega)) (by simp [AV.pureL, AV.pure, gtsA_pure]) rfl ?_
  by_cases hv : vC n c = 0
  · simp only [wB, awp, binC, cmpC, asB, asI, asN, St.ev, St.step, setS, killS, AV.kill, AV.killL, Mem.kill, Nat.reduceAdd, Nat.reduceEqDiff, Int.reduceAdd, decide_eq_true hv]
    refine acall_v (s88 c hl (vC_OkT hv)) (by simp [AV.pureL, AV.pure, gtsA_pure]) (by simp [AV.pure, gtsA_pure]) ?_
    simp only [wB, awp, asN, St.ev, St.step, setS, killS, AV.kill, AV.killL, Mem.kill, Nat.reduceEqDiff]
    exact aend_frz rfl ⟨by simp [frz, AV.sub, AV.subL, gtsA_pure, gtsA_sub, hv], rfl⟩
  · simp only [wB, awp, binC, cmpC, asB, asI, asN, Aw.newRow, St.ev, St.step, setS, killS, AV.kill, AV.killL, Mem.kill, Nat.reduceAdd, Nat.reduceEqDiff, Int.reduceAdd, decide_eq_false hv]
    refine aend_frz rfl ⟨?_, rfl⟩
    simp [frz, AV.sub, AV.subL, hv]
    rfl
theorem vC4 {n : Int} {c : Nat} {s : MS} (h : InvS n c s) : vC 4 s.circ = 0 := by
  unfold vC vG
  rw [if_neg (by omega), if_neg (by have := h.c10; omega), if_pos]
  intro g hg
  exact okG_mono (h.cok g hg) (by have := h.p4; omega)
/-- what is left of a machine's circuit. -/
theorem s55m {n : Int} {k : Nat} {t : MS} (h : InvS n k t) : ASpec Tryz.prog 55 [I 4, .s 4 (gtsA t.circ)] (fun r Ms => r = .t [.s 4 (gtsA (redC t.circ)), I 0] ∧ Ms = []) := by
  have h1 := s55 4 t.circ (by have := h.c10; omega)
  rw [if_pos (vC4 h), vC4 h] at h1
  exact h1
theorem ok56 : okFn Tryz.prog 56 = true := by kernel_rfl
theorem m56 (m : Mch) (hs : Sml m) {n : Int} {k : Nat} (hI : InvS n k m.st) : MSpec Tryz.prog 56 [.q 0 13 0 0] (memD m) (fun r N => r = .s 4 (gtsA (redC m.st.circ)) ∧ N = memD m) := by
  refine mspec_of2 (own := [3, 1001]) Tryz.func56 rfl ok56 ?_
  intro vs
  obtain ⟨gh, hgh⟩ : ∃ gh, gh = some (ghost vs [AV.q 0 13 0 0]) := ⟨_, rfl⟩
  have h67 : MSpec Tryz.prog 67 [.q 0 13 0 0] (memD m) (fun r N => r = .t [.g [.s 1 (intsA m.st.place), .s 1 (intsA m.st.heats), .s 4 (gtsA m.st.circ), I m.st.moves, I m.st.cools, I m.st.done], S m.log] ∧ N = memD m) := m67f m hs.mu hs.p hs.h hs.c
  simp only [wB, awp, asN, St.ev, St.step, setS, killS, AV.kill, AV.killL, Mem.kill, Nat.reduceAdd, Nat.reduceEqDiff, Nat.reduceSub, Int.reduceAdd, Int.reduceSub, Tryz.ntmps56, ← hgh, memD]
  refine swp_fs (own := [3]) [false, true, false, false, false, false, false, false] ?_
  simp only [wB, St.ev, St.step, setS, killS, AV.kill, AV.killL, Mem.kill]
  refine acall_f (fD h67 [gh] [1, 3] rfl rfl (by rw [hgh]; rfl)) ?_
  simp only [wB, awp, asP, asQ, asT, asN, obA, loadA, storeA, putsA, mkA, Aw.newRow, St.ev, St.step, setS, killS, AV.kill, AV.killL, Mem.kill, AV.cells, AV.flat, AV.single, AV.cellular, Nat.reduceAdd, Nat.reduceEqDiff, Nat.reduceLeDiff, Int.reduceAdd, memD, List.drop_succ_cons, List.drop_zero, AV.sub, keepG, liveI, AV.isQ, List.any_cons, List.any_nil, List.take_succ_cons, List.take_zero]
  refine acall_v (s55m hI) (by simp [AV.pureL, AV.pure, gtsA_pure]) (by simp [AV.pure, AV.pureL, gtsA_pure]) ?_
  simp only [wB, awp, asT, asN, St.ev, St.step, setS, killS, AV.kill, AV.killL, Mem.kill, Nat.reduceAdd, Nat.reduceEqDiff, Int.reduceAdd]
  exact ⟨_, _, memD m, _, Le.refl _, rfl, by rw [hgh]; rfl, rfl, rfl, free_D _ m, rfl, rfl⟩
end Go.Proofs.YtndniceeibflcaaGreatDoor

namespace Go.Proofs.YtndniceeibflcaaGreatDoor
open Aw Mp Go.RowKit
set_option linter.unusedSimpArgs false
set_option maxRecDepth 8000

/-- what is told of one order that is done: the counts, the places, the gates. -/
structure Step1 (lm : Int) (ls : List (Int × Int)) (s t : MS) : Prop where
  mv : s.moves ≤ t.moves
  co : s.cools ≤ t.cools
  dn : s.done ≤ t.done
  sum : t.moves + t.cools + t.done ≤ s.moves + s.cools + s.done + 1
  len : s.place.length ≤ t.place.length ∧ t.place.length ≤ s.place.length + 1
  at' : ∀ i, i < s.place.length → t.place.getD i 0 ≠ s.place.getD i 0 → t.moves = s.moves + 1 ∧ lnk ls (s.place.getD i 0) (t.place.getD i 0) = true
  gate : s.done < t.done → ∃ g : G4, t.circ = s.circ ++ [g] ∧ ¬ memL (wrmL lm s.heats) g.a = true ∧ ¬ memL (wrmL lm s.heats) g.b = true
theorem Step1.refl (lm : Int) (ls : List (Int × Int)) (s : MS) : Step1 lm ls s s := ⟨Int.le_refl _, Int.le_refl _, Int.le_refl _, by omega, ⟨Nat.le_refl _, by omega⟩, fun i _ h => absurd rfl h, fun h => absurd h (by omega)⟩
theorem wrm_not (lm : Int) (l : List Int) {x : Int} (hx : 0 ≤ x) (hl : x < l.length) (h : ¬ lm < l.getD x.toNat 0) : ¬ memL (wrmL lm l) x = true := by
  obtain ⟨i, rfl⟩ : ∃ i : Nat, x = i := ⟨x.toNat, by omega⟩
  rw [wrm_mem lm l i (by omega)]
  simp only [Int.toNat_natCast] at h
  rw [List.getD_eq_getElem?_getD, List.getElem?_eq_getElem (show i < l.length by omega)] at h
  simpa using h
theorem wrm_neg (lm : Int) (l : List Int) {x : Int} (hx : x < 0) : ¬ memL (wrmL lm l) x = true := by
  unfold memL wrmL upL
  simp only [decide_eq_true_eq, List.mem_filter, List.mem_map, List.mem_range, not_and]
  rintro ⟨i, _, rfl⟩
  omega
theorem step1 {n lm : Int} {ls : List (Int × Int)} {c : Nat} {s : MS} (hI : InvS n c s) {k : Nat} (hk : k < 8) {x y z : Int} (hx : 0 ≤ x) (hy : 0 ≤ y) (he : erS n lm ls s k x y z = 0) : Step1 lm ls s (nxS s k x y z) := by
  have hhl := hI.hl
  match k, hk with
  | 0, _ =>
    refine ⟨Int.le_refl _, Int.le_refl _, Int.le_refl _, by simp only [nxS]; omega, ⟨by simp [nxS], by simp [nxS]⟩, fun i hi h => ?_, fun h => absurd h (by simp [nxS])⟩
    refine absurd ?_ h
    simp only [nxS]
    rw [List.getD_eq_getElem?_getD, List.getD_eq_getElem?_getD, List.getElem?_append_left hi]
  | 1, _ =>
    simp only [erS] at he
    split at he
    · cases he
    split at he
    · cases he
    split at he
    · cases he
    rename_i h1 h2 h3
    refine ⟨by simp only [nxS]; omega, Int.le_refl _, Int.le_refl _, by simp only [nxS]; omega, ⟨by simp [nxS], by simp [nxS]⟩, fun i hi h => ⟨rfl, ?_⟩, fun h => absurd h (by simp [nxS])⟩
    by_cases hix : i = x.toNat
    · subst hix
      simp only [nxS]
      rw [show (s.place.set x.toNat y).getD x.toNat 0 = y by rw [List.getD_eq_getElem?_getD, List.getElem?_set_self (by omega)]; rfl]
      cases hl : lnk ls (s.place.getD x.toNat 0) y with
      | true => rfl
      | false => exact absurd hl h3
    · refine absurd ?_ h
      simp only [nxS]
      rw [List.getD_eq_getElem?_getD, List.getD_eq_getElem?_getD, List.getElem?_set_ne (Ne.symm hix)]
  | 2, _ => exact ⟨Int.le_refl _, by simp only [nxS]; omega, Int.le_refl _, by simp only [nxS]; omega, ⟨Nat.le_refl _, by simp [nxS]⟩, fun i _ h => absurd rfl h, fun h => absurd h (by simp [nxS])⟩
  | 3, _ => exact ⟨Int.le_refl _, Int.le_refl _, Int.le_refl _, by simp only [nxS]; omega, ⟨Nat.le_refl _, by simp [nxS]⟩, fun i _ h => absurd rfl h, fun h => absurd h (by simp [nxS])⟩
  | 4, _ | 5, _ =>
    simp only [erS, er1] at he
    split at he
    · cases he
    split at he
    · cases he
    split at he
    · cases he
    rename_i h1 h2 h3
    have hxn := wrm_not lm s.heats hx (by omega) h3
    exact ⟨Int.le_refl _, Int.le_refl _, by simp only [nxS]; omega, by simp only [nxS]; omega, ⟨Nat.le_refl _, by simp [nxS]⟩, fun i _ h => absurd rfl h, fun _ => ⟨_, rfl, hxn, wrm_neg lm _ (by simp)⟩⟩
  | 6, _ =>
    simp only [erS, er2] at he
    split at he
    · cases he
    split at he
    · cases he
    split at he
    · cases he
    split at he
    · cases he
    rename_i h1 h2 h3 h4
    have hxn := wrm_not lm s.heats hx (by omega) (fun g => h4 (.inl g))
    have hyn := wrm_not lm s.heats hy (by omega) (fun g => h4 (.inr g))
    refine ⟨Int.le_refl _, Int.le_refl _, by simp only [nxS]; omega, by simp only [nxS]; omega, ⟨Nat.le_refl _, by simp [nxS]⟩, fun i _ h => absurd rfl h, fun _ => ⟨_, rfl, ?_, ?_⟩⟩
    · show ¬ memL _ (min x y) = true
      rcases Int.le_total x y with g | g
      · rwa [Int.min_eq_left g]
      · rwa [Int.min_eq_right g]
    · show ¬ memL _ (max x y) = true
      rcases Int.le_total x y with g | g
      · rwa [Int.max_eq_right g]
      · rwa [Int.max_eq_left g]
  | 7, _ => exact ⟨Int.le_refl _, Int.le_refl _, Int.le_refl _, by simp only [nxS]; omega, ⟨Nat.le_refl _, by simp [nxS]⟩, fun i _ h => absurd rfl h, fun h => absurd h (by simp [nxS])⟩
theorem stepO {n lm : Int} {ls : List (Int × Int)} {d : List By} (hA : Acc n lm ls d) (o : By) : Step1 lm ls (stO d) (stO (doO n lm ls d o)) := by
  by_cases he : erO n lm ls d o = 0
  case neg => rw [doO_no he]; exact Step1.refl _ _ _
  rw [doO_ok he, stO_snoc]
  unfold erO at he
  unfold exO
  cases hp : prs o with
  | none => rw [hp] at he; cases he
  | some ka =>
    obtain ⟨k, a⟩ := ka
    rw [hp] at he
    simp only at he ⊢
    split at he
    · cases he
    exact step1 hA.inv.2 (prs_len hp).1 (nth_lim hp 0).1 (nth_lim hp 1).1 he
end Go.Proofs.YtndniceeibflcaaGreatDoor

namespace Go.Proofs.YtndniceeibflcaaGreatDoor
open Aw Mp Go.RowKit
set_option linter.unusedSimpArgs false
set_option maxRecDepth 8000

theorem ok57 : okFn Tryz.prog 57 = true := by kernel_rfl
theorem s57 (a b : List Int) (ha : a.length ≤ 1000000) (hb : b.length ≤ 1000000) : ASpec Tryz.prog 57 [.s 1 (intsA a), .s 1 (intsA b)] (fun r Ms => r = B (decide (a = b)) ∧ Ms = []) := by
  refine aspec_of (own := []) Tryz.func57 rfl ok57 ?_
  simp only [wB, awp, binC, cmpC, asB, asI, asN, lenA, St.ev, St.step, setS, killS, AV.kill, AV.killL, Mem.kill, Nat.reduceAdd, Nat.reduceSub, Int.reduceAdd, Int.reduceSub, lenK, Tryz.ntmps57]
  by_cases hl : (a.length : Int) = b.length
  · simp only [wB, awp, asN, St.ev, St.step, setS, killS, AV.kill, AV.killL, Mem.kill, Nat.reduceAdd, Int.reduceAdd, decide_eq_true hl]
    refine swp_loop' (fun k : Nat => ⟨[.s 1 (intsA a), .s 1 (intsA b), .bot, .bot, .bot, I k, .bot, .bot, .bot, .bot, .bot, .bot, .bot, .bot, .bot, .bot, .bot, .bot, .bot, .bot, .bot, .bot, .bot, .bot, .bot, .bot], []⟩) (fun k => k ≤ a.length ∧ ∀ j (h : j < a.length) (h' : j < b.length), j < k → a[j] = b[j]) (fun k => a.length - k) 0 (le_sl (by simp [leSl, intsA_len, prsA_len])) ⟨Nat.zero_le _, by omega⟩ ?_
    rintro k ⟨hk, hno⟩
    refine awp_sound (own := []) _ _ _ _ _ ?_
    simp only [wB, awp, binC, cmpC, asB, asI, lenA, St.ev, St.step, setS, killS, AV.kill, AV.killL, Mem.kill, Nat.reduceAdd, Int.reduceAdd, lenK]
    by_cases h : k < a.length
    · have h' : (k : Int) < (a.length : Int) := by omega
      have h2 : k < b.length := by omega
      simp only [awp, ACond_true, decide_eq_true h']
      refine swp_draw (own := []) (.take 0 .plain [] (.take 1 .plain [] (.take 2 .reads [] (.take 3 .reads [] (.take 4 .plain [] (.take 5 .plain [] (.take 6 .reads [] (.take 7 .reads [] (.take 8 .plain [] (.done)))))))))) [⟨18, 1, 0, 0, true⟩, ⟨19, 32, 0, 0, true⟩, ⟨20, 393216, 3, 0, true⟩, ⟨21, 524288, 4, 0, true⟩, ⟨22, 2, 0, 0, true⟩, ⟨23, 32, 0, 0, true⟩, ⟨24, 6291456, 48, 0, true⟩, ⟨25, 8388608, 64, 0, true⟩, ⟨26, 17825792, 136, 0, true⟩] mo (by kernel_rfl) ?_
      simp only [wB, awp, binC, idxC, cmpC, asP, asS, asB, asI, loadA, St.ev, setS, AV.cells, AV.flat, AV.single, ASch, St.put, Md.mem, Md.need, aget_ints h, aget_ints h2, Int.toNat_natCast]
      refine ⟨by omega, by omega, ?_⟩
      by_cases hx : a[k] = b[k]
      · simp only [wB, awp, binC, arithC, cmpC, asI, asN, St.ev, St.step, setS, killS, AV.kill, AV.killL, Mem.kill, Nat.reduceAdd, Int.reduceAdd, St.put, isU, decide_eq_true hx]
        refine ⟨by unfold lim; omega, k + 1, le_sl (by simp [leSl, intsA_len, prsA_len]), ⟨h, fun j hj hj' hlt => ?_⟩, by omega⟩
        rcases Nat.lt_or_ge j k with h1 | h1
        · exact hno j hj hj' h1
        · obtain rfl : j = k := by omega
          exact hx
      · simp only [wB, awp, asN, St.ev, St.step, setS, killS, AV.kill, AV.killL, Mem.kill, Nat.reduceAdd, Int.reduceAdd, St.put, decide_eq_false hx]
        refine aend_frz rfl ⟨?_, rfl⟩
        rw [decide_eq_false (fun e => hx (by subst e; rfl))]
        rfl
    · have h' : ¬ (k : Int) < (a.length : Int) := by omega
      simp only [wB, awp, asN, St.ev, St.step, setS, killS, AV.kill, AV.killL, Mem.kill, Nat.reduceAdd, Int.reduceAdd, decide_eq_false h']
      refine aend_frz rfl ⟨?_, rfl⟩
      rw [decide_eq_true (List.ext_getElem (by omega) fun j h1 h2 => hno j h1 h2 (by omega))]
      rfl
  · simp only [wB, awp, asN, St.ev, St.step, setS, killS, AV.kill, AV.killL, Mem.kill, Nat.reduceAdd, Int.reduceAdd, decide_eq_false hl]
    refine aend_frz rfl ⟨?_, rfl⟩
    rw [decide_eq_false (fun e => hl (by rw [e]))]
    rfl

theorem ok58 : okFn Tryz.prog 58 = true := by kernel_rfl
theorem s58 (a b : List G4) (ha : a.length ≤ 1000000) (hb : b.length ≤ 1000000) : ASpec Tryz.prog 58 [.s 4 (gtsA a), .s 4 (gtsA b)] (fun r Ms => r = B (decide (a = b)) ∧ Ms = []) := by
  refine aspec_of (own := []) Tryz.func58 rfl ok58 ?_
  simp only [wB, awp, binC, cmpC, asB, asI, asN, lenA, St.ev, St.step, setS, killS, AV.kill, AV.killL, Mem.kill, Nat.reduceAdd, Nat.reduceSub, Int.reduceAdd, Int.reduceSub, lenK, Tryz.ntmps58, gtsA_len]
  by_cases hl : (a.length : Int) = b.length
  · simp only [wB, awp, asN, St.ev, St.step, setS, killS, AV.kill, AV.killL, Mem.kill, Nat.reduceAdd, Int.reduceAdd, decide_eq_true hl]
    refine swp_loop' (fun k : Nat => ⟨[.s 4 (gtsA a), .s 4 (gtsA b), .bot, .bot, .bot, I k, .bot, .bot, .bot, .bot, .bot, .bot, .bot, .bot, .bot, .bot, .bot, .bot, .bot, .bot, .bot, .bot, .bot, .bot, .bot, .bot], []⟩) (fun k => k ≤ a.length ∧ ∀ j (h : j < a.length) (h' : j < b.length), j < k → a[j] = b[j]) (fun k => a.length - k) 0 (le_sl (by simp [leSl, gtsA_len])) ⟨Nat.zero_le _, by omega⟩ ?_
    rintro k ⟨hk, hno⟩
    refine awp_sound (own := []) _ _ _ _ _ ?_
    simp only [wB, awp, binC, cmpC, asB, asI, lenA, St.ev, St.step, setS, killS, AV.kill, AV.killL, Mem.kill, Nat.reduceAdd, Int.reduceAdd, lenK, gtsA_len]
    by_cases h : k < a.length
    · have h' : (k : Int) < (a.length : Int) := by omega
      have h2 : k < b.length := by omega
      simp only [awp, ACond_true, decide_eq_true h']
      refine swp_draw (own := []) (.take 0 .plain [] (.take 1 .plain [] (.take 2 .reads [] (.take 3 .reads [] (.take 4 .plain [] (.take 5 .plain [] (.take 6 .reads [] (.take 7 .reads [] (.take 8 .plain [] (.done)))))))))) [⟨18, 1, 0, 0, true⟩, ⟨19, 32, 0, 0, true⟩, ⟨20, 393216, 3, 0, true⟩, ⟨21, 524288, 4, 0, true⟩, ⟨22, 2, 0, 0, true⟩, ⟨23, 32, 0, 0, true⟩, ⟨24, 6291456, 48, 0, true⟩, ⟨25, 8388608, 64, 0, true⟩, ⟨26, 17825792, 136, 0, true⟩] mo (by kernel_rfl) ?_
      simp only [wB, awp, binC, idxC, eqC, asP, asS, asG, asB, asI, loadA, St.ev, setS, AV.cells, AV.flat, AV.single, ints, Nat.reduceAdd, Nat.reduceLeDiff, Int.reduceAdd, ASch, St.put, Md.mem, Md.need, aget_gts h, aget_gts h2, Int.toNat_natCast]
      refine ⟨by omega, by omega, ?_⟩
      by_cases hx : [a[k].k, a[k].a, a[k].b, a[k].t] = [b[k].k, b[k].a, b[k].b, b[k].t]
      · simp only [wB, awp, binC, arithC, cmpC, asI, asN, St.ev, St.step, setS, killS, AV.kill, AV.killL, Mem.kill, Nat.reduceAdd, Int.reduceAdd, St.put, isU, decide_eq_true hx]
        refine ⟨by unfold lim; omega, k + 1, le_sl (by simp [leSl, gtsA_len]), ⟨h, fun j hj hj' hlt => ?_⟩, by omega⟩
        rcases Nat.lt_or_ge j k with h1 | h1
        · exact hno j hj hj' h1
        · obtain rfl : j = k := by omega
          exact (g4_eq _ _).1 hx
      · simp only [wB, awp, asN, St.ev, St.step, setS, killS, AV.kill, AV.killL, Mem.kill, Nat.reduceAdd, Int.reduceAdd, St.put, decide_eq_false hx]
        refine aend_frz rfl ⟨?_, rfl⟩
        rw [decide_eq_false (fun e => hx (by subst e; rfl))]
        rfl
    · have h' : ¬ (k : Int) < (a.length : Int) := by omega
      simp only [wB, awp, asN, St.ev, St.step, setS, killS, AV.kill, AV.killL, Mem.kill, Nat.reduceAdd, Int.reduceAdd, decide_eq_false h']
      refine aend_frz rfl ⟨?_, rfl⟩
      rw [decide_eq_true (List.ext_getElem (by omega) fun j h1 h2 => hno j h1 h2 (by omega))]
      rfl
  · simp only [wB, awp, asN, St.ev, St.step, setS, killS, AV.kill, AV.killL, Mem.kill, Nat.reduceAdd, Int.reduceAdd, decide_eq_false hl]
    refine aend_frz rfl ⟨?_, rfl⟩
    rw [decide_eq_false (fun e => hl (by rw [e]))]
    rfl

theorem ok61 : okFn Tryz.prog 61 = true := by kernel_rfl
theorem s61 (l : List Int) (x : Int) (hl : l.length ≤ 1000000) : ASpec Tryz.prog 61 [.s 1 (intsA l), I x] (fun r Ms => r = B (memL l x) ∧ Ms = []) := by
  refine aspec_of (own := []) Tryz.func61 rfl ok61 ?_
  simp only [wB, awp, asN, St.ev, St.step, setS, killS, AV.kill, AV.killL, Mem.kill, Nat.reduceAdd, Nat.reduceSub, Int.reduceAdd, Int.reduceSub, Tryz.ntmps61]
  refine swp_loop' (fun k : Nat => ⟨[.s 1 (intsA l), I x, .bot, .bot, .bot, I k, .bot, .bot, .bot, .bot, .bot, .bot, .bot, .bot, .bot, .bot, .bot, .bot], []⟩) (fun k => k ≤ l.length ∧ ∀ j, j < k → ∀ h : j < l.length, l[j] ≠ x) (fun k => l.length - k) 0 (le_sl (by simp [leSl, intsA_len])) ⟨Nat.zero_le _, by omega⟩ ?_
  rintro k ⟨hk, hno⟩
  refine awp_sound (own := []) _ _ _ _ _ ?_
  simp only [wB, awp, binC, cmpC, asB, asI, lenA, St.ev, St.step, setS, killS, AV.kill, AV.killL, Mem.kill, Nat.reduceAdd, Int.reduceAdd, lenK]
  by_cases h : k < l.length
  · simp only [wB, awp, binC, idxC, cmpC, asP, asS, asB, asI, loadA, St.ev, St.step, setS, killS, AV.kill, AV.killL, Mem.kill, AV.cells, AV.flat, AV.single, Nat.reduceAdd, Int.reduceAdd, decide_eq_true (show (k : Int) < l.length by omega), aget_ints h, Int.toNat_natCast]
    refine ⟨by omega, ?_⟩
    by_cases h1 : l[k] = x
    · simp only [wB, awp, asN, St.ev, St.step, setS, killS, AV.kill, AV.killL, Mem.kill, Nat.reduceAdd, Int.reduceAdd, decide_eq_true h1]
      exact aend_frz rfl ⟨by rw [memL_true h h1]; rfl, rfl⟩
    · simp only [wB, awp, binC, arithC, cmpC, asI, asN, St.ev, St.step, setS, killS, AV.kill, AV.killL, Mem.kill, Nat.reduceAdd, Int.reduceAdd, isU, decide_eq_false h1]
      exact ⟨by unfold lim; omega, k + 1, le_sl (by simp [leSl, intsA_len]), ⟨h, upto hno fun _ e => h1 e⟩, by omega⟩
  · simp only [wB, awp, asN, St.ev, St.step, setS, killS, AV.kill, AV.killL, Mem.kill, Nat.reduceAdd, Int.reduceAdd, decide_eq_false (show ¬ (k : Int) < l.length by omega)]
    exact aend_frz rfl ⟨by rw [memL_false fun j hj => hno j (by omega) hj]; rfl, rfl⟩
/-- two zones have a link, in the one order or the other. -/
def lkd (ls : List (Int × Int)) (a b : Int) : Bool := decide ((a, b) ∈ ls ∨ (b, a) ∈ ls)
theorem lkd_of {ls : List (Int × Int)} {a b : Int} (h : lnk ls a b = true) : lkd ls b a = true := by
  unfold lnk memL at h
  simp only [decide_eq_true_eq] at h
  unfold lkd
  refine decide_eq_true ?_
  rcases Int.le_total a b with g | g
  · rw [Int.min_eq_left g, Int.max_eq_right g] at h
    exact .inr h
  · rw [Int.min_eq_right g, Int.max_eq_left g] at h
    exact .inl h
theorem ok60 : okFn Tryz.prog 60 = true := by kernel_rfl
theorem s60 (n : Int) (ls : List (Int × Int)) (a b : Int) (hl : ls.length ≤ 1000000) : ASpec Tryz.prog 60 [.g [I n, .s 2 (prsA ls)], I a, I b] (fun r Ms => r = B (lkd ls a b) ∧ Ms = []) := by
  refine aspec_of (own := []) Tryz.func60 rfl ok60 ?_
  simp only [wB, awp, asN, St.ev, St.step, setS, killS, AV.kill, AV.killL, Mem.kill, AV.cellular, AV.pure, AV.pureL, Nat.reduceAdd, Nat.reduceSub, Int.reduceAdd, Int.reduceSub, Tryz.ntmps60]
  have hend : ∀ k (h : k < ls.length), (ls[k].1 = a ∧ ls[k].2 = b) ∨ (ls[k].1 = b ∧ ls[k].2 = a) → lkd ls a b = true := fun k h g => by
    unfold lkd
    refine decide_eq_true ?_
    rcases g with ⟨g1, g2⟩ | ⟨g1, g2⟩
    · exact .inl (by rw [← g1, ← g2]; exact List.getElem_mem h)
    · exact .inr (by rw [← g1, ← g2]; exact List.getElem_mem h)
  refine swp_loop' (fun k : Nat => ⟨[.bot, I a, I b, .p (.g [I n, .s 2 (prsA ls)]) 0, .bot, .bot, .bot, I k, .bot, .bot, .bot, .bot, .bot, .bot, .bot, .bot, .bot, .bot, .bot, .bot, .bot, .bot, .bot, .bot, .bot, .bot, .bot, .bot, .bot, .bot, .bot, .bot, .bot, .bot, .bot, .bot, .bot, .bot, .bot, .bot, .bot, .bot, .bot, .bot, .bot, .bot, .bot, .bot, .bot, .bot, .bot, .bot, .bot], []⟩) (fun k => k ≤ ls.length ∧ ∀ j, j < k → ∀ h : j < ls.length, ¬ ((ls[j].1 = a ∧ ls[j].2 = b) ∨ (ls[j].1 = b ∧ ls[j].2 = a))) (fun k => ls.length - k) 0 (le_sl (by simp [leSl])) ⟨Nat.zero_le _, by omega⟩ ?_
  rintro k ⟨hk, hno⟩
  refine awp_sound (own := []) _ _ _ _ _ ?_
  simp only [wB, awp, binC, cmpC, asP, asB, asI, lenA, loadA, St.ev, St.step, setS, killS, AV.kill, AV.killL, Mem.kill, AV.cells, AV.flat, AV.single, Nat.reduceAdd, Nat.reduceEqDiff, Nat.reduceLeDiff, Int.reduceAdd, lenK, prsA_len]
  by_cases h : k < ls.length
  case neg =>
    simp only [wB, awp, asN, St.ev, St.step, setS, killS, AV.kill, AV.killL, Mem.kill, Nat.reduceAdd, Int.reduceAdd, decide_eq_false (show ¬ (k : Int) < ls.length by omega)]
    refine aend_frz rfl ⟨?_, rfl⟩
    have : lkd ls a b = false := by
      unfold lkd
      refine decide_eq_false ?_
      rintro (g | g)
      · obtain ⟨j, hj, e⟩ := List.mem_iff_getElem.1 g
        exact hno j (by omega) hj (.inl (by rw [e]; exact ⟨rfl, rfl⟩))
      · obtain ⟨j, hj, e⟩ := List.mem_iff_getElem.1 g
        exact hno j (by omega) hj (.inr (by rw [e]; exact ⟨rfl, rfl⟩))
    rw [this]
    rfl
  have hnext : ¬ ((ls[k].1 = a ∧ ls[k].2 = b) ∨ (ls[k].1 = b ∧ ls[k].2 = a)) → ∀ j, j < k + 1 → ∀ h : j < ls.length, ¬ ((ls[j].1 = a ∧ ls[j].2 = b) ∨ (ls[j].1 = b ∧ ls[j].2 = a)) := fun g j hj hjl => by
    rcases Nat.lt_or_ge j k with h1 | h1
    · exact hno j h1 hjl
    · obtain rfl : j = k := by omega
      exact g
  simp only [wB, awp, binC, idxC, cmpC, asP, asS, asI, loadA, St.ev, St.step, setS, killS, AV.kill, AV.killL, Mem.kill, AV.cells, AV.flat, AV.single, Nat.reduceAdd, Nat.reduceEqDiff, Nat.reduceLeDiff, Int.reduceAdd, decide_eq_true (show (k : Int) < ls.length by omega), aget_prs h, Int.toNat_natCast]
  refine ⟨by omega, ?_⟩
  obtain ⟨b1, hb1⟩ : ∃ b1, decide (ls[k].1 = a) = b1 := ⟨_, rfl⟩
  obtain ⟨b2, hb2⟩ : ∃ b2, decide (ls[k].2 = b) = b2 := ⟨_, rfl⟩
  obtain ⟨b3, hb3⟩ : ∃ b3, decide (ls[k].1 = b) = b3 := ⟨_, rfl⟩
  obtain ⟨b4, hb4⟩ : ∃ b4, decide (ls[k].2 = a) = b4 := ⟨_, rfl⟩
  cases b1 <;> cases b2 <;> cases b3 <;> cases b4
  all_goals
    simp only [wB, awp, binC, idxC, arithC, cmpC, asP, asS, asB, asI, asN, loadA, St.ev, St.step, setS, killS, AV.kill, AV.killL, Mem.kill, AV.cells, AV.flat, AV.single, Nat.reduceAdd, Nat.reduceEqDiff, Nat.reduceLeDiff, Int.reduceAdd, isU, hb1, hb2, hb3, hb4, aget_prs h, Int.toNat_natCast]
    repeat (refine ⟨by omega, ?_⟩)
    simp only [decide_eq_true_eq, decide_eq_false_iff_not] at hb1 hb2 hb3 hb4
    first
    | exact aend_frz rfl ⟨by rw [hend k h (by omega)]; rfl, rfl⟩
    | exact ⟨by unfold lim; omega, k + 1, le_sl (by simp [leSl]), ⟨h, hnext (by omega)⟩, by omega⟩
end Go.Proofs.YtndniceeibflcaaGreatDoor

namespace Go.Proofs.YtndniceeibflcaaGreatDoor
open Aw Mp Go.RowKit
set_option linter.unusedSimpArgs false
set_option maxRecDepth 8000

theorem ok59 : okFn Tryz.prog 59 = true := by kernel_rfl
end Go.Proofs.YtndniceeibflcaaGreatDoor
