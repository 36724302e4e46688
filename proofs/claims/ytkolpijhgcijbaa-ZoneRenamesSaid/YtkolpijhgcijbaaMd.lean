/-
  Several texts in one: FnM, FnN, FnO, FnP, FnQ, FnR, FnU, FnW.
-/
import Derived.Test.YtkolpijhgcijbaaMc
import Derived.Test.YtkolpijhgcijbaaMb
import Derived.DeepKeys4
set_option linter.unusedSimpArgs false
set_option linter.unusedVariables false
namespace Go.Proofs.Ytkolpijhgcijbaa
open Aw Go.RowKit
set_option linter.unusedSimpArgs false

theorem ok59 : okFn Try.prog 59 = true := by kernel_rfl
theorem s59 (l : List Int) (hl : l.length ≤ 1000000) : ASpec Try.prog 59 [.s 1 (intsA l)] (fun r Ms => r = .o 0 ∧ Ms = [⟨none, 3, 1, intsA l⟩]) := by
  refine aspec_of (own := [2, 5]) Try.func59 rfl ok59 ?_
  simp only [w_move, w_assign, w_binOp, w_aop, w_some, w_asome, w_anone, w_nil, w_cons, awp, binC, asS, asG, asB, asI, asN, asE, Aw.newRow, St.ev, St.step, setS, killS, AV.kill, AV.killL, Mem.kill, ACond_false, List.getD_cons_succ, List.getD_cons_zero, List.set_cons_succ, List.set_cons_zero, List.length_cons, List.length_nil, List.replicate_succ, List.replicate_zero, List.cons_append, List.nil_append, List.contains_nil, List.contains_cons, List.isEmpty_nil, Option.getD_some, Bool.false_eq_true, if_false, if_true, true_and, and_true, Bool.and_true, Bool.true_and, Option.isSome_some, Nat.zero_add, Nat.add_zero, beq_self_eq_true, nbeq, decide_false, Bool.or_false, Nat.reduceAdd, Nat.reduceEqDiff, Nat.reduceSub, Int.reduceAdd, Int.reduceSub, ti3, ti25, Try.ntmps59]
  intro b hb
  cases b with
  | true =>
    have : l = [] := by
      have := hb rfl
      cases l with
      | nil => rfl
      | cons x l => simp [intsA] at this
    subst this
    simp only [w_assign, w_aop, w_some, w_asome, w_nil, w_cons, awp, asN, Aw.newRow, St.ev, St.step, setS, killS, AV.kill, AV.killL, Mem.kill, ACond_true, ACond_false, List.set_cons_succ, List.set_cons_zero, List.length_cons, List.length_nil, List.cons_append, List.nil_append, List.contains_nil, List.contains_cons, List.isEmpty_nil, Option.getD_some, Bool.false_eq_true, if_false, if_true, Nat.zero_add, beq_self_eq_true, nbeq, decide_false, Bool.or_false, Nat.reduceAdd, Nat.reduceEqDiff, Int.reduceAdd, ti3, ti25]
    exact aend_exp 1 rfl rfl rfl ⟨rfl, rfl⟩
  | false =>
    simp only [w_move, w_assign, w_buildSlice, w_append, w_aop, w_some, w_asome, w_anone, w_nil, w_cons, awp, asO, asS, asN, obA, Aw.newRow, St.ev, St.step, setS, killS, AV.kill, AV.killL, Mem.kill, AV.cells, AV.flat, AV.single, AV.cellular, ACond_true, ACond_false, Value.oneCell', List.getD_cons_succ, List.getD_cons_zero, List.set_cons_succ, List.set_cons_zero, List.getElem?_cons_succ, List.getElem?_cons_zero, List.length_cons, List.length_nil, List.cons_append, List.nil_append, List.contains_nil, List.contains_cons, List.isEmpty_nil, List.isEmpty_cons, Option.getD_some, Bool.false_eq_true, if_false, if_true, true_and, and_true, List.all_nil, Bool.and_true, Bool.true_and, Nat.zero_add, beq_self_eq_true, List.map_cons, List.map_nil, nbeq, decide_false, Bool.or_false, Bool.or_true, Nat.reduceAdd, Nat.reduceEqDiff, Nat.reduceMul, Nat.reduceLeDiff, Int.reduceAdd, Int.reduceMul, Option.map_some, ti3, ti25, intsA_len]
    refine ⟨⟨by decide, rfl⟩, ⟨by decide, by omega⟩, ?_⟩
    exact aend_exp 1 rfl rfl (intsA_pure l) ⟨rfl, rfl⟩

/-- the key of a place. -/
def padL (l : List Int) : List Int := (l ++ [-1, -1, -1, -1]).take 4
theorem padL_len (l : List Int) : (padL l).length = 4 := by simp [padL]

def fl : Nat → List Int | 0 => [0, 0, 0, 0] | 1 => [-1, 0, 0, 0] | 2 => [-1, -1, 0, 0] | 3 => [-1, -1, -1, 0] | _ => [-1, -1, -1, -1]

theorem putsA_pad (l : List Int) (hl : l.length ≤ 4) : putsA [I (-1), I (-1), I (-1), I (-1)] 0 ((intsA l).take (min (intsA l).length 4)) = intsA (padL l) := by
  match l, hl with
  | [], _ => rfl
  | [a], _ => rfl
  | [a, b], _ => rfl
  | [a, b, c], _ => rfl
  | [a, b, c, d], _ => rfl
  | a :: b :: c :: d :: e :: l, h => simp at h

theorem ok61 : okFn Try.prog 61 = true := by kernel_rfl
theorem s61 (l : List Int) (hl : l.length ≤ 4) : ASpec Try.prog 61 [.s 1 (intsA l)] (fun r Ms => r = .g (intsA (padL l)) ∧ Ms = []) := by
  refine aspec_of (own := [2, 3, 1007]) Try.func61 rfl ok61 ?_
  simp only [w_move, w_alloc, w_aop, w_some, w_nil, w_cons, awp, mkA, Aw.newRow, St.ev, St.step, setS, killS, AV.kill, AV.killL, Mem.kill, ACond_false, List.set_cons_succ, List.set_cons_zero, List.length_cons, List.length_nil, List.replicate_succ, List.replicate_zero, List.cons_append, List.nil_append, List.contains_nil, List.contains_cons, List.isEmpty_nil, Bool.false_eq_true, if_false, if_true, true_and, Bool.true_and, Nat.zero_add, Nat.add_zero, List.map_cons, List.map_nil, nbeq, decide_false, Bool.or_false, Nat.reduceAdd, Nat.reduceEqDiff, Nat.reduceSub, Int.reduceAdd, Int.reduceSub, Int.reduceNeg, ti74, Try.ntmps61]
  refine swp_loop' (fun k : Nat => ⟨[.s 1 (intsA l), .bot, .q 0 4 0 0, .q 1 4 0 0, .bot, I k, .bot, .bot, .bot, .bot, .bot, .bot, .bot, .bot, .bot], [some ⟨none, 74, 4, [.g [I 0, I 0, I 0, I 0]]⟩, some ⟨none, 74, 4, [.g (intsA (fl k))]⟩]⟩) (fun k => k ≤ 4) (fun k => 4 - k) 0 (le_sl (by simp [leSl])) (by omega) ?_
  intro k hk
  refine awp_sound (own := [2, 3, 1007]) _ _ _ _ _ ?_
  by_cases h : k < 4
  · have h' : (k : Int) < 4 := by omega
    rcases (show k = 0 ∨ k = 1 ∨ k = 2 ∨ k = 3 by omega) with rfl | rfl | rfl | rfl
    · simp only [w_move, w_assign, w_store, w_indexAddr, w_binOp, w_aop, w_some, w_asome, w_anone, w_nil, w_cons, awp, binC, idxC, arithC, cmpC, asP, asQ, asB, asI, asN, obA, AGet_zero, storeA, putsA, St.ev, St.step, setS, killS, AV.kill, AV.killL, Mem.kill, AV.cells, AV.flat, AV.single, AV.cellular, ACond_true, ACond_false, Value.oneCell', List.getD_cons_succ, List.getD_cons_zero, List.set_cons_succ, List.set_cons_zero, List.getElem?_cons_succ, List.getElem?_cons_zero, List.length_cons, List.length_nil, List.contains_nil, List.contains_cons, List.isEmpty_nil, Option.getD_some, Bool.false_eq_true, if_false, if_true, true_and, and_true, List.all_cons, List.all_nil, Bool.and_true, Bool.true_and, Nat.zero_add, Nat.add_zero, beq_self_eq_true, List.map_cons, List.map_nil, decide_true, nbeq, decide_false, Bool.or_false, Nat.reduceAdd, Nat.reduceEqDiff, Nat.reduceMul, Nat.reduceSub, Nat.reduceLeDiff, Int.reduceAdd, Int.reduceSub, Int.reduceMul, Int.reduceNeg, Int.reduceLE, Int.reduceLT, Int.toNat_zero, ti3, ti74, fl, intsA, Int.cast_ofNat_Int]
      exact ⟨by unfold lim; omega, 1, le_sl (by simp [leSl]), by omega, by omega⟩
    · simp only [w_move, w_assign, w_store, w_indexAddr, w_binOp, w_aop, w_some, w_asome, w_anone, w_nil, w_cons, awp, binC, idxC, arithC, cmpC, asP, asQ, asB, asI, asN, obA, AGet_zero, storeA, putsA, St.ev, St.step, setS, killS, AV.kill, AV.killL, Mem.kill, AV.cells, AV.flat, AV.single, AV.cellular, ACond_true, ACond_false, Value.oneCell', List.getD_cons_succ, List.getD_cons_zero, List.set_cons_succ, List.set_cons_zero, List.getElem?_cons_succ, List.getElem?_cons_zero, List.length_cons, List.length_nil, List.contains_nil, List.contains_cons, List.isEmpty_nil, Option.getD_some, Bool.false_eq_true, if_false, if_true, true_and, and_true, List.all_cons, List.all_nil, Bool.and_true, Bool.true_and, Nat.zero_add, beq_self_eq_true, List.map_cons, List.map_nil, decide_true, nbeq, decide_false, Bool.or_false, Nat.reduceAdd, Nat.reduceEqDiff, Nat.reduceMul, Nat.reduceSub, Nat.reduceLeDiff, Int.reduceAdd, Int.reduceSub, Int.reduceMul, Int.reduceNeg, Int.reduceLE, Int.reduceLT, Int.toNat_one, ti3, ti74, fl, intsA, Int.cast_ofNat_Int]
      exact ⟨by unfold lim; omega, 2, le_sl (by simp [leSl]), by omega, by omega⟩
    · simp only [w_move, w_assign, w_store, w_indexAddr, w_binOp, w_aop, w_some, w_asome, w_anone, w_nil, w_cons, awp, binC, idxC, arithC, cmpC, asP, asQ, asB, asI, asN, obA, AGet_zero, storeA, putsA, St.ev, St.step, setS, killS, AV.kill, AV.killL, Mem.kill, AV.cells, AV.flat, AV.single, AV.cellular, ACond_true, ACond_false, Value.oneCell', List.getD_cons_succ, List.getD_cons_zero, List.set_cons_succ, List.set_cons_zero, List.getElem?_cons_succ, List.getElem?_cons_zero, List.length_cons, List.length_nil, List.contains_nil, List.contains_cons, List.isEmpty_nil, Option.getD_some, Bool.false_eq_true, if_false, if_true, true_and, and_true, List.all_cons, List.all_nil, Bool.and_true, Bool.true_and, Nat.zero_add, beq_self_eq_true, List.map_cons, List.map_nil, decide_true, nbeq, decide_false, Bool.or_false, Nat.reduceAdd, Nat.reduceEqDiff, Nat.reduceMul, Nat.reduceSub, Nat.reduceLeDiff, Int.reduceAdd, Int.reduceSub, Int.reduceMul, Int.reduceNeg, Int.reduceToNat, Int.reduceLE, Int.reduceLT, ti3, ti74, fl, intsA, Int.cast_ofNat_Int]
      exact ⟨by unfold lim; omega, 3, le_sl (by simp [leSl]), by omega, by omega⟩
    · simp only [w_move, w_assign, w_store, w_indexAddr, w_binOp, w_aop, w_some, w_asome, w_anone, w_nil, w_cons, awp, binC, idxC, arithC, cmpC, asP, asQ, asB, asI, asN, obA, AGet_zero, storeA, putsA, St.ev, St.step, setS, killS, AV.kill, AV.killL, Mem.kill, AV.cells, AV.flat, AV.single, AV.cellular, ACond_true, ACond_false, Value.oneCell', List.getD_cons_succ, List.getD_cons_zero, List.set_cons_succ, List.set_cons_zero, List.getElem?_cons_succ, List.getElem?_cons_zero, List.length_cons, List.length_nil, List.contains_nil, List.contains_cons, List.isEmpty_nil, Option.getD_some, Bool.false_eq_true, if_false, if_true, true_and, and_true, List.all_cons, List.all_nil, Bool.and_true, Bool.true_and, Nat.zero_add, beq_self_eq_true, List.map_cons, List.map_nil, decide_true, nbeq, decide_false, Bool.or_false, Nat.reduceAdd, Nat.reduceEqDiff, Nat.reduceMul, Nat.reduceSub, Nat.reduceLeDiff, Int.reduceAdd, Int.reduceSub, Int.reduceMul, Int.reduceNeg, Int.reduceToNat, Int.reduceLE, Int.reduceLT, ti3, ti74, fl, intsA, Int.cast_ofNat_Int]
      exact ⟨by unfold lim; omega, 4, le_sl (by simp [leSl]), by omega, by omega⟩
  · obtain rfl : k = 4 := by omega
    simp only [w_binOp, w_aop, w_some, w_asome, w_nil, w_cons, awp, binC, cmpC, asB, asI, St.ev, St.step, setS, killS, AV.kill, AV.killL, Mem.kill, ACond_true, ACond_false, List.getD_cons_succ, List.getD_cons_zero, List.set_cons_succ, List.set_cons_zero, List.contains_nil, List.contains_cons, List.isEmpty_nil, Bool.false_eq_true, if_false, if_true, true_and, Bool.true_and, beq_self_eq_true, List.map_cons, List.map_nil, nbeq, decide_false, Bool.or_false, Bool.or_true, Nat.reduceAdd, Nat.reduceEqDiff, Int.reduceAdd, Int.reduceNeg, Int.reduceLT, fl, intsA, Int.cast_ofNat_Int]
    refine swp_copy (p := 3) (s := 0) (n := 4) (e := 3) (i := 1) (j := 0) ti74 rfl ti3 rfl ti25 rfl rfl rfl rfl rfl rfl (by simp [AV.size]) rfl (by simp) (by simp) (by decide) (by decide) (by decide) ?_
    have e : putsA [I (-1), I (-1), I (-1), I (-1)] 0 ((l.map fun n => I n).take (min (l.map fun n => I n).length 4)) = intsA (padL l) := putsA_pad l hl
    obtain ⟨a, b, c, d, hp⟩ : ∃ a b c d, padL l = [a, b, c, d] := by
      match hq : padL l, padL_len l with
      | [a, b, c, d], _ => exact ⟨a, b, c, d, rfl⟩
    simp only [w_load, w_aop, w_some, w_anone, w_cons, awp, asP, asQ, obA, AGet_zero, loadA, St.ev, AV.cells, AV.flat, AV.single, ACond_false, List.getD_cons_succ, List.getD_cons_zero, List.set_cons_succ, List.set_cons_zero, List.getElem?_cons_succ, List.getElem?_cons_zero, List.contains_nil, List.contains_cons, if_true, true_and, Bool.true_and, Nat.zero_add, beq_self_eq_true, nbeq, decide_false, Bool.or_false, decide_eq_true_eq, Nat.reduceAdd, Nat.reduceEqDiff, Int.reduceAdd, Int.reduceNeg, ti74, e]
    rw [hp]
    simp only [w_store, w_aop, w_some, w_nil, w_cons, awp, asQ, obA, AGet_zero, storeA, putsA, St.ev, St.step, setS, killS, AV.kill, AV.killL, Mem.kill, AV.cells, AV.flat, AV.single, AV.cellular, List.getD_cons_succ, List.getD_cons_zero, List.set_cons_succ, List.set_cons_zero, List.getElem?_cons_zero, List.length_cons, List.length_nil, List.contains_nil, List.isEmpty_nil, Bool.false_eq_true, if_false, if_true, true_and, and_true, List.all_cons, List.all_nil, Bool.and_true, Bool.true_and, Bool.not_true, Nat.zero_add, beq_self_eq_true, List.map_cons, List.map_nil, decide_true, Nat.reduceAdd, Nat.reduceLeDiff, Int.reduceAdd, ti74, intsA]
    refine aend_frz (x := .g [I a, I b, I c, I d]) ?_ ⟨rfl, rfl⟩
    show resA Try.prog [.cell 2 74] _ = _
    simp [resA, resL, resOne, ti74, loadA, AV.flat, AV.cells, AV.single]

/-- the map's types. -/
theorem mp78 : mapOf Try.prog 78 = some (74, 76) := by kernel_rfl
theorem za76 : zeroA Try.prog 76 = some (.g [I 0, I 0, I 0, I 0, I 0, I 0, I 0]) := by kernel_rfl
theorem key74 : Maps.Keyed Try.prog 74 := Maps.Keyed.of_law (deep_law_laid (by kernel_rfl) (m := 5) (by decide) (of_decide_eq_true (by kernel_rfl)) (by kernel_rfl) (by kernel_rfl))

def kv (l : List Int) : Value := .agg ((l.map (Value.int .i64)).toArray)
theorem valOf_ints (l : List Int) : Aw.valOf (AV.g (intsA l)) = some (kv l) := by
  have : ∀ l : List Int, valsOf (intsA l) = some (l.map (Value.int .i64)) := by
    intro l
    induction l with
    | nil => rfl
    | cons x l ih => simp only [intsA, List.map_cons, valsOf] at *; rw [ih]; rfl
  simp [Aw.valOf, this, kv]
theorem kv_inj {l m : List Int} (h : kv l = kv m) : l = m := by
  simp only [kv, Value.agg.injEq] at h
  have := congrArg Array.toList h
  simp only at this
  exact (List.map_inj_right (fun a b h => by injection h)).1 this
theorem u74 : Try.prog.underlying 74 = some (.array 4 3) := by kernel_rfl
theorem u3 : Try.prog.underlying 3 = some (.int .i64) := by kernel_rfl
theorem c74 : Try.prog.cellsOf 74 = 4 := by kernel_rfl
theorem c3 : Try.prog.cellsOf 3 = 1 := by kernel_rfl
theorem kt74 : Try.prog.keyType 74 = true := by kernel_rfl
theorem key_ok (a b c d : Int) (ha : lim a) (hb : lim b) (hc : lim c) (hd : lim d) : ∃ l, keyOf Try.prog 74 (kv [a, b, c, d]) = some l := by
  have hw : ∀ x : Int, lim x → (Lit.int .i64 x).wf = true := fun x hx => by
    unfold lim at hx
    have e : IntKind.i64.min = -9223372036854775808 := by decide
    simp [Lit.wf]
    rw [e]
    exact hx
  obtain ⟨m, hm⟩ : ∃ m, Try.prog.types.size = m + 1 := ⟨Try.prog.types.size - 1, by
    have : 0 < Try.prog.types.size := of_decide_eq_true (by kernel_rfl)
    omega⟩
  have hf : (kv [a, b, c, d]).formed Try.prog 74 = true := by simp [kv, Value.formed, u74, c74]
  have hl : Try.prog.keyLits (m + 1 + 1) 74 (kv [a, b, c, d]).cells.toList = some [.int .i64 a, .int .i64 b, .int .i64 c, .int .i64 d] := by
    have e : (kv [a, b, c, d]).cells.toList = [.int .i64 a, .int .i64 b, .int .i64 c, .int .i64 d] := rfl
    rw [e]
    simp [Program.keyLits, u74, u3, c74, c3, List.range_succ, hw a ha, hw b hb, hw c hc, hw d hd]
  simp only [keyOf, u74, kt74, hf, hm, hl, Bool.and_self, if_true, Option.map_some]
  exact ⟨_, rfl⟩
end Go.Proofs.Ytkolpijhgcijbaa

namespace Go.Proofs.Ytkolpijhgcijbaa
open Aw Go.RowKit
set_option linter.unusedSimpArgs false

/-- a place that was reached: from which one (its key), by which move, after how many. -/
structure Nd where
  pl : List Int
  fr : List Int
  mv : Int × Int
  far : Int

def pls (L : List Nd) : List (List Int) := L.map Nd.pl
def addN (L : List Nd) (x : Nd) : List Nd := if x.pl ∈ pls L then L else L ++ [x]
def nxt (p : List Int) (m : Int × Int) : List Int := p.set m.1.toNat m.2
/-- a place is visited. -/
def visN (p : List Int) (d : Int) (L : List Nd) (ms : List (Int × Int)) : List Nd := ms.foldl (fun L m => addN L ⟨nxt p m, padL p, m, d + 1⟩) L

theorem visN_succ (p : List Int) (d : Int) (L : List Nd) (ms : List (Int × Int)) {k : Nat} (h : k < ms.length) : visN p d L (ms.take (k + 1)) = addN (visN p d L (ms.take k)) ⟨nxt p ms[k], padL p, ms[k], d + 1⟩ := by
  unfold visN; rw [List.take_succ_eq_append_getElem h, List.foldl_append]; rfl
theorem addN_ext (L : List Nd) (x : Nd) : ∃ E, addN L x = L ++ E := by
  unfold addN; split
  · exact ⟨[], by simp⟩
  · exact ⟨[x], rfl⟩
theorem visN_ext (p : List Int) (d : Int) : ∀ (ms : List (Int × Int)) (L : List Nd), ∃ E, visN p d L ms = L ++ E ∧ E.length ≤ ms.length
  | [], L => ⟨[], by simp [visN], by simp⟩
  | m :: ms, L => by
    obtain ⟨E, h1, h2⟩ := visN_ext p d ms (addN L ⟨nxt p m, padL p, m, d + 1⟩)
    have e : visN p d L (m :: ms) = visN p d (addN L ⟨nxt p m, padL p, m, d + 1⟩) ms := rfl
    rw [e, h1]
    unfold addN
    split
    · exact ⟨E, rfl, by simp; omega⟩
    · exact ⟨⟨nxt p m, padL p, m, d + 1⟩ :: E, by simp, by simp; omega⟩

def okPl (n : Int) (k : Nat) (p : List Int) : Prop := p.length = k ∧ ∀ x ∈ p, 0 ≤ x ∧ x < n

structure InvN (n : Int) (k : Nat) (L : List Nd) : Prop where
  pl : ∀ x ∈ L, okPl n k x.pl
  fr : ∀ x ∈ L, ∃ a b c d, x.fr = [a, b, c, d] ∧ lim a ∧ lim b ∧ lim c ∧ lim d
  far0 : ∀ x ∈ L, 0 ≤ x.far
  far : ∀ (i : Nat) (h : i < L.length), L[i].far ≤ i
  nd : (pls L).Nodup

theorem padL_at {l : List Int} (h : l.length ≤ 4) : (padL l).take l.length = l := by
  unfold padL
  rw [List.take_take, Nat.min_eq_left h, List.take_left']
  rfl
theorem padL_inj {l m : List Int} (hl : l.length = m.length) (h4 : l.length ≤ 4) (h : padL l = padL m) : l = m := by
  rw [← padL_at h4, h, hl, padL_at (by omega)]
theorem padL_lim {n : Int} (hn : n ≤ 6) {k : Nat} {p : List Int} (h : okPl n k p) : ∃ a b c d, padL p = [a, b, c, d] ∧ lim a ∧ lim b ∧ lim c ∧ lim d := by
  have hm : ∀ x ∈ padL p, lim x := fun x hx => by
    have := List.mem_of_mem_take hx
    rcases List.mem_append.1 this with h1 | h1
    · have := h.2 x h1; unfold lim; omega
    · simp at h1; subst h1; unfold lim; omega
  match hq : padL p, padL_len p with
  | [a, b, c, d], _ =>
    rw [hq] at hm
    exact ⟨a, b, c, d, rfl, hm a (by simp), hm b (by simp), hm c (by simp), hm d (by simp)⟩

theorem InvN.add {n : Int} (hn : n ≤ 6) {k : Nat} {L : List Nd} (h : InvN n k L) {p : List Int} {m : Int × Int} {d : Int} {i : Nat} (hi : i < L.length) (hd : L[i].far = d) (hp : okPl n k p) (hq : okPl n k (nxt p m)) : InvN n k (addN L ⟨nxt p m, padL p, m, d + 1⟩) := by
  unfold addN
  split
  · exact h
  · rename_i hno
    have hf := h.far i hi
    have hf0 := h.far0 L[i] (List.getElem_mem hi)
    refine ⟨fun x hx => ?_, fun x hx => ?_, fun x hx => ?_, fun j hj => ?_, ?_⟩
    · rcases List.mem_append.1 hx with hx | hx
      · exact h.pl x hx
      · simp at hx; subst hx; exact hq
    · rcases List.mem_append.1 hx with hx | hx
      · exact h.fr x hx
      · simp at hx; subst hx; exact padL_lim hn hp
    · rcases List.mem_append.1 hx with hx | hx
      · exact h.far0 x hx
      · simp at hx; subst hx; simp only; omega
    · rcases Nat.lt_or_ge j L.length with hlt | hge
      · rw [List.getElem_append_left hlt]; exact h.far j hlt
      · simp at hj
        obtain rfl : j = L.length := by omega
        simp only [List.getElem_append_right (Nat.le_refl _), Nat.sub_self, List.getElem_cons_zero]
        omega
    · simp only [pls, List.map_append, List.map_cons, List.map_nil]
      rw [List.nodup_append]
      refine ⟨h.nd, by simp, fun a ha b hb e => ?_⟩
      simp at hb
      subst hb; subst e
      exact hno ha

theorem visN_inv {n : Int} (hn : n ≤ 6) {k : Nat} {p : List Int} {d : Int} {i : Nat} (hp : okPl n k p) : ∀ (ms : List (Int × Int)) (L : List Nd), InvN n k L → (∃ h : i < L.length, L[i].far = d) → (∀ m ∈ ms, okPl n k (nxt p m)) → InvN n k (visN p d L ms)
  | [], L, h, _, _ => h
  | m :: ms, L, h, ⟨hi, hd⟩, hms => by
    have e : visN p d L (m :: ms) = visN p d (addN L ⟨nxt p m, padL p, m, d + 1⟩) ms := rfl
    rw [e]
    refine visN_inv (i := i) hn hp ms _ (h.add hn hi hd hp (hms m (by simp))) ?_ fun m' hm' => hms m' (by simp [hm'])
    obtain ⟨E, hE⟩ := addN_ext L ⟨nxt p m, padL p, m, d + 1⟩
    rw [hE]
    exact ⟨by simp; omega, by rw [List.getElem_append_left hi]; exact hd⟩

theorem mvK_ok {n : Int} {ls : List (Int × Int)} {l : List Int} {k : Nat} : ∀ m ∈ mvK n ls l k, 0 ≤ m.1 ∧ m.1 < k ∧ 0 ≤ m.2 ∧ m.2 < n ∧ m.2 ∉ l := by
  intro m hm
  simp only [mvK, List.mem_flatMap, List.mem_range, mvZ, List.mem_map, List.mem_filter, upL, memL] at hm
  obtain ⟨i, hi, z, ⟨⟨⟨j, hj, rfl⟩, _⟩, hz⟩, rfl⟩ := hm
  simp at hz
  refine ⟨by simp only; omega, by simp only; omega, by simp only; omega, by simp only; omega, hz⟩

theorem nxt_ok {n : Int} {k : Nat} {p : List Int} {m : Int × Int} (hp : okPl n k p) (h1 : 0 ≤ m.2) (h2 : m.2 < n) : okPl n k (nxt p m) := by
  refine ⟨by simp [nxt, hp.1], fun x hx => ?_⟩
  rcases List.mem_or_eq_of_mem_set hx with hx | rfl
  · exact hp.2 x hx
  · exact ⟨h1, h2⟩

/-- the number of a place. -/
def numL (l : List Int) : Int := l.foldl (fun a x => 6 * a + x) 0
theorem numL_foldl (l : List Int) : ∀ a : Int, l.foldl (fun a x => 6 * a + x) a = a * 6 ^ l.length + numL l := by
  induction l with
  | nil => intro a; simp [numL]
  | cons x l ih =>
    intro a
    have e : numL (x :: l) = (6 * 0 + x) * 6 ^ l.length + numL l := ih (6 * 0 + x)
    rw [List.foldl_cons, ih, e, List.length_cons, Int.pow_succ]
    simp only [Int.mul_zero, Int.zero_add, Int.add_mul]
    rw [Int.mul_comm 6 a, Int.mul_assoc, Int.mul_comm 6 (6 ^ l.length), Int.add_assoc]
theorem numL_cons (x : Int) (l : List Int) : numL (x :: l) = x * 6 ^ l.length + numL l := by
  have := numL_foldl l (6 * 0 + x)
  simp only [numL, List.foldl_cons] at this ⊢
  rw [this]
  simp
theorem numL_lt {n : Int} (hn : n ≤ 6) : ∀ (l : List Int), (∀ x ∈ l, 0 ≤ x ∧ x < n) → 0 ≤ numL l ∧ numL l < 6 ^ l.length
  | [], _ => by simp [numL]
  | x :: l, h => by
    obtain ⟨h1, h2⟩ := numL_lt hn l fun y hy => h y (by simp [hy])
    have hx := h x (by simp)
    rw [numL_cons, List.length_cons, Int.pow_succ]
    have hp : (0 : Int) < 6 ^ l.length := Int.pow_pos (by decide)
    generalize (6 : Int) ^ l.length = q at *
    have h3 : 0 ≤ x * q := Int.mul_nonneg hx.1 (by omega)
    have h4 : x * q ≤ 5 * q := Int.mul_le_mul_of_nonneg_right (by omega) (by omega)
    constructor
    · omega
    · omega
theorem numL_inj {n : Int} (hn : n ≤ 6) : ∀ (l m : List Int), l.length = m.length → (∀ x ∈ l, 0 ≤ x ∧ x < n) → (∀ x ∈ m, 0 ≤ x ∧ x < n) → numL l = numL m → l = m
  | [], [], _, _, _, _ => rfl
  | x :: l, y :: m, hl, h1, h2, h => by
    simp only [List.length_cons, Nat.succ.injEq] at hl
    obtain ⟨a1, a2⟩ := numL_lt hn l fun y hy => h1 y (by simp [hy])
    obtain ⟨b1, b2⟩ := numL_lt hn m fun y hy => h2 y (by simp [hy])
    rw [numL_cons, numL_cons, hl] at h
    rw [hl] at a2
    have hp : (0 : Int) < 6 ^ m.length := Int.pow_pos (by decide)
    have hxy : x = y := by
      generalize (6 : Int) ^ m.length = q at *
      rcases Int.lt_trichotomy x y with hlt | he | hgt
      · have h5 : (x + 1) * q ≤ y * q := Int.mul_le_mul_of_nonneg_right (by omega) (by omega)
        rw [Int.add_mul] at h5
        omega
      · exact he
      · have h5 : (y + 1) * q ≤ x * q := Int.mul_le_mul_of_nonneg_right (by omega) (by omega)
        rw [Int.add_mul] at h5
        omega
    subst hxy
    rw [numL_inj hn l m hl (fun y hy => h1 y (by simp [hy])) (fun y hy => h2 y (by simp [hy])) (by omega)]
  | [], _ :: _, hl, _, _, _ => by simp at hl
  | _ :: _, [], hl, _, _, _ => by simp at hl

theorem nodup_lt : ∀ (N : Nat) (l : List Nat), l.Nodup → (∀ x ∈ l, x < N) → l.length ≤ N
  | 0, l, _, h => by
    cases l with
    | nil => simp
    | cons x l => have := h x (by simp); omega
  | N + 1, l, hn, h => by
    by_cases hN : N ∈ l
    · have h1 := nodup_lt N (l.erase N) (hn.erase N) fun x hx => by
        have h2 := (hn.mem_erase_iff).1 hx
        have := h x h2.2
        have := h2.1
        omega
      rw [List.length_erase_of_mem hN] at h1
      omega
    · have := nodup_lt N l hn fun x hx => by
        have := h x hx
        have : x ≠ N := fun e => hN (e ▸ hx)
        omega
      omega

theorem pow_le {k : Nat} (hk : k ≤ 4) : (6 : Int) ^ k ≤ 1296 := by
  rcases (show k = 0 ∨ k = 1 ∨ k = 2 ∨ k = 3 ∨ k = 4 by omega) with rfl | rfl | rfl | rfl | rfl <;> decide

theorem InvN.le {n : Int} (hn : n ≤ 6) {k : Nat} (hk : k ≤ 4) {L : List Nd} (h : InvN n k L) : L.length ≤ 1296 := by
  have h1 := nodup_lt 1296 (L.map fun x => (numL x.pl).toNat) ?_ ?_
  · simpa using h1
  · have h2 := h.nd
    unfold pls at h2
    rw [List.Nodup, List.pairwise_map] at h2 ⊢
    refine h2.imp_of_mem fun {a b} ha hb hne e => hne ?_
    obtain ⟨a1, a2⟩ := h.pl a ha
    obtain ⟨b1, b2⟩ := h.pl b hb
    have c1 := numL_lt hn a.pl a2
    have c2 := numL_lt hn b.pl b2
    exact numL_inj hn _ _ (by omega) a2 b2 (by omega)
  · intro x hx
    simp only [List.mem_map] at hx
    obtain ⟨a, ha, rfl⟩ := hx
    obtain ⟨a1, a2⟩ := h.pl a ha
    have c1 := numL_lt hn a.pl a2
    have := pow_le (k := a.pl.length) (by omega)
    omega

/-! the map -/
def keysN (L : List Nd) : List Value := L.map fun x => kv (padL x.pl)
def valN (x : Nd) : AV := .g (intsA (x.fr ++ [x.mv.1, x.mv.2, x.far]))
def valsN (L : List Nd) : List AV := L.map valN
def rowN (L : List Nd) : List AV := L.map fun x => .s 1 (intsA x.pl)

theorem keysN_at {L : List Nd} {i : Nat} {n : Int} {k : Nat} (hk : k ≤ 4) (h : InvN n k L) {p : List Int} (hp : p.length = k) (hi : (keysN L)[i]? = some (kv (padL p))) : ∃ h : i < L.length, L[i].pl = p := by
  simp only [keysN, List.getElem?_map, Option.map_eq_some_iff] at hi
  obtain ⟨x, hx, he⟩ := hi
  have hlt := (List.getElem?_eq_some_iff.1 hx).1
  have hx' : L[i] = x := (List.getElem?_eq_some_iff.1 hx).2
  have hxl := (h.pl x (List.mem_of_getElem? hx)).1
  exact ⟨hlt, by rw [hx']; exact padL_inj (by omega) (by omega) (kv_inj he)⟩

theorem keysN_ok {n : Int} (hn : n ≤ 6) {k : Nat} {L : List Nd} (h : InvN n k L) : ∀ u ∈ keysN L, ∃ l, keyOf Try.prog 74 u = some l := by
  intro u hu
  simp only [keysN, List.mem_map] at hu
  obtain ⟨x, hx, rfl⟩ := hu
  obtain ⟨a, b, c, d, e, h1, h2, h3, h4⟩ := padL_lim hn (h.pl x hx)
  rw [e]
  exact key_ok a b c d h1 h2 h3 h4

theorem afind_in {n : Int} (hn : n ≤ 6) {k : Nat} (hk : k ≤ 4) {L : List Nd} (h : InvN n k L) {p : List Int} {a b c d : Int} (hp : padL p = [a, b, c, d]) (i : Nat) (hi : i < L.length) (hpi : L[i].pl = p) {K : HK (Nat → Prop)} {F : HK Prop} (hK : K.k i) : AFind Try.prog 74 (keysN L) (kv [a, b, c, d]) (K := K) (L := F) := by
  have hx := h.pl L[i] (List.getElem_mem hi)
  rw [hpi] at hx
  obtain ⟨a', b', c', d', e, h1, h2, h3, h4⟩ := padL_lim hn hx
  rw [hp] at e
  refine ⟨⟨key74, by rw [e]; exact key_ok a' b' c' d' h1 h2 h3 h4, keysN_ok hn h⟩, .inl ⟨i, ⟨?_, fun j hj => ?_⟩, hK⟩⟩
  · simp [keysN, hi, hpi, hp]
  · rw [← hp] at hj
    obtain ⟨h5, h6⟩ := keysN_at hk h hx.1 hj
    have hnd := h.nd
    unfold pls at hnd
    rw [List.Nodup, List.pairwise_iff_getElem] at hnd
    rcases Nat.lt_trichotomy i j with hlt | he | hgt
    · have := hnd i j (by simpa using hi) (by simpa using h5) hlt
      simp [hpi, h6] at this
    · exact he.symm
    · have := hnd j i (by simpa using h5) (by simpa using hi) hgt
      simp [hpi, h6] at this
theorem afind_out {n : Int} (hn : n ≤ 6) {k : Nat} (hk : k ≤ 4) {L : List Nd} (h : InvN n k L) {p : List Int} (hx : okPl n k p) {a b c d : Int} (hp : padL p = [a, b, c, d]) (hno : p ∉ pls L) {K : HK (Nat → Prop)} {F : HK Prop} (hF : F.k) : AFind Try.prog 74 (keysN L) (kv [a, b, c, d]) (K := K) (L := F) := by
  obtain ⟨a', b', c', d', e, h1, h2, h3, h4⟩ := padL_lim hn hx
  rw [hp] at e
  refine ⟨⟨key74, by rw [e]; exact key_ok a' b' c' d' h1 h2 h3 h4, keysN_ok hn h⟩, .inr ⟨fun u hu he => ?_, hF⟩⟩
  obtain ⟨i, hi, hu'⟩ := List.mem_iff_getElem.1 hu
  obtain ⟨h5, h6⟩ := keysN_at hk h hx.1 (i := i) (by rw [hp, ← he, ← hu', List.getElem?_eq_getElem hi])
  exact hno (by rw [← h6]; exact List.mem_map.2 ⟨L[i], List.getElem_mem h5, rfl⟩)

theorem pls_mem {L : List Nd} {p : List Int} (h : p ∈ pls L) : ∃ (i : Nat) (h : i < L.length), L[i].pl = p := by
  simp only [pls, List.mem_map] at h
  obtain ⟨x, hx, rfl⟩ := h
  obtain ⟨i, hi, rfl⟩ := List.mem_iff_getElem.1 hx
  exact ⟨i, hi, rfl⟩

theorem aget_valsN {L : List Nd} {j : Nat} (h : j < L.length) (K : HK (AV → Prop)) : @AGet (valsN L) j K = K.k (valN L[j]) := by simp [AGet, valsN, h]
theorem aget_rowN {L : List Nd} {j : Nat} (h : j < L.length) (K : HK (AV → Prop)) : @AGet (rowN L) j K = K.k (.s 1 (intsA L[j].pl)) := by simp [AGet, rowN, h]
theorem valN_pure (x : Nd) : (valN x).pure = true := by simp only [valN, AV.pure]; exact intsA_pure _
theorem valsN_pure (L : List Nd) : AV.pureL (valsN L) = true := pureL_map valN valN_pure L
theorem rowN_pure (L : List Nd) : AV.pureL (rowN L) = true := pureL_map _ (fun _ => rfl) L
theorem valsN_kill (Z : List Nat) (L : List Nd) : AV.killL Z (valsN L) = valsN L := killL_pure Z _ (valsN_pure L)
theorem rowN_kill (Z : List Nat) (L : List Nd) : AV.killL Z (rowN L) = rowN L := killL_pure Z _ (rowN_pure L)
theorem rowN_len (L : List Nd) : (rowN L).length = L.length := by simp [rowN]
theorem intsA_set (l : List Int) (i : Nat) (x : Int) : (intsA l).set i (I x) = intsA (l.set i x) := by simp [intsA, List.map_set]
end Go.Proofs.Ytkolpijhgcijbaa

namespace Go.Proofs.Ytkolpijhgcijbaa
open Aw Go.RowKit
set_option linter.unusedSimpArgs false

theorem valOf_4 (a b c d : Int) : Aw.valOf (.g [I a, I b, I c, I d]) = some (kv [a, b, c, d]) := rfl

/-- the memory of 'reached'. -/
def Mo (L : List Nd) : Mem := [some ⟨some (keysN L), 78, 0, valsN L⟩, some ⟨none, 78, 1, [.o 0]⟩, none, some ⟨none, 25, 1, rowN L⟩, some ⟨none, 96, 1, [.o 3]⟩]

theorem freeL_pure (Z : List Nat) {l : List AV} (h : AV.pureL l = true) : AV.freeL Z l = true := by
  have one : ∀ a : AV, a.pure = true → a.free Z = true := fun a => by
    refine AV.rec (motive_1 := fun a => a.pure = true → a.free Z = true) (motive_2 := fun l => AV.pureL l = true → AV.freeL Z l = true) ?_ ?_ ?_ ?_ ?_ ?_ ?_ ?_ ?_ ?_ ?_ a <;> intros <;> simp_all [AV.pure, AV.pureL, AV.free, AV.freeL]
  induction l with
  | nil => rfl
  | cons x l ih =>
    simp only [AV.pureL, Bool.and_eq_true] at h
    simp [AV.freeL, one x h.1, ih h.2]
theorem freeL_app (Z : List Nat) (l m : List AV) : AV.freeL Z (l ++ m) = (AV.freeL Z l && AV.freeL Z m) := by
  induction l with
  | nil => simp [AV.freeL]
  | cons x l ih => simp [AV.freeL, ih, Bool.and_assoc]
theorem subL_app (F : Nat → AV) (G : Nat → Nat → Nat → Nat → AV) (l m : List AV) : AV.subL F G (l ++ m) = AV.subL F G l ++ AV.subL F G m := by
  simp [AV.subL_map]
theorem subL_pure (F : Nat → AV) (G : Nat → Nat → Nat → Nat → AV) {l : List AV} (h : AV.pureL l = true) : AV.subL F G l = l := by
  induction l with
  | nil => rfl
  | cons x l ih =>
    simp only [AV.pureL, Bool.and_eq_true] at h
    simp only [AV.subL, AV.sub_pure F G x h.1, ih h.2]
theorem killL_app (Z : List Nat) (l m : List AV) : AV.killL Z (l ++ m) = AV.killL Z l ++ AV.killL Z m := by simp [AV.killL_map]
theorem leSl_refl : ∀ l : List AV, leSl l l
  | [] => trivial
  | _ :: l => ⟨.inr rfl, leSl_refl l⟩

theorem valN_eq {x : Nd} {a b c d : Int} (h : x.fr = [a, b, c, d]) : valN x = .g [I a, I b, I c, I d, I x.mv.1, I x.mv.2, I x.far] := by simp [valN, h, intsA]

theorem ok90 : okFn Try.prog 90 = true := by kernel_rfl
theorem s90 (n : Int) (ls : List (Int × Int)) (p : List Int) (L : List Nd) (i : Nat) (hi : i < L.length) (hip : L[i].pl = p) (hn : n ≤ 6) (hls : ls.length ≤ 1000000) (hp4 : p.length ≤ 4) (hL : InvN n p.length L) (hp : okPl n p.length p) :
    MSpec Try.prog 90 [.s 1 (intsA p), .p (.g [I n, .s 2 (prsA ls)]) 0, .q 1 1 0 0, .q 4 1 0 0] (Mo L) (fun r M' => r = .t [] ∧ M' = Mo (visN p L[i].far L (mvK n ls p p.length))) := by
  refine mspec_of (own := [5, 7, 9, 51]) Try.func90 rfl ok90 fun vs => ?_
  obtain ⟨a, b, c, d, hpad, ha, hb, hc, hd⟩ := padL_lim hn hp
  simp only [w_move, w_callF, w_aop, w_cons, awp, St.ev, St.step, setS, killS, AV.kill, AV.killL, Mem.kill, ACond_false, List.getD_cons_succ, List.getD_cons_zero, List.set_cons_succ, List.set_cons_zero, List.length_cons, List.length_nil, List.replicate_succ, List.replicate_zero, List.cons_append, List.nil_append, List.contains_nil, List.contains_cons, List.isEmpty_nil, Bool.false_eq_true, if_false, if_true, Nat.zero_add, Nat.add_zero, List.map_cons, List.map_nil, nbeq, decide_false, Bool.or_false, Nat.reduceAdd, Nat.reduceEqDiff, Nat.reduceSub, Int.reduceAdd, Int.reduceSub, Try.ntmps90, Mo, ghost]
  have sp := s61 p hp4
  rw [hpad] at sp
  refine acall_v (x := .g [I a, I b, I c, I d]) sp rfl rfl ?_
  simp only [w_move, w_alloc, w_load, w_store, w_callF, w_aop, w_some, w_asome, w_nil, w_cons, awp, asP, asQ, obA, AGet_zero, loadA, storeA, putsA, mkA, Aw.newRow, St.ev, St.step, setS, killS, AV.kill, AV.killL, Mem.kill, AV.cells, AV.flat, AV.single, AV.cellular, ACond_false, List.getD_cons_succ, List.getD_cons_zero, List.set_cons_succ, List.set_cons_zero, List.getElem?_cons_succ, List.getElem?_cons_zero, List.length_cons, List.length_nil, List.cons_append, List.nil_append, List.contains_nil, List.contains_cons, List.isEmpty_nil, Bool.false_eq_true, if_false, if_true, true_and, and_true, List.all_cons, List.all_nil, Bool.and_true, Bool.true_and, Bool.not_true, Nat.zero_add, beq_self_eq_true, List.map_cons, List.map_nil, decide_true, nbeq, decide_false, Bool.or_false, Nat.reduceAdd, Nat.reduceEqDiff, Nat.reduceLeDiff, Int.reduceAdd, ti24, ti74]
  refine acall_v (s72 n ls p (by omega) hls (by omega)) rfl rfl ?_
  have hmok := mvK_ok (n := n) (ls := ls) (l := p) (k := p.length)
  have hml := mvK_len n ls p p.length
  generalize hms : mvK n ls p p.length = ms at *
  have hml' : ms.length ≤ 24 := Nat.le_trans hml (Nat.le_trans (Nat.mul_le_mul hp4 (show n.toNat ≤ 6 by omega)) (by decide))
  have hok : ∀ m ∈ ms, okPl n p.length (nxt p m) := fun m hm => nxt_ok hp (hmok m hm).2.2.1 (hmok m hm).2.2.2.1
  simp only [w_move, w_len, w_aop, w_some, w_asome, w_nil, w_cons, awp, lenA, St.ev, St.step, setS, killS, AV.kill, AV.killL, Mem.kill, List.getD_cons_succ, List.getD_cons_zero, List.set_cons_succ, List.set_cons_zero, List.contains_nil, List.isEmpty_nil, Bool.false_eq_true, if_false, if_true, true_and, Bool.true_and, Option.isSome_some, ti42, prsA_len]
  refine swp_loop' (fun k : Nat => ⟨[.s 1 (intsA p), .p (.g [I n, .s 2 (prsA ls)]) 0, .q 1 1 0 0, .q 4 1 0 0, .bot, .q 6 4 0 0, .bot, .bot, .bot, .bot, .bot, .bot, .bot, .bot, .bot, .s 2 (prsA ms), I ms.length, I k, .bot, .bot, .bot, .bot, .bot, .bot, .bot, .bot, .bot, .bot, .bot, .bot, .bot, .bot, .bot, .bot, .bot, .bot, .bot, .bot, .bot, .bot, .bot, .bot, .bot, .bot, .bot, .bot, .bot, .bot, .bot, .bot, .bot, .bot, .bot, .bot], Mo (visN p L[i].far L (ms.take k)) ++ [some (ghost vs [.s 1 (intsA p), .p (.g [I n, .s 2 (prsA ls)]) 0, .q 1 1 0 0, .q 4 1 0 0]), some ⟨none, 74, 4, [.g [I a, I b, I c, I d]]⟩]⟩) (fun k => k ≤ ms.length) (fun k => ms.length - k) 0 (le_sl (by simp [leSl, prsA_len])) (by omega) ?_
  intro k hk
  refine awp_sound (own := [5, 7, 9, 51]) _ _ _ _ _ ?_
  have hLk : InvN n p.length (visN p L[i].far L (ms.take k)) := visN_inv (i := i) hn hp _ _ hL ⟨hi, rfl⟩ fun m hm => hok m (List.mem_of_mem_take hm)
  obtain ⟨Ek, hEk, _⟩ := visN_ext p L[i].far (ms.take k) L
  have hik : i < (visN p L[i].far L (ms.take k)).length := by rw [hEk]; simp; omega
  have hik' : (visN p L[i].far L (ms.take k))[i] = L[i] := by simp only [hEk]; exact List.getElem_append_left hi
  simp only [w_binOp, w_aop, w_some, w_asome, w_nil, w_cons, awp, binC, cmpC, asB, asI, St.ev, St.step, setS, killS, AV.kill, AV.killL, Mem.kill, ACond_false, List.getD_cons_succ, List.getD_cons_zero, List.set_cons_succ, List.set_cons_zero, List.cons_append, List.nil_append, List.contains_nil, List.contains_cons, List.isEmpty_nil, Bool.false_eq_true, if_false, if_true, true_and, Bool.true_and, nbeq, decide_false, Bool.or_false, Nat.reduceAdd, Nat.reduceEqDiff, Int.reduceAdd, Mo, ghost]
  by_cases h : k < ms.length
  · have h' : (k : Int) < (ms.length : Int) := by omega
    have hvs := visN_succ p L[i].far L ms h
    have hmk := hmok ms[k] (List.getElem_mem h)
    have hokk := hok ms[k] (List.getElem_mem h)
    generalize hN : visN p L[i].far L (ms.take k) = N at *
    simp only [w_move, w_alloc, w_load, w_store, w_indexAddr, w_callF, w_aop, w_some, w_asome, w_nil, w_cons, awp, idxC, asP, asQ, asS, asI, obA, AGet_zero, loadA, storeA, putsA, mkA, Aw.newRow, St.ev, St.step, setS, killS, AV.kill, AV.killL, Mem.kill, AV.cells, AV.flat, AV.single, AV.cellular, ACond_true, ACond_false, List.getD_cons_succ, List.getD_cons_zero, List.set_cons_succ, List.set_cons_zero, List.getElem?_cons_succ, List.getElem?_cons_zero, List.length_cons, List.length_nil, List.cons_append, List.nil_append, List.contains_nil, List.contains_cons, List.isEmpty_nil, Bool.false_eq_true, if_false, if_true, true_and, and_true, List.all_cons, List.all_nil, Bool.and_true, Bool.true_and, Bool.not_true, Nat.zero_add, beq_self_eq_true, List.map_cons, List.map_nil, decide_true, nbeq, decide_false, Bool.or_false, Nat.reduceAdd, Nat.reduceEqDiff, Nat.reduceLeDiff, Int.reduceAdd, ti42, ti64, decide_eq_true h', aget_prs h, Int.toNat_natCast]
    refine ⟨by omega, acall_o (x := .o 0) (s59 p (by omega)) rfl (intsA_pure p) ?_⟩
    have hti : ((ms[k].1.toNat : Nat) : Int) = ms[k].1 := by omega
    have htl : ms[k].1.toNat < p.length := by omega
    simp only [w_move, w_assign, w_load, w_store, w_fieldAddr, w_indexAddr, w_aop, w_some, w_asome, w_anone, w_nil, w_cons, awp, idxC, asP, asQ, asO, asS, asI, asN, obA, AGet_zero, loadA, storeA, putsA, St.ev, St.step, setS, killS, AV.kill, AV.killL, Mem.kill, AV.cells, AV.flat, AV.single, AV.cellular, ACond_false, Value.oneCell', List.getD_cons_succ, List.getD_cons_zero, List.set_cons_succ, List.set_cons_zero, List.getElem?_cons_succ, List.getElem?_cons_zero, List.length_cons, List.head?_cons, List.length_nil, List.cons_append, List.nil_append, List.contains_nil, List.contains_cons, List.isEmpty_nil, Option.getD_some, Bool.false_eq_true, if_false, if_true, true_and, and_true, List.all_cons, List.all_nil, Bool.and_true, Bool.true_and, Bool.not_true, Nat.zero_add, Nat.add_zero, beq_self_eq_true, decide_true, nbeq, decide_false, Bool.or_false, Bool.and_false, Nat.reduceAdd, Nat.reduceEqDiff, Nat.reduceLeDiff, Int.reduceAdd, ne_eq, not_false_eq_true, ti3, ti25, ti64, AV.up, AV.sub, intsA_len, aget_ints htl, intsA_set]
    refine ⟨by omega, ?_⟩
    rw [show p.set ms[k].1.toNat ms[k].2 = nxt p ms[k] from rfl]
    obtain ⟨a', b', c', d', hpad', ha', hb', hc', hd'⟩ := padL_lim hn hokk
    have sn := s61 (nxt p ms[k]) (by rw [hokk.1]; exact hp4)
    rw [hpad'] at sn
    refine swp_draw (own := [5, 7, 9, 51]) (.take 0 .reads [] (.take 1 .plain [] (.alt 2 (.take 3 .reads [] (.take 4 .plain [] (.take 5 .plain [] (.take 6 .plain [] (.alt 7 (.alt 8 (.take 9 .plain [] (.done)) (.nil)) (.nil)))))) (.alt 7 (.alt 2 (.take 3 .reads [] (.take 4 .plain [] (.take 5 .plain [] (.take 6 .plain [] (.alt 8 (.take 9 .plain [] (.done)) (.nil)))))) (.nil)) (.nil))))) [⟨31, 4, 0, 0, true⟩, ⟨32, 256, 0, 0, true⟩, ⟨33, 2147483648, 2, 0, false⟩, ⟨34, 5368709120, 5, 0, true⟩, ⟨30, 8589934592, 8, 0, true⟩, ⟨35, 536870912, 16, 0, true⟩, ⟨36, 536870912, 16, 0, true⟩, ⟨10, 0, 0, 0, false⟩, ⟨0, 17179869696, 191, 1, false⟩, ⟨11, 34359738368, 511, 0, true⟩] mo (by kernel_rfl) ?_
    simp only [w_move, w_alloc, w_load, w_callF, w_aop, w_take, w_some, w_anone, asP, asQ, obA, AGet_zero, loadA, mkA, Aw.newRow, St.ev, St.step, setS, killS, AV.kill, AV.killL, Mem.kill, AV.cells, AV.flat, AV.single, List.getD_cons_succ, List.getD_cons_zero, List.set_cons_succ, List.set_cons_zero, List.getElem?_cons_succ, List.getElem?_cons_zero, List.length_cons, List.length_nil, List.cons_append, List.nil_append, List.contains_nil, List.isEmpty_nil, Bool.false_eq_true, if_false, if_true, true_and, and_true, List.all_cons, List.all_nil, Bool.and_true, Bool.true_and, Bool.not_true, Nat.zero_add, List.map_cons, List.map_nil, nbeq, decide_false, Bool.or_false, Nat.reduceAdd, Nat.reduceEqDiff, Int.reduceAdd, ASch, St.put, Md.mem, Md.need, ti76, ti78]
    by_cases hx : nxt p ms[k] ∈ pls N
    · obtain ⟨j, hj, hjx⟩ := pls_mem hx
      obtain ⟨fa, fb, fc, fd, hfr, _⟩ := hLk.fr N[j] (List.getElem_mem hj)
      refine ⟨?_, ?_⟩ <;> refine acall_l (x := .g [I a', I b', I c', I d']) sn (by simp [frz, AV.sub, intsA_pure]) rfl rfl ?_ <;> simp only [w_lookup, w_take, w_some, asO, obA, St.ev, St.step, setS, killS, AV.kill, AV.killL, Mem.kill, List.getD_cons_succ, List.getD_cons_zero, List.set_cons_succ, List.set_cons_zero, List.getElem?_cons_succ, List.getElem?_cons_zero, List.contains_nil, List.isEmpty_nil, Bool.false_eq_true, if_false, if_true, true_and, Bool.true_and, ASch, Md.mem, mp78, za76, valOf_4] <;>
        refine afind_in hn hp4 hLk hpad' j hj hjx ?_ <;> simp only [w_move, w_assign, w_alloc, w_store, w_binOp, w_not, w_extract, w_aop, w_take, w_some, w_asome, w_anone, w_nil, w_cons, awp, binC, arithC, cmpC, asQ, asT, asB, asI, asN, obA, AGet_zero, storeA, putsA, mkA, Aw.newRow, St.ev, St.step, setS, killS, AV.kill, AV.killL, Mem.kill, AV.cells, AV.flat, AV.single, AV.cellular, ACond_false, List.getD_cons_succ, List.getD_cons_zero, List.set_cons_succ, List.set_cons_zero, List.getElem?_cons_succ, List.getElem?_cons_zero, List.length_cons, List.length_nil, List.cons_append, List.nil_append, List.contains_nil, List.contains_cons, List.isEmpty_nil, Option.getD_some, Bool.false_eq_true, if_false, if_true, true_and, and_true, List.all_cons, List.all_nil, Bool.and_true, Bool.true_and, Bool.not_true, Nat.zero_add, beq_self_eq_true, List.map_cons, List.map_nil, decide_true, nbeq, decide_false, Bool.or_false, Nat.reduceAdd, Nat.reduceEqDiff, Nat.reduceLeDiff, Int.reduceAdd, ASch, St.put, Md.mem, Md.need, ti76, aget_valsN hj, valN_eq hfr]
      all_goals
        refine ⟨by unfold lim; omega, k + 1, ?_, by omega, by omega⟩
        rw [hvs, show addN N ⟨nxt p ms[k], padL p, ms[k], L[i].far + 1⟩ = N by simp [addN, hx]]
        exact le_cut (Mx := [_, _, _]) (M' := Mo N ++ [some (ghost vs [.s 1 (intsA p), .p (.g [I n, .s 2 (prsA ls)]) 0, .q 1 1 0 0, .q 4 1 0 0]), some ⟨none, 74, 4, [.g [I a, I b, I c, I d]]⟩]) (by simp [leSl]) rfl rfl (by simp [freeM, Mo, ghost, AV.freeL, AV.free, freeL_pure, valsN_pure, rowN_pure])
    · obtain ⟨fa, fb, fc, fd, hfr, _⟩ := hLk.fr N[i] (List.getElem_mem hik)
      have hNl := hLk.le hn hp4
      have hfi := hLk.far i hik
      have hf0 := hLk.far0 N[i] (List.getElem_mem hik)
      have hip' : N[i].pl = p := by rw [hik']; exact hip
      refine ⟨?_, ?_⟩ <;> refine acall_l (x := .g [I a', I b', I c', I d']) sn (by simp [frz, AV.sub, intsA_pure]) rfl rfl ?_ <;> simp only [w_lookup, w_take, w_some, asO, obA, St.ev, St.step, setS, killS, AV.kill, AV.killL, Mem.kill, List.getD_cons_succ, List.getD_cons_zero, List.set_cons_succ, List.set_cons_zero, List.getElem?_cons_succ, List.getElem?_cons_zero, List.contains_nil, List.isEmpty_nil, Bool.false_eq_true, if_false, if_true, true_and, Bool.true_and, ASch, Md.mem, mp78, za76, valOf_4] <;>
        refine afind_out hn hp4 hLk hokk hpad' hx ?_ <;> simp only [w_move, w_assign, w_alloc, w_store, w_not, w_extract, w_aop, w_take, w_some, w_anone, w_nil, w_cons, awp, asQ, asT, asB, asN, obA, AGet_zero, storeA, putsA, mkA, Aw.newRow, St.ev, St.step, setS, killS, AV.kill, AV.killL, Mem.kill, AV.cells, AV.flat, AV.single, AV.cellular, ACond_true, ACond_false, List.getD_cons_succ, List.getD_cons_zero, List.set_cons_succ, List.set_cons_zero, List.getElem?_cons_succ, List.getElem?_cons_zero, List.length_cons, List.length_nil, List.cons_append, List.nil_append, List.contains_nil, List.contains_cons, List.isEmpty_nil, Option.getD_some, Bool.false_eq_true, if_false, if_true, true_and, and_true, List.all_cons, List.all_nil, Bool.and_true, Bool.true_and, Bool.not_false, Nat.zero_add, beq_self_eq_true, List.map_cons, List.map_nil, decide_true, nbeq, decide_false, Bool.or_false, Nat.reduceAdd, Nat.reduceEqDiff, Nat.reduceLeDiff, Int.reduceAdd, ASch, St.put, Md.mem, Md.need, ti76]
      all_goals
        refine swp_draw (own := [5, 7, 9, 51]) (.take 0 .reads [] (.take 1 .plain [] (.take 3 .reads [] (.take 4 .reads [] (.take 5 .reads [] (.take 6 .reads [] (.take 7 .reads [] (.take 8 .plain [] (.take 9 .plain [] (.take 10 .plain [] (.alt 2 (.alt 11 (.done) (.nil)) (.nil)))))))))))) [⟨39, 4, 0, 0, true⟩, ⟨40, 256, 0, 0, true⟩, ⟨41, 549755813888, 2, 0, false⟩, ⟨42, 32, 0, 0, true⟩, ⟨43, 128, 0, 0, true⟩, ⟨44, 4, 0, 0, true⟩, ⟨45, 32, 0, 0, true⟩, ⟨46, 26388279066624, 96, 0, true⟩, ⟨47, 35184372088832, 128, 0, true⟩, ⟨48, 70368744177664, 256, 0, true⟩, ⟨49, 147334558121984, 536, 0, true⟩, ⟨0, 282849366245376, 2047, 1, false⟩] mo (by kernel_rfl) ?_
        simp only [w_move, w_load, w_lookup, w_take, w_some, w_anone, asP, asQ, asO, obA, AGet_zero, loadA, St.ev, setS, AV.cells, AV.flat, AV.single, List.getD_cons_succ, List.getD_cons_zero, List.set_cons_succ, List.set_cons_zero, List.getElem?_cons_succ, List.getElem?_cons_zero, List.length_cons, List.length_nil, Bool.false_eq_true, if_false, if_true, true_and, and_true, List.all_cons, List.all_nil, Bool.and_true, Bool.true_and, Bool.not_true, Nat.zero_add, beq_self_eq_true, decide_true, Nat.reduceAdd, Nat.reduceLeDiff, Int.reduceAdd, ASch, St.put, Md.mem, Md.need, ti64, ti74, ti78, mp78, za76, valOf_4]
        refine afind_in hn hp4 hLk hpad i hik hip' ?_
        simp only [w_binOp, w_build, w_field, w_callF, w_aop, w_take, w_some, w_asome, w_anone, binC, arithC, cmpC, asG, asI, loadA, fillA, putsA, St.ev, setS, AV.cells, AV.flat, AV.single, AV.cellular, Value.oneCell', List.getD_cons_succ, List.getD_cons_zero, List.set_cons_succ, List.set_cons_zero, List.getElem?_cons_succ, List.getElem?_cons_zero, List.length_cons, List.length_nil, Bool.false_eq_true, if_false, if_true, true_and, and_true, List.all_cons, List.all_nil, Bool.and_true, Bool.true_and, Bool.not_true, Nat.zero_add, beq_self_eq_true, List.map_cons, List.map_nil, decide_true, nbeq, decide_false, Bool.and_false, Nat.reduceAdd, Nat.reduceEqDiff, Nat.reduceLeDiff, Int.reduceAdd, ASch, St.put, Md.mem, Md.need, ti3, ti76, aget_valsN hik, valN_eq hfr]
        refine ⟨by unfold lim; omega, ?_⟩
        refine acall_l (x := .g [I a', I b', I c', I d']) sn (by simp [frz, AV.sub, intsA_pure]) rfl rfl ?_
        simp only [w_mapUpdate, w_put, w_aop, w_some, asO, obA, St.ev, St.step, setS, killS, AV.kill, AV.killL, Mem.kill, List.getD_cons_succ, List.getD_cons_zero, List.set_cons_succ, List.set_cons_zero, List.getElem?_cons_succ, List.getElem?_cons_zero, List.contains_nil, List.isEmpty_nil, Bool.false_eq_true, if_false, if_true, true_and, and_true, Bool.and_true, Bool.true_and, ASch, mp78, valOf_4]
        refine afind_out hn hp4 hLk hokk hpad' hx ?_
        simp only [w_move, w_load, w_store, w_binOp, w_buildSlice, w_append, w_aop, w_some, w_asome, w_anone, w_nil, w_cons, awp, binC, arithC, cmpC, asP, asQ, asO, asS, asI, asN, obA, AGet_zero, loadA, storeA, putsA, Aw.newRow, St.ev, St.step, setS, killS, AV.kill, AV.killL, Mem.kill, AV.cells, AV.flat, AV.single, AV.cellular, AV.size, ACond_true, ACond_false, Value.oneCell', List.getD_cons_succ, List.getD_cons_zero, List.set_cons_succ, List.set_cons_zero, List.getElem?_cons_succ, List.getElem?_cons_zero, List.length_cons, List.head?_cons, List.length_nil, List.cons_append, List.nil_append, List.contains_nil, List.contains_cons, List.isEmpty_nil, List.isEmpty_cons, Option.getD_some, Bool.false_eq_true, if_false, if_true, true_and, and_true, List.all_cons, List.all_nil, Bool.and_true, Bool.true_and, Bool.not_true, Nat.zero_add, beq_self_eq_true, List.map_cons, List.map_nil, decide_true, nbeq, decide_false, Bool.or_false, Bool.or_true, Nat.reduceAdd, Nat.reduceEqDiff, Nat.reduceMul, Nat.reduceLeDiff, Int.reduceAdd, Int.reduceMul, ASch, ne_eq, not_false_eq_true, Option.map_some, Option.map_none, ti25, ti96, rowN_kill, rowN_len, killL_app, valsN_kill, intsA_kill]
        refine ⟨⟨by decide, rfl⟩, ⟨by decide, by omega⟩, by unfold lim; omega, k + 1, ?_, by omega, by omega⟩
        rw [hvs, show addN N ⟨nxt p ms[k], padL p, ms[k], L[i].far + 1⟩ = N ++ [⟨nxt p ms[k], padL p, ms[k], L[i].far + 1⟩] by simp [addN, hx]]
        have eM : Mo (N ++ [⟨nxt p ms[k], padL p, ms[k], L[i].far + 1⟩]) = [some ⟨some (keysN N ++ [kv [a', b', c', d']]), 78, 0, valsN N ++ [.g [I a, I b, I c, I d, I ms[k].1, I ms[k].2, I (N[i].far + 1)]]⟩, some ⟨none, 78, 1, [.o 0]⟩, none, some ⟨none, 25, 1, rowN N ++ [.s 1 (intsA (nxt p ms[k]))]⟩, some ⟨none, 96, 1, [.o 3]⟩] := by
          simp [Mo, keysN, valsN, rowN, hpad', valN, hpad, intsA, hik']
        rw [eM]
        refine Le.trans (le_frz 8 (ty := 3) (k := 1) (xs := intsA (nxt p ms[k])) rfl (intsA_pure _)) ?_
        refine le_cut (Mx := [some ⟨none, 64, 2, [.g [I ms[k].1, I ms[k].2]]⟩, none, some ⟨none, 76, 7, [.g [I 0, I 0, I 0, I 0, I 0, I 0, I 0]]⟩, some ⟨none, 25, 1, [.s 1 (intsA (nxt p ms[k]))]⟩]) (M' := _ ++ [some (ghost vs [.s 1 (intsA p), .p (.g [I n, .s 2 (prsA ls)]) 0, .q 1 1 0 0, .q 4 1 0 0]), some ⟨none, 74, 4, [.g [I a, I b, I c, I d]]⟩]) ?_ ?_ rfl ?_
        · simp [leSl, frz1, AV.sub]
        · simp [frzM, AV.subL, AV.sub, subL_app, subL_pure, valsN_pure, rowN_pure, ghost, intsA_pure, prsA_pure]
        · simp [freeM, ghost, AV.freeL, AV.free, freeL_app, freeL_pure, valsN_pure, rowN_pure]
  · have h' : ¬ (k : Int) < (ms.length : Int) := by omega
    simp only [awp, ACond_false, if_true, decide_eq_false h']
    rw [show ms.take k = ms by rw [List.take_of_length_le (by omega)]]
    exact ⟨⟨[.s 1 (intsA p), .p (.g [I n, .s 2 (prsA ls)]) 0, .q 1 1 0 0, .q 4 1 0 0, .bot, .bot, .bot, .bot, .bot, .bot, .bot, .bot, .bot, .bot, .bot, .bot, .bot, .bot, .bot, .bot, .bot, .bot, .bot, .bot, .bot, .bot, .bot, .bot, .bot, .bot, .bot, .bot, .bot, .bot, .bot, .bot, .bot, .bot, .bot, .bot, .bot, .bot, .bot, .bot, .bot, .bot, .bot, .bot, .bot, .bot, .bot, .bot, .bot, .bot], _⟩, .t [], Mo (visN p L[i].far L ms), le_cut (Mx := [some ⟨none, 74, 4, [.g [I a, I b, I c, I d]]⟩]) (M' := Mo (visN p L[i].far L ms) ++ [some (ghost vs _)]) (by simp [leSl]) rfl rfl (by simp [freeM, Mo, ghost, AV.freeL, AV.free, freeL_pure, valsN_pure, rowN_pure]), rfl, rfl, rfl, rfl, by simp [freeM, Mo, AV.freeL, AV.free, freeL_pure, valsN_pure, rowN_pure], rfl, rfl⟩
end Go.Proofs.Ytkolpijhgcijbaa

namespace Go.Proofs.Ytkolpijhgcijbaa
open Aw Go.RowKit
set_option linter.unusedSimpArgs false

def stepN (n : Int) (ls : List (Int × Int)) (L : List Nd) (i : Nat) : List Nd := match L[i]? with | some x => visN x.pl x.far L (mvK n ls x.pl x.pl.length) | none => L
def startN (l : List Int) : Nd := ⟨l, [0, 0, 0, 0], (0, 0), 0⟩
def rchI (n : Int) (ls : List (Int × Int)) (l : List Int) : Nat → List Nd
  | 0 => [startN l]
  | i + 1 => stepN n ls (rchI n ls l i) i
/-- the places that are reached, in the order in which they are found. -/
def rch (n : Int) (ls : List (Int × Int)) (l : List Int) : List Nd := rchI n ls l 1297

theorem stepN_some {n : Int} {ls : List (Int × Int)} {L : List Nd} {i : Nat} (h : i < L.length) : stepN n ls L i = visN L[i].pl L[i].far L (mvK n ls L[i].pl L[i].pl.length) := by simp [stepN, h]
theorem stepN_none {n : Int} {ls : List (Int × Int)} {L : List Nd} {i : Nat} (h : L.length ≤ i) : stepN n ls L i = L := by simp [stepN, h]
theorem stepN_inv {n : Int} {ls : List (Int × Int)} {k : Nat} (hn : n ≤ 6) {L : List Nd} (h : InvN n k L) (i : Nat) : InvN n k (stepN n ls L i) := by
  rcases Nat.lt_or_ge i L.length with hi | hi
  · rw [stepN_some hi]
    have hp := h.pl L[i] (List.getElem_mem hi)
    exact visN_inv (i := i) hn hp _ _ h ⟨hi, rfl⟩ fun m hm => nxt_ok hp (mvK_ok m hm).2.2.1 (mvK_ok m hm).2.2.2.1
  · rw [stepN_none hi]; exact h
theorem lim0 : lim 0 := by unfold lim; omega
theorem startN_inv {n : Int} {k : Nat} {l : List Int} (h : okPl n k l) : InvN n k [startN l] := by
  refine ⟨fun x hx => ?_, fun x hx => ?_, fun x hx => ?_, fun i hi => ?_, by simp [pls]⟩
  · simp at hx; subst hx; exact h
  · simp at hx; subst hx; exact ⟨0, 0, 0, 0, rfl, lim0, lim0, lim0, lim0⟩
  · simp at hx; subst hx; simp [startN]
  · simp only [List.length_cons, List.length_nil] at hi
    obtain rfl : i = 0 := by omega
    simp [startN]
theorem rchI_inv {n : Int} {ls : List (Int × Int)} {k : Nat} {l : List Int} (hn : n ≤ 6) (h : okPl n k l) : ∀ i, InvN n k (rchI n ls l i)
  | 0 => startN_inv h
  | i + 1 => stepN_inv hn (rchI_inv hn h i) i
theorem stepN_ext (n : Int) (ls : List (Int × Int)) (L : List Nd) (i : Nat) : ∃ E, stepN n ls L i = L ++ E := by
  rcases Nat.lt_or_ge i L.length with hi | hi
  · rw [stepN_some hi]; obtain ⟨E, h, _⟩ := visN_ext L[i].pl L[i].far (mvK n ls L[i].pl L[i].pl.length) L; exact ⟨E, h⟩
  · rw [stepN_none hi]; exact ⟨[], by simp⟩
theorem rchI_stable {n : Int} {ls : List (Int × Int)} {l : List Int} {i : Nat} (h : (rchI n ls l i).length ≤ i) : ∀ d, rchI n ls l (i + d) = rchI n ls l i
  | 0 => rfl
  | d + 1 => by
    have := rchI_stable h d
    show stepN n ls (rchI n ls l (i + d)) (i + d) = _
    rw [this, stepN_none (by omega)]
theorem rchI_end {n : Int} {ls : List (Int × Int)} {k : Nat} {l : List Int} (hn : n ≤ 6) (hk : k ≤ 4) (h : okPl n k l) {i : Nat} (hi : (rchI n ls l i).length ≤ i) : rchI n ls l i = rch n ls l := by
  rcases Nat.lt_or_ge 1297 i with hlt | hge
  · have h1 := (rchI_inv (ls := ls) hn h 1297).le hn hk
    have := rchI_stable (n := n) (ls := ls) (l := l) (i := 1297) (by omega) (i - 1297)
    rw [show 1297 + (i - 1297) = i by omega] at this
    exact this
  · have := rchI_stable hi (1297 - i)
    rw [show i + (1297 - i) = 1297 by omega] at this
    exact this.symm

theorem afind_nil {a b c d : Int} (ha : lim a) (hb : lim b) (hc : lim c) (hd : lim d) {K : HK (Nat → Prop)} {F : HK Prop} (hF : F.k) : AFind Try.prog 74 [] (kv [a, b, c, d]) (K := K) (L := F) :=
  ⟨⟨key74, key_ok a b c d ha hb hc hd, fun u hu => (by cases hu)⟩, .inr ⟨fun u hu => (by cases hu), hF⟩⟩

theorem ok60 : okFn Try.prog 60 = true := by kernel_rfl
theorem s60 (n : Int) (ls : List (Int × Int)) (l : List Int) (hn : n ≤ 6) (hls : ls.length ≤ 1000000) (hl4 : l.length ≤ 4) (hl : okPl n l.length l) :
    ASpec Try.prog 60 [trapA n ls, .s 1 (intsA l)] (fun r Ms => r = .o 0 ∧ Ms = [⟨some (keysN (rch n ls l)), 78, 0, valsN (rch n ls l)⟩]) := by
  refine aspec_of (own := [16, 1007]) Try.func60 rfl ok60 ?_
  obtain ⟨a, b, c, d, hpad, ha, hb, hc, hd⟩ := padL_lim hn hl
  simp only [w_move, w_assign, w_box, w_callF, w_makeMap, w_aop, w_anone, w_nil, w_cons, awp, asN, St.ev, St.step, setS, killS, AV.kill, AV.killL, Mem.kill, AV.cellular, AV.pure, AV.pureL, ACond_false, List.getD_cons_succ, List.getD_cons_zero, List.set_cons_succ, List.set_cons_zero, List.length_cons, List.length_nil, List.replicate_succ, List.replicate_zero, List.cons_append, List.nil_append, List.contains_nil, List.contains_cons, List.isEmpty_nil, Option.getD_some, Bool.false_eq_true, if_false, if_true, true_and, and_true, Bool.and_true, Bool.true_and, Nat.zero_add, Nat.add_zero, List.map_cons, List.map_nil, nbeq, decide_false, Bool.or_false, Nat.reduceAdd, Nat.reduceEqDiff, Nat.reduceSub, Int.reduceAdd, Int.reduceSub, Try.ntmps60, trapA]
  have sp := s61 l hl4
  rw [hpad] at sp
  refine ⟨by rw [mp78]; rfl, acall_v (x := .g [I a, I b, I c, I d]) sp rfl rfl ?_⟩
  simp only [w_build, w_insert, w_put, w_aop, w_some, w_cons, asO, obA, fillA, St.ev, St.step, setS, killS, AV.kill, AV.killL, Mem.kill, List.getD_cons_succ, List.getD_cons_zero, List.set_cons_succ, List.set_cons_zero, List.getElem?_cons_zero, List.contains_nil, List.isEmpty_nil, Bool.false_eq_true, if_false, if_true, true_and, and_true, Bool.and_true, Bool.true_and, List.map_cons, List.map_nil, ti76, mp78, valOf_4]
  refine afind_nil ha hb hc hd ?_
  simp only [w_move, w_alloc, w_store, w_callF, w_aop, w_some, w_nil, w_cons, awp, asQ, obA, AGet_zero, storeA, putsA, mkA, Aw.newRow, St.ev, St.step, setS, killS, AV.kill, AV.killL, Mem.kill, AV.cells, AV.flat, AV.single, AV.cellular, ACond_false, List.getD_cons_succ, List.getD_cons_zero, List.set_cons_succ, List.set_cons_zero, List.getElem?_cons_succ, List.getElem?_cons_zero, List.length_cons, List.head?_cons, List.length_nil, List.cons_append, List.nil_append, List.contains_nil, List.contains_cons, List.isEmpty_nil, Bool.false_eq_true, if_false, if_true, true_and, and_true, List.all_cons, List.all_nil, Bool.and_true, Bool.true_and, Nat.zero_add, beq_self_eq_true, List.map_cons, List.map_nil, decide_true, nbeq, decide_false, Bool.or_false, Bool.or_true, Nat.reduceAdd, Nat.reduceEqDiff, Nat.reduceLeDiff, Int.reduceAdd, ti78]
  refine acall_o (x := .o 0) (s59 l (by omega)) rfl (intsA_pure l) ?_
  simp only [w_assign, w_alloc, w_store, w_buildSlice, w_makeFunc, w_aop, w_some, w_anone, w_nil, w_cons, awp, asQ, asN, obA, AGet_zero, storeA, putsA, mkA, Aw.newRow, St.ev, St.step, setS, killS, AV.kill, AV.killL, Mem.kill, AV.cells, AV.flat, AV.single, AV.cellular, AV.size, ACond_true, ACond_false, Value.oneCell', List.getD_cons_succ, List.getD_cons_zero, List.set_cons_succ, List.set_cons_zero, List.getElem?_cons_succ, List.getElem?_cons_zero, List.length_cons, List.head?_cons, List.length_nil, List.cons_append, List.nil_append, List.contains_nil, List.contains_cons, List.isEmpty_nil, Option.getD_some, Bool.false_eq_true, if_false, if_true, true_and, and_true, List.all_cons, List.all_nil, Bool.and_true, Bool.true_and, Nat.zero_add, beq_self_eq_true, List.map_cons, List.map_nil, decide_true, nbeq, decide_false, Bool.or_false, Bool.or_true, Nat.reduceAdd, Nat.reduceEqDiff, Nat.reduceMul, Nat.reduceLeDiff, Int.reduceAdd, Int.reduceMul, ti25, ti96, AV.up, AV.sub]
  refine ⟨⟨by decide, rfl⟩, rfl, ?_⟩
  refine swp_loop' (fun i : Nat => ⟨[.bot, .bot, .p (.g [I n, .s 2 (prsA ls)]) 0, .bot, .bot, .q 1 1 0 0, .q 4 1 0 0, .f (.func 90) [.p (.g [I n, .s 2 (prsA ls)]) 0, .q 1 1 0 0, .q 4 1 0 0], I i, .bot, .bot, .bot, .bot, .bot, .bot, .bot, .bot, .bot, .bot, .bot, .bot, .bot, .bot, .bot, .bot, .bot, .bot, .bot, .bot, .bot, .bot], Mo (rchI n ls l i)⟩) (fun i => i ≤ (rchI n ls l i).length) (fun i => 1300 - i) 0 ?_ (Nat.zero_le _) ?_
  · have eM : Mo (rchI n ls l 0) = [some ⟨some [kv [a, b, c, d]], 78, 0, [.g [I 0, I 0, I 0, I 0, I 0, I 0, I 0]]⟩, some ⟨none, 78, 1, [.o 0]⟩, none, some ⟨none, 25, 1, [.s 1 (intsA l)]⟩, some ⟨none, 96, 1, [.o 3]⟩] := by
      simp [Mo, rchI, startN, keysN, valsN, rowN, hpad, valN, intsA]
    rw [eM]
    refine Le.trans (le_frz 2 (ty := 3) (k := 1) (xs := intsA l) rfl (intsA_pure _)) ?_
    refine le_cut (Mx := []) ?_ ?_ rfl ?_
    · simp [leSl, frz1, AV.sub, AV.subL]
    · simp [frzM, AV.subL, AV.sub]
    · rfl
  intro i hi
  have hinv := rchI_inv (ls := ls) hn hl i
  have hle := hinv.le hn hl4
  refine awp_sound (own := [16, 1007]) _ _ _ _ _ ?_
  simp only [w_move, w_load, w_binOp, w_len, w_aop, w_some, w_asome, w_anone, w_nil, w_cons, awp, binC, cmpC, asP, asQ, asB, asI, obA, AGet_zero, lenA, loadA, St.ev, St.step, setS, killS, AV.kill, AV.killL, Mem.kill, AV.cells, AV.flat, AV.single, ACond_false, List.getD_cons_succ, List.getD_cons_zero, List.set_cons_succ, List.set_cons_zero, List.getElem?_cons_succ, List.getElem?_cons_zero, List.contains_nil, List.contains_cons, List.isEmpty_nil, Bool.false_eq_true, if_false, if_true, true_and, and_true, List.all_cons, List.all_nil, Bool.and_true, Bool.true_and, Bool.not_true, Option.isSome_some, nbeq, decide_false, Bool.or_false, Nat.reduceAdd, Nat.reduceEqDiff, Int.reduceAdd, ti96, Mo, rowN_len]
  by_cases h : i < (rchI n ls l i).length
  · have h' : (i : Int) < ((rchI n ls l i).length : Int) := by omega
    simp only [awp, ACond_true, List.contains_nil, List.contains_cons, beq_self_eq_true, nbeq, decide_false, Bool.or_false, Bool.or_true, Nat.reduceAdd, Nat.reduceEqDiff, Int.reduceAdd, decide_eq_true h']
    refine swp_m (own := [16, 1007]) 5 ?_
    have hp := hinv.pl (rchI n ls l i)[i] (List.getElem_mem h)
    simp only [w_move, w_load, w_indexAddr, w_aop, w_some, w_asome, w_anone, idxC, asP, asQ, asO, asS, asF, asI, obA, AGet_zero, loadA, St.ev, St.step, setS, killS, AV.kill, AV.killL, Mem.kill, AV.cells, AV.flat, AV.single, ACond_true, ACond_false, List.getD_cons_succ, List.getD_cons_zero, List.set_cons_succ, List.set_cons_zero, List.getElem?_cons_succ, List.getElem?_cons_zero, List.cons_append, List.nil_append, List.contains_nil, List.isEmpty_nil, Bool.false_eq_true, if_false, if_true, true_and, and_true, List.all_cons, List.all_nil, Bool.and_true, Bool.true_and, Bool.not_true, Nat.zero_add, beq_self_eq_true, List.map_cons, List.map_nil, nbeq, decide_false, Nat.reduceAdd, Nat.reduceEqDiff, Int.reduceAdd, ti25, ti96, AOpsM, amc, rowN_len, Int.toNat_natCast, aget_rowN h]
    have hpl : (rchI n ls l i)[i].pl.length = l.length := hp.1
    have sv := s90 n ls (rchI n ls l i)[i].pl (rchI n ls l i) i h rfl hn hls (by omega) (by rw [hpl]; exact hinv) (by rw [hpl]; exact hp)
    refine ⟨by omega, acall_m sv ?_⟩
    rw [← stepN_some (n := n) (ls := ls) h]
    simp only [w_move, w_assign, w_binOp, w_aop, w_some, w_asome, w_anone, w_nil, w_cons, awp, binC, arithC, cmpC, asI, asN, St.ev, St.step, setS, killS, AV.kill, AV.killL, Mem.kill, ACond_false, List.getD_cons_succ, List.getD_cons_zero, List.set_cons_succ, List.set_cons_zero, List.cons_append, List.nil_append, List.contains_nil, List.contains_cons, List.isEmpty_nil, Option.getD_some, Bool.false_eq_true, if_false, if_true, true_and, and_true, Bool.and_true, Bool.true_and, List.map_cons, List.map_nil, decide_true, nbeq, decide_false, Bool.or_false, Bool.or_true, Bool.false_or, Bool.false_and, Nat.reduceAdd, Nat.reduceEqDiff, Int.reduceAdd, AOpsM, keepQ, AV.sub, AV.subL, AV.isO, AV.isQ, List.any_cons, List.any_nil]
    obtain ⟨E, hE⟩ := stepN_ext n ls (rchI n ls l i) i
    exact ⟨by unfold lim; omega, i + 1, le_sl (by simp [leSl]), by show i + 1 ≤ (stepN n ls (rchI n ls l i) i).length; rw [hE, List.length_append]; have := visN_ext; omega, by omega⟩
  · have h' : ¬ (i : Int) < ((rchI n ls l i).length : Int) := by omega
    simp only [w_assign, w_load, w_aop, w_some, w_anone, w_nil, w_cons, awp, asP, asQ, asN, obA, AGet_zero, loadA, St.ev, St.step, setS, killS, AV.kill, AV.killL, Mem.kill, AV.cells, AV.flat, AV.single, ACond_false, List.getD_cons_succ, List.getD_cons_zero, List.set_cons_succ, List.set_cons_zero, List.getElem?_cons_succ, List.getElem?_cons_zero, List.contains_nil, List.contains_cons, List.isEmpty_nil, Option.getD_some, Bool.false_eq_true, if_false, if_true, true_and, and_true, List.all_cons, List.all_nil, Bool.and_true, Bool.true_and, Bool.not_true, nbeq, decide_false, Bool.or_false, Nat.reduceAdd, Nat.reduceEqDiff, Int.reduceAdd, ti78, decide_eq_false h']
    rw [rchI_end hn hl4 hl (by omega)]
    generalize rch n ls l = R
    exact aend_exp 0 rfl rfl (valsN_pure _) ⟨rfl, rfl⟩
end Go.Proofs.Ytkolpijhgcijbaa

namespace Go.Proofs.Ytkolpijhgcijbaa
open Aw Go.RowKit
set_option linter.unusedSimpArgs false

theorem ok32 : okFn Try.prog 32 = true := by kernel_rfl
theorem s32 (a b : List (Int × Int)) (ha : a.length ≤ 1000000) (hb : b.length ≤ 1000000) : ASpec Try.prog 32 [.s 2 (prsA a), .s 2 (prsA b)] (fun r Ms => r = B (decide (a = b)) ∧ Ms = []) := by
  refine aspec_of (own := []) Try.func32 rfl ok32 ?_
  simp only [w_move, w_assign, w_binOp, w_len, w_aop, w_some, w_asome, w_anone, w_nil, w_cons, awp, binC, cmpC, asB, asI, asN, lenA, St.ev, St.step, setS, killS, AV.kill, AV.killL, Mem.kill, ACond_false, List.getD_cons_succ, List.getD_cons_zero, List.set_cons_succ, List.set_cons_zero, List.length_cons, List.length_nil, List.replicate_succ, List.replicate_zero, List.cons_append, List.nil_append, List.contains_nil, List.isEmpty_nil, Option.getD_some, Bool.false_eq_true, if_false, if_true, true_and, Bool.true_and, Option.isSome_some, Nat.zero_add, Nat.add_zero, Nat.reduceAdd, Nat.reduceSub, Int.reduceAdd, Int.reduceSub, ti42, Try.ntmps32, prsA_len]
  by_cases hl : (a.length : Int) = b.length
  · simp only [w_assign, w_aop, w_anone, w_nil, w_cons, awp, asN, St.ev, St.step, setS, killS, AV.kill, AV.killL, Mem.kill, ACond_false, List.set_cons_succ, List.set_cons_zero, List.contains_nil, List.isEmpty_nil, Option.getD_some, Bool.false_eq_true, if_false, if_true, Bool.not_true, Nat.reduceAdd, Int.reduceAdd, decide_eq_true hl]
    refine swp_loop' (fun k : Nat => ⟨[.s 2 (prsA a), .s 2 (prsA b), .bot, .bot, .bot, I k, .bot, .bot, .bot, .bot, .bot, .bot, .bot, .bot, .bot, .bot, .bot, .bot, .bot, .bot, .bot, .bot, .bot, .bot, .bot, .bot], []⟩) (fun k => k ≤ a.length ∧ ∀ j (h : j < a.length) (h' : j < b.length), j < k → a[j] = b[j]) (fun k => a.length - k) 0 (le_sl (by simp [leSl, intsA_len, prsA_len])) ⟨Nat.zero_le _, by omega⟩ ?_
    rintro k ⟨hk, hno⟩
    refine awp_sound (own := []) _ _ _ _ _ ?_
    simp only [w_move, w_binOp, w_len, w_aop, w_some, w_asome, w_nil, w_cons, awp, binC, cmpC, asB, asI, lenA, St.ev, St.step, setS, killS, AV.kill, AV.killL, Mem.kill, ACond_false, List.getD_cons_succ, List.getD_cons_zero, List.set_cons_succ, List.set_cons_zero, List.contains_nil, List.isEmpty_nil, if_true, true_and, Bool.true_and, Option.isSome_some, Nat.reduceAdd, Int.reduceAdd, ti42, prsA_len]
    by_cases h : k < a.length
    · have h' : (k : Int) < (a.length : Int) := by omega
      have h2 : k < b.length := by omega
      simp only [awp, ACond_true, decide_eq_true h']
      refine swp_draw (own := []) (.take 0 .plain [] (.take 1 .plain [] (.take 2 .reads [] (.take 3 .reads [] (.take 4 .plain [] (.take 5 .plain [] (.take 6 .reads [] (.take 7 .reads [] (.take 8 .plain [] (.done)))))))))) [⟨18, 1, 0, 0, true⟩, ⟨19, 32, 0, 0, true⟩, ⟨20, 393216, 3, 0, true⟩, ⟨21, 524288, 4, 0, true⟩, ⟨22, 2, 0, 0, true⟩, ⟨23, 32, 0, 0, true⟩, ⟨24, 6291456, 48, 0, true⟩, ⟨25, 8388608, 64, 0, true⟩, ⟨26, 17825792, 136, 0, true⟩] mo (by kernel_rfl) ?_
      simp only [w_move, w_load, w_indexAddr, w_binOp, w_take, w_some, w_asome, w_anone, awp, binC, idxC, eqC, asP, asS, asG, asB, asI, loadA, St.ev, setS, AV.cells, AV.flat, AV.single, ints, List.getD_cons_succ, List.getD_cons_zero, List.set_cons_succ, List.set_cons_zero, List.getElem?_cons_succ, List.getElem?_cons_zero, List.length_cons, List.length_nil, Bool.false_eq_true, if_false, if_true, true_and, and_true, List.all_cons, List.all_nil, Bool.and_true, Bool.true_and, Bool.not_true, Nat.zero_add, beq_self_eq_true, decide_true, Nat.reduceAdd, Nat.reduceLeDiff, Int.reduceAdd, ASch, St.put, Md.mem, Md.need, Option.map_some, ti42, ti64, aget_prs h, aget_prs h2, Int.toNat_natCast]
      refine ⟨by omega, by omega, ?_⟩
      by_cases hx : a[k] = b[k]
      · have hx' : [a[k].1, a[k].2] = [b[k].1, b[k].2] := by rw [hx]
        simp only [w_move, w_assign, w_binOp, w_aop, w_some, w_asome, w_anone, w_nil, w_cons, awp, binC, arithC, cmpC, asI, asN, St.ev, St.step, setS, killS, AV.kill, AV.killL, Mem.kill, ACond_false, List.getD_cons_succ, List.getD_cons_zero, List.set_cons_succ, List.set_cons_zero, List.contains_nil, List.isEmpty_nil, Option.getD_some, Bool.false_eq_true, if_false, if_true, true_and, and_true, Bool.and_true, Bool.true_and, Bool.not_true, Nat.reduceAdd, Int.reduceAdd, St.put, decide_eq_true hx']
        refine ⟨by unfold lim; omega, k + 1, le_sl (by simp [leSl, intsA_len, prsA_len]), ⟨h, fun j hj hj' hlt => ?_⟩, by omega⟩
        rcases Nat.lt_or_ge j k with h1 | h1
        · exact hno j hj hj' h1
        · obtain rfl : j = k := by omega
          exact hx
      · have hx' : ¬ [a[k].1, a[k].2] = [b[k].1, b[k].2] := fun e => hx (by simp at e; exact Prod.ext e.1 e.2)
        simp only [w_assign, w_aop, w_anone, w_nil, w_cons, awp, asN, St.ev, St.step, setS, killS, AV.kill, AV.killL, Mem.kill, ACond_true, ACond_false, List.set_cons_succ, List.set_cons_zero, List.contains_nil, List.isEmpty_nil, Option.getD_some, Bool.false_eq_true, if_false, if_true, Bool.not_false, Nat.reduceAdd, Int.reduceAdd, St.put, decide_eq_false hx']
        refine aend_frz rfl ⟨?_, rfl⟩
        rw [decide_eq_false (fun e => hx (by subst e; rfl))]
        rfl
    · have h' : ¬ (k : Int) < (a.length : Int) := by omega
      simp only [w_assign, w_aop, w_anone, w_nil, w_cons, awp, asN, St.ev, St.step, setS, killS, AV.kill, AV.killL, Mem.kill, ACond_false, List.set_cons_succ, List.set_cons_zero, List.contains_nil, List.isEmpty_nil, Option.getD_some, Bool.false_eq_true, if_false, if_true, Nat.reduceAdd, Int.reduceAdd, decide_eq_false h']
      refine aend_frz rfl ⟨?_, rfl⟩
      rw [decide_eq_true (List.ext_getElem (by omega) fun j h1 h2 => hno j h1 h2 (by omega))]
      rfl
  · simp only [w_assign, w_aop, w_anone, w_nil, w_cons, awp, asN, St.ev, St.step, setS, killS, AV.kill, AV.killL, Mem.kill, ACond_true, ACond_false, List.set_cons_succ, List.set_cons_zero, List.contains_nil, List.isEmpty_nil, Option.getD_some, Bool.false_eq_true, if_false, if_true, Bool.not_false, Nat.reduceAdd, Int.reduceAdd, decide_eq_false hl]
    refine aend_frz rfl ⟨?_, rfl⟩
    rw [decide_eq_false (fun e => hl (by rw [e]))]
    rfl

theorem vTP_ok {n : Int} {ls : List (Int × Int)} {l : List Int} (h : vTP n ls l = 0) : okPl n l.length l ∧ l.length ≤ 4 ∧ n ≤ 6 := by
  have h1 := vTP_vT h
  have h2 := vT_le h1
  have h3 := vTP_len h
  refine ⟨⟨rfl, ?_⟩, h3, h2⟩
  rw [vTP, if_pos h1] at h
  unfold vP at h
  split at h
  · omega
  · split at h
    · assumption
    · omega

theorem ok39 : okFn Try.prog 39 = true := by kernel_rfl
theorem s39 (n : Int) (ls : List (Int × Int)) (l : List Int) (hls : ls.length ≤ 1000000) (hl : l.length ≤ 1000000) : ASpec Try.prog 39 [trapA n ls, .s 1 (intsA l)] (fun r Ms => r = (if vTP n ls l ≠ 0 then .t [I 0, I (vTP n ls l)] else .t [I (rch n ls l).length, I 0]) ∧ Ms = []) := by
  refine aspec_of (own := []) Try.func39 rfl ok39 ?_
  simp only [w_move, w_assign, w_box, w_load, w_callF, w_aop, w_some, w_asome, w_anone, w_nil, w_cons, awp, asP, asN, loadA, St.ev, St.step, setS, killS, AV.kill, AV.killL, Mem.kill, AV.cells, AV.flat, AV.single, AV.cellular, AV.pure, AV.pureL, ACond_false, List.getD_cons_succ, List.getD_cons_zero, List.set_cons_succ, List.set_cons_zero, List.getElem?_cons_zero, List.length_cons, List.length_nil, List.replicate_succ, List.replicate_zero, List.cons_append, List.nil_append, List.contains_nil, List.isEmpty_nil, Option.getD_some, Bool.false_eq_true, if_false, if_true, true_and, and_true, List.all_cons, List.all_nil, Bool.and_true, Bool.true_and, Bool.not_true, Nat.zero_add, Nat.add_zero, beq_self_eq_true, List.map_cons, List.map_nil, decide_true, Nat.reduceAdd, Nat.reduceSub, Nat.reduceLeDiff, Int.reduceAdd, Int.reduceSub, ti24, Try.ntmps39, trapA]
  refine acall_v (s25 n ls l hls hl) rfl rfl ?_
  by_cases h : ¬ vTP n ls l = 0
  · simp only [w_move, w_assign, w_binOp, w_aop, w_some, w_asome, w_anone, w_nil, w_cons, awp, binC, cmpC, asB, asI, asN, St.ev, St.step, setS, killS, AV.kill, AV.killL, Mem.kill, ACond_true, ACond_false, List.getD_cons_succ, List.getD_cons_zero, List.set_cons_succ, List.set_cons_zero, List.contains_nil, List.isEmpty_nil, Option.getD_some, Bool.false_eq_true, if_false, if_true, true_and, Bool.true_and, Bool.not_false, Nat.reduceAdd, Int.reduceAdd, ne_eq, decide_eq_true h, decide_eq_false h]
    exact aend_frz rfl ⟨by rw [if_pos h]; rfl, rfl⟩
  have hv : vTP n ls l = 0 := Decidable.not_not.1 h
  obtain ⟨hp, h4, h6⟩ := vTP_ok hv
  simp only [w_move, w_assign, w_load, w_binOp, w_callF, w_aop, w_some, w_asome, w_anone, w_nil, w_cons, awp, binC, cmpC, asP, asB, asI, asN, loadA, St.ev, St.step, setS, killS, AV.kill, AV.killL, Mem.kill, AV.cells, AV.flat, AV.single, ACond_false, List.getD_cons_succ, List.getD_cons_zero, List.set_cons_succ, List.set_cons_zero, List.getElem?_cons_zero, List.length_cons, List.length_nil, List.contains_nil, List.isEmpty_nil, Option.getD_some, Bool.false_eq_true, if_false, if_true, true_and, and_true, List.all_cons, List.all_nil, Bool.and_true, Bool.true_and, Bool.not_true, Nat.zero_add, beq_self_eq_true, List.map_cons, List.map_nil, decide_true, Nat.reduceAdd, Nat.reduceLeDiff, Int.reduceAdd, ti24, decide_eq_true hv]
  have sr := s60 n ls l h6 hls h4 hp
  generalize rch n ls l = R at sr ⊢
  refine acall_o (x := .o 0) sr rfl (valsN_pure _) ?_
  simp only [w_assign, w_len, lenM, w_aop, w_some, w_anone, w_nil, w_cons, awp, asN, lenA, St.ev, St.step, setS, killS, AV.kill, AV.killL, Mem.kill, List.getD_cons_succ, List.getD_cons_zero, List.set_cons_succ, List.set_cons_zero, List.getElem?_cons_zero, List.length_nil, List.nil_append, List.contains_nil, List.isEmpty_nil, Option.getD_some, Bool.false_eq_true, if_false, if_true, Nat.add_zero, ne_eq, ti78, AV.up, AV.sub, mp78]
  refine aend_frz rfl ⟨by rw [if_neg h]; simp [frz, AV.sub, AV.subL, valsN], rfl⟩

theorem ok58 : okFn Try.prog 58 = true := by kernel_rfl
theorem s58 : ASpec Try.prog 58 [] (fun r Ms => r = trapA 3 [(0, 1), (1, 2)] ∧ Ms = []) := by
  refine aspec_of (own := []) Try.func58 rfl ok58 ?_
  simp only [w_alloc, w_store, w_build, w_buildSlice, w_aop, w_some, w_nil, w_cons, awp, asQ, obA, AGet_zero, storeA, fillA, putsA, mkA, Aw.newRow, St.ev, St.step, setS, killS, AV.kill, AV.killL, Mem.kill, AV.cells, AV.flat, AV.single, AV.cellular, AV.size, AV.sizeL, AV.pure, AV.pureL, ACond_false, Value.oneCell', List.getD_cons_succ, List.getD_cons_zero, List.set_cons_succ, List.set_cons_zero, List.getElem?_cons_succ, List.getElem?_cons_zero, List.length_cons, List.length_nil, List.replicate_succ, List.replicate_zero, List.nil_append, List.contains_nil, List.isEmpty_nil, Option.getD_some, Bool.false_eq_true, if_false, if_true, true_and, and_true, List.all_cons, List.all_nil, Bool.and_true, Bool.true_and, Nat.zero_add, Nat.add_zero, beq_self_eq_true, List.map_cons, List.map_nil, decide_true, nbeq, decide_false, Bool.or_false, Nat.reduceAdd, Nat.reduceEqDiff, Nat.reduceMul, Nat.reduceSub, Nat.reduceLeDiff, Int.reduceAdd, Int.reduceSub, Int.reduceMul, ti22, ti24, ti57, Try.ntmps58]
  refine ⟨⟨by decide, rfl⟩, ?_⟩
  refine aend_frz (x := .g [I 3, .s 2 (prsA [(0, 1), (1, 2)])]) ?_ ⟨by simp [frz, AV.sub, AV.subL, trapA], rfl⟩
  show resA Try.prog [.cell 0 24] _ = _
  simp [resA, resL, resOne, ti24, loadA, AV.flat, AV.cells, AV.single, prsA, prA]

theorem ok16 : okFn Try.prog 16 = true := by kernel_rfl
theorem s16 (n : Int) (ls : List (Int × Int)) : ASpec Try.prog 16 [trapA n ls] (fun r Ms => r = B (decide ((60 : Int) < ls.length)) ∧ Ms = []) := by
  refine aspec_of (own := []) Try.func16 rfl ok16 ?_
  simp only [w_assign, w_box, w_load, w_fieldAddr, w_binOp, w_len, w_aop, w_some, w_asome, w_anone, w_nil, w_cons, awp, binC, cmpC, asP, asI, asN, lenA, loadA, St.ev, St.step, setS, killS, AV.kill, AV.killL, Mem.kill, AV.cells, AV.flat, AV.single, AV.cellular, AV.pure, AV.pureL, ACond_false, List.getD_cons_succ, List.getD_cons_zero, List.set_cons_succ, List.set_cons_zero, List.getElem?_cons_succ, List.getElem?_cons_zero, List.length_cons, List.length_nil, List.replicate_succ, List.replicate_zero, List.cons_append, List.nil_append, List.contains_nil, List.isEmpty_nil, Option.getD_some, Bool.false_eq_true, if_false, if_true, true_and, and_true, List.all_cons, List.all_nil, Bool.and_true, Bool.true_and, Bool.not_true, Option.isSome_some, Nat.zero_add, Nat.add_zero, decide_true, nbeq, decide_false, Bool.and_false, Nat.reduceAdd, Nat.reduceEqDiff, Nat.reduceSub, Nat.reduceLeDiff, Int.reduceAdd, Int.reduceSub, ne_eq, not_false_eq_true, ti22, ti24, Try.ntmps16, trapA, prsA_len]
  exact aend_frz rfl ⟨rfl, rfl⟩
theorem ok17 : okFn Try.prog 17 = true := by kernel_rfl
theorem s17 (l : List Int) : ASpec Try.prog 17 [.s 1 (intsA l)] (fun r Ms => r = B (decide ((40 : Int) < l.length)) ∧ Ms = []) := by
  refine aspec_of (own := []) Try.func17 rfl ok17 ?_
  simp only [w_move, w_assign, w_binOp, w_len, w_aop, w_some, w_asome, w_anone, w_nil, w_cons, awp, binC, cmpC, asI, asN, lenA, St.ev, St.step, setS, killS, AV.kill, AV.killL, Mem.kill, ACond_false, List.getD_cons_succ, List.getD_cons_zero, List.set_cons_succ, List.set_cons_zero, List.length_cons, List.length_nil, List.replicate_succ, List.replicate_zero, List.cons_append, List.nil_append, List.contains_nil, List.isEmpty_nil, Option.getD_some, Bool.false_eq_true, if_false, if_true, true_and, Bool.true_and, Option.isSome_some, Nat.zero_add, Nat.add_zero, Nat.reduceAdd, Nat.reduceSub, Int.reduceAdd, Int.reduceSub, ti25, Try.ntmps17, intsA_len]
  exact aend_frz rfl ⟨rfl, rfl⟩
end Go.Proofs.Ytkolpijhgcijbaa

namespace Go.Proofs.Ytkolpijhgcijbaa
open Aw Go.RowKit
set_option linter.unusedSimpArgs false

def swapL (l : List Int) (i j : Nat) : List Int := (l.set i (l.getD j 0)).set j (l.getD i 0)
/-- what 'CanSwap' answers. -/
def canS (n : Int) (ls : List (Int × Int)) (l : List Int) (i j : Int) : Bool × Int :=
  if vTP n ls l ≠ 0 then (false, vTP n ls l) else if i < 0 ∨ l.length ≤ i ∨ j < 0 ∨ l.length ≤ j then (false, 4) else (decide (swapL l i.toNat j.toNat ∈ pls (rch n ls l)), 0)

theorem swapL_ok {n : Int} {k : Nat} {l : List Int} {i j : Nat} (h : okPl n k l) (hi : i < l.length) (hj : j < l.length) : okPl n k (swapL l i j) := by
  refine ⟨by simp [swapL, h.1], fun x hx => ?_⟩
  rcases List.mem_or_eq_of_mem_set hx with hx | rfl
  · rcases List.mem_or_eq_of_mem_set hx with hx | rfl
    · exact h.2 x hx
    · rw [List.getD_eq_getElem?_getD, List.getElem?_eq_getElem hj]; exact h.2 _ (List.getElem_mem hj)
  · rw [List.getD_eq_getElem?_getD, List.getElem?_eq_getElem hi]; exact h.2 _ (List.getElem_mem hi)

theorem ok19 : okFn Try.prog 19 = true := by kernel_rfl
theorem s19 (n : Int) (ls : List (Int × Int)) (l : List Int) (i j : Int) (hls : ls.length ≤ 1000000) (hl : l.length ≤ 1000000) : ASpec Try.prog 19 [trapA n ls, .s 1 (intsA l), I i, I j] (fun r Ms => r = .t [B (canS n ls l i j).1, I (canS n ls l i j).2] ∧ Ms = []) := by
  refine aspec_of (own := []) Try.func19 rfl ok19 ?_
  simp only [w_move, w_assign, w_box, w_load, w_callF, w_aop, w_some, w_asome, w_anone, w_nil, w_cons, awp, asP, asN, loadA, St.ev, St.step, setS, killS, AV.kill, AV.killL, Mem.kill, AV.cells, AV.flat, AV.single, AV.cellular, AV.pure, AV.pureL, ACond_false, List.getD_cons_succ, List.getD_cons_zero, List.set_cons_succ, List.set_cons_zero, List.getElem?_cons_zero, List.length_cons, List.length_nil, List.replicate_succ, List.replicate_zero, List.cons_append, List.nil_append, List.contains_nil, List.isEmpty_nil, Option.getD_some, Bool.false_eq_true, if_false, if_true, true_and, and_true, List.all_cons, List.all_nil, Bool.and_true, Bool.true_and, Bool.not_true, Nat.zero_add, Nat.add_zero, beq_self_eq_true, List.map_cons, List.map_nil, decide_true, Nat.reduceAdd, Nat.reduceSub, Nat.reduceLeDiff, Int.reduceAdd, Int.reduceSub, ti24, Try.ntmps19, trapA]
  refine acall_v (s25 n ls l hls hl) rfl rfl ?_
  by_cases h : ¬ vTP n ls l = 0
  · simp only [w_move, w_assign, w_binOp, w_aop, w_some, w_asome, w_anone, w_nil, w_cons, awp, binC, cmpC, asB, asI, asN, St.ev, St.step, setS, killS, AV.kill, AV.killL, Mem.kill, ACond_true, ACond_false, List.getD_cons_succ, List.getD_cons_zero, List.set_cons_succ, List.set_cons_zero, List.contains_nil, List.isEmpty_nil, Option.getD_some, Bool.false_eq_true, if_false, if_true, true_and, Bool.true_and, Bool.not_false, Nat.reduceAdd, Int.reduceAdd, decide_eq_true h, decide_eq_false h]
    exact aend_frz rfl ⟨by rw [canS, if_pos h]; rfl, rfl⟩
  have hv : vTP n ls l = 0 := Decidable.not_not.1 h
  obtain ⟨hp, h4, h6⟩ := vTP_ok hv
  simp only [w_move, w_assign, w_binOp, w_aop, w_aopg, w_gdb, w_some, w_asome, w_anone, w_nil, w_cons, awp, binC, cmpC, asB, asI, asN, St.ev, St.step, setS, killS, AV.kill, AV.killL, Mem.kill, ACond_false, List.getD_cons_succ, List.getD_cons_zero, List.set_cons_succ, List.set_cons_zero, List.getElem?_cons_succ, List.getElem?_cons_zero, List.contains_nil, List.isEmpty_nil, Option.getD_some, Bool.false_eq_true, if_false, if_true, true_and, Bool.true_and, Bool.not_true, Nat.reduceAdd, Int.reduceAdd, Option.bind_some, w_bf, decide_eq_true hv]
  have bad : (i < 0 ∨ l.length ≤ i ∨ j < 0 ∨ l.length ≤ j) → canS n ls l i j = (false, 4) := fun hb => by rw [canS, if_neg h, if_pos hb]
  by_cases h1 : i < 0
  · simp only [w_move, w_assign, w_pick, w_aop, w_aopg, w_gdb, w_some, w_anone, w_nil, w_cons, awp, asB, asN, St.ev, St.step, setS, killS, AV.kill, AV.killL, Mem.kill, ACond_true, ACond_false, List.getD_cons_succ, List.getD_cons_zero, List.set_cons_succ, List.set_cons_zero, List.getElem?_cons_succ, List.getElem?_cons_zero, List.contains_nil, List.isEmpty_nil, Option.getD_some, Bool.false_eq_true, if_false, if_true, Bool.not_true, Nat.reduceAdd, Int.reduceAdd, Option.bind_some, w_bf, decide_eq_true h1]
    exact aend_frz rfl ⟨by rw [bad (.inl h1)]; rfl, rfl⟩
  simp only [w_move, w_pick, w_binOp, w_len, w_aop, w_aopg, w_gdb, w_some, w_asome, w_cons, binC, cmpC, asB, asI, lenA, St.ev, St.step, setS, killS, AV.kill, AV.killL, Mem.kill, ACond_true, ACond_false, List.getD_cons_succ, List.getD_cons_zero, List.set_cons_succ, List.set_cons_zero, List.getElem?_cons_succ, List.getElem?_cons_zero, List.isEmpty_nil, if_true, true_and, Bool.true_and, Bool.not_false, Option.isSome_some, beq_self_eq_true, Option.bind_some, w_bf, ti25, decide_eq_false h1, intsA_len]
  by_cases h2 : (l.length : Int) ≤ i
  · simp only [w_move, w_assign, w_pick, w_aop, w_aopg, w_gdb, w_some, w_anone, w_nil, w_cons, awp, asB, asN, St.ev, St.step, setS, killS, AV.kill, AV.killL, Mem.kill, ACond_true, ACond_false, List.getD_cons_succ, List.getD_cons_zero, List.set_cons_succ, List.set_cons_zero, List.getElem?_cons_succ, List.getElem?_cons_zero, List.contains_nil, List.isEmpty_nil, Option.getD_some, Bool.false_eq_true, if_false, if_true, Bool.not_true, Nat.reduceAdd, Int.reduceAdd, Option.bind_some, w_bf, decide_eq_true h2]
    exact aend_frz rfl ⟨by rw [bad (.inr (.inl h2))]; rfl, rfl⟩
  simp only [w_move, w_pick, w_binOp, w_aop, w_aopg, w_gdb, w_some, w_asome, w_cons, binC, cmpC, asB, asI, St.ev, St.step, setS, killS, AV.kill, AV.killL, Mem.kill, ACond_true, ACond_false, List.getD_cons_succ, List.getD_cons_zero, List.set_cons_succ, List.set_cons_zero, List.getElem?_cons_succ, List.getElem?_cons_zero, List.isEmpty_nil, if_true, true_and, Bool.true_and, Bool.not_false, beq_self_eq_true, Option.bind_some, w_bf, decide_eq_false h2]
  by_cases h3 : j < 0
  · simp only [w_assign, w_pick, w_aop, w_aopg, w_gdb, w_some, w_anone, w_nil, w_cons, awp, asB, asN, St.ev, St.step, setS, killS, AV.kill, AV.killL, Mem.kill, ACond_true, ACond_false, List.getD_cons_succ, List.getD_cons_zero, List.set_cons_succ, List.set_cons_zero, List.getElem?_cons_succ, List.getElem?_cons_zero, List.contains_nil, List.isEmpty_nil, Option.getD_some, Bool.false_eq_true, if_false, if_true, Bool.not_true, Nat.reduceAdd, Int.reduceAdd, Option.bind_some, w_bf, decide_eq_true h3]
    exact aend_frz rfl ⟨by rw [bad (.inr (.inr (.inl h3)))]; rfl, rfl⟩
  simp only [w_move, w_pick, w_binOp, w_len, w_aop, w_aopg, w_gdb, w_some, w_asome, w_nil, w_cons, awp, binC, cmpC, asB, asI, lenA, St.ev, St.step, setS, killS, AV.kill, AV.killL, Mem.kill, ACond_true, ACond_false, List.getD_cons_succ, List.getD_cons_zero, List.set_cons_succ, List.set_cons_zero, List.getElem?_cons_succ, List.getElem?_cons_zero, List.isEmpty_nil, if_true, true_and, Bool.true_and, Bool.not_false, Option.isSome_some, beq_self_eq_true, Option.bind_some, ti25, decide_eq_false h3, intsA_len]
  by_cases h5 : (l.length : Int) ≤ j
  · simp only [w_assign, w_aop, w_anone, w_nil, w_cons, awp, asN, St.ev, St.step, setS, killS, AV.kill, AV.killL, Mem.kill, ACond_true, ACond_false, List.set_cons_succ, List.set_cons_zero, List.contains_nil, List.isEmpty_nil, Option.getD_some, Bool.false_eq_true, if_false, if_true, Nat.reduceAdd, Int.reduceAdd, decide_eq_true h5]
    exact aend_frz rfl ⟨by rw [bad (.inr (.inr (.inr h5)))]; rfl, rfl⟩
  simp only [w_move, w_callF, w_aop, w_cons, awp, St.ev, St.step, setS, killS, AV.kill, AV.killL, Mem.kill, ACond_false, List.getD_cons_succ, List.getD_cons_zero, List.set_cons_succ, List.set_cons_zero, List.contains_nil, List.isEmpty_nil, if_true, List.map_cons, List.map_nil, Nat.reduceAdd, Int.reduceAdd, decide_eq_false h5]
  refine acall_o (x := .o 0) (s59 l hl) rfl (intsA_pure l) ?_
  simp only [w_assign, w_aop, w_anone, w_nil, w_cons, awp, asN, St.ev, St.step, setS, killS, AV.kill, AV.killL, Mem.kill, List.getD_cons_succ, List.getD_cons_zero, List.set_cons_succ, List.set_cons_zero, List.length_nil, List.nil_append, List.contains_nil, List.isEmpty_nil, Option.getD_some, Bool.false_eq_true, if_false, if_true, Nat.add_zero, AV.up, AV.sub]
  have hi : i.toNat < l.length := by omega
  have hj : j.toNat < l.length := by omega
  refine swp_draw (own := []) (.take 0 .plain [] (.take 1 .plain [] (.take 2 .plain [] (.take 3 .plain [] (.take 4 .plain [] (.take 5 .plain [] (.take 6 .reads [] (.take 7 .reads [] (.take 8 .plain [] (.take 9 .plain [] (.take 10 .reads [] (.take 11 .reads [] (.take 12 .reads [] (.alt 13 (.take 14 .reads [] (.alt 15 (.done) (.nil))) (.nil))))))))))))))) [⟨41, 2048, 0, 0, true⟩, ⟨42, 4, 0, 0, true⟩, ⟨43, 2048, 0, 0, true⟩, ⟨44, 8, 0, 0, true⟩, ⟨45, 2, 0, 0, true⟩, ⟨46, 8, 0, 0, true⟩, ⟨47, 52776558133248, 48, 0, true⟩, ⟨48, 70368744177664, 64, 0, true⟩, ⟨49, 2, 0, 0, true⟩, ⟨50, 4, 0, 0, true⟩, ⟨51, 844424930131968, 768, 0, true⟩, ⟨52, 1125899906842624, 1024, 0, true⟩, ⟨53, 3298534883328, 2291, 0, true⟩, ⟨0, 4644337115725824, 6387, 1, false⟩, ⟨54, 13194139533312, 16383, 0, true⟩, ⟨0, 11258999068426240, 32767, 1, false⟩] mo (by kernel_rfl) ?_
  simp only [w_move, w_load, w_store, w_indexAddr, w_aop, w_take, w_some, w_asome, w_anone, idxC, asP, asQ, asO, asS, asI, obA, loadA, storeA, putsA, St.ev, St.step, setS, killS, AV.kill, AV.killL, Mem.kill, AV.cells, AV.flat, AV.single, AV.cellular, Value.oneCell', List.getD_cons_succ, List.getD_cons_zero, List.set_cons_succ, List.set_cons_zero, List.getElem?_cons_succ, List.getElem?_cons_zero, List.length_cons, List.head?_cons, List.length_nil, List.contains_nil, List.isEmpty_nil, Bool.false_eq_true, if_false, if_true, true_and, and_true, List.all_cons, List.all_nil, Bool.and_true, Bool.true_and, Bool.not_true, Nat.zero_add, beq_self_eq_true, decide_true, Nat.reduceLeDiff, ASch, St.put, Md.mem, Md.need, ti3, ti25, intsA_len, aget_ints hi, aget_ints hj, intsA_set]
  have hj2 : j.toNat < (l.set i.toNat l[j.toNat]).length := by simpa using hj
  have hsw : (l.set i.toNat l[j.toNat]).set j.toNat l[i.toNat] = swapL l i.toNat j.toNat := by
    simp [swapL, hi, hj]
  have hlen : (l.set i.toNat l[j.toNat]).length = l.length := by simp
  refine ⟨by omega, by omega, by omega, by omega, ?_⟩
  rw [aget_ints hj2]
  simp only [w_move, w_load, w_callF, w_aop, w_some, w_asome, w_cons, awp, asP, loadA, storeA, putsA, St.ev, St.step, setS, killS, AV.kill, AV.killL, Mem.kill, AV.cells, AV.flat, AV.single, AV.cellular, ACond_false, Value.oneCell', List.getD_cons_succ, List.getD_cons_zero, List.set_cons_succ, List.set_cons_zero, List.getElem?_cons_zero, List.length_cons, List.head?_cons, List.length_nil, List.contains_nil, List.isEmpty_nil, Bool.false_eq_true, if_false, if_true, and_true, List.all_cons, List.all_nil, Bool.and_true, Bool.not_true, Nat.zero_add, beq_self_eq_true, List.map_cons, List.map_nil, decide_true, Nat.reduceAdd, Nat.reduceLeDiff, Int.reduceAdd, ASch, ti24, intsA_set, hsw]
  have sr := s60 n ls l h6 hls h4 hp
  have hinv := rchI_inv (ls := ls) h6 hp 1297
  rw [show rchI n ls l 1297 = rch n ls l from rfl] at hinv
  have hc : canS n ls l i j = (decide (swapL l i.toNat j.toNat ∈ pls (rch n ls l)), 0) := by rw [canS, if_neg h, if_neg (by omega)]
  rw [hc]
  generalize rch n ls l = R at sr hinv ⊢
  refine acall_o (x := .o 0) sr rfl (valsN_pure _) ?_
  simp only [w_move, w_callF, w_aop, w_cons, St.ev, St.step, setS, killS, AV.kill, AV.killL, Mem.kill, List.getD_cons_succ, List.getD_cons_zero, List.set_cons_succ, List.set_cons_zero, List.length_cons, List.length_nil, List.cons_append, List.nil_append, List.contains_nil, List.isEmpty_nil, Bool.false_eq_true, if_false, if_true, Nat.zero_add, List.map_cons, List.map_nil, AV.up, AV.sub]
  have hq := swapL_ok hp hi hj
  obtain ⟨a, b, c, d, hpad, ha, hb, hc, hd⟩ := padL_lim h6 hq
  have ss := s61 (swapL l i.toNat j.toNat) (by rw [hq.1]; exact h4)
  rw [hpad] at ss
  refine acall_l (x := .g [I a, I b, I c, I d]) ss (by simp [frz, AV.sub, intsA_pure]) rfl rfl ?_
  simp only [w_lookup, w_aop, w_some, w_cons, asO, obA, St.ev, St.step, setS, killS, AV.kill, AV.killL, Mem.kill, List.getD_cons_succ, List.getD_cons_zero, List.set_cons_succ, List.set_cons_zero, List.getElem?_cons_succ, List.getElem?_cons_zero, List.contains_nil, List.isEmpty_nil, Bool.false_eq_true, if_false, if_true, true_and, Bool.true_and, mp78, za76, valOf_4]
  by_cases hx : swapL l i.toNat j.toNat ∈ pls R
  · obtain ⟨q, hq', hqx⟩ := pls_mem hx
    obtain ⟨fa, fb, fc, fd, hfr, _⟩ := hinv.fr R[q] (List.getElem_mem hq')
    refine afind_in h6 h4 hinv hpad q hq' hqx ?_
    simp only [w_move, w_assign, w_alloc, w_store, w_extract, w_aop, w_some, w_anone, w_nil, w_cons, awp, asQ, asT, asN, obA, AGet_zero, storeA, putsA, mkA, Aw.newRow, St.ev, St.step, setS, killS, AV.kill, AV.killL, Mem.kill, AV.cells, AV.flat, AV.single, AV.cellular, ACond_false, List.getD_cons_succ, List.getD_cons_zero, List.set_cons_succ, List.set_cons_zero, List.getElem?_cons_succ, List.getElem?_cons_zero, List.length_cons, List.length_nil, List.cons_append, List.nil_append, List.contains_nil, List.isEmpty_nil, Option.getD_some, Bool.false_eq_true, if_false, if_true, true_and, and_true, List.all_cons, List.all_nil, Bool.and_true, Bool.true_and, Nat.zero_add, beq_self_eq_true, List.map_cons, List.map_nil, decide_true, nbeq, decide_false, Bool.or_false, Nat.reduceAdd, Nat.reduceEqDiff, Nat.reduceLeDiff, Int.reduceAdd, ti76, aget_valsN hq', valN_eq hfr]
    exact aend_frz rfl ⟨by rw [decide_eq_true hx]; rfl, rfl⟩
  · refine afind_out h6 h4 hinv hq hpad hx ?_
    simp only [w_move, w_assign, w_alloc, w_store, w_extract, w_aop, w_some, w_anone, w_nil, w_cons, awp, asQ, asT, asN, obA, AGet_zero, storeA, putsA, mkA, Aw.newRow, St.ev, St.step, setS, killS, AV.kill, AV.killL, Mem.kill, AV.cells, AV.flat, AV.single, AV.cellular, ACond_false, List.getD_cons_succ, List.getD_cons_zero, List.set_cons_succ, List.set_cons_zero, List.getElem?_cons_succ, List.getElem?_cons_zero, List.length_cons, List.length_nil, List.cons_append, List.nil_append, List.contains_nil, List.isEmpty_nil, Option.getD_some, Bool.false_eq_true, if_false, if_true, true_and, and_true, List.all_cons, List.all_nil, Bool.and_true, Bool.true_and, Nat.zero_add, beq_self_eq_true, List.map_cons, List.map_nil, decide_true, nbeq, decide_false, Bool.or_false, Nat.reduceAdd, Nat.reduceEqDiff, Nat.reduceLeDiff, Int.reduceAdd, ti76]
    exact aend_frz rfl ⟨by rw [decide_eq_false hx]; rfl, rfl⟩

/-! the document's example -/
theorem k_rch : (rch 3 [(0, 1), (1, 2)] [0, 1]) = rchI 3 [(0, 1), (1, 2)] [0, 1] 3 := by
  have hp : okPl 3 2 [0, 1] := ⟨rfl, by decide⟩
  exact (rchI_end (n := 3) (k := 2) (by decide) (by decide) hp (i := 3) (by decide)).symm
theorem k_len : (rch 3 [(0, 1), (1, 2)] [0, 1]).length = 3 := by rw [k_rch]; decide
theorem k_no : decide (swapL [0, 1] 0 1 ∈ pls (rch 3 [(0, 1), (1, 2)] [0, 1])) = false := by rw [k_rch]; decide
theorem k_ok : vTP 3 [(0, 1), (1, 2)] [0, 1] = 0 := by decide
theorem k_mv : mvK 3 [(0, 1), (1, 2)] [0, 1] 2 = [(1, 2)] := by decide

theorem ok18 : okFn Try.prog 18 = true := by kernel_rfl
theorem s18 : ASpec Try.prog 18 [] (fun r Ms => r = B true ∧ Ms = []) := by
  refine aspec_of (own := []) Try.func18 rfl ok18 ?_
  simp only [w_assign, w_callF, w_aop, w_anone, w_nil, w_cons, awp, asN, St.ev, St.step, setS, killS, AV.kill, AV.killL, Mem.kill, ACond_false, List.set_cons_zero, List.length_nil, List.replicate_succ, List.replicate_zero, List.nil_append, List.contains_nil, List.isEmpty_nil, Option.getD_some, Bool.false_eq_true, if_false, if_true, Nat.add_zero, List.map_nil, Nat.reduceAdd, Nat.reduceSub, Int.reduceAdd, Int.reduceSub, Try.ntmps18]
  have s30' := s30 3 [(0, 1), (1, 2)] [0, 1] (by decide) (by decide)
  have s39' := s39 3 [(0, 1), (1, 2)] [0, 1] (by decide) (by decide)
  have s19' := s19 3 [(0, 1), (1, 2)] [0, 1] 0 1 (by decide) (by decide)
  rw [if_neg (by rw [k_ok]; decide)] at s30' s39'
  simp only [List.length_cons, List.length_nil, Nat.reduceAdd, k_mv] at s30'
  rw [k_len, show ((3 : Nat) : Int) = 3 from rfl] at s39'
  have hc : canS 3 [(0, 1), (1, 2)] [0, 1] 0 1 = (false, 0) := by
    rw [canS, if_neg (by rw [k_ok]; decide), if_neg (by decide)]
    exact congrArg (·, (0 : Int)) k_no
  rw [hc] at s19'
  refine acall_v s58 rfl rfl ?_
  simp only [w_buildSlice, w_callF, w_aop, w_some, w_cons, St.ev, St.step, setS, killS, AV.kill, AV.killL, Mem.kill, AV.cells, AV.flat, AV.single, AV.cellular, AV.size, AV.pure, AV.pureL, ACond_false, Value.oneCell', List.getD_cons_succ, List.getD_cons_zero, List.set_cons_succ, List.set_cons_zero, List.contains_nil, List.isEmpty_nil, Option.getD_some, if_true, true_and, and_true, List.all_cons, List.all_nil, Bool.and_true, Bool.true_and, List.map_cons, List.map_nil, decide_true, nbeq, Nat.reduceMul, Nat.reduceLeDiff, Int.reduceMul, ti3, ti25, trapA]
  refine ⟨⟨by decide, rfl⟩, acall_v s30' rfl rfl ?_⟩
  simp only [w_move, w_assign, w_extract, w_callF, w_aop, w_some, w_anone, w_nil, w_cons, awp, asT, asN, St.ev, St.step, setS, killS, AV.kill, AV.killL, Mem.kill, ACond_false, List.getD_cons_succ, List.getD_cons_zero, List.set_cons_succ, List.set_cons_zero, List.getElem?_cons_succ, List.getElem?_cons_zero, List.contains_nil, List.isEmpty_nil, Option.getD_some, Bool.false_eq_true, if_false, if_true, List.map_nil, Nat.reduceAdd, Int.reduceAdd]
  refine acall_v s58 rfl rfl ?_
  simp only [w_buildSlice, w_callF, w_aop, w_some, w_cons, St.ev, St.step, setS, killS, AV.kill, AV.killL, Mem.kill, AV.cells, AV.flat, AV.single, AV.cellular, AV.size, AV.pure, AV.pureL, ACond_false, Value.oneCell', List.getD_cons_succ, List.getD_cons_zero, List.set_cons_succ, List.set_cons_zero, List.contains_nil, List.isEmpty_nil, Option.getD_some, if_true, true_and, and_true, List.all_cons, List.all_nil, Bool.and_true, Bool.true_and, List.map_cons, List.map_nil, decide_true, nbeq, Nat.reduceMul, Nat.reduceLeDiff, Int.reduceMul, ti3, ti25, trapA]
  refine ⟨⟨by decide, rfl⟩, acall_v s39' rfl rfl ?_⟩
  simp only [w_move, w_assign, w_extract, w_callF, w_aop, w_some, w_anone, w_nil, w_cons, awp, asT, asN, St.ev, St.step, setS, killS, AV.kill, AV.killL, Mem.kill, ACond_false, List.getD_cons_succ, List.getD_cons_zero, List.set_cons_succ, List.set_cons_zero, List.getElem?_cons_succ, List.getElem?_cons_zero, List.contains_nil, List.isEmpty_nil, Option.getD_some, Bool.false_eq_true, if_false, if_true, List.map_nil, Nat.reduceAdd, Int.reduceAdd]
  refine acall_v s58 rfl rfl ?_
  simp only [w_buildSlice, w_callF, w_aop, w_some, w_cons, St.ev, St.step, setS, killS, AV.kill, AV.killL, Mem.kill, AV.cells, AV.flat, AV.single, AV.cellular, AV.size, AV.pure, AV.pureL, ACond_false, Value.oneCell', List.getD_cons_succ, List.getD_cons_zero, List.set_cons_succ, List.set_cons_zero, List.contains_nil, List.isEmpty_nil, Option.getD_some, if_true, true_and, and_true, List.all_cons, List.all_nil, Bool.and_true, Bool.true_and, List.map_cons, List.map_nil, decide_true, nbeq, Nat.reduceMul, Nat.reduceLeDiff, Int.reduceMul, ti3, ti25, trapA]
  refine ⟨⟨by decide, rfl⟩, acall_v s19' rfl rfl ?_⟩
  simp only [w_move, w_assign, w_binOp, w_build, w_buildSlice, w_extract, w_callF, w_aop, w_aopg, w_gdb, w_some, w_asome, w_anone, w_nil, w_cons, awp, binC, cmpC, asT, asI, asN, fillA, putsA, St.ev, St.step, setS, killS, AV.kill, AV.killL, Mem.kill, AV.cells, AV.flat, AV.single, AV.cellular, AV.size, AV.sizeL, AV.pure, AV.pureL, ACond_true, ACond_false, Value.oneCell', List.getD_cons_succ, List.getD_cons_zero, List.set_cons_succ, List.set_cons_zero, List.getElem?_cons_succ, List.getElem?_cons_zero, List.length_cons, List.length_nil, List.contains_nil, List.isEmpty_nil, Option.getD_some, Bool.false_eq_true, if_false, if_true, true_and, and_true, List.all_cons, List.all_nil, Bool.and_true, Bool.true_and, Nat.zero_add, Nat.add_zero, beq_self_eq_true, List.map_cons, List.map_nil, decide_true, nbeq, Nat.reduceAdd, Nat.reduceMul, Nat.reduceLeDiff, Int.reduceAdd, Int.reduceMul, Option.bind_some, ti42, ti64]
  refine ⟨⟨by decide, rfl⟩, acall_v (s32 [(1, 2)] [(1, 2)] (by decide) (by decide)) rfl rfl ?_⟩
  simp only [w_move, w_assign, w_pick, w_binOp, w_not, w_aop, w_aopg, w_gdb, w_some, w_asome, w_anone, w_nil, w_cons, awp, binC, cmpC, asB, asI, asN, St.ev, St.step, setS, killS, AV.kill, AV.killL, Mem.kill, ACond_true, List.getD_cons_succ, List.getD_cons_zero, List.set_cons_succ, List.set_cons_zero, List.getElem?_cons_succ, List.getElem?_cons_zero, List.contains_nil, List.isEmpty_nil, Option.getD_some, Bool.false_eq_true, if_false, if_true, true_and, Bool.true_and, Bool.not_false, beq_self_eq_true, decide_true, Option.bind_some]
  exact aend_frz rfl ⟨rfl, rfl⟩
end Go.Proofs.Ytkolpijhgcijbaa

namespace Go.Proofs.Ytkolpijhgcijbaa
open Aw Go.RowKit
set_option linter.unusedSimpArgs false

/-- the error of a move. -/
def refu (n : Int) (ls : List (Int × Int)) (now : List Int) (m : Int × Int) : Int :=
  if m.1 < 0 ∨ (now.length : Int) ≤ m.1 ∨ ¬ (0 ≤ m.2 ∧ m.2 < n) then 4 else if lnk ls (now.getD m.1.toNat 0) m.2 = false then 8 else if memL now m.2 = true then 6 else 0

theorem refu_bad {n : Int} {ls : List (Int × Int)} {now : List Int} {m : Int × Int} (h : m.1 < 0 ∨ (now.length : Int) ≤ m.1 ∨ ¬ (0 ≤ m.2 ∧ m.2 < n)) : refu n ls now m = 4 := by rw [refu, if_pos h]

theorem ok74 : okFn Try.prog 74 = true := by kernel_rfl
theorem s74 (n : Int) (ls : List (Int × Int)) (now : List Int) (a b : Int) (hls : ls.length ≤ 1000000) (hl : now.length ≤ 1000000) : ASpec Try.prog 74 [trapA n ls, .s 1 (intsA now), .g [I a, I b]] (fun r Ms => r = I (refu n ls now (a, b)) ∧ Ms = []) := by
  refine aspec_of (own := []) Try.func74 rfl ok74 ?_
  simp only [w_move, w_assign, w_box, w_load, w_fieldAddr, w_binOp, w_aop, w_aopg, w_gdb, w_some, w_asome, w_anone, w_nil, w_cons, awp, binC, cmpC, asP, asI, asN, loadA, St.ev, St.step, setS, killS, AV.kill, AV.killL, Mem.kill, AV.cells, AV.flat, AV.single, AV.cellular, AV.pure, AV.pureL, ACond_false, List.getD_cons_succ, List.getD_cons_zero, List.set_cons_succ, List.set_cons_zero, List.getElem?_cons_succ, List.getElem?_cons_zero, List.length_cons, List.length_nil, List.replicate_succ, List.replicate_zero, List.cons_append, List.nil_append, List.contains_nil, List.isEmpty_nil, Option.getD_some, Bool.false_eq_true, if_false, if_true, true_and, and_true, List.all_cons, List.all_nil, Bool.and_true, Bool.true_and, Bool.not_true, Nat.zero_add, Nat.add_zero, beq_self_eq_true, decide_true, nbeq, decide_false, Bool.and_false, Nat.reduceAdd, Nat.reduceEqDiff, Nat.reduceSub, Nat.reduceLeDiff, Int.reduceAdd, Int.reduceSub, Option.bind_some, ne_eq, not_false_eq_true, w_bf, ti3, ti64, Try.ntmps74, trapA]
  by_cases h1 : a < 0
  · simp only [w_move, w_assign, w_pick, w_aop, w_aopg, w_gdb, w_some, w_anone, w_nil, w_cons, awp, asB, asN, St.ev, St.step, setS, killS, AV.kill, AV.killL, Mem.kill, ACond_true, ACond_false, List.getD_cons_succ, List.getD_cons_zero, List.set_cons_succ, List.set_cons_zero, List.getElem?_cons_succ, List.getElem?_cons_zero, List.contains_nil, List.isEmpty_nil, Option.getD_some, Bool.false_eq_true, if_false, if_true, Bool.not_true, Nat.reduceAdd, Int.reduceAdd, Option.bind_some, w_bf, decide_eq_true h1]
    exact aend_frz rfl ⟨by rw [refu_bad (.inl h1)]; rfl, rfl⟩
  simp only [w_move, w_pick, w_load, w_fieldAddr, w_binOp, w_len, w_aop, w_aopg, w_gdb, w_some, w_asome, w_cons, binC, cmpC, asP, asB, asI, lenA, loadA, St.ev, St.step, setS, killS, AV.kill, AV.killL, Mem.kill, AV.cells, AV.flat, AV.single, ACond_true, ACond_false, List.getD_cons_succ, List.getD_cons_zero, List.set_cons_succ, List.set_cons_zero, List.getElem?_cons_succ, List.getElem?_cons_zero, List.length_cons, List.length_nil, List.isEmpty_nil, Bool.false_eq_true, if_false, if_true, true_and, and_true, List.all_cons, List.all_nil, Bool.and_true, Bool.true_and, Bool.not_true, Bool.not_false, Option.isSome_some, Nat.zero_add, Nat.add_zero, beq_self_eq_true, decide_true, nbeq, decide_false, Bool.and_false, Nat.reduceAdd, Nat.reduceEqDiff, Nat.reduceLeDiff, Int.reduceAdd, Option.bind_some, ne_eq, not_false_eq_true, w_bf, ti3, ti25, ti64, decide_eq_false h1, intsA_len]
  by_cases h2 : (now.length : Int) ≤ a
  · simp only [w_assign, w_pick, w_aop, w_aopg, w_gdb, w_some, w_anone, w_nil, w_cons, awp, asB, asN, St.ev, St.step, setS, killS, AV.kill, AV.killL, Mem.kill, ACond_true, ACond_false, List.getD_cons_succ, List.getD_cons_zero, List.set_cons_succ, List.set_cons_zero, List.getElem?_cons_succ, List.getElem?_cons_zero, List.contains_nil, List.isEmpty_nil, Option.getD_some, Bool.false_eq_true, if_false, if_true, Bool.not_true, Nat.reduceAdd, Int.reduceAdd, Option.bind_some, w_bf, decide_eq_true h2]
    exact aend_frz rfl ⟨by rw [refu_bad (.inr (.inl h2))]; rfl, rfl⟩
  simp only [w_load, w_fieldAddr, w_callF, w_aopg, w_gdb, w_some, w_asome, w_cons, asP, loadA, St.ev, St.step, setS, killS, AV.kill, AV.killL, Mem.kill, AV.cells, AV.flat, AV.single, ACond_true, List.getD_cons_succ, List.getD_cons_zero, List.set_cons_succ, List.set_cons_zero, List.getElem?_cons_succ, List.getElem?_cons_zero, List.length_cons, List.length_nil, List.isEmpty_nil, Bool.false_eq_true, if_false, if_true, true_and, and_true, List.all_cons, List.all_nil, Bool.and_true, Bool.true_and, Bool.not_true, Bool.not_false, Nat.zero_add, beq_self_eq_true, List.map_cons, List.map_nil, decide_true, nbeq, decide_false, Bool.and_false, Nat.reduceAdd, Nat.reduceEqDiff, Nat.reduceLeDiff, Int.reduceAdd, Option.bind_some, ne_eq, not_false_eq_true, ti3, ti24, ti64, decide_eq_false h2]
  refine acall_v (s64 n ls b) rfl rfl ?_
  by_cases h3 : 0 ≤ b ∧ b < n
  case neg =>
    simp only [w_assign, w_pick, w_not, w_aop, w_aopg, w_gdb, w_some, w_anone, w_nil, w_cons, awp, asB, asN, St.ev, St.step, setS, killS, AV.kill, AV.killL, Mem.kill, ACond_true, ACond_false, List.getD_cons_succ, List.getD_cons_zero, List.set_cons_succ, List.set_cons_zero, List.getElem?_cons_succ, List.getElem?_cons_zero, List.contains_nil, List.isEmpty_nil, Option.getD_some, Bool.false_eq_true, if_false, if_true, Bool.not_false, beq_self_eq_true, Nat.reduceAdd, Int.reduceAdd, Option.bind_some, decide_eq_false h3]
    exact aend_frz rfl ⟨by rw [refu_bad (.inr (.inr h3))]; rfl, rfl⟩
  simp only [w_pick, w_not, w_aop, w_aopg, w_gdb, w_some, w_nil, w_cons, awp, asB, St.ev, St.step, setS, killS, AV.kill, AV.killL, Mem.kill, ACond_true, ACond_false, List.getD_cons_succ, List.getD_cons_zero, List.set_cons_succ, List.set_cons_zero, List.getElem?_cons_succ, List.getElem?_cons_zero, List.isEmpty_nil, if_true, Bool.not_true, beq_self_eq_true, Option.bind_some, decide_eq_true h3]
  have ha : a.toNat < now.length := by omega
  have hg : now.getD a.toNat 0 = now[a.toNat] := by rw [List.getD_eq_getElem?_getD, List.getElem?_eq_getElem ha]; rfl
  have hc : ¬ (a < 0 ∨ (now.length : Int) ≤ a ∨ ¬ (0 ≤ b ∧ b < n)) := by omega
  refine swp_draw (own := []) (.take 0 .reads [] (.take 1 .plain [] (.take 2 .plain [] (.take 3 .reads [] (.take 4 .reads [] (.take 5 .reads [] (.take 6 .plain [] (.take 7 .reads [] (.alt 8 (.take 9 .plain [] (.done)) (.nil)))))))))) [⟨25, 8, 0, 0, true⟩, ⟨26, 2, 0, 0, true⟩, ⟨27, 32, 0, 0, true⟩, ⟨28, 67108864, 4, 0, true⟩, ⟨29, 167772160, 10, 0, true⟩, ⟨30, 268435456, 16, 0, true⟩, ⟨31, 32, 0, 0, true⟩, ⟨32, 1073741824, 64, 0, true⟩, ⟨33, 2701131776, 161, 0, false⟩, ⟨34, 4294967296, 256, 0, true⟩] mo (by kernel_rfl) ?_
  simp only [w_move, w_load, w_fieldAddr, w_indexAddr, w_callF, w_aop, w_take, w_some, w_asome, idxC, asP, asS, asI, loadA, St.ev, setS, AV.cells, AV.flat, AV.single, List.getD_cons_succ, List.getD_cons_zero, List.set_cons_succ, List.set_cons_zero, List.getElem?_cons_succ, List.getElem?_cons_zero, List.length_cons, List.length_nil, Bool.false_eq_true, if_false, if_true, true_and, and_true, List.all_cons, List.all_nil, Bool.and_true, Bool.true_and, Bool.not_true, Nat.zero_add, Nat.add_zero, beq_self_eq_true, List.map_cons, List.map_nil, decide_true, nbeq, decide_false, Bool.and_false, Nat.reduceAdd, Nat.reduceEqDiff, Nat.reduceLeDiff, Int.reduceAdd, ASch, St.put, Md.mem, Md.need, ne_eq, not_false_eq_true, ti3, ti24, ti25, ti64, aget_ints ha]
  refine ⟨by omega, acall_v (s91 n ls now[a.toNat] b hls) rfl rfl ?_⟩
  cases h4 : lnk ls now[a.toNat] b with
  | false =>
    simp only [w_assign, w_not, w_aop, w_take, w_some, w_anone, w_nil, w_cons, awp, asB, asN, St.ev, St.step, setS, killS, AV.kill, AV.killL, Mem.kill, ACond_true, ACond_false, List.getD_cons_succ, List.getD_cons_zero, List.set_cons_succ, List.set_cons_zero, List.getElem?_cons_succ, List.getElem?_cons_zero, List.contains_nil, List.isEmpty_nil, Option.getD_some, Bool.false_eq_true, if_false, if_true, true_and, Bool.true_and, Bool.not_false, Nat.reduceAdd, Int.reduceAdd, ASch, St.put, Md.mem, Md.need]
    exact aend_frz rfl ⟨by rw [refu, if_neg hc, hg, if_pos h4]; rfl, rfl⟩
  | true =>
    simp only [w_move, w_load, w_fieldAddr, w_not, w_callF, w_aop, w_take, w_some, w_asome, w_cons, awp, asP, asB, loadA, St.ev, St.step, setS, killS, AV.kill, AV.killL, Mem.kill, AV.cells, AV.flat, AV.single, ACond_false, List.getD_cons_succ, List.getD_cons_zero, List.set_cons_succ, List.set_cons_zero, List.getElem?_cons_succ, List.getElem?_cons_zero, List.length_cons, List.length_nil, List.contains_nil, List.isEmpty_nil, Bool.false_eq_true, if_false, if_true, true_and, and_true, List.all_cons, List.all_nil, Bool.and_true, Bool.true_and, Bool.not_true, Nat.zero_add, List.map_cons, List.map_nil, decide_true, nbeq, decide_false, Bool.and_false, Nat.reduceAdd, Nat.reduceEqDiff, Nat.reduceLeDiff, Int.reduceAdd, ASch, St.put, Md.mem, Md.need, ne_eq, not_false_eq_true, ti3, ti64]
    refine acall_v (s71 now b hl) rfl rfl ?_
    cases h5 : memL now b with
    | true =>
      simp only [w_assign, w_aop, w_some, w_anone, w_nil, w_cons, awp, asB, asN, St.ev, St.step, setS, killS, AV.kill, AV.killL, Mem.kill, ACond_true, ACond_false, List.getD_cons_succ, List.getD_cons_zero, List.set_cons_succ, List.set_cons_zero, List.contains_nil, List.isEmpty_nil, Option.getD_some, Bool.false_eq_true, if_false, if_true, Nat.reduceAdd, Int.reduceAdd]
      exact aend_frz rfl ⟨by rw [refu, if_neg hc, hg, if_neg (by rw [h4]; decide), if_pos h5]; rfl, rfl⟩
    | false =>
      simp only [w_assign, w_aop, w_some, w_anone, w_nil, w_cons, awp, asB, asN, St.ev, St.step, setS, killS, AV.kill, AV.killL, Mem.kill, ACond_false, List.getD_cons_succ, List.getD_cons_zero, List.set_cons_succ, List.set_cons_zero, List.contains_nil, List.isEmpty_nil, Option.getD_some, Bool.false_eq_true, if_false, if_true, Nat.reduceAdd, Int.reduceAdd]
      exact aend_frz rfl ⟨by rw [refu, if_neg hc, hg, if_neg (by rw [h4]; decide), if_neg (by rw [h5]; decide)]; rfl, rfl⟩

/-- a plan from its k-th move on. -/
def ckL (n : Int) (ls : List (Int × Int)) : List Int → List (Int × Int) → Nat → List Int × Int × Int
  | now, [], k => (now, (k : Int), 0)
  | now, m :: r, k => if refu n ls now m ≠ 0 then ([], (k : Int), refu n ls now m) else ckL n ls (nxt now m) r (k + 1)
def ckP (n : Int) (ls : List (Int × Int)) (l : List Int) (pl : List (Int × Int)) : List Int × Int × Int :=
  if vTP n ls l ≠ 0 then ([], 0, vTP n ls l) else if 400 < pl.length then ([], 0, 3) else ckL n ls l pl 0

theorem ckL_drop {n : Int} {ls : List (Int × Int)} {now : List Int} {pl : List (Int × Int)} {k : Nat} (h : k < pl.length) :
    ckL n ls now (pl.drop k) k = if refu n ls now pl[k] ≠ 0 then ([], (k : Int), refu n ls now pl[k]) else ckL n ls (nxt now pl[k]) (pl.drop (k + 1)) (k + 1) := by
  rw [List.drop_eq_getElem_cons h, ckL]
theorem ckL_end {n : Int} {ls : List (Int × Int)} {now : List Int} {pl : List (Int × Int)} {k : Nat} (h : pl.length ≤ k) : ckL n ls now (pl.drop k) k = (now, (k : Int), 0) := by
  rw [List.drop_eq_nil_of_le h, ckL]
theorem refu0 {n : Int} {ls : List (Int × Int)} {now : List Int} {m : Int × Int} (h : refu n ls now m = 0) : 0 ≤ m.1 ∧ m.1 < now.length ∧ 0 ≤ m.2 ∧ m.2 < n ∧ lnk ls (now.getD m.1.toNat 0) m.2 = true ∧ memL now m.2 = false := by
  unfold refu at h
  split at h
  · omega
  · split at h
    · omega
    · split at h
      · omega
      · rename_i h1 h2 h3
        exact ⟨by omega, by omega, by omega, by omega, by simpa using h2, by simpa using h3⟩

theorem ok33 : okFn Try.prog 33 = true := by kernel_rfl
theorem s33 (n : Int) (ls : List (Int × Int)) (l : List Int) (pl : List (Int × Int)) (hls : ls.length ≤ 1000000) (hl : l.length ≤ 1000000) : ASpec Try.prog 33 [trapA n ls, .s 1 (intsA l), .s 2 (prsA pl)] (fun r Ms => r = .t [.o 0, I (ckP n ls l pl).2.1, I (ckP n ls l pl).2.2] ∧ Ms = [⟨none, 3, 1, intsA (ckP n ls l pl).1⟩]) := by
  refine aspec_of (own := [6]) Try.func33 rfl ok33 ?_
  simp only [w_move, w_assign, w_box, w_load, w_callF, w_aop, w_some, w_asome, w_anone, w_nil, w_cons, awp, asP, asN, loadA, Aw.newRow, St.ev, St.step, setS, killS, AV.kill, AV.killL, Mem.kill, AV.cells, AV.flat, AV.single, AV.cellular, AV.pure, AV.pureL, ACond_false, List.getD_cons_succ, List.getD_cons_zero, List.set_cons_succ, List.set_cons_zero, List.getElem?_cons_zero, List.length_cons, List.length_nil, List.replicate_succ, List.replicate_zero, List.cons_append, List.nil_append, List.contains_nil, List.contains_cons, List.isEmpty_nil, Option.getD_some, Bool.false_eq_true, if_false, if_true, true_and, and_true, List.all_cons, List.all_nil, Bool.and_true, Bool.true_and, Bool.not_true, Nat.zero_add, Nat.add_zero, beq_self_eq_true, List.map_cons, List.map_nil, decide_true, nbeq, decide_false, Bool.or_false, Nat.reduceAdd, Nat.reduceEqDiff, Nat.reduceSub, Nat.reduceLeDiff, Int.reduceAdd, Int.reduceSub, ti3, ti24, ti25, Try.ntmps33, trapA]
  refine acall_v (s25 n ls l hls hl) rfl rfl ?_
  by_cases h : ¬ vTP n ls l = 0
  · simp only [w_move, w_assign, w_binOp, w_aop, w_some, w_asome, w_anone, w_nil, w_cons, awp, binC, cmpC, asB, asI, asN, Aw.newRow, St.ev, St.step, setS, killS, AV.kill, AV.killL, Mem.kill, ACond_true, ACond_false, List.getD_cons_succ, List.getD_cons_zero, List.set_cons_succ, List.set_cons_zero, List.length_cons, List.length_nil, List.cons_append, List.nil_append, List.contains_nil, List.contains_cons, List.isEmpty_nil, Option.getD_some, Bool.false_eq_true, if_false, if_true, true_and, Bool.true_and, Bool.not_false, Nat.zero_add, beq_self_eq_true, nbeq, decide_false, Bool.or_false, Nat.reduceAdd, Nat.reduceEqDiff, Int.reduceAdd, ti3, ti25, decide_eq_true h, decide_eq_false h]
    rw [show ckP n ls l pl = ([], 0, vTP n ls l) by rw [ckP, if_pos h]]
    exact aend_exp 1 rfl rfl rfl ⟨rfl, rfl⟩
  have hv : vTP n ls l = 0 := Decidable.not_not.1 h
  simp only [w_move, w_assign, w_binOp, w_len, w_aop, w_some, w_asome, w_anone, w_nil, w_cons, awp, binC, cmpC, asB, asI, asN, lenA, St.ev, St.step, setS, killS, AV.kill, AV.killL, Mem.kill, ACond_false, List.getD_cons_succ, List.getD_cons_zero, List.set_cons_succ, List.set_cons_zero, List.contains_nil, List.contains_cons, List.isEmpty_nil, Option.getD_some, Bool.false_eq_true, if_false, if_true, true_and, Bool.true_and, Bool.not_true, Option.isSome_some, nbeq, decide_false, Bool.or_false, Nat.reduceAdd, Nat.reduceEqDiff, Int.reduceAdd, ti42, decide_eq_true hv, prsA_len]
  by_cases h2 : (400 : Int) < pl.length
  · simp only [w_assign, w_aop, w_some, w_asome, w_anone, w_nil, w_cons, awp, asN, Aw.newRow, St.ev, St.step, setS, killS, AV.kill, AV.killL, Mem.kill, ACond_true, ACond_false, List.set_cons_succ, List.set_cons_zero, List.length_cons, List.length_nil, List.cons_append, List.nil_append, List.contains_nil, List.contains_cons, List.isEmpty_nil, Option.getD_some, Bool.false_eq_true, if_false, if_true, Nat.zero_add, beq_self_eq_true, nbeq, decide_false, Bool.or_false, Nat.reduceAdd, Nat.reduceEqDiff, Int.reduceAdd, ti3, ti25, decide_eq_true h2]
    rw [show ckP n ls l pl = ([], 0, 3) by rw [ckP, if_neg h, if_pos (by omega)]]
    exact aend_exp 1 rfl rfl rfl ⟨rfl, rfl⟩
  simp only [w_move, w_callF, w_aop, w_cons, awp, St.ev, St.step, setS, killS, AV.kill, AV.killL, Mem.kill, ACond_false, List.getD_cons_succ, List.getD_cons_zero, List.set_cons_succ, List.set_cons_zero, List.contains_nil, List.contains_cons, List.isEmpty_nil, Bool.false_eq_true, if_false, if_true, List.map_cons, List.map_nil, nbeq, decide_false, Bool.or_false, Nat.reduceAdd, Nat.reduceEqDiff, Int.reduceAdd, decide_eq_false h2]
  rw [show ckP n ls l pl = ckL n ls l pl 0 by rw [ckP, if_neg h, if_neg (by omega)]]
  refine acall_o (x := .o 0) (s59 l hl) rfl (intsA_pure l) ?_
  simp only [w_move, w_assign, w_len, w_aop, w_some, w_asome, w_anone, w_nil, w_cons, awp, asN, lenA, St.ev, St.step, setS, killS, AV.kill, AV.killL, Mem.kill, ACond_false, List.getD_cons_succ, List.getD_cons_zero, List.set_cons_succ, List.set_cons_zero, List.length_cons, List.length_nil, List.cons_append, List.nil_append, List.contains_nil, List.contains_cons, List.isEmpty_nil, Option.getD_some, Bool.false_eq_true, if_false, if_true, true_and, Bool.true_and, Option.isSome_some, Nat.zero_add, nbeq, decide_false, Bool.or_false, Nat.reduceAdd, Nat.reduceEqDiff, Int.reduceAdd, ti42, AV.up, AV.sub, prsA_len]
  refine swp_loop' (fun i : Nat × List Int => ⟨[.bot, .bot, .s 2 (prsA pl), .p (.g [I n, .s 2 (prsA ls)]) 0, .bot, .bot, .bot, .bot, .bot, .bot, .o 1, .bot, .bot, .bot, .bot, .bot, .bot, .bot, .bot, .bot, .bot, .bot, .bot, .bot, .bot, .s 2 (prsA pl), I pl.length, I i.1, .bot, .bot, .bot, .bot, .bot, .bot, .bot, .bot, .bot, .bot, .bot, .bot, .bot, .bot, .bot, .bot, .bot, .bot, .bot, .bot, .bot, .bot], [some ⟨none, 3, 1, []⟩, some ⟨none, 3, 1, intsA i.2⟩]⟩) (fun i => i.1 ≤ pl.length ∧ ckL n ls l pl 0 = ckL n ls i.2 (pl.drop i.1) i.1 ∧ i.2.length = l.length) (fun i => pl.length - i.1) (0, l) (le_sl (by simp [leSl, prsA_len])) ⟨Nat.zero_le _, by simp, rfl⟩ ?_
  rintro ⟨k, now⟩ ⟨hk, hck, hnl⟩
  simp only at hk hck hnl
  rw [hck]
  refine awp_sound (own := [6]) _ _ _ _ _ ?_
  simp only [w_binOp, w_aop, w_some, w_asome, w_nil, w_cons, awp, binC, cmpC, asB, asI, St.ev, St.step, setS, killS, AV.kill, AV.killL, Mem.kill, ACond_false, List.getD_cons_succ, List.getD_cons_zero, List.set_cons_succ, List.set_cons_zero, List.contains_nil, List.contains_cons, List.isEmpty_nil, Bool.false_eq_true, if_false, if_true, true_and, Bool.true_and, nbeq, decide_false, Bool.or_false, Nat.reduceAdd, Nat.reduceEqDiff, Int.reduceAdd]
  by_cases hkl : k < pl.length
  · have h' : (k : Int) < (pl.length : Int) := by omega
    simp only [w_move, w_assign, w_alloc, w_load, w_store, w_indexAddr, w_callF, w_aop, w_some, w_asome, w_anone, w_nil, w_cons, awp, idxC, asP, asQ, asS, asI, asN, obA, AGet_zero, loadA, storeA, putsA, mkA, Aw.newRow, St.ev, St.step, setS, killS, AV.kill, AV.killL, Mem.kill, AV.cells, AV.flat, AV.single, AV.cellular, ACond_true, ACond_false, List.getD_cons_succ, List.getD_cons_zero, List.set_cons_succ, List.set_cons_zero, List.getElem?_cons_succ, List.getElem?_cons_zero, List.length_cons, List.length_nil, List.cons_append, List.nil_append, List.contains_nil, List.contains_cons, List.isEmpty_nil, Option.getD_some, Bool.false_eq_true, if_false, if_true, true_and, and_true, List.all_cons, List.all_nil, Bool.and_true, Bool.true_and, Bool.not_true, Nat.zero_add, beq_self_eq_true, List.map_cons, List.map_nil, decide_true, nbeq, decide_false, Bool.or_false, Nat.reduceAdd, Nat.reduceEqDiff, Nat.reduceLeDiff, Int.reduceAdd, ti24, ti42, ti64, decide_eq_true h', aget_prs hkl, Int.toNat_natCast]
    refine ⟨by omega, acall_l (s74 n ls now pl[k].1 pl[k].2 hls (by omega)) (by simp [frz, AV.sub, AV.subL, trapA, intsA_pure, prsA_pure]) rfl rfl ?_⟩
    rw [ckL_drop hkl]
    by_cases hr : ¬ refu n ls now pl[k] = 0
    · have hr' : ¬ refu n ls now (pl[k].1, pl[k].2) = 0 := hr
      simp only [w_move, w_assign, w_binOp, w_aop, w_some, w_asome, w_anone, w_nil, w_cons, awp, binC, cmpC, asB, asI, asN, Aw.newRow, St.ev, St.step, setS, killS, AV.kill, AV.killL, Mem.kill, ACond_true, ACond_false, List.getD_cons_succ, List.getD_cons_zero, List.set_cons_succ, List.set_cons_zero, List.length_cons, List.length_nil, List.cons_append, List.nil_append, List.contains_nil, List.contains_cons, List.isEmpty_nil, Option.getD_some, Bool.false_eq_true, if_false, if_true, true_and, Bool.true_and, Bool.not_false, Nat.zero_add, beq_self_eq_true, nbeq, decide_false, Bool.or_false, Nat.reduceAdd, Nat.reduceEqDiff, Int.reduceAdd, ne_eq, ti3, ti25, decide_eq_true hr', decide_eq_false hr']
      rw [if_pos hr]
      exact aend_exp 3 rfl rfl rfl ⟨rfl, rfl⟩
    have hr0 : refu n ls now pl[k] = 0 := Decidable.not_not.1 hr
    have hr' : refu n ls now (pl[k].1, pl[k].2) = 0 := hr0
    obtain ⟨g1, g2, g3, g4, _⟩ := refu0 hr0
    have hai : pl[k].1.toNat < now.length := by omega
    simp only [w_move, w_assign, w_load, w_store, w_fieldAddr, w_indexAddr, w_binOp, w_aop, w_some, w_asome, w_anone, w_nil, w_cons, awp, binC, idxC, arithC, cmpC, asP, asQ, asO, asS, asB, asI, asN, obA, AGet_zero, loadA, storeA, putsA, St.ev, St.step, setS, killS, AV.kill, AV.killL, Mem.kill, AV.cells, AV.flat, AV.single, AV.cellular, ACond_false, Value.oneCell', List.getD_cons_succ, List.getD_cons_zero, List.set_cons_succ, List.set_cons_zero, List.getElem?_cons_succ, List.getElem?_cons_zero, List.length_cons, List.head?_cons, List.length_nil, List.contains_nil, List.contains_cons, List.isEmpty_nil, Option.getD_some, Bool.false_eq_true, if_false, if_true, true_and, and_true, List.all_cons, List.all_nil, Bool.and_true, Bool.true_and, Bool.not_true, Nat.zero_add, Nat.add_zero, beq_self_eq_true, decide_true, nbeq, decide_false, Bool.or_false, Bool.and_false, Nat.reduceAdd, Nat.reduceEqDiff, Nat.reduceLeDiff, Int.reduceAdd, ne_eq, not_false_eq_true, ti3, ti25, ti64, decide_eq_true hr', intsA_len, aget_ints hai, intsA_set]
    rw [if_neg hr]
    refine ⟨by omega, by unfold lim; omega, (k + 1, nxt now pl[k]), ?_, ⟨by simp only; omega, rfl, by simp [nxt, hnl]⟩, by simp only; omega⟩
    exact le_cut (Mx := [_]) (by simp [leSl]) rfl rfl (by simp [freeM, AV.freeL, freeL_pure, intsA_pure])
  · have h' : ¬ (k : Int) < (pl.length : Int) := by omega
    simp only [w_move, w_assign, w_len, w_aop, w_some, w_asome, w_anone, w_nil, w_cons, awp, asN, lenA, St.ev, St.step, setS, killS, AV.kill, AV.killL, Mem.kill, ACond_false, List.getD_cons_succ, List.getD_cons_zero, List.set_cons_succ, List.set_cons_zero, List.contains_nil, List.contains_cons, List.isEmpty_nil, Option.getD_some, Bool.false_eq_true, if_false, if_true, true_and, Bool.true_and, Option.isSome_some, beq_self_eq_true, nbeq, decide_false, Bool.or_false, Nat.reduceAdd, Nat.reduceEqDiff, Int.reduceAdd, ti42, decide_eq_false h', prsA_len]
    rw [ckL_end (by omega)]
    have : k = pl.length := by omega
    subst this
    exact aend_exp 1 rfl rfl (intsA_pure _) ⟨rfl, rfl⟩

theorem ok34 : okFn Try.prog 34 = true := by kernel_rfl
theorem s34 (n : Int) (ls : List (Int × Int)) (l : List Int) (pl : List (Int × Int)) (hls : ls.length ≤ 1000000) (hl : l.length ≤ 1000000) : ASpec Try.prog 34 [trapA n ls, .s 1 (intsA l), .s 2 (prsA pl)] (fun r Ms => r = .t [.o 0, I (ckP n ls l pl).2.1, I (ckP n ls l pl).2.2] ∧ Ms = [⟨none, 3, 1, intsA (ckP n ls l pl).1⟩]) := by
  refine aspec_of (own := [6, 22]) Try.func34 rfl ok34 ?_
  simp only [w_move, w_assign, w_box, w_load, w_callF, w_aop, w_some, w_asome, w_anone, w_nil, w_cons, awp, asP, asN, loadA, Aw.newRow, St.ev, St.step, setS, killS, AV.kill, AV.killL, Mem.kill, AV.cells, AV.flat, AV.single, AV.cellular, AV.pure, AV.pureL, ACond_false, List.getD_cons_succ, List.getD_cons_zero, List.set_cons_succ, List.set_cons_zero, List.getElem?_cons_zero, List.length_cons, List.length_nil, List.replicate_succ, List.replicate_zero, List.cons_append, List.nil_append, List.contains_nil, List.contains_cons, List.isEmpty_nil, Option.getD_some, Bool.false_eq_true, if_false, if_true, true_and, and_true, List.all_cons, List.all_nil, Bool.and_true, Bool.true_and, Bool.not_true, Nat.zero_add, Nat.add_zero, beq_self_eq_true, List.map_cons, List.map_nil, decide_true, nbeq, decide_false, Bool.or_false, Nat.reduceAdd, Nat.reduceEqDiff, Nat.reduceSub, Nat.reduceLeDiff, Int.reduceAdd, Int.reduceSub, ti3, ti24, ti25, Try.ntmps34, trapA]
  refine acall_v (s26 n ls l hls hl) rfl rfl ?_
  by_cases h : ¬ vTP n ls l = 0
  · simp only [w_move, w_assign, w_binOp, w_aop, w_some, w_asome, w_anone, w_nil, w_cons, awp, binC, cmpC, asB, asI, asN, Aw.newRow, St.ev, St.step, setS, killS, AV.kill, AV.killL, Mem.kill, ACond_true, ACond_false, List.getD_cons_succ, List.getD_cons_zero, List.set_cons_succ, List.set_cons_zero, List.length_cons, List.length_nil, List.cons_append, List.nil_append, List.contains_nil, List.contains_cons, List.isEmpty_nil, Option.getD_some, Bool.false_eq_true, if_false, if_true, true_and, Bool.true_and, Bool.not_false, Nat.zero_add, beq_self_eq_true, nbeq, decide_false, Bool.or_false, Nat.reduceAdd, Nat.reduceEqDiff, Int.reduceAdd, ti3, ti25, decide_eq_true h, decide_eq_false h]
    rw [show ckP n ls l pl = ([], 0, vTP n ls l) by rw [ckP, if_pos h]]
    exact aend_exp 1 rfl rfl rfl ⟨rfl, rfl⟩
  have hv : vTP n ls l = 0 := Decidable.not_not.1 h
  simp only [w_move, w_assign, w_binOp, w_len, w_aop, w_some, w_asome, w_anone, w_nil, w_cons, awp, binC, cmpC, asB, asI, asN, lenA, St.ev, St.step, setS, killS, AV.kill, AV.killL, Mem.kill, ACond_false, List.getD_cons_succ, List.getD_cons_zero, List.set_cons_succ, List.set_cons_zero, List.contains_nil, List.contains_cons, List.isEmpty_nil, Option.getD_some, Bool.false_eq_true, if_false, if_true, true_and, Bool.true_and, Bool.not_true, Option.isSome_some, nbeq, decide_false, Bool.or_false, Nat.reduceAdd, Nat.reduceEqDiff, Int.reduceAdd, ti42, decide_eq_true hv, prsA_len]
  by_cases h2 : (400 : Int) < pl.length
  · simp only [w_assign, w_aop, w_some, w_asome, w_anone, w_nil, w_cons, awp, asN, Aw.newRow, St.ev, St.step, setS, killS, AV.kill, AV.killL, Mem.kill, ACond_true, ACond_false, List.set_cons_succ, List.set_cons_zero, List.length_cons, List.length_nil, List.cons_append, List.nil_append, List.contains_nil, List.contains_cons, List.isEmpty_nil, Option.getD_some, Bool.false_eq_true, if_false, if_true, Nat.zero_add, beq_self_eq_true, nbeq, decide_false, Bool.or_false, Nat.reduceAdd, Nat.reduceEqDiff, Int.reduceAdd, ti3, ti25, decide_eq_true h2]
    rw [show ckP n ls l pl = ([], 0, 3) by rw [ckP, if_neg h, if_pos (by omega)]]
    exact aend_exp 1 rfl rfl rfl ⟨rfl, rfl⟩
  simp only [w_move, w_assign, w_buildSlice, w_append, w_aop, w_some, w_asome, w_anone, w_nil, w_cons, awp, asO, asS, asN, obA, Aw.newRow, St.ev, St.step, setS, killS, AV.kill, AV.killL, Mem.kill, AV.cells, AV.flat, AV.single, AV.cellular, ACond_true, ACond_false, Value.oneCell', List.getD_cons_succ, List.getD_cons_zero, List.set_cons_succ, List.set_cons_zero, List.getElem?_cons_succ, List.getElem?_cons_zero, List.length_cons, List.length_nil, List.cons_append, List.nil_append, List.contains_nil, List.contains_cons, List.isEmpty_nil, List.isEmpty_cons, Option.getD_some, Bool.false_eq_true, if_false, if_true, true_and, and_true, List.all_nil, Bool.and_true, Bool.true_and, Nat.zero_add, beq_self_eq_true, List.map_cons, List.map_nil, nbeq, decide_false, Bool.or_false, Bool.or_true, Nat.reduceAdd, Nat.reduceEqDiff, Nat.reduceMul, Nat.reduceLeDiff, Int.reduceAdd, Int.reduceMul, Option.map_some, ti3, ti25, decide_eq_false h2, intsA_len]
  rw [show ckP n ls l pl = ckL n ls l pl 0 by rw [ckP, if_neg h, if_neg (by omega)]]
  refine ⟨⟨by decide, rfl⟩, ⟨by decide, by omega⟩, ?_⟩
  refine swp_loop' (fun i : Nat × List Int => ⟨[.bot, .bot, .s 2 (prsA pl), .p (.g [I n, .s 2 (prsA ls)]) 0, .bot, .bot, .bot, .bot, .bot, .bot, .o 1, I i.1, .bot, .bot, .bot, .bot, .bot, .bot, .bot, .bot, .bot, .bot, .bot, .bot, .bot, .bot, .bot, .bot, .bot, .bot, .bot, .bot, .bot, .bot, .bot, .bot, .bot, .bot, .bot, .bot, .bot, .bot, .bot, .bot, .bot, .bot, .bot, .bot, .bot, .bot, .bot, .bot, .bot, .bot, .bot, .bot, .bot, .bot, .bot, .bot, .bot, .bot, .bot, .bot, .bot, .bot, .bot, .bot, .bot, .bot, .bot, .bot, .bot, .bot, .bot, .bot, .bot, .bot, .bot, .bot, .bot, .bot, .bot], [some ⟨none, 3, 1, []⟩, some ⟨none, 3, 1, intsA i.2⟩]⟩) (fun i => i.1 ≤ pl.length ∧ ckL n ls l pl 0 = ckL n ls i.2 (pl.drop i.1) i.1 ∧ i.2.length = l.length) (fun i => pl.length - i.1) (0, l) (le_sl (by simp [leSl, prsA_len])) ⟨Nat.zero_le _, by simp, rfl⟩ ?_
  rintro ⟨k, now⟩ ⟨hk, hck, hnl⟩
  simp only at hk hck hnl
  rw [hck]
  refine awp_sound (own := [6, 22]) _ _ _ _ _ ?_
  simp only [w_move, w_binOp, w_len, w_aop, w_some, w_asome, w_nil, w_cons, awp, binC, cmpC, asB, asI, lenA, St.ev, St.step, setS, killS, AV.kill, AV.killL, Mem.kill, ACond_false, List.getD_cons_succ, List.getD_cons_zero, List.set_cons_succ, List.set_cons_zero, List.contains_nil, List.contains_cons, List.isEmpty_nil, Bool.false_eq_true, if_false, if_true, true_and, Bool.true_and, Option.isSome_some, nbeq, decide_false, Bool.or_false, Nat.reduceAdd, Nat.reduceEqDiff, Int.reduceAdd, ti42, prsA_len]
  by_cases hkl : k < pl.length
  case neg =>
    have h' : ¬ (k : Int) < (pl.length : Int) := by omega
    simp only [w_move, w_assign, w_len, w_aop, w_some, w_asome, w_anone, w_nil, w_cons, awp, asN, lenA, St.ev, St.step, setS, killS, AV.kill, AV.killL, Mem.kill, ACond_false, List.getD_cons_succ, List.getD_cons_zero, List.set_cons_succ, List.set_cons_zero, List.contains_nil, List.contains_cons, List.isEmpty_nil, Option.getD_some, Bool.false_eq_true, if_false, if_true, true_and, Bool.true_and, Option.isSome_some, beq_self_eq_true, nbeq, decide_false, Bool.or_false, Nat.reduceAdd, Nat.reduceEqDiff, Int.reduceAdd, ti42, decide_eq_false h', prsA_len]
    rw [ckL_end (by omega)]
    have : k = pl.length := by omega
    subst this
    exact aend_exp 1 rfl rfl (intsA_pure _) ⟨rfl, rfl⟩
  have h' : (k : Int) < (pl.length : Int) := by omega
  simp only [w_move, w_alloc, w_load, w_store, w_fieldAddr, w_indexAddr, w_binOp, w_aop, w_aopg, w_gdb, w_some, w_asome, w_anone, w_nil, w_cons, awp, binC, idxC, cmpC, asP, asQ, asS, asI, obA, AGet_zero, loadA, storeA, putsA, mkA, Aw.newRow, St.ev, St.step, setS, killS, AV.kill, AV.killL, Mem.kill, AV.cells, AV.flat, AV.single, AV.cellular, ACond_true, ACond_false, List.getD_cons_succ, List.getD_cons_zero, List.set_cons_succ, List.set_cons_zero, List.getElem?_cons_succ, List.getElem?_cons_zero, List.length_cons, List.length_nil, List.cons_append, List.nil_append, List.contains_nil, List.contains_cons, List.isEmpty_nil, Bool.false_eq_true, if_false, if_true, true_and, and_true, List.all_cons, List.all_nil, Bool.and_true, Bool.true_and, Bool.not_true, Nat.zero_add, Nat.add_zero, beq_self_eq_true, List.map_cons, List.map_nil, decide_true, nbeq, decide_false, Bool.or_false, Bool.and_false, Nat.reduceAdd, Nat.reduceEqDiff, Nat.reduceLeDiff, Int.reduceAdd, Option.bind_some, ne_eq, not_false_eq_true, w_bf, ti3, ti42, ti64, decide_eq_true h', aget_prs hkl, Int.toNat_natCast]
  rw [ckL_drop hkl]
  refine ⟨by omega, ?_⟩
  have four : pl[k].1 < 0 ∨ (now.length : Int) ≤ pl[k].1 ∨ ¬ (0 ≤ pl[k].2 ∧ pl[k].2 < n) → refu n ls now pl[k] = 4 := refu_bad
  by_cases c1 : pl[k].1 < 0
  · simp only [w_move, w_assign, w_pick, w_aop, w_aopg, w_gdb, w_some, w_asome, w_anone, w_nil, w_cons, awp, asB, asN, Aw.newRow, St.ev, St.step, setS, killS, AV.kill, AV.killL, Mem.kill, ACond_true, ACond_false, List.getD_cons_succ, List.getD_cons_zero, List.set_cons_succ, List.set_cons_zero, List.getElem?_cons_succ, List.getElem?_cons_zero, List.length_cons, List.length_nil, List.cons_append, List.nil_append, List.contains_nil, List.contains_cons, List.isEmpty_nil, Option.getD_some, Bool.false_eq_true, if_false, if_true, Bool.not_true, Nat.zero_add, beq_self_eq_true, nbeq, decide_false, Bool.or_false, Nat.reduceAdd, Nat.reduceEqDiff, Int.reduceAdd, Option.bind_some, ne_eq, w_bf, ti3, ti25, decide_eq_true c1]
    rw [four (.inl c1), if_pos (by decide)]
    exact aend_exp 3 rfl rfl rfl ⟨rfl, rfl⟩
  simp only [w_move, w_pick, w_load, w_fieldAddr, w_binOp, w_len, w_aop, w_aopg, w_gdb, w_some, w_asome, w_anone, w_cons, binC, cmpC, asP, asQ, asB, asI, obA, AGet_zero, lenA, loadA, St.ev, St.step, setS, killS, AV.kill, AV.killL, Mem.kill, AV.cells, AV.flat, AV.single, ACond_true, ACond_false, List.getD_cons_succ, List.getD_cons_zero, List.set_cons_succ, List.set_cons_zero, List.getElem?_cons_succ, List.getElem?_cons_zero, List.length_cons, List.length_nil, List.contains_nil, List.isEmpty_nil, Bool.false_eq_true, if_false, if_true, true_and, and_true, List.all_cons, List.all_nil, Bool.and_true, Bool.true_and, Bool.not_true, Bool.not_false, Option.isSome_some, Nat.zero_add, Nat.add_zero, beq_self_eq_true, decide_true, nbeq, decide_false, Bool.and_false, Nat.reduceAdd, Nat.reduceEqDiff, Nat.reduceLeDiff, Int.reduceAdd, Option.bind_some, ne_eq, not_false_eq_true, w_bf, ti3, ti25, ti64, decide_eq_false c1, intsA_len]
  by_cases c2 : (now.length : Int) ≤ pl[k].1
  · simp only [w_move, w_assign, w_pick, w_aop, w_aopg, w_gdb, w_some, w_asome, w_anone, w_nil, w_cons, awp, asB, asN, Aw.newRow, St.ev, St.step, setS, killS, AV.kill, AV.killL, Mem.kill, ACond_true, ACond_false, List.getD_cons_succ, List.getD_cons_zero, List.set_cons_succ, List.set_cons_zero, List.getElem?_cons_succ, List.getElem?_cons_zero, List.length_cons, List.length_nil, List.cons_append, List.nil_append, List.contains_nil, List.contains_cons, List.isEmpty_nil, Option.getD_some, Bool.false_eq_true, if_false, if_true, Bool.not_true, Nat.zero_add, beq_self_eq_true, nbeq, decide_false, Bool.or_false, Nat.reduceAdd, Nat.reduceEqDiff, Int.reduceAdd, Option.bind_some, ne_eq, w_bf, ti3, ti25, decide_eq_true c2]
    rw [four (.inr (.inl c2)), if_pos (by decide)]
    exact aend_exp 3 rfl rfl rfl ⟨rfl, rfl⟩
  simp only [w_move, w_pick, w_load, w_fieldAddr, w_binOp, w_aop, w_aopg, w_gdb, w_some, w_asome, w_anone, w_cons, binC, cmpC, asP, asQ, asB, asI, obA, AGet_zero, loadA, St.ev, St.step, setS, killS, AV.kill, AV.killL, Mem.kill, AV.cells, AV.flat, AV.single, ACond_true, ACond_false, List.getD_cons_succ, List.getD_cons_zero, List.set_cons_succ, List.set_cons_zero, List.getElem?_cons_succ, List.getElem?_cons_zero, List.length_cons, List.length_nil, List.contains_nil, List.isEmpty_nil, Bool.false_eq_true, if_false, if_true, true_and, and_true, List.all_cons, List.all_nil, Bool.and_true, Bool.true_and, Bool.not_true, Bool.not_false, Nat.zero_add, beq_self_eq_true, decide_true, nbeq, decide_false, Bool.and_false, Nat.reduceAdd, Nat.reduceEqDiff, Nat.reduceLeDiff, Int.reduceAdd, Option.bind_some, ne_eq, not_false_eq_true, w_bf, ti3, ti64, decide_eq_false c2]
  by_cases c3 : pl[k].2 < 0
  · simp only [w_move, w_assign, w_pick, w_aop, w_aopg, w_gdb, w_some, w_asome, w_anone, w_nil, w_cons, awp, asB, asN, Aw.newRow, St.ev, St.step, setS, killS, AV.kill, AV.killL, Mem.kill, ACond_true, ACond_false, List.getD_cons_succ, List.getD_cons_zero, List.set_cons_succ, List.set_cons_zero, List.getElem?_cons_succ, List.getElem?_cons_zero, List.length_cons, List.length_nil, List.cons_append, List.nil_append, List.contains_nil, List.contains_cons, List.isEmpty_nil, Option.getD_some, Bool.false_eq_true, if_false, if_true, Bool.not_true, Nat.zero_add, beq_self_eq_true, nbeq, decide_false, Bool.or_false, Nat.reduceAdd, Nat.reduceEqDiff, Int.reduceAdd, Option.bind_some, ne_eq, w_bf, ti3, ti25, decide_eq_true c3]
    rw [four (.inr (.inr (by omega))), if_pos (by decide)]
    exact aend_exp 3 rfl rfl rfl ⟨rfl, rfl⟩
  simp only [w_pick, w_load, w_fieldAddr, w_binOp, w_aop, w_aopg, w_gdb, w_some, w_asome, w_anone, w_nil, w_cons, awp, binC, cmpC, asP, asQ, asB, asI, obA, AGet_zero, loadA, St.ev, St.step, setS, killS, AV.kill, AV.killL, Mem.kill, AV.cells, AV.flat, AV.single, ACond_true, ACond_false, List.getD_cons_succ, List.getD_cons_zero, List.set_cons_succ, List.set_cons_zero, List.getElem?_cons_succ, List.getElem?_cons_zero, List.length_cons, List.length_nil, List.contains_nil, List.isEmpty_nil, Bool.false_eq_true, if_false, if_true, true_and, and_true, List.all_cons, List.all_nil, Bool.and_true, Bool.true_and, Bool.not_true, Bool.not_false, Nat.zero_add, Nat.add_zero, beq_self_eq_true, decide_true, nbeq, decide_false, Bool.and_false, Nat.reduceAdd, Nat.reduceEqDiff, Nat.reduceLeDiff, Int.reduceAdd, Option.bind_some, ne_eq, not_false_eq_true, ti3, ti24, ti64, decide_eq_false c3]
  by_cases c4 : n ≤ pl[k].2
  · simp only [w_move, w_assign, w_aop, w_some, w_asome, w_anone, w_nil, w_cons, awp, asN, Aw.newRow, St.ev, St.step, setS, killS, AV.kill, AV.killL, Mem.kill, ACond_true, ACond_false, List.getD_cons_succ, List.getD_cons_zero, List.set_cons_succ, List.set_cons_zero, List.length_cons, List.length_nil, List.cons_append, List.nil_append, List.contains_nil, List.contains_cons, List.isEmpty_nil, Option.getD_some, Bool.false_eq_true, if_false, if_true, Nat.zero_add, beq_self_eq_true, nbeq, decide_false, Bool.or_false, Nat.reduceAdd, Nat.reduceEqDiff, Int.reduceAdd, ne_eq, ti3, ti25, decide_eq_true c4]
    rw [four (.inr (.inr (by omega))), if_pos (by decide)]
    exact aend_exp 3 rfl rfl rfl ⟨rfl, rfl⟩
  simp only [awp, ACond_false, decide_eq_false c4]
  have hc : ¬ (pl[k].1 < 0 ∨ (now.length : Int) ≤ pl[k].1 ∨ ¬ (0 ≤ pl[k].2 ∧ pl[k].2 < n)) := by omega
  have hai : pl[k].1.toNat < now.length := by omega
  have hg : now.getD pl[k].1.toNat 0 = now[pl[k].1.toNat] := by rw [List.getD_eq_getElem?_getD, List.getElem?_eq_getElem hai]; rfl
  refine swp_draw (own := [6, 22]) (.take 0 .reads [] (.take 1 .plain [] (.take 2 .plain [] (.take 3 .reads [] (.take 4 .reads [] (.take 5 .reads [] (.take 6 .plain [] (.take 7 .reads [] (.alt 8 (.take 9 .plain [] (.done)) (.nil)))))))))) [⟨59, 8, 0, 0, true⟩, ⟨60, 1024, 0, 0, true⟩, ⟨61, 4096, 0, 0, true⟩, ⟨62, 1152921504606846976, 4, 0, true⟩, ⟨63, 2882303761517117440, 10, 0, true⟩, ⟨64, 4611686018427387904, 16, 0, true⟩, ⟨65, 4096, 0, 0, true⟩, ⟨66, 18446744073709551616, 64, 0, true⟩, ⟨67, 46405090560425590784, 161, 0, false⟩, ⟨68, 73786976294838206464, 256, 0, true⟩] mo (by kernel_rfl) ?_
  simp only [w_move, w_load, w_fieldAddr, w_indexAddr, w_callF, w_aop, w_take, w_some, w_asome, w_anone, idxC, asP, asQ, asO, asS, asI, obA, AGet_zero, loadA, St.ev, setS, AV.cells, AV.flat, AV.single, List.getD_cons_succ, List.getD_cons_zero, List.set_cons_succ, List.set_cons_zero, List.getElem?_cons_succ, List.getElem?_cons_zero, List.length_cons, List.length_nil, Bool.false_eq_true, if_false, if_true, true_and, and_true, List.all_cons, List.all_nil, Bool.and_true, Bool.true_and, Bool.not_true, Nat.zero_add, Nat.add_zero, beq_self_eq_true, List.map_cons, List.map_nil, decide_true, nbeq, decide_false, Bool.and_false, Nat.reduceAdd, Nat.reduceEqDiff, Nat.reduceLeDiff, Int.reduceAdd, ASch, St.put, Md.mem, Md.need, ne_eq, not_false_eq_true, ti3, ti24, ti25, ti64, intsA_len, aget_ints hai]
  refine ⟨by omega, acall_v (s73 n ls now[pl[k].1.toNat] pl[k].2 hls) rfl rfl ?_⟩
  cases h4 : lnk ls now[pl[k].1.toNat] pl[k].2 with
  | false =>
    simp only [w_move, w_assign, w_not, w_aop, w_take, w_some, w_asome, w_anone, w_nil, w_cons, awp, asB, asN, Aw.newRow, St.ev, St.step, setS, killS, AV.kill, AV.killL, Mem.kill, ACond_true, ACond_false, List.getD_cons_succ, List.getD_cons_zero, List.set_cons_succ, List.set_cons_zero, List.getElem?_cons_succ, List.getElem?_cons_zero, List.length_cons, List.length_nil, List.cons_append, List.nil_append, List.contains_nil, List.contains_cons, List.isEmpty_nil, Option.getD_some, Bool.false_eq_true, if_false, if_true, true_and, Bool.true_and, Bool.not_false, Nat.zero_add, beq_self_eq_true, nbeq, decide_false, Bool.or_false, Nat.reduceAdd, Nat.reduceEqDiff, Int.reduceAdd, ASch, St.put, Md.mem, Md.need, ne_eq, ti3, ti25]
    rw [show refu n ls now pl[k] = 8 by rw [refu, if_neg hc, hg, if_pos h4], if_pos (by decide)]
    exact aend_exp 3 rfl rfl rfl ⟨rfl, rfl⟩
  | true =>
    simp only [w_move, w_load, w_fieldAddr, w_not, w_callF, w_aop, w_take, w_some, w_anone, w_cons, awp, asP, asQ, asB, obA, AGet_zero, loadA, St.ev, St.step, setS, killS, AV.kill, AV.killL, Mem.kill, AV.cells, AV.flat, AV.single, ACond_false, List.getD_cons_succ, List.getD_cons_zero, List.set_cons_succ, List.set_cons_zero, List.getElem?_cons_succ, List.getElem?_cons_zero, List.length_cons, List.length_nil, List.contains_nil, List.contains_cons, List.isEmpty_nil, Bool.false_eq_true, if_false, if_true, true_and, and_true, List.all_cons, List.all_nil, Bool.and_true, Bool.true_and, Bool.not_true, Nat.zero_add, List.map_cons, List.map_nil, decide_true, nbeq, decide_false, Bool.or_false, Bool.and_false, Nat.reduceAdd, Nat.reduceEqDiff, Nat.reduceLeDiff, Int.reduceAdd, ASch, St.put, Md.mem, Md.need, ne_eq, not_false_eq_true, ti3, ti64]
    refine acall_l (s70 now pl[k].2 (by omega)) (by simp [frz, AV.sub, intsA_pure]) rfl rfl ?_
    cases h5 : memL now pl[k].2 with
    | true =>
      simp only [w_move, w_assign, w_aop, w_some, w_asome, w_anone, w_nil, w_cons, awp, asB, asN, Aw.newRow, St.ev, St.step, setS, killS, AV.kill, AV.killL, Mem.kill, ACond_true, ACond_false, List.getD_cons_succ, List.getD_cons_zero, List.set_cons_succ, List.set_cons_zero, List.length_cons, List.length_nil, List.cons_append, List.nil_append, List.contains_nil, List.contains_cons, List.isEmpty_nil, Option.getD_some, Bool.false_eq_true, if_false, if_true, Nat.zero_add, beq_self_eq_true, nbeq, decide_false, Bool.or_false, Nat.reduceAdd, Nat.reduceEqDiff, Int.reduceAdd, ne_eq, ti3, ti25]
      rw [show refu n ls now pl[k] = 6 by rw [refu, if_neg hc, hg, if_neg (by rw [h4]; decide), if_pos h5], if_pos (by decide)]
      exact aend_exp 3 rfl rfl rfl ⟨rfl, rfl⟩
    | false =>
      have hr0 : refu n ls now pl[k] = 0 := by rw [refu, if_neg hc, hg, if_neg (by rw [h4]; decide), if_neg (by rw [h5]; decide)]
      simp only [w_move, w_assign, w_load, w_store, w_fieldAddr, w_indexAddr, w_binOp, w_aop, w_some, w_asome, w_anone, w_nil, w_cons, awp, binC, idxC, arithC, cmpC, asP, asQ, asO, asS, asB, asI, asN, obA, AGet_zero, loadA, storeA, putsA, St.ev, St.step, setS, killS, AV.kill, AV.killL, Mem.kill, AV.cells, AV.flat, AV.single, AV.cellular, ACond_false, Value.oneCell', List.getD_cons_succ, List.getD_cons_zero, List.set_cons_succ, List.set_cons_zero, List.getElem?_cons_succ, List.getElem?_cons_zero, List.length_cons, List.head?_cons, List.length_nil, List.contains_nil, List.contains_cons, List.isEmpty_nil, Option.getD_some, Bool.false_eq_true, if_false, if_true, true_and, and_true, List.all_cons, List.all_nil, Bool.and_true, Bool.true_and, Bool.not_true, Nat.zero_add, Nat.add_zero, beq_self_eq_true, decide_true, nbeq, decide_false, Bool.or_false, Bool.and_false, Nat.reduceAdd, Nat.reduceEqDiff, Nat.reduceLeDiff, Int.reduceAdd, ne_eq, not_false_eq_true, ti3, ti25, ti64, intsA_len, aget_ints hai, intsA_set]
      rw [if_neg (by rw [hr0]; decide)]
      refine ⟨by omega, by unfold lim; omega, (k + 1, nxt now pl[k]), ?_, ⟨by simp only; omega, rfl, by simp [nxt, hnl]⟩, by simp only; omega⟩
      exact le_cut (Mx := [_]) (by simp [leSl]) rfl rfl (by simp [freeM, AV.freeL, freeL_pure, intsA_pure])
end Go.Proofs.Ytkolpijhgcijbaa

namespace Go.Proofs.Ytkolpijhgcijbaa
open Aw Go.RowKit
set_option linter.unusedSimpArgs false

theorem numL_take {l : List Int} {i : Nat} (h : i < l.length) : numL (l.take (i + 1)) = 6 * numL (l.take i) + l[i] := by
  unfold numL; rw [List.take_succ_eq_append_getElem h, List.foldl_append]; rfl

theorem ok63 : okFn Try.prog 63 = true := by kernel_rfl
theorem s63 (n : Int) (l : List Int) (hn : n ≤ 6) (hl4 : l.length ≤ 4) (hl : okPl n l.length l) : ASpec Try.prog 63 [.s 1 (intsA l)] (fun r Ms => r = I (numL l) ∧ Ms = []) := by
  refine aspec_of (own := []) Try.func63 rfl ok63 ?_
  simp only [w_assign, w_aop, w_anone, w_nil, w_cons, awp, asN, St.ev, St.step, setS, killS, AV.kill, AV.killL, Mem.kill, ACond_false, List.set_cons_succ, List.set_cons_zero, List.length_cons, List.length_nil, List.replicate_succ, List.replicate_zero, List.cons_append, List.nil_append, List.contains_nil, List.isEmpty_nil, Option.getD_some, Bool.false_eq_true, if_false, if_true, Nat.zero_add, Nat.add_zero, Nat.reduceAdd, Nat.reduceSub, Int.reduceAdd, Int.reduceSub, Try.ntmps63]
  refine swp_loop' (fun i : Nat => ⟨[.s 1 (intsA l), .bot, .bot, I (numL (l.take i)), I i, .bot, .bot, .bot, .bot, .bot, .bot, .bot, .bot, .bot, .bot, .bot, .bot, .bot, .bot], []⟩) (fun i => i ≤ l.length) (fun i => l.length - i) 0 (le_sl (by simp [leSl, numL])) (Nat.zero_le _) ?_
  intro i hi
  refine awp_sound (own := []) _ _ _ _ _ ?_
  simp only [w_move, w_binOp, w_len, w_aop, w_some, w_asome, w_nil, w_cons, awp, binC, cmpC, asB, asI, lenA, St.ev, St.step, setS, killS, AV.kill, AV.killL, Mem.kill, ACond_false, List.getD_cons_succ, List.getD_cons_zero, List.set_cons_succ, List.set_cons_zero, List.contains_nil, List.isEmpty_nil, if_true, true_and, Bool.true_and, Option.isSome_some, Nat.reduceAdd, Int.reduceAdd, ti25, intsA_len]
  have hb := numL_lt hn (l.take i) (fun x hx => hl.2 x (List.mem_of_mem_take hx))
  have hp := pow_le (k := (l.take i).length) (by simp; omega)
  by_cases h : i < l.length
  · have h' : (i : Int) < (l.length : Int) := by omega
    have hx := hl.2 l[i] (List.getElem_mem h)
    simp only [w_move, w_assign, w_load, w_indexAddr, w_binOp, w_aop, w_some, w_asome, w_anone, w_nil, w_cons, awp, binC, idxC, arithC, cmpC, asP, asS, asI, asN, loadA, St.ev, St.step, setS, killS, AV.kill, AV.killL, Mem.kill, AV.cells, AV.flat, AV.single, ACond_true, ACond_false, List.getD_cons_succ, List.getD_cons_zero, List.set_cons_succ, List.set_cons_zero, List.getElem?_cons_zero, List.contains_nil, List.isEmpty_nil, Option.getD_some, Bool.false_eq_true, if_false, if_true, true_and, and_true, List.all_cons, List.all_nil, Bool.and_true, Bool.true_and, Bool.not_true, Nat.reduceAdd, Int.reduceAdd, ti3, ti25, decide_eq_true h', aget_ints h, Int.toNat_natCast]
    have hb' := numL_lt hn (l.take (i + 1)) (fun x hx => hl.2 x (List.mem_of_mem_take hx))
    have hp' := pow_le (k := (l.take (i + 1)).length) (by simp; omega)
    rw [← numL_take h]
    exact ⟨by unfold lim; omega, by omega, by unfold lim; omega, by unfold lim; omega, i + 1, le_sl (by simp [leSl]), by omega, by omega⟩
  · have h' : ¬ (i : Int) < (l.length : Int) := by omega
    simp only [w_move, w_assign, w_aop, w_anone, w_nil, w_cons, awp, asN, St.ev, St.step, setS, killS, AV.kill, AV.killL, Mem.kill, ACond_false, List.getD_cons_succ, List.getD_cons_zero, List.set_cons_succ, List.set_cons_zero, List.contains_nil, List.isEmpty_nil, Option.getD_some, Bool.false_eq_true, if_false, if_true, Nat.reduceAdd, Int.reduceAdd, decide_eq_false h']
    rw [List.take_of_length_le (by omega)]
    exact aend_frz rfl ⟨rfl, rfl⟩

/-- the table: for the number of each place, how far it is. -/
def tabN (k : Nat) (L : List Nd) : List Int := L.foldl (fun t x => t.set (numL x.pl).toNat x.far) (List.replicate (6 ^ k) 1000000)

theorem tabN_snoc (k : Nat) (L : List Nd) (x : Nd) : tabN k (L ++ [x]) = (tabN k L).set (numL x.pl).toNat x.far := by simp [tabN]
theorem tab_len (L : List Nd) : ∀ t : List Int, (L.foldl (fun t x => t.set (numL x.pl).toNat x.far) t).length = t.length := by
  induction L with
  | nil => intro t; rfl
  | cons x L ih => intro t; rw [List.foldl_cons, ih]; simp
theorem tabN_len (k : Nat) (L : List Nd) : (tabN k L).length = 6 ^ k := by rw [tabN, tab_len]; simp

theorem numL_idx {n : Int} (hn : n ≤ 6) {k : Nat} {p : List Int} (hp : okPl n k p) : 0 ≤ numL p ∧ (numL p).toNat < 6 ^ k := by
  obtain ⟨h1, h2⟩ := numL_lt hn p hp.2
  refine ⟨h1, ?_⟩
  rw [hp.1] at h2
  have e : ((6 ^ k : Nat) : Int) = (6 : Int) ^ k := by simp
  omega
theorem numL_toNat {n : Int} (hn : n ≤ 6) {k : Nat} {p q : List Int} (hp : okPl n k p) (hq : okPl n k q) (h : (numL p).toNat = (numL q).toNat) : p = q := by
  have h1 := (numL_lt hn p hp.2).1
  have h2 := (numL_lt hn q hq.2).1
  exact numL_inj hn p q (by rw [hp.1, hq.1]) hp.2 hq.2 (by omega)

theorem tab_at_not {n : Int} (hn : n ≤ 6) {k : Nat} {p : List Int} (hp : okPl n k p) : ∀ (L : List Nd) (t : List Int), (∀ x ∈ L, okPl n k x.pl) → p ∉ pls L → (L.foldl (fun t x => t.set (numL x.pl).toNat x.far) t)[(numL p).toNat]? = t[(numL p).toNat]?
  | [], t, _, _ => rfl
  | x :: L, t, h, hno => by
    rw [List.foldl_cons, tab_at_not hn hp L _ (fun y hy => h y (by simp [hy])) (fun hm => hno (by simp [pls] at hm ⊢; exact .inr hm))]
    rw [List.getElem?_set_ne]
    intro e
    exact hno (by simp [pls, numL_toNat hn (h x (by simp)) hp e])
theorem tab_at_in {n : Int} (hn : n ≤ 6) {k : Nat} : ∀ (L : List Nd) (t : List Int), (∀ x ∈ L, okPl n k x.pl) → (pls L).Nodup → t.length = 6 ^ k → ∀ x ∈ L, (L.foldl (fun t x => t.set (numL x.pl).toNat x.far) t)[(numL x.pl).toNat]? = some x.far
  | y :: L, t, h, hnd, ht, x, hx => by
    rw [List.foldl_cons]
    have hy := h y (by simp)
    simp only [pls, List.map_cons, List.nodup_cons] at hnd
    rcases List.mem_cons.1 hx with rfl | hx
    · rw [tab_at_not hn hy L _ (fun z hz => h z (by simp [hz])) hnd.1]
      rw [List.getElem?_set_self]
      rw [ht]; exact (numL_idx hn hy).2
    · exact tab_at_in hn L _ (fun z hz => h z (by simp [hz])) hnd.2 (by simpa using ht) x hx

theorem tabN_in {n : Int} (hn : n ≤ 6) {k : Nat} {L : List Nd} (h : InvN n k L) {i : Nat} (hi : i < L.length) {j : Nat} (hj : j = (numL L[i].pl).toNat) (hl : j < (tabN k L).length) : (tabN k L)[j] = L[i].far := by
  subst hj
  have := tab_at_in hn L (List.replicate (6 ^ k) 1000000) h.pl h.nd (by simp) L[i] (List.getElem_mem hi)
  have h2 : (tabN k L)[(numL L[i].pl).toNat]? = some L[i].far := this
  rw [List.getElem?_eq_getElem hl] at h2
  exact Option.some.inj h2
theorem tabN_out {n : Int} (hn : n ≤ 6) {k : Nat} {L : List Nd} (h : InvN n k L) {p : List Int} (hp : okPl n k p) (hno : p ∉ pls L) (hl : (numL p).toNat < (tabN k L).length) : (tabN k L)[(numL p).toNat] = 1000000 := by
  have h1 := tab_at_not hn hp L (List.replicate (6 ^ k) 1000000) h.pl hno
  have h2 : (tabN k L)[(numL p).toNat]? = some 1000000 := by
    rw [tabN, h1]
    simp [(numL_idx hn hp).2]
  rw [List.getElem?_eq_getElem hl] at h2
  exact Option.some.inj h2

/-! each place that is reached is a right one -/
theorem nodup_set {p : List Int} (h : p.Nodup) {z : Int} (hz : z ∉ p) (i : Nat) : (p.set i z).Nodup := by
  rw [List.Nodup, List.pairwise_iff_getElem] at h ⊢
  intro a b ha hb hab
  simp only [List.length_set] at ha hb
  rw [List.getElem_set, List.getElem_set]
  split
  · split
    · omega
    · intro e; exact hz (e ▸ List.getElem_mem hb)
  · split
    · intro e; exact hz (e ▸ List.getElem_mem ha)
    · exact h a b ha hb hab

theorem vTP_iff {n : Int} {ls : List (Int × Int)} {l : List Int} : vTP n ls l = 0 ↔ vT n ls = 0 ∧ l.length ≤ 4 ∧ (∀ z ∈ l, 0 ≤ z ∧ z < n) ∧ l.Nodup := by
  constructor
  · intro h
    have h1 := vTP_vT h
    have h2 := vTP_ok h
    refine ⟨h1, h2.2.1, h2.1.2, ?_⟩
    rw [vTP, if_pos h1] at h
    unfold vP at h
    split at h
    · omega
    · split at h
      · split at h
        · assumption
        · omega
      · omega
  · rintro ⟨h1, h2, h3, h4⟩
    rw [vTP, if_pos h1, vP, if_neg (by omega), if_pos h3, if_pos h4]

theorem vTP_nxt {n : Int} {ls : List (Int × Int)} {p : List Int} (h : vTP n ls p = 0) {k : Nat} {m : Int × Int} (hm : m ∈ mvK n ls p k) : vTP n ls (nxt p m) = 0 := by
  obtain ⟨h1, h2, h3, h4⟩ := vTP_iff.1 h
  obtain ⟨g1, g2, g3, g4, g5⟩ := mvK_ok m hm
  refine vTP_iff.2 ⟨h1, by simpa [nxt] using h2, fun z hz => ?_, nodup_set h4 g5 _⟩
  rcases List.mem_or_eq_of_mem_set hz with hz | rfl
  · exact h3 z hz
  · exact ⟨g3, g4⟩

def allV (n : Int) (ls : List (Int × Int)) (L : List Nd) : Prop := ∀ x ∈ L, vTP n ls x.pl = 0
theorem addN_V {n : Int} {ls : List (Int × Int)} {L : List Nd} (h : allV n ls L) {x : Nd} (hx : vTP n ls x.pl = 0) : allV n ls (addN L x) := by
  unfold addN
  split
  · exact h
  · intro y hy
    rcases List.mem_append.1 hy with hy | hy
    · exact h y hy
    · simp at hy; subst hy; exact hx
theorem visN_V {n : Int} {ls : List (Int × Int)} {p : List Int} {d : Int} (hp : vTP n ls p = 0) {k : Nat} : ∀ (ms : List (Int × Int)) (L : List Nd), (∀ m ∈ ms, m ∈ mvK n ls p k) → allV n ls L → allV n ls (visN p d L ms)
  | [], L, _, h => h
  | m :: ms, L, hm, h => by
    show allV n ls (visN p d (addN L ⟨nxt p m, padL p, m, d + 1⟩) ms)
    exact visN_V hp ms _ (fun m' h' => hm m' (by simp [h'])) (addN_V h (vTP_nxt hp (hm m (by simp))))
theorem rchI_V {n : Int} {ls : List (Int × Int)} {l : List Int} (h : vTP n ls l = 0) : ∀ i, allV n ls (rchI n ls l i)
  | 0 => by intro x hx; simp [rchI] at hx; subst hx; exact h
  | i + 1 => by
    have ih := rchI_V h i
    show allV n ls (stepN n ls (rchI n ls l i) i)
    rcases Nat.lt_or_ge i (rchI n ls l i).length with hi | hi
    · rw [stepN_some hi]
      exact visN_V (ih _ (List.getElem_mem hi)) _ _ (fun m hm => hm) ih
    · rw [stepN_none hi]; exact ih

theorem rchI_mono (n : Int) (ls : List (Int × Int)) (l : List Int) (i : Nat) : ∀ d, ∃ E, rchI n ls l (i + d) = rchI n ls l i ++ E
  | 0 => ⟨[], by simp⟩
  | d + 1 => by
    obtain ⟨E, hE⟩ := rchI_mono n ls l i d
    obtain ⟨E', hE'⟩ := stepN_ext n ls (rchI n ls l (i + d)) (i + d)
    exact ⟨E ++ E', by show stepN n ls (rchI n ls l (i + d)) (i + d) = _; rw [hE', hE, List.append_assoc]⟩

theorem visN_far (p : List Int) (d : Int) : ∀ (ms : List (Int × Int)) (L : List Nd) (e : Nat), (∀ (j : Nat) (h : j < L.length), e ≤ j → L[j].far = d + 1) → e ≤ L.length → ∀ (j : Nat) (h : j < (visN p d L ms).length), e ≤ j → (visN p d L ms)[j].far = d + 1
  | [], L, e, h, _, j, hj, hej => h j hj hej
  | m :: ms, L, e, h, hel, j, hj, hej => by
    refine visN_far p d ms (addN L ⟨nxt p m, padL p, m, d + 1⟩) e (fun q hq heq => ?_) ?_ j hj hej
    · unfold addN at hq ⊢
      split at hq
      · rename_i hc; simp only [if_pos hc]; exact h q hq heq
      · rename_i hc
        simp only [if_neg hc]
        rcases Nat.lt_or_ge q L.length with hlt | hge
        · rw [List.getElem_append_left hlt]; exact h q hlt heq
        · simp at hq
          obtain rfl : q = L.length := by omega
          simp
    · obtain ⟨E, hE⟩ := addN_ext L ⟨nxt p m, padL p, m, d + 1⟩
      rw [hE]; simp; omega
end Go.Proofs.Ytkolpijhgcijbaa
