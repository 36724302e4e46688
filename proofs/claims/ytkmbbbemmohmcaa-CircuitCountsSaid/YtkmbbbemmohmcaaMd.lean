/-
  Several texts in one: CtG, CtH, CtI, CtJ, CtK, CtL, CtM, CtN, CtO, CtP.
-/
import Derived.Test.YtkmbbbemmohmcaaMc
set_option linter.unusedSimpArgs false
set_option linter.unusedVariables false
namespace Go.Proofs.Ytkmbbbemmohmcaa
open Aw Go.RowKit
set_option linter.unusedSimpArgs false

theorem ok104 : okFn Try.prog 104 = true := by kernel_rfl
theorem s104 (l : List G4) (hl : l.length ≤ 100000) : ASpec Try.prog 104 [.s 4 (gtsA l)] (fun r Ms => r = .o 0 ∧ Ms = [⟨none, 24, 4, gtsA l⟩]) := by
  refine aspec_of (own := [2, 5]) Try.func104 rfl ok104 ?_
  simp only [w_move, w_assign, w_binOp, w_aop, w_some, w_asome, w_anone, w_nil, w_cons, awp, binC, asS, asG, asB, asI, asN, asE, Aw.newRow, St.ev, St.step, setS, killS, AV.kill, AV.killL, Mem.kill, ACond_false, List.getD_cons_succ, List.getD_cons_zero, List.set_cons_succ, List.set_cons_zero, List.length_cons, List.length_nil, List.replicate_succ, List.replicate_zero, List.cons_append, List.nil_append, List.contains_nil, List.contains_cons, List.isEmpty_nil, Option.getD_some, Bool.false_eq_true, if_false, if_true, true_and, and_true, Bool.and_true, Bool.true_and, Option.isSome_some, Nat.zero_add, Nat.add_zero, beq_self_eq_true, nbeq, decide_false, Bool.or_false, Nat.reduceAdd, Nat.reduceEqDiff, Nat.reduceSub, Int.reduceAdd, Int.reduceSub, ti24, ti60, Try.ntmps104]
  intro b hb
  cases b with
  | true =>
    have hn : l = [] := by have := hb rfl; simpa [gtsA] using this
    subst hn
    simp only [w_assign, w_aop, w_some, w_asome, w_nil, w_cons, awp, asN, Aw.newRow, St.ev, St.step, setS, killS, AV.kill, AV.killL, Mem.kill, ACond_true, ACond_false, List.set_cons_succ, List.set_cons_zero, List.length_cons, List.length_nil, List.cons_append, List.nil_append, List.contains_nil, List.contains_cons, List.isEmpty_nil, Option.getD_some, Bool.false_eq_true, if_false, if_true, Nat.zero_add, beq_self_eq_true, nbeq, decide_false, Bool.or_false, Nat.reduceAdd, Nat.reduceEqDiff, Int.reduceAdd, ti24, ti60]
    exact aend_exp 1 rfl rfl rfl ⟨rfl, rfl⟩
  | false =>
    simp only [w_move, w_assign, w_buildSlice, w_append, w_aop, w_some, w_asome, w_anone, w_nil, w_cons, awp, asO, asS, asN, obA, Aw.newRow, St.ev, St.step, setS, killS, AV.kill, AV.killL, Mem.kill, AV.cells, AV.flat, AV.single, AV.cellular, ACond_true, ACond_false, Value.oneCell', List.getD_cons_succ, List.getD_cons_zero, List.set_cons_succ, List.set_cons_zero, List.getElem?_cons_succ, List.getElem?_cons_zero, List.length_cons, List.length_nil, List.cons_append, List.nil_append, List.contains_nil, List.contains_cons, List.isEmpty_nil, List.isEmpty_cons, Option.getD_some, Bool.false_eq_true, if_false, if_true, true_and, and_true, List.all_nil, Bool.and_true, Bool.true_and, Nat.zero_add, beq_self_eq_true, List.map_cons, List.map_nil, nbeq, decide_false, Bool.or_false, Bool.or_true, Nat.reduceAdd, Nat.reduceEqDiff, Nat.reduceMul, Nat.reduceLeDiff, Int.reduceAdd, Int.reduceMul, Option.map_some, gtsA_len, ti24, ti60]
    refine ⟨⟨by decide, rfl⟩, ⟨by decide, by omega⟩, ?_⟩
    exact aend_exp 1 rfl rfl (gtsA_pure l) ⟨rfl, rfl⟩

theorem ok82 : okFn Try.prog 82 = true := by kernel_rfl
theorem s82 (l : List G4) (hl : l.length ≤ 100000) : ASpec Try.prog 82 [.s 4 (gtsA l)] (fun r Ms => r = .o 0 ∧ Ms = [⟨none, 24, 4, gtsA l⟩]) := by
  refine aspec_of (own := [2, 5]) Try.func82 rfl ok82 ?_
  simp only [w_move, w_assign, w_binOp, w_aop, w_some, w_asome, w_anone, w_nil, w_cons, awp, binC, asS, asG, asB, asI, asN, asE, Aw.newRow, St.ev, St.step, setS, killS, AV.kill, AV.killL, Mem.kill, ACond_false, List.getD_cons_succ, List.getD_cons_zero, List.set_cons_succ, List.set_cons_zero, List.length_cons, List.length_nil, List.replicate_succ, List.replicate_zero, List.cons_append, List.nil_append, List.contains_nil, List.contains_cons, List.isEmpty_nil, Option.getD_some, Bool.false_eq_true, if_false, if_true, true_and, and_true, Bool.and_true, Bool.true_and, Option.isSome_some, Nat.zero_add, Nat.add_zero, beq_self_eq_true, nbeq, decide_false, Bool.or_false, Nat.reduceAdd, Nat.reduceEqDiff, Nat.reduceSub, Int.reduceAdd, Int.reduceSub, ti22, ti24, Try.ntmps82]
  intro b hb
  cases b with
  | true =>
    have hn : l = [] := by have := hb rfl; simpa [gtsA] using this
    subst hn
    simp only [w_assign, w_aop, w_some, w_asome, w_nil, w_cons, awp, asN, Aw.newRow, St.ev, St.step, setS, killS, AV.kill, AV.killL, Mem.kill, ACond_true, ACond_false, List.set_cons_succ, List.set_cons_zero, List.length_cons, List.length_nil, List.cons_append, List.nil_append, List.contains_nil, List.contains_cons, List.isEmpty_nil, Option.getD_some, Bool.false_eq_true, if_false, if_true, Nat.zero_add, beq_self_eq_true, nbeq, decide_false, Bool.or_false, Nat.reduceAdd, Nat.reduceEqDiff, Int.reduceAdd, ti22, ti24]
    exact aend_exp 1 rfl rfl rfl ⟨rfl, rfl⟩
  | false =>
    simp only [w_move, w_assign, w_buildSlice, w_append, w_aop, w_some, w_asome, w_anone, w_nil, w_cons, awp, asO, asS, asN, obA, Aw.newRow, St.ev, St.step, setS, killS, AV.kill, AV.killL, Mem.kill, AV.cells, AV.flat, AV.single, AV.cellular, ACond_true, ACond_false, Value.oneCell', List.getD_cons_succ, List.getD_cons_zero, List.set_cons_succ, List.set_cons_zero, List.getElem?_cons_succ, List.getElem?_cons_zero, List.length_cons, List.length_nil, List.cons_append, List.nil_append, List.contains_nil, List.contains_cons, List.isEmpty_nil, List.isEmpty_cons, Option.getD_some, Bool.false_eq_true, if_false, if_true, true_and, and_true, List.all_nil, Bool.and_true, Bool.true_and, Nat.zero_add, beq_self_eq_true, List.map_cons, List.map_nil, nbeq, decide_false, Bool.or_false, Bool.or_true, Nat.reduceAdd, Nat.reduceEqDiff, Nat.reduceMul, Nat.reduceLeDiff, Int.reduceAdd, Int.reduceMul, Option.map_some, gtsA_len, ti22, ti24]
    refine ⟨⟨by decide, rfl⟩, ⟨by decide, by omega⟩, ?_⟩
    exact aend_exp 1 rfl rfl (gtsA_pure l) ⟨rfl, rfl⟩

end Go.Proofs.Ytkmbbbemmohmcaa

namespace Go.Proofs.Ytkmbbbemmohmcaa
open Aw Go.RowKit
set_option linter.unusedSimpArgs false

/-- a circuit without the gate at a place. -/
def wo (c : List G4) (i : Nat) : List G4 := c.take i ++ c.drop (i + 1)
theorem wo_len (c : List G4) {i : Nat} (h : i < c.length) : (wo c i).length = c.length - 1 := by unfold wo; simp; omega
theorem gtsA_join (l m : List G4) : gtsA l ++ gtsA m = gtsA (l ++ m) := by simp [gtsA]

theorem ok78 : okFn Try.prog 78 = true := by kernel_rfl
theorem s78 (c : List G4) (i : Nat) (hi : i < c.length) (hl : c.length ≤ 10000) : ASpec Try.prog 78 [.s 4 (gtsA c), I i] (fun r Ms => r = .s 4 (gtsA (wo c i)) ∧ Ms = []) := by
  refine aspec_of (own := [5]) Try.func78 rfl ok78 ?_
  simp only [w_assign, w_aop, w_anone, w_nil, w_cons, awp, asN, St.ev, St.step, setS, killS, AV.kill, AV.killL, Mem.kill, ACond_false, List.set_cons_succ, List.set_cons_zero, List.length_cons, List.length_nil, List.replicate_succ, List.replicate_zero, List.cons_append, List.nil_append, List.contains_nil, List.contains_cons, List.isEmpty_nil, Option.getD_some, Bool.false_eq_true, if_false, if_true, Nat.zero_add, Nat.add_zero, nbeq, decide_false, Bool.or_false, Nat.reduceAdd, Nat.reduceEqDiff, Nat.reduceSub, Int.reduceAdd, Int.reduceSub, Try.ntmps78]
  refine swp_draw (own := [5]) (.take 1 .plain [] (.take 2 .plain [] (.take 3 .plain [] (.take 5 .over [0] (.take 6 .over [1] (.take 7 .over [11] (.take 8 .over [10, 12] (.alt 0 (.alt 4 (.alt 9 (.take 10 .plain [] (.done)) (.nil)) (.nil)) (.nil))))))))) [⟨6, 0, 0, 0, false⟩, ⟨7, 1, 0, 0, true⟩, ⟨8, 2, 0, 0, true⟩, ⟨9, 192, 6, 0, true⟩, ⟨10, 288, 9, 2, false⟩, ⟨11, 1, 0, 0, true⟩, ⟨12, 2, 0, 0, true⟩, ⟨13, 2048, 64, 0, true⟩, ⟨14, 5120, 160, 0, true⟩, ⟨15, 8704, 272, 2, false⟩, ⟨5, 16384, 1023, 0, true⟩] mo (by kernel_rfl) ?_
  simp only [w_move, w_assign, w_binOp, w_buildSlice, w_slice, w_append, w_aop, w_take, w_some, w_asome, w_anone, awp, binC, arithC, cmpC, asO, asS, asI, asN, obA, bndA, Aw.newRow, St.ev, St.step, setS, killS, AV.kill, AV.killL, Mem.kill, AV.cells, AV.flat, AV.single, AV.cellular, AV.pure, ACond_true, Value.oneCell', List.getD_cons_succ, List.getD_cons_zero, List.set_cons_succ, List.set_cons_zero, List.getElem?_cons_succ, List.getElem?_cons_zero, List.length_nil, List.nil_append, List.contains_nil, List.contains_cons, List.isEmpty_nil, List.isEmpty_cons, Option.getD_some, Option.getD_none, Bool.false_eq_true, if_false, if_true, true_and, and_true, List.all_cons, List.all_nil, Bool.and_true, Bool.true_and, Nat.zero_add, beq_self_eq_true, List.map_cons, List.map_nil, nbeq, decide_false, Bool.or_false, Nat.reduceEqDiff, Nat.reduceMul, Nat.reduceLeDiff, Int.reduceMul, Int.reduceLE, Int.toNat_zero, ASch, St.put, Md.mem, Md.need, Option.map_some, gtsA_len, ti22, ti24]
  have e1 : List.drop 0 (List.take (i : Int).toNat (gtsA c)) = gtsA (c.take i) := by rw [List.drop_zero, Int.toNat_natCast, gtsA_take]
  have e2 : List.drop ((i : Int) + 1).toNat (List.take (c.length : Int).toNat (gtsA c)) = gtsA (c.drop (i + 1)) := by
    rw [show ((i : Int) + 1).toNat = i + 1 by omega, Int.toNat_natCast, gtsA_take, List.take_length, gtsA_drop]
  simp only [e1, e2, gtsA_kill, gtsA_join, gtsA_len]
  have hlt : (c.take i).length ≤ 10000 := by simp; omega
  have hld : (c.drop (i + 1)).length ≤ 10000 := by simp; omega
  refine ⟨by omega, by unfold lim; omega, by omega, ⟨by decide, rfl⟩, ⟨by decide, by omega⟩, ⟨by decide, by omega⟩, ?_⟩
  exact aend_frz rfl ⟨by simp [frz, AV.sub, gtsA_pure, wo], rfl⟩

theorem g4_eq (g h : G4) : [g.k, g.a, g.b, g.t] = [h.k, h.a, h.b, h.t] ↔ g = h := by
  cases g; cases h; simp
theorem all_eq {a b : List G4} (hl : a.length = b.length) (h : ∀ j, j < a.length → ∀ (h1 : j < a.length) (h2 : j < b.length), a[j] = b[j]) : a = b := List.ext_getElem hl fun j h1 h2 => h j h1 h1 h2

theorem ok29 : okFn Try.prog 29 = true := by kernel_rfl
theorem s29 (a b : List G4) (ha : a.length ≤ 10000) (hb : b.length ≤ 10000) : ASpec Try.prog 29 [.s 4 (gtsA a), .s 4 (gtsA b)] (fun r Ms => r = B (decide (a = b)) ∧ Ms = []) := by
  refine aspec_of (own := []) Try.func29 rfl ok29 ?_
  simp only [w_move, w_assign, w_binOp, w_len, w_aop, w_some, w_asome, w_anone, w_nil, w_cons, awp, binC, cmpC, asB, asI, asN, lenA, St.ev, St.step, setS, killS, AV.kill, AV.killL, Mem.kill, ACond_false, List.getD_cons_succ, List.getD_cons_zero, List.set_cons_succ, List.set_cons_zero, List.length_cons, List.length_nil, List.replicate_succ, List.replicate_zero, List.cons_append, List.nil_append, List.contains_nil, List.isEmpty_nil, Option.getD_some, Bool.false_eq_true, if_false, if_true, true_and, Bool.true_and, Option.isSome_some, Nat.zero_add, Nat.add_zero, Nat.reduceAdd, Nat.reduceSub, Int.reduceAdd, Int.reduceSub, gtsA_len, ti22, Try.ntmps29]
  by_cases h0 : a.length = b.length
  · have h0' : (a.length : Int) = (b.length : Int) := by omega
    simp only [w_assign, w_aop, w_anone, w_nil, w_cons, awp, asN, St.ev, St.step, setS, killS, AV.kill, AV.killL, Mem.kill, ACond_false, List.set_cons_succ, List.set_cons_zero, List.contains_nil, List.isEmpty_nil, Option.getD_some, Bool.false_eq_true, if_false, if_true, Bool.not_true, Nat.reduceAdd, Int.reduceAdd, decide_eq_true h0']
    refine swp_loop' (fun k : Nat => ⟨[.s 4 (gtsA a), .s 4 (gtsA b), .bot, .bot, .bot, I k, .bot, .bot, .bot, .bot, .bot, .bot, .bot, .bot, .bot, .bot, .bot, .bot, .bot, .bot, .bot, .bot, .bot, .bot, .bot, .bot], []⟩) (fun k => k ≤ a.length ∧ ∀ j, j < k → ∀ (h1 : j < a.length) (h2 : j < b.length), a[j] = b[j]) (fun k => a.length - k) 0 (le_sl (by simp [leSl])) ⟨Nat.zero_le _, by omega⟩ ?_
    rintro k ⟨hk, hno⟩
    refine awp_sound (own := []) _ _ _ _ _ ?_
    simp only [w_move, w_binOp, w_len, w_aop, w_some, w_asome, w_nil, w_cons, awp, binC, cmpC, asB, asI, lenA, St.ev, St.step, setS, killS, AV.kill, AV.killL, Mem.kill, ACond_false, List.getD_cons_succ, List.getD_cons_zero, List.set_cons_succ, List.set_cons_zero, List.contains_nil, List.isEmpty_nil, if_true, true_and, Bool.true_and, Option.isSome_some, Nat.reduceAdd, Int.reduceAdd, gtsA_len, ti22]
    by_cases h : k < a.length
    · have h' : (k : Int) < (a.length : Int) := by omega
      have hb' : k < b.length := by omega
      simp only [awp, ACond_true, decide_eq_true h']
      refine swp_draw (own := []) (.take 0 .plain [] (.take 1 .plain [] (.take 2 .reads [] (.take 3 .reads [] (.take 4 .plain [] (.take 5 .plain [] (.take 6 .reads [] (.take 7 .reads [] (.take 8 .plain [] (.done)))))))))) [⟨18, 1, 0, 0, true⟩, ⟨19, 32, 0, 0, true⟩, ⟨20, 393216, 3, 0, true⟩, ⟨21, 524288, 4, 0, true⟩, ⟨22, 2, 0, 0, true⟩, ⟨23, 32, 0, 0, true⟩, ⟨24, 6291456, 48, 0, true⟩, ⟨25, 8388608, 64, 0, true⟩, ⟨26, 17825792, 136, 0, true⟩] mo (by kernel_rfl) ?_
      simp only [w_move, w_load, w_indexAddr, w_binOp, w_take, w_some, w_asome, w_anone, awp, binC, idxC, eqC, asP, asS, asG, asB, asI, loadA, St.ev, setS, AV.cells, AV.flat, AV.single, ints, List.getD_cons_succ, List.getD_cons_zero, List.set_cons_succ, List.set_cons_zero, List.getElem?_cons_succ, List.getElem?_cons_zero, List.length_cons, List.length_nil, Bool.false_eq_true, if_false, if_true, true_and, and_true, List.all_cons, List.all_nil, Bool.and_true, Bool.true_and, Bool.not_true, Nat.zero_add, beq_self_eq_true, decide_true, Nat.reduceAdd, Nat.reduceLeDiff, Int.reduceAdd, ASch, St.put, Md.mem, Md.need, Option.map_some, ti22, ti24, aget_gts h, aget_gts hb', Int.toNat_natCast]
      refine ⟨by omega, by omega, ?_⟩
      by_cases hx : [a[k].k, a[k].a, a[k].b, a[k].t] = [b[k].k, b[k].a, b[k].b, b[k].t]
      · simp only [w_move, w_assign, w_binOp, w_aop, w_some, w_asome, w_anone, w_nil, w_cons, awp, binC, arithC, cmpC, asI, asN, St.ev, St.step, setS, killS, AV.kill, AV.killL, Mem.kill, ACond_false, List.getD_cons_succ, List.getD_cons_zero, List.set_cons_succ, List.set_cons_zero, List.contains_nil, List.isEmpty_nil, Option.getD_some, Bool.false_eq_true, if_false, if_true, true_and, and_true, Bool.and_true, Bool.true_and, Bool.not_true, Nat.reduceAdd, Int.reduceAdd, St.put, decide_eq_true hx]
        refine ⟨by unfold lim; omega, k + 1, le_sl (by simp [leSl]), ⟨h, fun j hj h1 h2 => ?_⟩, by omega⟩
        rcases Nat.lt_or_ge j k with h3 | h3
        · exact hno j h3 h1 h2
        · obtain rfl : j = k := by omega
          exact (g4_eq _ _).1 hx
      · simp only [w_assign, w_aop, w_anone, w_nil, w_cons, awp, asN, St.ev, St.step, setS, killS, AV.kill, AV.killL, Mem.kill, ACond_true, ACond_false, List.set_cons_succ, List.set_cons_zero, List.contains_nil, List.isEmpty_nil, Option.getD_some, Bool.false_eq_true, if_false, if_true, Bool.not_false, Nat.reduceAdd, Int.reduceAdd, St.put, decide_eq_false hx]
        exact aend_frz rfl ⟨by rw [decide_eq_false (fun e => hx (by subst e; rfl))]; rfl, rfl⟩
    · have h' : ¬ (k : Int) < (a.length : Int) := by omega
      simp only [w_assign, w_aop, w_anone, w_nil, w_cons, awp, asN, St.ev, St.step, setS, killS, AV.kill, AV.killL, Mem.kill, ACond_false, List.set_cons_succ, List.set_cons_zero, List.contains_nil, List.isEmpty_nil, Option.getD_some, Bool.false_eq_true, if_false, if_true, Nat.reduceAdd, Int.reduceAdd, decide_eq_false h']
      exact aend_frz rfl ⟨by rw [decide_eq_true (all_eq h0 fun j hj h1 h2 => hno j (by omega) h1 h2)]; rfl, rfl⟩
  · have h0' : ¬ (a.length : Int) = (b.length : Int) := by omega
    simp only [w_assign, w_aop, w_anone, w_nil, w_cons, awp, asN, St.ev, St.step, setS, killS, AV.kill, AV.killL, Mem.kill, ACond_true, ACond_false, List.set_cons_succ, List.set_cons_zero, List.contains_nil, List.isEmpty_nil, Option.getD_some, Bool.false_eq_true, if_false, if_true, Bool.not_false, Nat.reduceAdd, Int.reduceAdd, decide_eq_false h0']
    exact aend_frz rfl ⟨by rw [decide_eq_false (fun e => h0 (by rw [e]))]; rfl, rfl⟩

theorem all_eqI {a b : List Int} (hl : a.length = b.length) (h : ∀ j, j < a.length → ∀ (h1 : j < a.length) (h2 : j < b.length), a[j] = b[j]) : a = b := List.ext_getElem hl fun j h1 h2 => h j h1 h1 h2
theorem ok38 : okFn Try.prog 38 = true := by kernel_rfl
theorem s38 (a b : List Int) (ha : a.length ≤ 10000) (hb : b.length ≤ 10000) : ASpec Try.prog 38 [.s 1 (intsA a), .s 1 (intsA b)] (fun r Ms => r = B (decide (a = b)) ∧ Ms = []) := by
  refine aspec_of (own := []) Try.func38 rfl ok38 ?_
  simp only [w_move, w_assign, w_binOp, w_len, w_aop, w_some, w_asome, w_anone, w_nil, w_cons, awp, binC, cmpC, asB, asI, asN, lenA, St.ev, St.step, setS, killS, AV.kill, AV.killL, Mem.kill, ACond_false, List.getD_cons_succ, List.getD_cons_zero, List.set_cons_succ, List.set_cons_zero, List.length_cons, List.length_nil, List.replicate_succ, List.replicate_zero, List.cons_append, List.nil_append, List.contains_nil, List.isEmpty_nil, Option.getD_some, Bool.false_eq_true, if_false, if_true, true_and, Bool.true_and, Option.isSome_some, Nat.zero_add, Nat.add_zero, Nat.reduceAdd, Nat.reduceSub, Int.reduceAdd, Int.reduceSub, intsA_len, ti31, Try.ntmps38]
  by_cases h0 : a.length = b.length
  · have h0' : (a.length : Int) = (b.length : Int) := by omega
    simp only [w_assign, w_aop, w_anone, w_nil, w_cons, awp, asN, St.ev, St.step, setS, killS, AV.kill, AV.killL, Mem.kill, ACond_false, List.set_cons_succ, List.set_cons_zero, List.contains_nil, List.isEmpty_nil, Option.getD_some, Bool.false_eq_true, if_false, if_true, Bool.not_true, Nat.reduceAdd, Int.reduceAdd, decide_eq_true h0']
    refine swp_loop' (fun k : Nat => ⟨[.s 1 (intsA a), .s 1 (intsA b), .bot, .bot, .bot, I k, .bot, .bot, .bot, .bot, .bot, .bot, .bot, .bot, .bot, .bot, .bot, .bot, .bot, .bot, .bot, .bot, .bot, .bot, .bot, .bot], []⟩) (fun k => k ≤ a.length ∧ ∀ j, j < k → ∀ (h1 : j < a.length) (h2 : j < b.length), a[j] = b[j]) (fun k => a.length - k) 0 (le_sl (by simp [leSl])) ⟨Nat.zero_le _, by omega⟩ ?_
    rintro k ⟨hk, hno⟩
    refine awp_sound (own := []) _ _ _ _ _ ?_
    simp only [w_move, w_binOp, w_len, w_aop, w_some, w_asome, w_nil, w_cons, awp, binC, cmpC, asB, asI, lenA, St.ev, St.step, setS, killS, AV.kill, AV.killL, Mem.kill, ACond_false, List.getD_cons_succ, List.getD_cons_zero, List.set_cons_succ, List.set_cons_zero, List.contains_nil, List.isEmpty_nil, if_true, true_and, Bool.true_and, Option.isSome_some, Nat.reduceAdd, Int.reduceAdd, intsA_len, ti31]
    by_cases h : k < a.length
    · have h' : (k : Int) < (a.length : Int) := by omega
      have hb' : k < b.length := by omega
      simp only [awp, ACond_true, decide_eq_true h']
      refine swp_draw (own := []) (.take 0 .plain [] (.take 1 .plain [] (.take 2 .reads [] (.take 3 .reads [] (.take 4 .plain [] (.take 5 .plain [] (.take 6 .reads [] (.take 7 .reads [] (.take 8 .plain [] (.done)))))))))) [⟨18, 1, 0, 0, true⟩, ⟨19, 32, 0, 0, true⟩, ⟨20, 393216, 3, 0, true⟩, ⟨21, 524288, 4, 0, true⟩, ⟨22, 2, 0, 0, true⟩, ⟨23, 32, 0, 0, true⟩, ⟨24, 6291456, 48, 0, true⟩, ⟨25, 8388608, 64, 0, true⟩, ⟨26, 17825792, 136, 0, true⟩] mo (by kernel_rfl) ?_
      simp only [w_move, w_load, w_indexAddr, w_binOp, w_take, w_some, w_asome, awp, binC, idxC, cmpC, asP, asS, asB, asI, loadA, St.ev, setS, AV.cells, AV.flat, AV.single, List.getD_cons_succ, List.getD_cons_zero, List.set_cons_succ, List.set_cons_zero, List.getElem?_cons_succ, List.getElem?_cons_zero, Bool.false_eq_true, if_false, true_and, and_true, List.all_cons, List.all_nil, Bool.and_true, Bool.true_and, Bool.not_true, ASch, St.put, Md.mem, Md.need, ti3, ti31, aget_ints h, aget_ints hb', Int.toNat_natCast]
      refine ⟨by omega, by omega, ?_⟩
      by_cases hx : a[k] = b[k]
      · simp only [w_move, w_assign, w_binOp, w_aop, w_some, w_asome, w_anone, w_nil, w_cons, awp, binC, arithC, cmpC, asI, asN, St.ev, St.step, setS, killS, AV.kill, AV.killL, Mem.kill, ACond_false, List.getD_cons_succ, List.getD_cons_zero, List.set_cons_succ, List.set_cons_zero, List.contains_nil, List.isEmpty_nil, Option.getD_some, Bool.false_eq_true, if_false, if_true, true_and, and_true, Bool.and_true, Bool.true_and, Bool.not_true, Nat.reduceAdd, Int.reduceAdd, St.put, decide_eq_true hx]
        refine ⟨by unfold lim; omega, k + 1, le_sl (by simp [leSl]), ⟨h, fun j hj h1 h2 => ?_⟩, by omega⟩
        rcases Nat.lt_or_ge j k with h3 | h3
        · exact hno j h3 h1 h2
        · obtain rfl : j = k := by omega
          exact hx
      · simp only [w_assign, w_aop, w_anone, w_nil, w_cons, awp, asN, St.ev, St.step, setS, killS, AV.kill, AV.killL, Mem.kill, ACond_true, ACond_false, List.set_cons_succ, List.set_cons_zero, List.contains_nil, List.isEmpty_nil, Option.getD_some, Bool.false_eq_true, if_false, if_true, Bool.not_false, Nat.reduceAdd, Int.reduceAdd, St.put, decide_eq_false hx]
        exact aend_frz rfl ⟨by rw [decide_eq_false (fun e => hx (by subst e; rfl))]; rfl, rfl⟩
    · have h' : ¬ (k : Int) < (a.length : Int) := by omega
      simp only [w_assign, w_aop, w_anone, w_nil, w_cons, awp, asN, St.ev, St.step, setS, killS, AV.kill, AV.killL, Mem.kill, ACond_false, List.set_cons_succ, List.set_cons_zero, List.contains_nil, List.isEmpty_nil, Option.getD_some, Bool.false_eq_true, if_false, if_true, Nat.reduceAdd, Int.reduceAdd, decide_eq_false h']
      exact aend_frz rfl ⟨by rw [decide_eq_true (all_eqI h0 fun j hj h1 h2 => hno j (by omega) h1 h2)]; rfl, rfl⟩
  · have h0' : ¬ (a.length : Int) = (b.length : Int) := by omega
    simp only [w_assign, w_aop, w_anone, w_nil, w_cons, awp, asN, St.ev, St.step, setS, killS, AV.kill, AV.killL, Mem.kill, ACond_true, ACond_false, List.set_cons_succ, List.set_cons_zero, List.contains_nil, List.isEmpty_nil, Option.getD_some, Bool.false_eq_true, if_false, if_true, Bool.not_false, Nat.reduceAdd, Int.reduceAdd, decide_eq_false h0']
    exact aend_frz rfl ⟨by rw [decide_eq_false (fun e => h0 (by rw [e]))]; rfl, rfl⟩

/-- the gates of two types. -/
def prL (c : List G4) (g h : G4) : List G4 := c.filter fun x => x.same g || x.same h
theorem prL_succ (c : List G4) (g h : G4) {k : Nat} (hk : k < c.length) : prL (c.take (k + 1)) g h = if c[k].same g || c[k].same h then prL (c.take k) g h ++ [c[k]] else prL (c.take k) g h := by
  unfold prL
  rw [List.take_add_one, List.filter_append, List.getElem?_eq_getElem hk]
  cases h1 : (c[k].same g || c[k].same h) <;> simp [h1]
theorem prL_len (c : List G4) (g h : G4) : (prL c g h).length ≤ c.length := List.length_filter_le _ _

theorem same_iff (g h : G4) : [g.k, g.a, g.b, 0] = [h.k, h.a, h.b, 0] ↔ g.same h = true := by
  unfold G4.same; simp

theorem ok80 : okFn Try.prog 80 = true := by kernel_rfl
theorem s80 (c : List G4) (g h : G4) (hl : c.length ≤ 10000) : ASpec Try.prog 80 [.s 4 (gtsA c), gA g, gA h] (fun r Ms => r = .s 4 (gtsA (prL c g h)) ∧ Ms = []) := by
  refine aspec_of (own := [7]) Try.func80 rfl ok80 ?_
  simp only [w_assign, w_box, w_aop, w_some, w_asome, w_anone, w_nil, w_cons, awp, asN, Aw.newRow, St.ev, St.step, setS, killS, AV.kill, AV.killL, Mem.kill, AV.cellular, AV.pure, AV.pureL, ACond_false, List.getD_cons_succ, List.getD_cons_zero, List.set_cons_succ, List.set_cons_zero, List.length_cons, List.length_nil, List.replicate_succ, List.replicate_zero, List.cons_append, List.nil_append, List.contains_nil, List.contains_cons, List.isEmpty_nil, Option.getD_some, Bool.false_eq_true, if_false, if_true, true_and, and_true, Bool.and_true, Bool.true_and, Nat.zero_add, Nat.add_zero, beq_self_eq_true, nbeq, decide_false, Bool.or_false, Nat.reduceAdd, Nat.reduceEqDiff, Nat.reduceSub, Int.reduceAdd, Int.reduceSub, ti22, ti24, Try.ntmps80, gA]
  refine swp_loop' (fun k : Nat => ⟨[.s 4 (gtsA c), .bot, .bot, .bot, .p (.g [I g.k, I g.a, I g.b, I g.t]) 0, .p (.g [I h.k, I h.a, I h.b, I h.t]) 0, .bot, .o 0, I k, .bot, .bot, .bot, .bot, .bot, .bot, .bot, .bot, .bot, .bot, .bot, .bot, .bot, .bot, .bot, .bot, .bot, .bot, .bot, .bot, .bot, .bot, .bot, .bot, .bot, .bot, .bot, .bot, .bot, .bot, .bot, .bot], [some ⟨none, 24, 4, gtsA (prL (c.take k) g h)⟩]⟩) (fun k => k ≤ c.length) (fun k => c.length - k) 0 (le_sl (by simp [leSl])) (Nat.zero_le _) ?_
  intro k hk
  refine awp_sound (own := [7]) _ _ _ _ _ ?_
  simp only [w_move, w_binOp, w_len, w_aop, w_some, w_asome, w_nil, w_cons, awp, binC, cmpC, asB, asI, lenA, St.ev, St.step, setS, killS, AV.kill, AV.killL, Mem.kill, ACond_false, List.getD_cons_succ, List.getD_cons_zero, List.set_cons_succ, List.set_cons_zero, List.contains_nil, List.contains_cons, List.isEmpty_nil, Bool.false_eq_true, if_false, if_true, true_and, Bool.true_and, Option.isSome_some, nbeq, decide_false, Bool.or_false, Nat.reduceAdd, Nat.reduceEqDiff, Int.reduceAdd, gtsA_len, ti22]
  by_cases hkl : k < c.length
  · have h' : (k : Int) < (c.length : Int) := by omega
    simp only [awp, ACond_true, decide_eq_true h']
    refine swp_draw (own := [7]) (.take 0 .plain [] (.take 1 .plain [] (.take 2 .reads [] (.take 3 .reads [] (.take 5 .reads [] (.alt 4 (.alt 6 (.take 7 .plain [] (.take 8 .plain [] (.take 9 .plain [] (.take 10 .plain [] (.take 11 .reads [] (.take 12 .reads [] (.take 14 .reads [] (.alt 13 (.alt 15 (.take 16 .plain [] (.take 17 .plain [] (.done))) (.nil)) (.nil))))))))) (.nil)) (.nil))))))) [⟨16, 1, 0, 0, true⟩, ⟨17, 256, 0, 0, true⟩, ⟨18, 98304, 3, 0, true⟩, ⟨19, 131072, 4, 0, true⟩, ⟨20, 262144, 8, 0, false⟩, ⟨21, 16, 0, 0, true⟩, ⟨22, 1048576, 48, 0, false⟩, ⟨23, 2621440, 80, 0, true⟩, ⟨24, 4194304, 192, 0, true⟩, ⟨25, 8388609, 256, 0, true⟩, ⟨26, 8388864, 256, 0, true⟩, ⟨27, 58720256, 1792, 0, true⟩, ⟨28, 75497472, 2304, 0, true⟩, ⟨29, 142606336, 4352, 0, false⟩, ⟨30, 8388640, 256, 0, true⟩, ⟨31, 545259520, 24832, 0, false⟩, ⟨32, 1350565888, 41216, 0, true⟩, ⟨33, 2155872256, 65792, 0, true⟩] mo (by kernel_rfl) ?_
    simp only [w_move, w_load, w_indexAddr, w_callF, w_aop, w_take, w_some, w_asome, idxC, asP, asS, asI, loadA, St.ev, setS, AV.cells, AV.flat, AV.single, List.getD_cons_succ, List.getD_cons_zero, List.set_cons_succ, List.set_cons_zero, List.getElem?_cons_succ, List.getElem?_cons_zero, List.length_cons, List.length_nil, Bool.false_eq_true, if_false, if_true, true_and, and_true, List.all_cons, List.all_nil, Bool.and_true, Bool.true_and, Bool.not_true, Nat.zero_add, beq_self_eq_true, List.map_cons, List.map_nil, decide_true, Nat.reduceAdd, Nat.reduceLeDiff, Int.reduceAdd, ASch, St.put, Md.mem, Md.need, ti22, ti24, aget_gts hkl, Int.toNat_natCast]
    refine ⟨by omega, acall_v (s44 c[k]) rfl rfl ?_⟩
    simp only [w_callF, w_aop, w_some, St.ev, St.step, setS, killS, AV.kill, AV.killL, Mem.kill, List.getD_cons_succ, List.getD_cons_zero, List.set_cons_succ, List.set_cons_zero, List.getElem?_cons_succ, List.getElem?_cons_zero, List.contains_nil, List.isEmpty_nil, Bool.false_eq_true, if_false, if_true, and_true, Bool.and_true, List.map_cons, List.map_nil, ASch, gA]
    refine acall_v (s44 g) rfl rfl ?_
    simp only [w_move, w_binOp, w_gdb, w_take, w_takeg, w_some, w_asome, w_anone, binC, eqC, asG, asB, asI, St.ev, St.step, setS, killS, AV.kill, AV.killL, Mem.kill, ints, List.getD_cons_succ, List.getD_cons_zero, List.set_cons_succ, List.set_cons_zero, List.getElem?_cons_succ, List.getElem?_cons_zero, List.length_cons, List.length_nil, List.contains_nil, List.isEmpty_nil, Bool.false_eq_true, if_false, if_true, true_and, and_true, Bool.and_true, Bool.true_and, Nat.zero_add, Nat.reduceAdd, Int.reduceAdd, Option.bind_some, ASch, St.put, Md.mem, Md.need, Option.map_some, w_bf, ti24, gA]
    by_cases c1 : [c[k].k, c[k].a, c[k].b, 0] = [g.k, g.a, g.b, 0]
    · have d1 := (same_iff _ _).1 c1
      simp only [w_move, w_assign, w_pick, w_load, w_indexAddr, w_binOp, w_buildSlice, w_append, w_aop, w_aopg, w_gdb, w_take, w_takeg, w_some, w_asome, w_anone, w_nil, w_cons, awp, binC, idxC, arithC, cmpC, asP, asO, asS, asB, asI, asN, obA, loadA, St.ev, St.step, setS, killS, AV.kill, AV.killL, Mem.kill, AV.cells, AV.flat, AV.single, AV.cellular, AV.size, AV.sizeL, AV.pure, AV.pureL, ACond_true, ACond_false, Value.oneCell', List.getD_cons_succ, List.getD_cons_zero, List.set_cons_succ, List.set_cons_zero, List.getElem?_cons_succ, List.getElem?_cons_zero, List.length_cons, List.length_nil, List.contains_nil, List.contains_cons, List.isEmpty_nil, List.isEmpty_cons, Option.getD_some, Bool.false_eq_true, if_false, if_true, true_and, and_true, List.all_cons, List.all_nil, Bool.and_true, Bool.true_and, Bool.not_true, Nat.zero_add, Nat.add_zero, beq_self_eq_true, List.map_cons, List.map_nil, decide_true, nbeq, decide_false, Bool.or_false, Nat.reduceAdd, Nat.reduceEqDiff, Nat.reduceMul, Nat.reduceLeDiff, Int.reduceAdd, Int.reduceMul, Option.bind_some, ASch, St.put, Md.mem, Md.need, Option.map_some, w_bf, gtsA_len, ti22, ti24, decide_eq_true c1, aget_gts hkl, Int.toNat_natCast]
      have hp := prL_len (c.take k) g h
      have hpk : (c.take k).length = k := by simp; omega
      refine ⟨by omega, ⟨by decide, rfl⟩, ⟨by decide, by omega⟩, by unfold lim; omega, k + 1, ?_, hkl, by omega⟩
      rw [prL_succ c g h hkl, d1, if_pos (by simp), gtsA_kill, gtsA_app]
      exact le_sl (by simp [leSl])
    · have d1 : c[k].same g = false := by
        cases hx : c[k].same g with
        | false => rfl
        | true => exact absurd ((same_iff _ _).2 hx) c1
      simp only [w_move, w_load, w_indexAddr, w_callF, w_aopg, w_gdb, w_takeg, w_some, w_asome, idxC, asP, asS, asI, loadA, St.ev, setS, AV.cells, AV.flat, AV.single, ACond_true, List.getD_cons_succ, List.getD_cons_zero, List.set_cons_succ, List.set_cons_zero, List.getElem?_cons_succ, List.getElem?_cons_zero, List.length_cons, List.length_nil, Bool.false_eq_true, if_false, if_true, true_and, and_true, List.all_cons, List.all_nil, Bool.and_true, Bool.true_and, Bool.not_true, Bool.not_false, Nat.zero_add, beq_self_eq_true, List.map_cons, List.map_nil, decide_true, Nat.reduceAdd, Nat.reduceLeDiff, Int.reduceAdd, Option.bind_some, ASch, St.put, Md.mem, Md.need, ti22, ti24, decide_eq_false c1, aget_gts hkl, Int.toNat_natCast]
      refine ⟨by omega, acall_v (s44 c[k]) rfl rfl ?_⟩
      simp only [w_callF, w_aopg, w_gdb, w_some, St.ev, St.step, setS, killS, AV.kill, AV.killL, Mem.kill, ACond_true, List.getD_cons_succ, List.getD_cons_zero, List.set_cons_succ, List.set_cons_zero, List.getElem?_cons_succ, List.getElem?_cons_zero, List.contains_nil, List.isEmpty_nil, Bool.false_eq_true, if_false, if_true, and_true, Bool.and_true, beq_self_eq_true, List.map_cons, List.map_nil, Option.bind_some, ASch, gA]
      refine acall_v (s44 h) rfl rfl ?_
      simp only [w_pick, w_binOp, w_gdb, w_take, w_takeg, w_some, w_asome, w_anone, awp, binC, eqC, asG, asB, asI, St.ev, St.step, setS, killS, AV.kill, AV.killL, Mem.kill, ACond_true, ACond_false, ints, List.getD_cons_succ, List.getD_cons_zero, List.set_cons_succ, List.set_cons_zero, List.getElem?_cons_succ, List.getElem?_cons_zero, List.length_cons, List.length_nil, List.contains_nil, List.isEmpty_nil, Bool.false_eq_true, if_false, if_true, true_and, and_true, Bool.and_true, Bool.true_and, Nat.zero_add, beq_self_eq_true, Nat.reduceAdd, Int.reduceAdd, Option.bind_some, ASch, St.put, Md.mem, Md.need, Option.map_some, ti24, gA]
      by_cases c2 : [c[k].k, c[k].a, c[k].b, 0] = [h.k, h.a, h.b, 0]
      · have d2 := (same_iff _ _).1 c2
        simp only [w_move, w_assign, w_load, w_indexAddr, w_binOp, w_buildSlice, w_append, w_aop, w_some, w_asome, w_anone, w_nil, w_cons, awp, binC, idxC, arithC, cmpC, asP, asO, asS, asI, asN, obA, loadA, St.ev, St.step, setS, killS, AV.kill, AV.killL, Mem.kill, AV.cells, AV.flat, AV.single, AV.cellular, AV.size, AV.sizeL, AV.pure, AV.pureL, ACond_true, ACond_false, Value.oneCell', List.getD_cons_succ, List.getD_cons_zero, List.set_cons_succ, List.set_cons_zero, List.getElem?_cons_zero, List.length_cons, List.length_nil, List.contains_nil, List.contains_cons, List.isEmpty_nil, List.isEmpty_cons, Option.getD_some, Bool.false_eq_true, if_false, if_true, true_and, and_true, List.all_cons, List.all_nil, Bool.and_true, Bool.true_and, Bool.not_true, Nat.zero_add, Nat.add_zero, beq_self_eq_true, List.map_cons, List.map_nil, decide_true, nbeq, decide_false, Bool.or_false, Nat.reduceAdd, Nat.reduceEqDiff, Nat.reduceMul, Nat.reduceLeDiff, Int.reduceAdd, Int.reduceMul, St.put, Option.map_some, gtsA_len, ti22, ti24, decide_eq_true c2, aget_gts hkl, Int.toNat_natCast]
        have hp := prL_len (c.take k) g h
        have hpk : (c.take k).length = k := by simp; omega
        refine ⟨by omega, ⟨by decide, rfl⟩, ⟨by decide, by omega⟩, by unfold lim; omega, k + 1, ?_, hkl, by omega⟩
        rw [prL_succ c g h hkl, d1, d2, if_pos (by simp), gtsA_kill, gtsA_app]
        exact le_sl (by simp [leSl])
      · have d2 : c[k].same h = false := by
          cases hx : c[k].same h with
          | false => rfl
          | true => exact absurd ((same_iff _ _).2 hx) c2
        simp only [w_move, w_assign, w_binOp, w_aop, w_some, w_asome, w_anone, w_nil, w_cons, awp, binC, arithC, cmpC, asI, asN, St.ev, St.step, setS, killS, AV.kill, AV.killL, Mem.kill, ACond_false, List.getD_cons_succ, List.getD_cons_zero, List.set_cons_succ, List.set_cons_zero, List.contains_nil, List.contains_cons, List.isEmpty_nil, Option.getD_some, Bool.false_eq_true, if_false, if_true, true_and, and_true, Bool.and_true, Bool.true_and, nbeq, decide_false, Bool.or_false, Nat.reduceAdd, Nat.reduceEqDiff, Int.reduceAdd, St.put, decide_eq_false c2]
        refine ⟨by unfold lim; omega, k + 1, ?_, hkl, by omega⟩
        rw [prL_succ c g h hkl, d1, d2, if_neg (by simp)]
        exact le_sl (by simp [leSl])
  · have h' : ¬ (k : Int) < (c.length : Int) := by omega
    have hk' : k = c.length := by omega
    subst hk'
    simp only [w_move, w_assign, w_aop, w_anone, w_nil, w_cons, awp, asN, St.ev, St.step, setS, killS, AV.kill, AV.killL, Mem.kill, ACond_false, List.getD_cons_succ, List.getD_cons_zero, List.set_cons_succ, List.set_cons_zero, List.contains_nil, List.contains_cons, List.isEmpty_nil, Option.getD_some, Bool.false_eq_true, if_false, if_true, nbeq, decide_false, Bool.or_false, Nat.reduceAdd, Nat.reduceEqDiff, Int.reduceAdd, decide_eq_false h']
    exact aend_frz rfl ⟨by simp [frz, AV.sub, gtsA_pure], rfl⟩
end Go.Proofs.Ytkmbbbemmohmcaa

namespace Go.Proofs.Ytkmbbbemmohmcaa
open Aw Go.RowKit
set_option linter.unusedSimpArgs false

theorem vG2 (n : Int) (g h : G4) : vG n [g, h] = if okG n g = true ∧ okG n h = true then 0 else 1 := by
  unfold vG; simp
theorem ok35 : okFn Try.prog 35 = true := by kernel_rfl
theorem s35 (g h : G4) : ASpec Try.prog 35 [gA g, gA h] (fun r Ms => r = .t [B (decide (vG 4 [g, h] = 0) && g.comm h), I (vG 4 [g, h])] ∧ Ms = []) := by
  refine aspec_of (own := []) Try.func35 rfl ok35 ?_
  simp only [w_assign, w_box, w_load, w_buildSlice, w_callF, w_aop, w_some, w_asome, w_anone, w_nil, w_cons, awp, asP, asN, loadA, St.ev, St.step, setS, killS, AV.kill, AV.killL, Mem.kill, AV.cells, AV.flat, AV.single, AV.cellular, AV.size, AV.sizeL, AV.pure, AV.pureL, ACond_false, Value.oneCell', List.getD_cons_succ, List.getD_cons_zero, List.set_cons_succ, List.set_cons_zero, List.getElem?_cons_zero, List.length_cons, List.length_nil, List.replicate_succ, List.replicate_zero, List.cons_append, List.nil_append, List.contains_nil, List.isEmpty_nil, Option.getD_some, Bool.false_eq_true, if_false, if_true, true_and, and_true, List.all_cons, List.all_nil, Bool.and_true, Bool.true_and, Bool.not_true, Nat.zero_add, Nat.add_zero, beq_self_eq_true, List.map_cons, List.map_nil, decide_true, nbeq, Nat.reduceAdd, Nat.reduceMul, Nat.reduceSub, Nat.reduceLeDiff, Int.reduceAdd, Int.reduceSub, Int.reduceMul, ti22, ti24, Try.ntmps35, gA]
  refine ⟨⟨by decide, rfl⟩, acall_v (s55 4 [g, h] (by simp)) rfl rfl ?_⟩
  simp only [w_move, w_assign, w_binOp, w_aop, w_some, w_asome, w_anone, w_nil, w_cons, awp, binC, cmpC, asB, asI, asN, St.ev, St.step, setS, killS, AV.kill, AV.killL, Mem.kill, ACond_false, List.getD_cons_succ, List.getD_cons_zero, List.set_cons_succ, List.set_cons_zero, List.contains_nil, List.isEmpty_nil, Option.getD_some, Bool.false_eq_true, if_false, if_true, true_and, Bool.true_and, Nat.reduceAdd, Int.reduceAdd]
  by_cases hv : vG 4 [g, h] = 0
  · simp only [w_load, w_callF, w_aop, w_some, w_asome, w_cons, awp, asP, loadA, St.ev, St.step, setS, killS, AV.kill, AV.killL, Mem.kill, AV.cells, AV.flat, AV.single, ACond_false, List.getD_cons_succ, List.getD_cons_zero, List.set_cons_succ, List.set_cons_zero, List.getElem?_cons_zero, List.length_cons, List.length_nil, List.contains_nil, List.isEmpty_nil, Bool.false_eq_true, if_false, if_true, and_true, List.all_cons, List.all_nil, Bool.and_true, Bool.not_true, Nat.zero_add, beq_self_eq_true, List.map_cons, List.map_nil, decide_true, Nat.reduceAdd, Nat.reduceLeDiff, Int.reduceAdd, ti24, decide_eq_true hv]
    refine acall_v (s68 g h) rfl rfl ?_
    simp only [w_assign, w_aop, w_anone, w_nil, w_cons, awp, asN, St.ev, St.step, setS, killS, AV.kill, AV.killL, Mem.kill, List.getD_cons_succ, List.getD_cons_zero, List.set_cons_succ, List.set_cons_zero, List.contains_nil, List.isEmpty_nil, Option.getD_some, Bool.false_eq_true, if_false, if_true]
    exact aend_frz rfl ⟨by simp [hv]; rfl, rfl⟩
  · simp only [w_move, w_assign, w_aop, w_anone, w_nil, w_cons, awp, asN, St.ev, St.step, setS, killS, AV.kill, AV.killL, Mem.kill, ACond_true, ACond_false, List.getD_cons_succ, List.getD_cons_zero, List.set_cons_succ, List.set_cons_zero, List.contains_nil, List.isEmpty_nil, Option.getD_some, Bool.false_eq_true, if_false, if_true, Bool.not_false, Bool.false_and, Nat.reduceAdd, Int.reduceAdd, decide_eq_false hv]
    exact aend_frz rfl ⟨rfl, rfl⟩

theorem ok36 : okFn Try.prog 36 = true := by kernel_rfl
theorem s36 (g h : G4) : ASpec Try.prog 36 [gA g, gA h] (fun r Ms => r = .t [B (decide (vG 4 [g, h] = 0) && g.comm' h), I (vG 4 [g, h])] ∧ Ms = []) := by
  refine aspec_of (own := []) Try.func36 rfl ok36 ?_
  simp only [w_assign, w_box, w_load, w_callF, w_aop, w_some, w_asome, w_anone, w_nil, w_cons, awp, asP, asN, loadA, St.ev, St.step, setS, killS, AV.kill, AV.killL, Mem.kill, AV.cells, AV.flat, AV.single, AV.cellular, AV.pure, AV.pureL, ACond_false, List.getD_cons_succ, List.getD_cons_zero, List.set_cons_succ, List.set_cons_zero, List.getElem?_cons_zero, List.length_cons, List.length_nil, List.replicate_succ, List.replicate_zero, List.cons_append, List.nil_append, List.contains_nil, List.isEmpty_nil, Option.getD_some, Bool.false_eq_true, if_false, if_true, true_and, and_true, List.all_cons, List.all_nil, Bool.and_true, Bool.true_and, Bool.not_true, Nat.zero_add, Nat.add_zero, beq_self_eq_true, List.map_cons, List.map_nil, decide_true, Nat.reduceAdd, Nat.reduceSub, Nat.reduceLeDiff, Int.reduceAdd, Int.reduceSub, ti24, Try.ntmps36, gA]
  refine acall_v (s69 4 g (by omega)) rfl rfl ?_
  simp only [w_move, w_not, w_aop, w_aopg, w_gdb, w_some, w_cons, asB, St.ev, St.step, setS, killS, AV.kill, AV.killL, Mem.kill, List.getD_cons_succ, List.getD_cons_zero, List.set_cons_succ, List.set_cons_zero, List.getElem?_cons_succ, List.getElem?_cons_zero, List.isEmpty_nil, if_true, Option.bind_some, w_bf]
  cases h1 : okG 4 g with
  | false =>
    simp only [w_assign, w_pick, w_aop, w_aopg, w_gdb, w_some, w_anone, w_nil, w_cons, awp, asB, asN, St.ev, St.step, setS, killS, AV.kill, AV.killL, Mem.kill, ACond_true, ACond_false, List.getD_cons_succ, List.getD_cons_zero, List.set_cons_succ, List.set_cons_zero, List.getElem?_cons_succ, List.getElem?_cons_zero, List.contains_nil, List.isEmpty_nil, Option.getD_some, Bool.false_eq_true, if_false, if_true, Bool.not_true, Bool.not_false, Nat.reduceAdd, Int.reduceAdd, Option.bind_some, w_bf]
    exact aend_frz rfl ⟨by rw [vG2, h1]; simp; rfl, rfl⟩
  | true =>
    simp only [w_load, w_callF, w_aopg, w_gdb, w_some, w_asome, w_cons, asP, loadA, St.ev, St.step, setS, killS, AV.kill, AV.killL, Mem.kill, AV.cells, AV.flat, AV.single, ACond_true, List.getD_cons_succ, List.getD_cons_zero, List.set_cons_succ, List.set_cons_zero, List.getElem?_cons_succ, List.getElem?_cons_zero, List.length_cons, List.length_nil, List.isEmpty_nil, Bool.false_eq_true, if_false, if_true, and_true, List.all_cons, List.all_nil, Bool.and_true, Bool.not_true, Bool.not_false, Nat.zero_add, beq_self_eq_true, List.map_cons, List.map_nil, decide_true, Nat.reduceAdd, Nat.reduceLeDiff, Int.reduceAdd, Option.bind_some, ti24]
    refine acall_v (s69 4 h (by omega)) rfl rfl ?_
    simp only [w_pick, w_not, w_aop, w_aopg, w_gdb, w_some, w_nil, w_cons, awp, asB, St.ev, St.step, setS, killS, AV.kill, AV.killL, Mem.kill, ACond_true, ACond_false, List.getD_cons_succ, List.getD_cons_zero, List.set_cons_succ, List.set_cons_zero, List.getElem?_cons_succ, List.getElem?_cons_zero, List.isEmpty_nil, if_true, beq_self_eq_true, Option.bind_some]
    cases h2 : okG 4 h with
    | false =>
      simp only [w_assign, w_aop, w_anone, w_nil, w_cons, awp, asN, St.ev, St.step, setS, killS, AV.kill, AV.killL, Mem.kill, ACond_true, ACond_false, List.set_cons_succ, List.set_cons_zero, List.contains_nil, List.isEmpty_nil, Option.getD_some, Bool.false_eq_true, if_false, if_true, Bool.not_false, Nat.reduceAdd, Int.reduceAdd]
      exact aend_frz rfl ⟨by rw [vG2, h1, h2]; simp; rfl, rfl⟩
    | true =>
      simp only [w_load, w_callF, w_aop, w_some, w_asome, w_cons, awp, asP, loadA, St.ev, St.step, setS, killS, AV.kill, AV.killL, Mem.kill, AV.cells, AV.flat, AV.single, ACond_false, List.getD_cons_succ, List.getD_cons_zero, List.set_cons_succ, List.set_cons_zero, List.getElem?_cons_zero, List.length_cons, List.length_nil, List.contains_nil, List.isEmpty_nil, Bool.false_eq_true, if_false, if_true, and_true, List.all_cons, List.all_nil, Bool.and_true, Bool.not_true, Nat.zero_add, beq_self_eq_true, List.map_cons, List.map_nil, decide_true, Nat.reduceAdd, Nat.reduceLeDiff, Int.reduceAdd, ti24]
      refine acall_v (s70 g h) rfl rfl ?_
      simp only [w_assign, w_aop, w_anone, w_nil, w_cons, awp, asN, St.ev, St.step, setS, killS, AV.kill, AV.killL, Mem.kill, List.getD_cons_succ, List.getD_cons_zero, List.set_cons_succ, List.set_cons_zero, List.contains_nil, List.isEmpty_nil, Option.getD_some, Bool.false_eq_true, if_false, if_true]
      exact aend_frz rfl ⟨by rw [vG2, h1, h2]; simp; rfl, rfl⟩

/-- how far behind a gate the next one of its type lies to which it can be brought. -/
def mtIn (g : G4) : List G4 → Option Nat
  | [] => none
  | h :: t => if g.same h then some 0 else if g.comm' h then (mtIn g t).map (· + 1) else none
/-- the places of two gates that meet. -/
def mt : List G4 → Option (Nat × Nat)
  | [] => none
  | g :: t => match mtIn g t with | some k => some (0, k + 1) | none => (mt t).map fun p => (p.1 + 1, p.2 + 1)
def mtA : Option (Nat × Nat) → AV
  | some p => .t [I (p.1 : Int), I (p.2 : Int), B true]
  | none => .t [I 0, I 0, B false]

theorem mtIn_step {c : List G4} {g : G4} {k : Nat} (hk : k < c.length) : mtIn g (c.drop k) = if g.same c[k] then some 0 else if g.comm' c[k] then (mtIn g (c.drop (k + 1))).map (· + 1) else none := by
  rw [List.drop_eq_getElem_cons hk, mtIn]
theorem mt_step {c : List G4} {k : Nat} (hk : k < c.length) : mt (c.drop k) = match mtIn c[k] (c.drop (k + 1)) with | some j => some (0, j + 1) | none => (mt (c.drop (k + 1))).map fun p => (p.1 + 1, p.2 + 1) := by
  rw [List.drop_eq_getElem_cons hk, mt]

theorem ok67 : okFn Try.prog 67 = true := by kernel_rfl
theorem s67 (c : List G4) (hl : c.length ≤ 10000) : ASpec Try.prog 67 [.s 4 (gtsA c)] (fun r Ms => r = mtA (mt c) ∧ Ms = []) := by
  refine aspec_of (own := []) Try.func67 rfl ok67 ?_
  simp only [w_assign, w_aop, w_anone, w_nil, w_cons, awp, asN, St.ev, St.step, setS, killS, AV.kill, AV.killL, Mem.kill, ACond_false, List.set_cons_succ, List.set_cons_zero, List.length_cons, List.length_nil, List.replicate_succ, List.replicate_zero, List.cons_append, List.nil_append, List.contains_nil, List.isEmpty_nil, Option.getD_some, Bool.false_eq_true, if_false, if_true, Nat.zero_add, Nat.add_zero, Nat.reduceAdd, Nat.reduceSub, Int.reduceAdd, Int.reduceSub, Try.ntmps67]
  refine swp_loop' (fun i : Nat => ⟨[.s 4 (gtsA c), .bot, .bot, .bot, .bot, I i, .bot, .bot, .bot, .bot, .bot, .bot, .bot, .bot, .bot, .bot, .bot, .bot, .bot, .bot, .bot, .bot, .bot, .bot, .bot, .bot, .bot, .bot, .bot, .bot, .bot, .bot, .bot, .bot, .bot, .bot, .bot, .bot, .bot, .bot, .bot, .bot, .bot, .bot], []⟩) (fun i => i ≤ c.length ∧ mt c = (mt (c.drop i)).map fun p => (p.1 + i, p.2 + i)) (fun i => c.length - i) 0 (le_sl (by simp [leSl])) ⟨Nat.zero_le _, by simp⟩ ?_
  rintro i ⟨hi, hm⟩
  refine awp_sound (own := []) _ _ _ _ _ ?_
  simp only [w_move, w_binOp, w_len, w_aop, w_some, w_asome, w_nil, w_cons, awp, binC, cmpC, asB, asI, lenA, St.ev, St.step, setS, killS, AV.kill, AV.killL, Mem.kill, ACond_false, List.getD_cons_succ, List.getD_cons_zero, List.set_cons_succ, List.set_cons_zero, List.contains_nil, List.isEmpty_nil, if_true, true_and, Bool.true_and, Option.isSome_some, Nat.reduceAdd, Int.reduceAdd, gtsA_len, ti22]
  by_cases h : i < c.length
  · have h' : (i : Int) < (c.length : Int) := by omega
    simp only [w_move, w_assign, w_binOp, w_aop, w_some, w_asome, w_anone, w_nil, w_cons, awp, binC, arithC, cmpC, asI, asN, St.ev, St.step, setS, killS, AV.kill, AV.killL, Mem.kill, ACond_true, ACond_false, List.getD_cons_succ, List.getD_cons_zero, List.set_cons_succ, List.set_cons_zero, List.contains_nil, List.isEmpty_nil, Option.getD_some, Bool.false_eq_true, if_false, if_true, true_and, and_true, Bool.and_true, Bool.true_and, Nat.reduceAdd, Int.reduceAdd, decide_eq_true h']
    refine ⟨by unfold lim; omega, ?_⟩
    refine swp_loop' (fun k : Nat => ⟨[.s 4 (gtsA c), .bot, .bot, .bot, .bot, I i, I k, .bot, .bot, .bot, .bot, .bot, .bot, .bot, .bot, .bot, .bot, .bot, .bot, .bot, .bot, .bot, .bot, .bot, .bot, .bot, .bot, .bot, .bot, .bot, .bot, .bot, .bot, .bot, .bot, .bot, .bot, .bot, .bot, .bot, .bot, .bot, .bot, .bot], []⟩) (fun k => i + 1 ≤ k ∧ k ≤ c.length ∧ mtIn c[i] (c.drop (i + 1)) = (mtIn c[i] (c.drop k)).map (· + (k - (i + 1)))) (fun k => c.length - k) (i + 1) (le_sl (by simp [leSl])) ⟨Nat.le_refl _, h, by simp⟩ ?_
    rintro k ⟨hk0, hk, hn⟩
    refine awp_sound (own := []) _ _ _ _ _ ?_
    simp only [w_move, w_binOp, w_len, w_aop, w_some, w_asome, w_nil, w_cons, awp, binC, cmpC, asB, asI, lenA, St.ev, St.step, setS, killS, AV.kill, AV.killL, Mem.kill, ACond_false, List.getD_cons_succ, List.getD_cons_zero, List.set_cons_succ, List.set_cons_zero, List.contains_nil, List.isEmpty_nil, if_true, true_and, Bool.true_and, Option.isSome_some, Nat.reduceAdd, Int.reduceAdd, gtsA_len, ti22]
    by_cases hkl : k < c.length
    · have hk' : (k : Int) < (c.length : Int) := by omega
      simp only [awp, ACond_true, decide_eq_true hk']
      refine swp_draw (own := []) (.take 0 .plain [] (.take 1 .plain [] (.take 2 .reads [] (.take 3 .reads [] (.take 5 .plain [] (.take 6 .plain [] (.take 7 .reads [] (.take 8 .reads [] (.alt 4 (.alt 9 (.take 10 .plain [] (.done)) (.nil)) (.nil)))))))))) [⟨22, 1, 0, 0, true⟩, ⟨23, 32, 0, 0, true⟩, ⟨24, 6291456, 3, 0, true⟩, ⟨25, 8388608, 4, 0, true⟩, ⟨26, 16777216, 8, 0, false⟩, ⟨27, 1, 0, 0, true⟩, ⟨28, 64, 0, 0, true⟩, ⟨29, 201326592, 96, 0, true⟩, ⟨30, 268435456, 128, 0, true⟩, ⟨31, 536870912, 272, 0, false⟩, ⟨32, 1107296256, 528, 0, true⟩] mo (by kernel_rfl) ?_
      simp only [w_move, w_load, w_indexAddr, w_callF, w_aop, w_take, w_some, w_asome, idxC, asP, asS, asI, loadA, St.ev, setS, AV.cells, AV.flat, AV.single, List.getD_cons_succ, List.getD_cons_zero, List.set_cons_succ, List.set_cons_zero, List.getElem?_cons_succ, List.getElem?_cons_zero, List.length_cons, List.length_nil, Bool.false_eq_true, if_false, if_true, true_and, and_true, List.all_cons, List.all_nil, Bool.and_true, Bool.true_and, Bool.not_true, Nat.zero_add, beq_self_eq_true, List.map_cons, List.map_nil, decide_true, Nat.reduceAdd, Nat.reduceLeDiff, Int.reduceAdd, ASch, St.put, Md.mem, Md.need, ti22, ti24, aget_gts h, aget_gts hkl, Int.toNat_natCast]
      refine ⟨by omega, by omega, acall_v (s44 c[i]) rfl rfl ?_⟩
      simp only [w_callF, w_aop, w_some, St.ev, St.step, setS, killS, AV.kill, AV.killL, Mem.kill, List.getD_cons_succ, List.getD_cons_zero, List.set_cons_succ, List.set_cons_zero, List.getElem?_cons_succ, List.getElem?_cons_zero, List.isEmpty_nil, if_true, and_true, Bool.and_true, List.map_cons, List.map_nil, ASch, gA]
      refine acall_v (s44 c[k]) rfl rfl ?_
      simp only [w_binOp, w_take, w_some, w_asome, w_anone, awp, binC, eqC, asG, asB, asI, St.ev, St.step, setS, killS, AV.kill, AV.killL, Mem.kill, ints, List.getD_cons_succ, List.getD_cons_zero, List.set_cons_succ, List.set_cons_zero, List.getElem?_cons_succ, List.getElem?_cons_zero, List.length_cons, List.length_nil, List.isEmpty_nil, if_true, true_and, and_true, Bool.and_true, Bool.true_and, Nat.zero_add, Nat.reduceAdd, Int.reduceAdd, ASch, St.put, Md.mem, Md.need, Option.map_some, ti24, gA]
      by_cases c1 : [c[i].k, c[i].a, c[i].b, 0] = [c[k].k, c[k].a, c[k].b, 0]
      · have d1 := (same_iff _ _).1 c1
        simp only [w_move, w_assign, w_aop, w_anone, w_nil, w_cons, awp, asN, St.ev, St.step, setS, killS, AV.kill, AV.killL, Mem.kill, ACond_true, ACond_false, List.getD_cons_succ, List.getD_cons_zero, List.set_cons_succ, List.set_cons_zero, List.contains_nil, List.isEmpty_nil, Option.getD_some, Bool.false_eq_true, if_false, if_true, Nat.reduceAdd, Int.reduceAdd, St.put, decide_eq_true c1]
        have e1 : mtIn c[i] (c.drop (i + 1)) = some (k - (i + 1)) := by rw [hn, mtIn_step hkl, if_pos d1]; simp
        have e2 : mt c = some (i, k) := by rw [hm, mt_step h, e1]; simp; omega
        exact aend_frz rfl ⟨by rw [e2]; rfl, rfl⟩
      · have d1 : c[i].same c[k] = false := by
          cases hx : c[i].same c[k] with
          | false => rfl
          | true => exact absurd ((same_iff _ _).2 hx) c1
        simp only [awp, setS, ACond_false, List.set_cons_succ, List.set_cons_zero, St.put, decide_eq_false c1]
        refine swp_draw (own := []) (.take 0 .plain [] (.take 1 .plain [] (.take 2 .reads [] (.take 3 .reads [] (.take 4 .plain [] (.take 5 .plain [] (.take 6 .reads [] (.take 7 .reads [] (.alt 8 (.take 9 .plain [] (.done)) (.nil)))))))))) [⟨35, 1, 0, 0, true⟩, ⟨36, 32, 0, 0, true⟩, ⟨37, 51539607552, 3, 0, true⟩, ⟨38, 68719476736, 4, 0, true⟩, ⟨39, 1, 0, 0, true⟩, ⟨40, 64, 0, 0, true⟩, ⟨41, 824633720832, 48, 0, true⟩, ⟨42, 1099511627776, 64, 0, true⟩, ⟨43, 2336462209024, 136, 0, false⟩, ⟨44, 4398046511104, 256, 0, true⟩] mo (by kernel_rfl) ?_
        simp only [w_move, w_load, w_indexAddr, w_callF, w_aop, w_take, w_some, w_asome, idxC, asP, asS, asI, loadA, St.ev, setS, AV.cells, AV.flat, AV.single, List.getD_cons_succ, List.getD_cons_zero, List.set_cons_succ, List.set_cons_zero, List.getElem?_cons_succ, List.getElem?_cons_zero, List.length_cons, List.length_nil, Bool.false_eq_true, if_false, if_true, true_and, and_true, List.all_cons, List.all_nil, Bool.and_true, Bool.true_and, Bool.not_true, Nat.zero_add, beq_self_eq_true, List.map_cons, List.map_nil, decide_true, Nat.reduceAdd, Nat.reduceLeDiff, Int.reduceAdd, ASch, St.put, Md.mem, Md.need, ti22, ti24, aget_gts h, aget_gts hkl, Int.toNat_natCast]
        refine ⟨by omega, by omega, acall_v (s70 c[i] c[k]) rfl rfl ?_⟩
        simp only [w_not, w_take, w_some, awp, asB, St.ev, St.step, setS, killS, AV.kill, AV.killL, Mem.kill, List.getD_cons_succ, List.getD_cons_zero, List.set_cons_succ, List.set_cons_zero, List.getElem?_cons_succ, List.getElem?_cons_zero, List.isEmpty_nil, if_true, true_and, Bool.true_and, ASch, St.put, Md.mem, Md.need]
        cases d2 : c[i].comm' c[k] with
        | true =>
          simp only [w_move, w_assign, w_binOp, w_aop, w_some, w_asome, w_anone, w_nil, w_cons, awp, binC, arithC, cmpC, asI, asN, St.ev, St.step, setS, killS, AV.kill, AV.killL, Mem.kill, ACond_false, List.getD_cons_succ, List.getD_cons_zero, List.set_cons_succ, List.set_cons_zero, List.contains_nil, List.isEmpty_nil, Option.getD_some, Bool.false_eq_true, if_false, if_true, true_and, and_true, Bool.and_true, Bool.true_and, Bool.not_true, Nat.reduceAdd, Int.reduceAdd, St.put]
          refine ⟨by unfold lim; omega, k + 1, le_sl (by simp [leSl]), ⟨by omega, hkl, ?_⟩, by omega⟩
          rw [hn, mtIn_step hkl, d1, d2]
          simp only [Bool.false_eq_true, if_false, if_true, Option.map_map]
          congr 1
          funext x
          simp
          omega
        | false =>
          simp only [w_move, w_assign, w_binOp, w_aop, w_some, w_asome, w_anone, w_nil, w_cons, awp, binC, arithC, cmpC, asI, asN, St.ev, St.step, setS, killS, AV.kill, AV.killL, Mem.kill, ACond_true, ACond_false, List.getD_cons_succ, List.getD_cons_zero, List.set_cons_succ, List.set_cons_zero, List.contains_nil, List.isEmpty_nil, Option.getD_some, Bool.false_eq_true, if_false, if_true, true_and, and_true, Bool.and_true, Bool.true_and, Bool.not_false, Nat.reduceAdd, Nat.reduceEqDiff, Int.reduceAdd, St.put]
          have e1 : mtIn c[i] (c.drop (i + 1)) = none := by rw [hn, mtIn_step hkl, d1, d2]; simp
          refine ⟨by unfold lim; omega, i + 1, le_sl (by simp [leSl]), ⟨h, ?_⟩, by omega⟩
          rw [hm, mt_step h, e1]
          simp only [Option.map_map]
          congr 1
          funext x
          simp
          omega
    · have hk' : ¬ (k : Int) < (c.length : Int) := by omega
      have hkc : k = c.length := by omega
      simp only [w_move, w_assign, w_binOp, w_aop, w_some, w_asome, w_anone, w_nil, w_cons, awp, binC, arithC, cmpC, asI, asN, St.ev, St.step, setS, killS, AV.kill, AV.killL, Mem.kill, ACond_false, List.getD_cons_succ, List.getD_cons_zero, List.set_cons_succ, List.set_cons_zero, List.contains_nil, List.isEmpty_nil, Option.getD_some, Bool.false_eq_true, if_false, if_true, true_and, and_true, Bool.and_true, Bool.true_and, Nat.reduceAdd, Nat.reduceEqDiff, Int.reduceAdd, decide_eq_false hk']
      have e1 : mtIn c[i] (c.drop (i + 1)) = none := by rw [hn, hkc, List.drop_length]; rfl
      refine ⟨by unfold lim; omega, i + 1, le_sl (by simp [leSl]), ⟨h, ?_⟩, by omega⟩
      rw [hm, mt_step h, e1]
      simp only [Option.map_map]
      congr 1
      funext x
      simp
      omega
  · have h' : ¬ (i : Int) < (c.length : Int) := by omega
    simp only [w_assign, w_aop, w_anone, w_nil, w_cons, awp, asN, St.ev, St.step, setS, killS, AV.kill, AV.killL, Mem.kill, ACond_false, List.set_cons_succ, List.set_cons_zero, List.contains_nil, List.isEmpty_nil, Option.getD_some, Bool.false_eq_true, if_false, if_true, Nat.reduceAdd, Int.reduceAdd, decide_eq_false h']
    have e1 : mt c = none := by rw [hm, show i = c.length by omega, List.drop_length]; rfl
    exact aend_frz rfl ⟨by rw [e1]; rfl, rfl⟩
end Go.Proofs.Ytkmbbbemmohmcaa

namespace Go.Proofs.Ytkmbbbemmohmcaa
open Aw Go.RowKit
set_option linter.unusedSimpArgs false

/-- the place of the smallest of some gates. -/
def bstL (lt : G4 → G4 → Bool) (c : List G4) : List Nat → Nat
  | [] => 0
  | x :: t => t.foldl (fun b y => if lt (c.getD y default) (c.getD b default) then y else b) x
theorem bstL_one (lt : G4 → G4 → Bool) (c : List G4) (l : List Nat) (h : 0 < l.length) : bstL lt c (l.take 1) = l[0] := by
  cases l with
  | nil => simp at h
  | cons x l => rfl
theorem bstL_succ (lt : G4 → G4 → Bool) (c : List G4) (l : List Nat) {j : Nat} (h1 : 1 ≤ j) (h : j < l.length) : bstL lt c (l.take (j + 1)) = if lt (c.getD l[j] default) (c.getD (bstL lt c (l.take j)) default) then l[j] else bstL lt c (l.take j) := by
  cases l with
  | nil => simp at h
  | cons x l =>
    obtain ⟨i, rfl⟩ : ∃ i, j = i + 1 := ⟨j - 1, by omega⟩
    simp only [List.take_succ_cons, bstL, List.getElem_cons_succ]
    rw [List.take_add_one, List.foldl_append, List.getElem?_eq_getElem (by simpa using h)]
    rfl
theorem foldl_mem (f : Nat → Nat → Nat) (hf : ∀ a b, f a b = a ∨ f a b = b) : ∀ (l : List Nat) (x : Nat), l.foldl f x = x ∨ l.foldl f x ∈ l
  | [], x => .inl rfl
  | y :: l, x => by
    simp only [List.foldl_cons]
    rcases foldl_mem f hf l (f x y) with h | h
    · rw [h]
      rcases hf x y with h | h
      · exact .inl h
      · right; rw [h]; simp
    · exact .inr (List.mem_cons_of_mem _ h)
theorem bstL_mem (lt : G4 → G4 → Bool) (c : List G4) (l : List Nat) (h : l ≠ []) : bstL lt c l ∈ l := by
  cases l with
  | nil => exact absurd rfl h
  | cons x l =>
    rcases foldl_mem (fun b y => if lt (c.getD y default) (c.getD b default) then y else b) (fun a b => by split <;> simp) l x with h | h
    · show List.foldl _ x l ∈ _
      rw [h]; simp
    · exact List.mem_cons_of_mem _ h

theorem fsN_lt {bd : G4 → G4 → Bool} {c : List G4} {k i : Nat} (h : i ∈ fsN bd c k) : i < k := by
  unfold fsN at h
  have := (List.mem_filter.1 h).1
  simpa using this
theorem fsN_ne {bd : G4 → G4 → Bool} {c : List G4} {k : Nat} (h : 0 < k) : fsN bd c k ≠ [] := by
  have : 0 ∈ fsN bd c k := by unfold fsN; simp [h, fst1]
  intro e
  rw [e] at this
  cases this
theorem fsI_at {bd : G4 → G4 → Bool} {c : List G4} {k j : Nat} (h : j < (fsN bd c k).length) (h' : j < (fsI bd c k).length) : (fsI bd c k)[j] = (((fsN bd c k)[j] : Nat) : Int) := by simp [fsI]
theorem fsI_lenN (bd : G4 → G4 → Bool) (c : List G4) (k : Nat) : (fsI bd c k).length = (fsN bd c k).length := by simp [fsI]

/-- the place of the gate that the name begins with. -/
def bst (lt bd : G4 → G4 → Bool) (c : List G4) : Nat := bstL lt c (fsN bd c c.length)
theorem bst_lt (lt bd : G4 → G4 → Bool) (c : List G4) (h : 0 < c.length) : bst lt bd c < c.length := fsN_lt (bstL_mem lt c _ (fsN_ne h))

/-- the name of a circuit. -/
def nmF (lt bd : G4 → G4 → Bool) : Nat → List G4 → List G4
  | 0, _ => []
  | n + 1, c => if c.isEmpty then [] else c.getD (bst lt bd c) default :: nmF lt bd n (wo c (bst lt bd c))
def nmR (lt bd : G4 → G4 → Bool) (c : List G4) : List G4 := nmF lt bd c.length c
theorem nmR_nil (lt bd : G4 → G4 → Bool) : nmR lt bd [] = [] := rfl
theorem nmR_step (lt bd : G4 → G4 → Bool) (c : List G4) (h : 0 < c.length) : nmR lt bd c = c.getD (bst lt bd c) default :: nmR lt bd (wo c (bst lt bd c)) := by
  unfold nmR
  rw [wo_len c (bst_lt lt bd c h)]
  obtain ⟨n, hn⟩ : ∃ n, c.length = n + 1 := ⟨c.length - 1, by omega⟩
  have hne : c.isEmpty = false := by cases c with | nil => simp at h | cons => rfl
  rw [hn, nmF, hne]
  simp
theorem nmR_len (lt bd : G4 → G4 → Bool) : ∀ (n : Nat) (c : List G4), c.length = n → (nmR lt bd c).length = n
  | 0, c, h => by
    have : c = [] := List.eq_nil_of_length_eq_zero h
    subst this
    rfl
  | n + 1, c, h => by
    have hp : 0 < c.length := by omega
    rw [nmR_step lt bd c hp, List.length_cons, nmR_len lt bd n _ (by rw [wo_len c (bst_lt lt bd c hp)]; omega)]

theorem ok76 : okFn Try.prog 76 = true := by kernel_rfl
set_option maxHeartbeats 1000000 in
theorem s76 (c : List G4) (hl : c.length ≤ 10000) : ASpec Try.prog 76 [.s 4 (gtsA c)] (fun r Ms => r = .s 4 (gtsA (nmR G4.less bdr c)) ∧ Ms = []) := by
  refine aspec_of (own := [3]) Try.func76 rfl ok76 ?_
  simp only [w_assign, w_aop, w_some, w_asome, w_anone, w_nil, w_cons, awp, asN, Aw.newRow, St.ev, St.step, setS, killS, AV.kill, AV.killL, Mem.kill, ACond_false, List.set_cons_succ, List.set_cons_zero, List.length_cons, List.length_nil, List.replicate_succ, List.replicate_zero, List.cons_append, List.nil_append, List.contains_nil, List.contains_cons, List.isEmpty_nil, Option.getD_some, Bool.false_eq_true, if_false, if_true, Nat.zero_add, Nat.add_zero, beq_self_eq_true, nbeq, decide_false, Bool.or_false, Nat.reduceAdd, Nat.reduceEqDiff, Nat.reduceSub, Int.reduceAdd, Int.reduceSub, ti22, ti24, Try.ntmps76]
  refine swp_loop' (fun i : List G4 × List G4 => ⟨[.s 4 (gtsA i.1), .bot, .bot, .o 0, .bot, .bot, .bot, .bot, .bot, .bot, .bot, .bot, .bot, .bot, .bot, .bot, .bot, .bot, .bot, .bot, .bot, .bot, .bot, .bot, .bot, .bot, .bot, .bot, .bot, .bot, .bot, .bot, .bot, .bot, .bot, .bot, .bot, .bot, .bot, .bot, .bot, .bot, .bot, .bot, .bot, .bot, .bot, .bot], [some ⟨none, 24, 4, gtsA i.2⟩]⟩) (fun i => i.1.length ≤ c.length ∧ nmR G4.less bdr c = i.2 ++ nmR G4.less bdr i.1) (fun i => i.1.length) (c, []) (le_sl (by simp [leSl])) ⟨Nat.le_refl _, by simp⟩ ?_
  rintro ⟨d, out⟩ ⟨hd, hn⟩
  simp only at hd hn
  refine awp_sound (own := [3]) _ _ _ _ _ ?_
  simp only [w_move, w_binOp, w_len, w_aop, w_some, w_asome, w_nil, w_cons, awp, binC, cmpC, asB, asI, lenA, St.ev, St.step, setS, killS, AV.kill, AV.killL, Mem.kill, ACond_false, List.getD_cons_succ, List.getD_cons_zero, List.set_cons_succ, List.set_cons_zero, List.contains_nil, List.contains_cons, List.isEmpty_nil, Bool.false_eq_true, if_false, if_true, true_and, Bool.true_and, Option.isSome_some, nbeq, decide_false, Bool.or_false, Nat.reduceAdd, Nat.reduceEqDiff, Int.reduceAdd, gtsA_len, ti22]
  by_cases h : 0 < d.length
  · have h' : (0 : Int) < (d.length : Int) := by omega
    simp only [w_move, w_callF, w_aop, w_cons, awp, St.ev, St.step, setS, killS, AV.kill, AV.killL, Mem.kill, ACond_true, ACond_false, List.getD_cons_succ, List.getD_cons_zero, List.set_cons_succ, List.set_cons_zero, List.contains_nil, List.contains_cons, List.isEmpty_nil, Bool.false_eq_true, if_false, if_true, List.map_cons, List.map_nil, nbeq, decide_false, Bool.or_false, Nat.reduceAdd, Nat.reduceEqDiff, Int.reduceAdd, decide_eq_true h']
    refine acall_v (s71 d (by omega)) rfl rfl ?_
    simp only [w_move, w_assign, w_indexAddr, w_aop, w_some, w_asome, w_anone, w_nil, w_cons, awp, idxC, asS, asI, asN, St.ev, St.step, setS, killS, AV.kill, AV.killL, Mem.kill, ACond_false, List.getD_cons_succ, List.getD_cons_zero, List.set_cons_succ, List.set_cons_zero, List.contains_nil, List.contains_cons, List.isEmpty_nil, Option.getD_some, Bool.false_eq_true, if_false, if_true, true_and, and_true, Bool.and_true, Bool.true_and, nbeq, decide_false, Bool.or_false, Nat.reduceAdd, Nat.reduceEqDiff, Int.reduceAdd, Int.reduceLE, Int.toNat_zero, ti3, ti31]
    obtain ⟨l, hlN⟩ : ∃ l, l = fsN bdr d d.length := ⟨_, rfl⟩
    have hne : 0 < l.length := by rw [hlN]; exact List.length_pos_iff.2 (fsN_ne h)
    have hlen : (fsI bdr d d.length).length = l.length := by rw [hlN, fsI_lenN]
    have hll : l.length ≤ d.length := by rw [← hlen]; exact fsI_len _ _ _
    have hlt : ∀ x ∈ l, x < d.length := fun x hx => by rw [hlN] at hx; exact fsN_lt hx
    have hat : ∀ j (hj : j < l.length) (hj' : j < (fsI bdr d d.length).length), (fsI bdr d d.length)[j] = ((l[j] : Nat) : Int) := fun j hj hj' => by
      subst hlN
      exact fsI_at hj hj'
    have hb0 : nmR G4.less bdr d = d.getD (bstL G4.less d l) default :: nmR G4.less bdr (wo d (bstL G4.less d l)) := by rw [nmR_step _ _ d h, bst, ← hlN]
    have hbl : bstL G4.less d l < d.length := hlt _ (bstL_mem _ _ _ (List.length_pos_iff.1 hne))
    generalize fsI bdr d d.length = li at hlen hat ⊢
    clear hlN
    have h0l : 0 < li.length := by omega
    simp only [w_assign, w_load, w_aop, w_some, w_asome, w_anone, w_nil, w_cons, awp, asP, asN, loadA, St.ev, St.step, setS, killS, AV.kill, AV.killL, Mem.kill, AV.cells, AV.flat, AV.single, ACond_false, List.getD_cons_succ, List.getD_cons_zero, List.set_cons_succ, List.set_cons_zero, List.getElem?_cons_zero, List.contains_nil, List.contains_cons, List.isEmpty_nil, Option.getD_some, Bool.false_eq_true, if_false, if_true, and_true, List.all_cons, List.all_nil, Bool.and_true, Bool.not_true, nbeq, decide_false, Bool.or_false, Nat.reduceAdd, Nat.reduceEqDiff, Int.reduceAdd, ti3, aget_ints h0l, hat 0 hne h0l]
    refine swp_loop' (fun j : Nat => ⟨[.s 4 (gtsA d), .bot, .bot, .o 0, .s 1 (intsA li), I (bstL G4.less d (l.take j) : Nat), I j, .bot, .bot, .bot, .bot, .bot, .bot, .bot, .bot, .bot, .bot, .bot, .bot, .bot, .bot, .bot, .bot, .bot, .bot, .bot, .bot, .bot, .bot, .bot, .bot, .bot, .bot, .bot, .bot, .bot, .bot, .bot, .bot, .bot, .bot, .bot, .bot, .bot, .bot, .bot, .bot, .bot], [some ⟨none, 24, 4, gtsA out⟩]⟩) (fun j => 1 ≤ j ∧ j ≤ l.length) (fun j => l.length - j) 1 (le_sl (by simp [leSl, bstL_one _ _ _ hne])) ⟨Nat.le_refl _, hne⟩ ?_
    rintro j ⟨hj1, hj⟩
    refine awp_sound (own := [3]) _ _ _ _ _ ?_
    simp only [w_move, w_binOp, w_len, w_aop, w_some, w_asome, w_nil, w_cons, awp, binC, cmpC, asB, asI, lenA, St.ev, St.step, setS, killS, AV.kill, AV.killL, Mem.kill, ACond_false, List.getD_cons_succ, List.getD_cons_zero, List.set_cons_succ, List.set_cons_zero, List.contains_nil, List.contains_cons, List.isEmpty_nil, Bool.false_eq_true, if_false, if_true, true_and, Bool.true_and, Option.isSome_some, nbeq, decide_false, Bool.or_false, Nat.reduceAdd, Nat.reduceEqDiff, Int.reduceAdd, intsA_len, ti31, hlen]
    by_cases hjl : j < l.length
    · have hjl' : (j : Int) < (l.length : Int) := by omega
      have hjli : j < li.length := by omega
      have hlj : l[j] < d.length := hlt _ (List.getElem_mem hjl)
      have hs := bstL_succ G4.less d l hj1 hjl
      have hbj : bstL G4.less d (l.take j) < d.length := by
        refine hlt _ (List.mem_of_mem_take (bstL_mem _ _ _ fun e => ?_))
        have := congrArg List.length e
        rw [List.length_take, List.length_nil] at this
        omega
      generalize hbe : bstL G4.less d (l.take j) = b at hs hbj
      simp only [awp, ACond_true, decide_eq_true hjl']
      refine swp_draw (own := [3]) (.take 0 .plain [] (.take 1 .plain [] (.take 2 .plain [] (.take 3 .reads [] (.take 4 .reads [] (.take 5 .reads [] (.take 6 .reads [] (.take 7 .plain [] (.take 8 .plain [] (.take 9 .reads [] (.take 10 .reads [] (.alt 11 (.done) (.nil))))))))))))) [⟨22, 1, 0, 0, true⟩, ⟨23, 16, 0, 0, true⟩, ⟨24, 64, 0, 0, true⟩, ⟨25, 12582912, 6, 0, true⟩, ⟨26, 16777216, 8, 0, true⟩, ⟨27, 35651584, 17, 0, true⟩, ⟨28, 67108864, 32, 0, true⟩, ⟨29, 1, 0, 0, true⟩, ⟨30, 32, 0, 0, true⟩, ⟨31, 805306368, 384, 0, true⟩, ⟨32, 1073741824, 512, 0, true⟩, ⟨33, 2281701376, 1088, 0, false⟩] mo (by kernel_rfl) ?_
      simp only [w_move, w_load, w_indexAddr, w_callF, w_aop, w_take, w_some, w_asome, idxC, asP, asS, asI, loadA, St.ev, setS, AV.cells, AV.flat, AV.single, List.getD_cons_succ, List.getD_cons_zero, List.set_cons_succ, List.set_cons_zero, List.getElem?_cons_succ, List.getElem?_cons_zero, List.length_cons, List.length_nil, Bool.false_eq_true, if_false, if_true, true_and, and_true, List.all_cons, List.all_nil, Bool.and_true, Bool.true_and, Bool.not_true, Nat.zero_add, beq_self_eq_true, List.map_cons, List.map_nil, decide_true, Nat.reduceAdd, Nat.reduceLeDiff, Int.reduceAdd, ASch, St.put, Md.mem, Md.need, ti3, ti22, ti24, ti31, aget_ints hjli, hat j hjl hjli, aget_gts hlj, aget_gts hbj, Int.toNat_natCast]
      have g1 : d.getD l[j] default = d[l[j]] := by simp [hlj]
      have g2 : d.getD b default = d[b] := by simp [hbj]
      rw [g1, g2] at hs
      refine ⟨by omega, by omega, by omega, acall_v (s99 d[l[j]] d[b]) rfl rfl ?_⟩
      simp only [w_some, awp, asB, St.ev, St.step, setS, killS, AV.kill, AV.killL, Mem.kill, List.getD_cons_succ, List.getD_cons_zero, List.set_cons_succ, List.set_cons_zero, List.contains_nil, List.isEmpty_nil, Bool.false_eq_true, if_false, if_true, ASch]
      cases hb : G4.less d[l[j]] d[b] with
      | true =>
        simp only [w_move, w_assign, w_load, w_indexAddr, w_binOp, w_aop, w_some, w_asome, w_anone, w_nil, w_cons, awp, binC, idxC, arithC, cmpC, asP, asS, asI, asN, loadA, St.ev, St.step, setS, killS, AV.kill, AV.killL, Mem.kill, AV.cells, AV.flat, AV.single, ACond_true, ACond_false, List.getD_cons_succ, List.getD_cons_zero, List.set_cons_succ, List.set_cons_zero, List.getElem?_cons_zero, List.contains_nil, List.contains_cons, List.isEmpty_nil, Option.getD_some, Bool.false_eq_true, if_false, if_true, true_and, and_true, List.all_cons, List.all_nil, Bool.and_true, Bool.true_and, Bool.not_true, nbeq, decide_false, Bool.or_false, Nat.reduceAdd, Nat.reduceEqDiff, Int.reduceAdd, ti3, ti31, aget_ints hjli, hat j hjl hjli, Int.toNat_natCast]
        refine ⟨by omega, by unfold lim; omega, j + 1, le_sl ?_, ⟨by omega, hjl⟩, by omega⟩
        simp [leSl, hs, hb]
      | false =>
        simp only [w_move, w_assign, w_binOp, w_aop, w_some, w_asome, w_anone, w_nil, w_cons, awp, binC, arithC, cmpC, asI, asN, St.ev, St.step, setS, killS, AV.kill, AV.killL, Mem.kill, ACond_false, List.getD_cons_succ, List.getD_cons_zero, List.set_cons_succ, List.set_cons_zero, List.contains_nil, List.contains_cons, List.isEmpty_nil, Option.getD_some, Bool.false_eq_true, if_false, if_true, true_and, and_true, Bool.and_true, Bool.true_and, nbeq, decide_false, Bool.or_false, Nat.reduceAdd, Nat.reduceEqDiff, Int.reduceAdd]
        refine ⟨by unfold lim; omega, j + 1, le_sl ?_, ⟨by omega, hjl⟩, by omega⟩
        simp [leSl, hs, hb]
    · have hjl' : ¬ (j : Int) < (l.length : Int) := by omega
      have hje : j = l.length := by omega
      subst hje
      simp only [w_move, w_assign, w_indexAddr, w_aop, w_some, w_asome, w_anone, w_nil, w_cons, awp, idxC, asS, asI, asN, St.ev, St.step, setS, killS, AV.kill, AV.killL, Mem.kill, ACond_false, List.getD_cons_succ, List.getD_cons_zero, List.set_cons_succ, List.set_cons_zero, List.contains_nil, List.contains_cons, List.isEmpty_nil, Option.getD_some, Bool.false_eq_true, if_false, if_true, true_and, Bool.true_and, nbeq, decide_false, Bool.or_false, Nat.reduceAdd, Nat.reduceEqDiff, Int.reduceAdd, ti22, ti24, decide_eq_false hjl', List.take_length]
      generalize bstL G4.less d l = b at hb0 hbl
      simp only [w_move, w_assign, w_load, w_buildSlice, w_callF, w_append, w_aop, w_some, w_asome, w_anone, w_nil, w_cons, awp, asP, asO, asS, asN, obA, loadA, St.ev, St.step, setS, killS, AV.kill, AV.killL, Mem.kill, AV.cells, AV.flat, AV.single, AV.cellular, AV.size, AV.sizeL, AV.pure, AV.pureL, ACond_false, Value.oneCell', List.getD_cons_succ, List.getD_cons_zero, List.set_cons_succ, List.set_cons_zero, List.getElem?_cons_zero, List.length_cons, List.length_nil, List.contains_nil, List.contains_cons, List.isEmpty_nil, List.isEmpty_cons, Option.getD_some, Bool.false_eq_true, if_false, if_true, true_and, and_true, List.all_cons, List.all_nil, Bool.and_true, Bool.true_and, Bool.not_true, Nat.zero_add, Nat.add_zero, beq_self_eq_true, List.map_cons, List.map_nil, decide_true, nbeq, decide_false, Bool.or_false, Nat.reduceAdd, Nat.reduceEqDiff, Nat.reduceMul, Nat.reduceLeDiff, Int.reduceAdd, Int.reduceMul, Option.map_some, gtsA_len, ti22, ti24, aget_gts hbl, Int.toNat_natCast]
      have hol : out.length ≤ 10000 := by
        have := congrArg List.length hn
        rw [List.length_append, nmR_len _ _ _ c rfl] at this
        omega
      refine ⟨by omega, ⟨by decide, rfl⟩, ⟨by decide, by omega⟩, acall_v (s78 d b hbl (by omega)) rfl rfl ?_⟩
      simp only [w_assign, w_aop, w_anone, w_nil, w_cons, asN, St.ev, St.step, setS, killS, AV.kill, AV.killL, Mem.kill, List.getD_cons_succ, List.getD_cons_zero, List.set_cons_succ, List.set_cons_zero, List.contains_nil, List.contains_cons, List.isEmpty_nil, Option.getD_some, Bool.false_eq_true, if_false, if_true, nbeq, decide_false, Bool.or_false, Nat.reduceEqDiff, gtsA_kill, gtsA_app]
      have hwl := wo_len d hbl
      refine ⟨(wo d b, out ++ [d[b]]), le_sl (by simp [leSl]), ⟨by simp only; omega, ?_⟩, by simp only; omega⟩
      rw [hn, hb0]
      simp [hbl]
  · have h' : ¬ (0 : Int) < (d.length : Int) := by omega
    simp only [w_move, w_assign, w_aop, w_anone, w_nil, w_cons, awp, asN, St.ev, St.step, setS, killS, AV.kill, AV.killL, Mem.kill, ACond_false, List.getD_cons_succ, List.getD_cons_zero, List.set_cons_succ, List.set_cons_zero, List.contains_nil, List.contains_cons, List.isEmpty_nil, Option.getD_some, Bool.false_eq_true, if_false, if_true, nbeq, decide_false, Bool.or_false, Nat.reduceAdd, Nat.reduceEqDiff, Int.reduceAdd, decide_eq_false h']
    have hdn : d = [] := List.eq_nil_of_length_eq_zero (by omega)
    subst hdn
    exact aend_frz rfl ⟨by simp [frz, AV.sub, gtsA_pure, hn, nmR_nil], rfl⟩
end Go.Proofs.Ytkmbbbemmohmcaa

namespace Go.Proofs.Ytkmbbbemmohmcaa
open Aw Go.RowKit
set_option linter.unusedSimpArgs false

theorem ok34 : okFn Try.prog 34 = true := by kernel_rfl
theorem s34 (n : Int) (c : List G4) (hl : c.length ≤ 10000) : ASpec Try.prog 34 [I n, .s 4 (gtsA c)] (fun r Ms => r = .t [B (decide (vC n c = 0) && (mt c).isNone), I (vC n c)] ∧ Ms = []) := by
  refine aspec_of (own := []) Try.func34 rfl ok34 ?_
  simp only [w_move, w_assign, w_callF, w_aop, w_anone, w_nil, w_cons, awp, asN, St.ev, St.step, setS, killS, AV.kill, AV.killL, Mem.kill, ACond_false, List.getD_cons_succ, List.getD_cons_zero, List.set_cons_succ, List.set_cons_zero, List.length_cons, List.length_nil, List.replicate_succ, List.replicate_zero, List.cons_append, List.nil_append, List.contains_nil, List.isEmpty_nil, Option.getD_some, Bool.false_eq_true, if_false, if_true, Nat.zero_add, Nat.add_zero, List.map_cons, List.map_nil, Nat.reduceAdd, Nat.reduceSub, Int.reduceAdd, Int.reduceSub, Try.ntmps34]
  refine acall_v (s41 n c (by omega)) rfl rfl ?_
  simp only [w_move, w_assign, w_binOp, w_aop, w_some, w_asome, w_anone, w_nil, w_cons, awp, binC, cmpC, asB, asI, asN, St.ev, St.step, setS, killS, AV.kill, AV.killL, Mem.kill, ACond_false, List.getD_cons_succ, List.getD_cons_zero, List.set_cons_succ, List.set_cons_zero, List.contains_nil, List.isEmpty_nil, Option.getD_some, Bool.false_eq_true, if_false, if_true, true_and, Bool.true_and, Nat.reduceAdd, Int.reduceAdd]
  by_cases hv : vC n c = 0
  · simp only [w_move, w_callF, w_aop, w_cons, awp, St.ev, St.step, setS, killS, AV.kill, AV.killL, Mem.kill, ACond_false, List.getD_cons_succ, List.getD_cons_zero, List.set_cons_succ, List.set_cons_zero, List.contains_nil, List.isEmpty_nil, if_true, Bool.not_true, List.map_cons, List.map_nil, Nat.reduceAdd, Int.reduceAdd, decide_eq_true hv]
    refine acall_v (s67 c hl) rfl (by cases mt c <;> rfl) ?_
    cases hm : mt c with
    | none =>
      simp only [w_move, w_assign, w_not, w_extract, w_aop, w_some, w_anone, w_nil, w_cons, awp, asT, asB, asN, St.ev, St.step, setS, killS, AV.kill, AV.killL, Mem.kill, ACond_false, List.getD_cons_succ, List.getD_cons_zero, List.set_cons_succ, List.set_cons_zero, List.getElem?_cons_succ, List.getElem?_cons_zero, List.contains_nil, List.isEmpty_nil, Option.getD_some, Bool.false_eq_true, if_false, if_true, Bool.not_false, Nat.reduceAdd, Int.reduceAdd, mtA]
      exact aend_frz rfl ⟨by simp [hv]; rfl, rfl⟩
    | some p =>
      simp only [w_move, w_assign, w_not, w_extract, w_aop, w_some, w_anone, w_nil, w_cons, awp, asT, asB, asN, St.ev, St.step, setS, killS, AV.kill, AV.killL, Mem.kill, ACond_false, List.getD_cons_succ, List.getD_cons_zero, List.set_cons_succ, List.set_cons_zero, List.getElem?_cons_succ, List.getElem?_cons_zero, List.contains_nil, List.isEmpty_nil, Option.getD_some, Bool.false_eq_true, if_false, if_true, Bool.not_true, Nat.reduceAdd, Int.reduceAdd, mtA]
      exact aend_frz rfl ⟨by simp [hv]; rfl, rfl⟩
  · simp only [w_move, w_assign, w_aop, w_anone, w_nil, w_cons, awp, asN, St.ev, St.step, setS, killS, AV.kill, AV.killL, Mem.kill, ACond_true, ACond_false, List.getD_cons_succ, List.getD_cons_zero, List.set_cons_succ, List.set_cons_zero, List.contains_nil, List.isEmpty_nil, Option.getD_some, Bool.false_eq_true, if_false, if_true, Bool.not_false, Bool.false_and, Nat.reduceAdd, Int.reduceAdd, decide_eq_false hv]
    exact aend_frz rfl ⟨rfl, rfl⟩

theorem ok42 : okFn Try.prog 42 = true := by kernel_rfl
theorem s42 (n : Int) (c : List G4) (hl : c.length ≤ 10000) : ASpec Try.prog 42 [I n, .s 4 (gtsA c)] (fun r Ms => r = .t [.s 4 (gtsA (if vC n c = 0 then nmR G4.less bdr c else [])), I (vC n c)] ∧ Ms = []) := by
  refine aspec_of (own := [4]) Try.func42 rfl ok42 ?_
  simp only [w_move, w_assign, w_callF, w_aop, w_some, w_asome, w_anone, w_nil, w_cons, awp, asN, Aw.newRow, St.ev, St.step, setS, killS, AV.kill, AV.killL, Mem.kill, ACond_false, List.getD_cons_succ, List.getD_cons_zero, List.set_cons_succ, List.set_cons_zero, List.length_cons, List.length_nil, List.replicate_succ, List.replicate_zero, List.cons_append, List.nil_append, List.contains_nil, List.contains_cons, List.isEmpty_nil, Option.getD_some, Bool.false_eq_true, if_false, if_true, Nat.zero_add, Nat.add_zero, beq_self_eq_true, List.map_cons, List.map_nil, nbeq, decide_false, Bool.or_false, Nat.reduceAdd, Nat.reduceEqDiff, Nat.reduceSub, Int.reduceAdd, Int.reduceSub, ti22, ti24, Try.ntmps42]
  refine acall_v (s41 n c (by omega)) rfl rfl ?_
  simp only [w_move, w_assign, w_binOp, w_aop, w_some, w_asome, w_anone, w_nil, w_cons, awp, binC, cmpC, asB, asI, asN, St.ev, St.step, setS, killS, AV.kill, AV.killL, Mem.kill, ACond_false, List.getD_cons_succ, List.getD_cons_zero, List.set_cons_succ, List.set_cons_zero, List.contains_nil, List.contains_cons, List.isEmpty_nil, Option.getD_some, Bool.false_eq_true, if_false, if_true, true_and, Bool.true_and, nbeq, decide_false, Bool.or_false, Nat.reduceAdd, Nat.reduceEqDiff, Int.reduceAdd]
  by_cases hv : vC n c = 0
  · simp only [w_move, w_callF, w_aop, w_cons, awp, St.ev, St.step, setS, killS, AV.kill, AV.killL, Mem.kill, ACond_false, List.getD_cons_succ, List.getD_cons_zero, List.set_cons_succ, List.set_cons_zero, List.contains_nil, List.contains_cons, List.isEmpty_nil, Bool.false_eq_true, if_false, if_true, Bool.not_true, List.map_cons, List.map_nil, nbeq, decide_false, Bool.or_false, Nat.reduceAdd, Nat.reduceEqDiff, Int.reduceAdd, decide_eq_true hv]
    refine acall_v (s76 c hl) rfl rfl ?_
    simp only [w_assign, w_aop, w_anone, w_nil, w_cons, awp, asN, St.ev, St.step, setS, killS, AV.kill, AV.killL, Mem.kill, List.getD_cons_succ, List.getD_cons_zero, List.set_cons_succ, List.set_cons_zero, List.contains_nil, List.contains_cons, List.isEmpty_nil, Option.getD_some, Bool.false_eq_true, if_false, if_true, beq_self_eq_true, nbeq, decide_false, Bool.or_false, Nat.reduceEqDiff]
    exact aend_frz rfl ⟨by simp [frz, AV.sub, AV.subL, hv], rfl⟩
  · simp only [w_move, w_assign, w_aop, w_some, w_asome, w_anone, w_nil, w_cons, awp, asN, Aw.newRow, St.ev, St.step, setS, killS, AV.kill, AV.killL, Mem.kill, ACond_true, ACond_false, List.getD_cons_succ, List.getD_cons_zero, List.set_cons_succ, List.set_cons_zero, List.length_cons, List.length_nil, List.cons_append, List.nil_append, List.contains_nil, List.contains_cons, List.isEmpty_nil, Option.getD_some, Bool.false_eq_true, if_false, if_true, Bool.not_false, Nat.zero_add, beq_self_eq_true, nbeq, decide_false, Bool.or_false, Nat.reduceAdd, Nat.reduceEqDiff, Int.reduceAdd, ti22, ti24, decide_eq_false hv]
    refine aend_frz rfl ⟨?_, rfl⟩
    simp [frz, AV.sub, AV.subL, hv]
    rfl

theorem ok37 : okFn Try.prog 37 = true := by kernel_rfl
theorem s37 (n : Int) (c : List G4) (hl : c.length ≤ 10000) : ASpec Try.prog 37 [I n, .s 4 (gtsA c)] (fun r Ms => r = .t [.s 1 (intsA (if vC n c = 0 then fsI bdr c c.length else [])), I (vC n c)] ∧ Ms = []) := by
  refine aspec_of (own := [4]) Try.func37 rfl ok37 ?_
  simp only [w_move, w_assign, w_callF, w_aop, w_some, w_asome, w_anone, w_nil, w_cons, awp, asN, Aw.newRow, St.ev, St.step, setS, killS, AV.kill, AV.killL, Mem.kill, ACond_false, List.getD_cons_succ, List.getD_cons_zero, List.set_cons_succ, List.set_cons_zero, List.length_cons, List.length_nil, List.replicate_succ, List.replicate_zero, List.cons_append, List.nil_append, List.contains_nil, List.contains_cons, List.isEmpty_nil, Option.getD_some, Bool.false_eq_true, if_false, if_true, Nat.zero_add, Nat.add_zero, beq_self_eq_true, List.map_cons, List.map_nil, nbeq, decide_false, Bool.or_false, Nat.reduceAdd, Nat.reduceEqDiff, Nat.reduceSub, Int.reduceAdd, Int.reduceSub, ti3, ti31, Try.ntmps37]
  refine acall_v (s41 n c (by omega)) rfl rfl ?_
  simp only [w_move, w_assign, w_binOp, w_aop, w_some, w_asome, w_anone, w_nil, w_cons, awp, binC, cmpC, asB, asI, asN, St.ev, St.step, setS, killS, AV.kill, AV.killL, Mem.kill, ACond_false, List.getD_cons_succ, List.getD_cons_zero, List.set_cons_succ, List.set_cons_zero, List.contains_nil, List.contains_cons, List.isEmpty_nil, Option.getD_some, Bool.false_eq_true, if_false, if_true, true_and, Bool.true_and, nbeq, decide_false, Bool.or_false, Nat.reduceAdd, Nat.reduceEqDiff, Int.reduceAdd]
  by_cases hv : vC n c = 0
  · simp only [w_move, w_callF, w_aop, w_cons, awp, St.ev, St.step, setS, killS, AV.kill, AV.killL, Mem.kill, ACond_false, List.getD_cons_succ, List.getD_cons_zero, List.set_cons_succ, List.set_cons_zero, List.contains_nil, List.contains_cons, List.isEmpty_nil, Bool.false_eq_true, if_false, if_true, Bool.not_true, List.map_cons, List.map_nil, nbeq, decide_false, Bool.or_false, Nat.reduceAdd, Nat.reduceEqDiff, Int.reduceAdd, decide_eq_true hv]
    refine acall_v (s71 c (by omega)) rfl rfl ?_
    simp only [w_assign, w_aop, w_anone, w_nil, w_cons, awp, asN, St.ev, St.step, setS, killS, AV.kill, AV.killL, Mem.kill, List.getD_cons_succ, List.getD_cons_zero, List.set_cons_succ, List.set_cons_zero, List.contains_nil, List.contains_cons, List.isEmpty_nil, Option.getD_some, Bool.false_eq_true, if_false, if_true, beq_self_eq_true, nbeq, decide_false, Bool.or_false, Nat.reduceEqDiff]
    exact aend_frz rfl ⟨by simp [frz, AV.sub, AV.subL, hv], rfl⟩
  · simp only [w_move, w_assign, w_aop, w_some, w_asome, w_anone, w_nil, w_cons, awp, asN, Aw.newRow, St.ev, St.step, setS, killS, AV.kill, AV.killL, Mem.kill, ACond_true, ACond_false, List.getD_cons_succ, List.getD_cons_zero, List.set_cons_succ, List.set_cons_zero, List.length_cons, List.length_nil, List.cons_append, List.nil_append, List.contains_nil, List.contains_cons, List.isEmpty_nil, Option.getD_some, Bool.false_eq_true, if_false, if_true, Bool.not_false, Nat.zero_add, beq_self_eq_true, nbeq, decide_false, Bool.or_false, Nat.reduceAdd, Nat.reduceEqDiff, Int.reduceAdd, ti3, ti31, decide_eq_false hv]
    refine aend_frz rfl ⟨?_, rfl⟩
    simp [frz, AV.sub, AV.subL, hv]
    rfl

theorem ok22 : okFn Try.prog 22 = true := by kernel_rfl
theorem s22 (n : Int) (c : List G4) (hl : c.length ≤ 10000) : ASpec Try.prog 22 [I n, .s 4 (gtsA c)] (fun r Ms => r = .t [.s 1 (intsA (if vC n c = 0 then fsI G4.bound c c.length else [])), I (vC n c)] ∧ Ms = []) := by
  refine aspec_of (own := [4]) Try.func22 rfl ok22 ?_
  simp only [w_move, w_assign, w_callF, w_aop, w_some, w_asome, w_anone, w_nil, w_cons, awp, asN, Aw.newRow, St.ev, St.step, setS, killS, AV.kill, AV.killL, Mem.kill, ACond_false, List.getD_cons_succ, List.getD_cons_zero, List.set_cons_succ, List.set_cons_zero, List.length_cons, List.length_nil, List.replicate_succ, List.replicate_zero, List.cons_append, List.nil_append, List.contains_nil, List.contains_cons, List.isEmpty_nil, Option.getD_some, Bool.false_eq_true, if_false, if_true, Nat.zero_add, Nat.add_zero, beq_self_eq_true, List.map_cons, List.map_nil, nbeq, decide_false, Bool.or_false, Nat.reduceAdd, Nat.reduceEqDiff, Nat.reduceSub, Int.reduceAdd, Int.reduceSub, ti3, ti31, Try.ntmps22]
  refine acall_v (s21 n c (by omega)) rfl rfl ?_
  simp only [w_move, w_assign, w_binOp, w_aop, w_some, w_asome, w_anone, w_nil, w_cons, awp, binC, cmpC, asB, asI, asN, St.ev, St.step, setS, killS, AV.kill, AV.killL, Mem.kill, ACond_false, List.getD_cons_succ, List.getD_cons_zero, List.set_cons_succ, List.set_cons_zero, List.contains_nil, List.contains_cons, List.isEmpty_nil, Option.getD_some, Bool.false_eq_true, if_false, if_true, true_and, Bool.true_and, nbeq, decide_false, Bool.or_false, Nat.reduceAdd, Nat.reduceEqDiff, Int.reduceAdd]
  by_cases hv : vC n c = 0
  · simp only [w_move, w_callF, w_aop, w_cons, awp, St.ev, St.step, setS, killS, AV.kill, AV.killL, Mem.kill, ACond_false, List.getD_cons_succ, List.getD_cons_zero, List.set_cons_succ, List.set_cons_zero, List.contains_nil, List.contains_cons, List.isEmpty_nil, Bool.false_eq_true, if_false, if_true, Bool.not_true, List.map_cons, List.map_nil, nbeq, decide_false, Bool.or_false, Nat.reduceAdd, Nat.reduceEqDiff, Int.reduceAdd, decide_eq_true hv]
    refine acall_v (s58 c (by omega)) rfl rfl ?_
    simp only [w_assign, w_aop, w_anone, w_nil, w_cons, awp, asN, St.ev, St.step, setS, killS, AV.kill, AV.killL, Mem.kill, List.getD_cons_succ, List.getD_cons_zero, List.set_cons_succ, List.set_cons_zero, List.contains_nil, List.contains_cons, List.isEmpty_nil, Option.getD_some, Bool.false_eq_true, if_false, if_true, beq_self_eq_true, nbeq, decide_false, Bool.or_false, Nat.reduceEqDiff]
    exact aend_frz rfl ⟨by simp [frz, AV.sub, AV.subL, hv], rfl⟩
  · simp only [w_move, w_assign, w_aop, w_some, w_asome, w_anone, w_nil, w_cons, awp, asN, Aw.newRow, St.ev, St.step, setS, killS, AV.kill, AV.killL, Mem.kill, ACond_true, ACond_false, List.getD_cons_succ, List.getD_cons_zero, List.set_cons_succ, List.set_cons_zero, List.length_cons, List.length_nil, List.cons_append, List.nil_append, List.contains_nil, List.contains_cons, List.isEmpty_nil, Option.getD_some, Bool.false_eq_true, if_false, if_true, Bool.not_false, Nat.zero_add, beq_self_eq_true, nbeq, decide_false, Bool.or_false, Nat.reduceAdd, Nat.reduceEqDiff, Int.reduceAdd, ti3, ti31, decide_eq_false hv]
    refine aend_frz rfl ⟨?_, rfl⟩
    simp [frz, AV.sub, AV.subL, hv]
    rfl

/-- the error of a circuit and two gates. -/
def vP2 (n : Int) (c : List G4) (g h : G4) : Int := if vC n c = 0 then (if okG n g = true ∧ okG n h = true then 0 else 1) else vC n c
theorem vC_n {n : Int} {c : List G4} (h : vC n c = 0) : 1 ≤ n ∧ n ≤ 4 := by
  unfold vC at h
  split at h
  · cases h
  · omega

theorem ok48 : okFn Try.prog 48 = true := by kernel_rfl
theorem s48 (n : Int) (c : List G4) (g h : G4) (hl : c.length ≤ 10000) : ASpec Try.prog 48 [I n, .s 4 (gtsA c), gA g, gA h] (fun r Ms => r = .t [.s 4 (gtsA (if vP2 n c g h = 0 then prL c g h else [])), I (vP2 n c g h)] ∧ Ms = []) := by
  refine aspec_of (own := [8]) Try.func48 rfl ok48 ?_
  simp only [w_move, w_assign, w_box, w_callF, w_aop, w_some, w_asome, w_anone, w_nil, w_cons, awp, asN, Aw.newRow, St.ev, St.step, setS, killS, AV.kill, AV.killL, Mem.kill, AV.cellular, AV.pure, AV.pureL, ACond_false, List.getD_cons_succ, List.getD_cons_zero, List.set_cons_succ, List.set_cons_zero, List.length_cons, List.length_nil, List.replicate_succ, List.replicate_zero, List.cons_append, List.nil_append, List.contains_nil, List.contains_cons, List.isEmpty_nil, Option.getD_some, Bool.false_eq_true, if_false, if_true, true_and, and_true, Bool.and_true, Bool.true_and, Nat.zero_add, Nat.add_zero, beq_self_eq_true, List.map_cons, List.map_nil, nbeq, decide_false, Bool.or_false, Nat.reduceAdd, Nat.reduceEqDiff, Nat.reduceSub, Int.reduceAdd, Int.reduceSub, ti22, ti24, Try.ntmps48, gA]
  refine acall_v (s41 n c (by omega)) rfl rfl ?_
  simp only [w_move, w_assign, w_binOp, w_aop, w_some, w_asome, w_anone, w_nil, w_cons, awp, binC, cmpC, asB, asI, asN, St.ev, St.step, setS, killS, AV.kill, AV.killL, Mem.kill, ACond_false, List.getD_cons_succ, List.getD_cons_zero, List.set_cons_succ, List.set_cons_zero, List.contains_nil, List.contains_cons, List.isEmpty_nil, Option.getD_some, Bool.false_eq_true, if_false, if_true, true_and, Bool.true_and, nbeq, decide_false, Bool.or_false, Nat.reduceAdd, Nat.reduceEqDiff, Int.reduceAdd]
  by_cases hv : vC n c = 0
  · have hn := vC_n hv
    simp only [w_move, w_load, w_callF, w_aop, w_some, w_asome, w_cons, awp, asP, loadA, St.ev, St.step, setS, killS, AV.kill, AV.killL, Mem.kill, AV.cells, AV.flat, AV.single, ACond_false, List.getD_cons_succ, List.getD_cons_zero, List.set_cons_succ, List.set_cons_zero, List.getElem?_cons_zero, List.length_cons, List.length_nil, List.contains_nil, List.contains_cons, List.isEmpty_nil, Bool.false_eq_true, if_false, if_true, and_true, List.all_cons, List.all_nil, Bool.and_true, Bool.not_true, Nat.zero_add, beq_self_eq_true, List.map_cons, List.map_nil, decide_true, nbeq, decide_false, Bool.or_false, Nat.reduceAdd, Nat.reduceEqDiff, Nat.reduceLeDiff, Int.reduceAdd, ti24, decide_eq_true hv]
    refine acall_v (s69 n g (by omega)) rfl rfl ?_
    simp only [w_move, w_not, w_aop, w_aopg, w_gdb, w_some, w_cons, asB, St.ev, St.step, setS, killS, AV.kill, AV.killL, Mem.kill, List.getD_cons_succ, List.getD_cons_zero, List.set_cons_succ, List.set_cons_zero, List.getElem?_cons_succ, List.getElem?_cons_zero, List.contains_nil, List.isEmpty_nil, Bool.false_eq_true, if_false, if_true, Option.bind_some, w_bf]
    cases h1 : okG n g with
    | false =>
      simp only [w_assign, w_pick, w_aop, w_aopg, w_gdb, w_some, w_asome, w_anone, w_nil, w_cons, awp, asB, asN, Aw.newRow, St.ev, St.step, setS, killS, AV.kill, AV.killL, Mem.kill, ACond_true, ACond_false, List.getD_cons_succ, List.getD_cons_zero, List.set_cons_succ, List.set_cons_zero, List.getElem?_cons_succ, List.getElem?_cons_zero, List.length_cons, List.length_nil, List.cons_append, List.nil_append, List.contains_nil, List.contains_cons, List.isEmpty_nil, Option.getD_some, Bool.false_eq_true, if_false, if_true, Bool.not_true, Bool.not_false, Nat.zero_add, beq_self_eq_true, nbeq, decide_false, Bool.or_false, Nat.reduceAdd, Nat.reduceEqDiff, Int.reduceAdd, Option.bind_some, w_bf, ti22, ti24]
      refine aend_frz rfl ⟨?_, rfl⟩
      simp [frz, AV.sub, AV.subL, vP2, hv, h1]
      rfl
    | true =>
      simp only [w_move, w_load, w_callF, w_aopg, w_gdb, w_some, w_asome, w_cons, asP, loadA, St.ev, St.step, setS, killS, AV.kill, AV.killL, Mem.kill, AV.cells, AV.flat, AV.single, ACond_true, List.getD_cons_succ, List.getD_cons_zero, List.set_cons_succ, List.set_cons_zero, List.getElem?_cons_succ, List.getElem?_cons_zero, List.length_cons, List.length_nil, List.contains_nil, List.isEmpty_nil, Bool.false_eq_true, if_false, if_true, and_true, List.all_cons, List.all_nil, Bool.and_true, Bool.not_true, Bool.not_false, Nat.zero_add, beq_self_eq_true, List.map_cons, List.map_nil, decide_true, Nat.reduceAdd, Nat.reduceLeDiff, Int.reduceAdd, Option.bind_some, ti24]
      refine acall_v (s69 n h (by omega)) rfl rfl ?_
      simp only [w_pick, w_not, w_aop, w_aopg, w_gdb, w_some, w_nil, w_cons, awp, asB, St.ev, St.step, setS, killS, AV.kill, AV.killL, Mem.kill, ACond_true, ACond_false, List.getD_cons_succ, List.getD_cons_zero, List.set_cons_succ, List.set_cons_zero, List.getElem?_cons_succ, List.getElem?_cons_zero, List.contains_nil, List.isEmpty_nil, Bool.false_eq_true, if_false, if_true, beq_self_eq_true, Option.bind_some]
      cases h2 : okG n h with
      | false =>
        simp only [w_assign, w_aop, w_some, w_asome, w_anone, w_nil, w_cons, awp, asN, Aw.newRow, St.ev, St.step, setS, killS, AV.kill, AV.killL, Mem.kill, ACond_true, ACond_false, List.set_cons_succ, List.set_cons_zero, List.length_cons, List.length_nil, List.cons_append, List.nil_append, List.contains_nil, List.contains_cons, List.isEmpty_nil, Option.getD_some, Bool.false_eq_true, if_false, if_true, Bool.not_false, Nat.zero_add, beq_self_eq_true, nbeq, decide_false, Bool.or_false, Nat.reduceAdd, Nat.reduceEqDiff, Int.reduceAdd, ti22, ti24]
        refine aend_frz rfl ⟨?_, rfl⟩
        simp [frz, AV.sub, AV.subL, vP2, hv, h1, h2]
        rfl
      | true =>
        simp only [w_move, w_load, w_callF, w_aop, w_some, w_asome, w_cons, awp, asP, loadA, St.ev, St.step, setS, killS, AV.kill, AV.killL, Mem.kill, AV.cells, AV.flat, AV.single, ACond_false, List.getD_cons_succ, List.getD_cons_zero, List.set_cons_succ, List.set_cons_zero, List.getElem?_cons_zero, List.length_cons, List.length_nil, List.contains_nil, List.contains_cons, List.isEmpty_nil, Bool.false_eq_true, if_false, if_true, and_true, List.all_cons, List.all_nil, Bool.and_true, Bool.not_true, Nat.zero_add, beq_self_eq_true, List.map_cons, List.map_nil, decide_true, nbeq, decide_false, Bool.or_false, Nat.reduceAdd, Nat.reduceEqDiff, Nat.reduceLeDiff, Int.reduceAdd, ti24]
        refine acall_v (s80 c g h hl) rfl rfl ?_
        simp only [w_assign, w_aop, w_anone, w_nil, w_cons, awp, asN, St.ev, St.step, setS, killS, AV.kill, AV.killL, Mem.kill, List.getD_cons_succ, List.getD_cons_zero, List.set_cons_succ, List.set_cons_zero, List.contains_nil, List.contains_cons, List.isEmpty_nil, Option.getD_some, Bool.false_eq_true, if_false, if_true, beq_self_eq_true, nbeq, decide_false, Bool.or_false, Nat.reduceEqDiff]
        exact aend_frz rfl ⟨by simp [frz, AV.sub, AV.subL, vP2, hv, h1, h2], rfl⟩
  · simp only [w_move, w_assign, w_aop, w_some, w_asome, w_anone, w_nil, w_cons, awp, asN, Aw.newRow, St.ev, St.step, setS, killS, AV.kill, AV.killL, Mem.kill, ACond_true, ACond_false, List.getD_cons_succ, List.getD_cons_zero, List.set_cons_succ, List.set_cons_zero, List.length_cons, List.length_nil, List.cons_append, List.nil_append, List.contains_nil, List.contains_cons, List.isEmpty_nil, Option.getD_some, Bool.false_eq_true, if_false, if_true, Bool.not_false, Nat.zero_add, beq_self_eq_true, nbeq, decide_false, Bool.or_false, Nat.reduceAdd, Nat.reduceEqDiff, Int.reduceAdd, ti22, ti24, decide_eq_false hv]
    refine aend_frz rfl ⟨?_, rfl⟩
    simp [frz, AV.sub, AV.subL, vP2, hv]
    rfl
end Go.Proofs.Ytkmbbbemmohmcaa

namespace Go.Proofs.Ytkmbbbemmohmcaa
open Aw Go.RowKit
set_option linter.unusedSimpArgs false

theorem ok51 : okFn Try.prog 51 = true := by kernel_rfl
theorem s51 (n : Int) (c : List G4) (hl : c.length ≤ 10000) : ASpec Try.prog 51 [I n, .s 4 (gtsA c)] (fun r Ms => r = .t [.s 4 (gtsA (if vC n c = 0 then invL c c.length else [])), I (vC n c)] ∧ Ms = []) := by
  refine aspec_of (own := [4, 7]) Try.func51 rfl ok51 ?_
  simp only [w_move, w_assign, w_callF, w_aop, w_some, w_asome, w_anone, w_nil, w_cons, awp, asN, Aw.newRow, St.ev, St.step, setS, killS, AV.kill, AV.killL, Mem.kill, ACond_false, List.getD_cons_succ, List.getD_cons_zero, List.set_cons_succ, List.set_cons_zero, List.length_cons, List.length_nil, List.replicate_succ, List.replicate_zero, List.cons_append, List.nil_append, List.contains_nil, List.contains_cons, List.isEmpty_nil, Option.getD_some, Bool.false_eq_true, if_false, if_true, Nat.zero_add, Nat.add_zero, beq_self_eq_true, List.map_cons, List.map_nil, nbeq, decide_false, Bool.or_false, Nat.reduceAdd, Nat.reduceEqDiff, Nat.reduceSub, Int.reduceAdd, Int.reduceSub, ti22, ti24, Try.ntmps51]
  refine acall_v (s41 n c (by omega)) rfl rfl ?_
  simp only [w_move, w_assign, w_binOp, w_aop, w_some, w_asome, w_anone, w_nil, w_cons, awp, binC, cmpC, asB, asI, asN, St.ev, St.step, setS, killS, AV.kill, AV.killL, Mem.kill, ACond_false, List.getD_cons_succ, List.getD_cons_zero, List.set_cons_succ, List.set_cons_zero, List.contains_nil, List.contains_cons, List.isEmpty_nil, Option.getD_some, Bool.false_eq_true, if_false, if_true, true_and, Bool.true_and, nbeq, decide_false, Bool.or_false, Nat.reduceAdd, Nat.reduceEqDiff, Int.reduceAdd]
  by_cases hv : vC n c = 0
  · have hok := vC_ok hv
    simp only [w_move, w_assign, w_binOp, w_len, w_aop, w_some, w_asome, w_anone, w_nil, w_cons, awp, binC, arithC, cmpC, asI, asN, lenA, Aw.newRow, St.ev, St.step, setS, killS, AV.kill, AV.killL, Mem.kill, ACond_false, List.getD_cons_succ, List.getD_cons_zero, List.set_cons_succ, List.set_cons_zero, List.length_cons, List.length_nil, List.cons_append, List.nil_append, List.contains_nil, List.contains_cons, List.isEmpty_nil, Option.getD_some, Bool.false_eq_true, if_false, if_true, true_and, and_true, Bool.and_true, Bool.true_and, Bool.not_true, Option.isSome_some, Nat.zero_add, beq_self_eq_true, nbeq, decide_false, Bool.or_false, Bool.or_true, Nat.reduceAdd, Nat.reduceEqDiff, Int.reduceAdd, gtsA_len, ti22, ti24, decide_eq_true hv]
    refine ⟨by unfold lim; omega, ?_⟩
    refine swp_loop' (fun k : Nat => ⟨[.bot, .s 4 (gtsA c), .bot, .bot, .o 0, .bot, .bot, .o 1, I ((c.length : Int) - 1 - k), .bot, .bot, .bot, .bot, .bot, .bot, .bot, .bot, .bot, .bot, .bot, .bot, .bot, .bot, .bot, .bot, .bot, .bot, .bot, .bot, .bot, .bot, .bot, .bot, .bot, .bot, .bot], [some ⟨none, 24, 4, []⟩, some ⟨none, 24, 4, gtsA (invL c k)⟩]⟩) (fun k => k ≤ c.length) (fun k => c.length - k) 0 (le_sl (by simp [leSl, invL, gtsA])) (Nat.zero_le _) ?_
    intro k hk
    refine awp_sound (own := [4, 7]) _ _ _ _ _ ?_
    by_cases h : k < c.length
    · obtain ⟨m, hm⟩ : ∃ m, m = c.length - 1 - k := ⟨_, rfl⟩
      have e : (c.length : Int) - 1 - k = (m : Int) := by omega
      have hml : m < c.length := by omega
      have h' : (0 : Int) ≤ (m : Int) := by omega
      simp only [w_move, w_assign, w_alloc, w_load, w_store, w_fieldAddr, w_indexAddr, w_binOp, w_buildSlice, w_append, w_aop, w_some, w_asome, w_anone, w_nil, w_cons, awp, binC, idxC, arithC, cmpC, asP, asQ, asO, asS, asB, asI, asN, obA, AGet_zero, loadA, storeA, putsA, mkA, Aw.newRow, St.ev, St.step, setS, killS, AV.kill, AV.killL, Mem.kill, AV.cells, AV.flat, AV.single, AV.cellular, AV.size, AV.sizeL, AV.pure, AV.pureL, ACond_true, ACond_false, Value.oneCell', List.getD_cons_succ, List.getD_cons_zero, List.set_cons_succ, List.set_cons_zero, List.getElem?_cons_succ, List.getElem?_cons_zero, List.length_cons, List.length_nil, List.cons_append, List.nil_append, List.contains_nil, List.contains_cons, List.isEmpty_nil, List.isEmpty_cons, Option.getD_some, Bool.false_eq_true, if_false, if_true, true_and, and_true, List.all_cons, List.all_nil, Bool.and_true, Bool.true_and, Bool.not_true, Nat.zero_add, Nat.add_zero, beq_self_eq_true, List.map_cons, List.map_nil, decide_true, nbeq, decide_false, Bool.or_false, Bool.or_true, Bool.and_false, Nat.reduceAdd, Nat.reduceEqDiff, Nat.reduceMul, Nat.reduceLeDiff, Int.reduceAdd, Int.reduceMul, ne_eq, not_false_eq_true, Option.map_some, gtsA_len, ti3, ti22, ti24, e, decide_eq_true h', aget_gts hml, Int.toNat_natCast]
      have ho := hok _ (List.getElem_mem hml)
      simp only [okG, decide_eq_true_eq] at ho
      have hil := invL_len c k
      refine ⟨by omega, by unfold lim; omega, ⟨by decide, rfl⟩, ⟨by decide, by omega⟩, by unfold lim; omega, k + 1, ?_, h, by omega⟩
      have gd : (c.getD m default).inv = ⟨c[m].k, c[m].a, c[m].b, 16 - c[m].t⟩ := by simp [hml, G4.inv]
      rw [invL_succ c k h, gtsA_kill, gtsA_app, ← hm, gd, show (c.length : Int) - 1 - ((k + 1 : Nat) : Int) = (m : Int) - 1 by omega]
      refine le_cut (Mx := [_]) (M' := [_, _]) ?_ rfl (by simp [AV.freeL, AV.free, freeL_pure, gtsA_pure]) (by simp [freeM, AV.freeL, AV.free, freeL_pure, gtsA_pure])
      simp [leSl]
    · have hkc : k = c.length := by omega
      have e : (c.length : Int) - 1 - k = -1 := by omega
      simp only [w_move, w_assign, w_binOp, w_aop, w_some, w_asome, w_anone, w_nil, w_cons, awp, binC, cmpC, asB, asI, asN, St.ev, St.step, setS, killS, AV.kill, AV.killL, Mem.kill, ACond_false, List.getD_cons_succ, List.getD_cons_zero, List.set_cons_succ, List.set_cons_zero, List.contains_nil, List.contains_cons, List.isEmpty_nil, Option.getD_some, Bool.false_eq_true, if_false, if_true, true_and, Bool.true_and, beq_self_eq_true, nbeq, decide_false, Bool.or_false, Nat.reduceAdd, Nat.reduceEqDiff, Int.reduceAdd, Int.reduceNeg, Int.reduceLE, e]
      subst hkc
      exact aend_frz rfl ⟨by simp [frz, AV.sub, AV.subL, gtsA_pure, hv], rfl⟩
  · simp only [w_move, w_assign, w_aop, w_some, w_asome, w_anone, w_nil, w_cons, awp, asN, Aw.newRow, St.ev, St.step, setS, killS, AV.kill, AV.killL, Mem.kill, ACond_true, ACond_false, List.getD_cons_succ, List.getD_cons_zero, List.set_cons_succ, List.set_cons_zero, List.length_cons, List.length_nil, List.cons_append, List.nil_append, List.contains_nil, List.contains_cons, List.isEmpty_nil, Option.getD_some, Bool.false_eq_true, if_false, if_true, Bool.not_false, Nat.zero_add, beq_self_eq_true, nbeq, decide_false, Bool.or_false, Nat.reduceAdd, Nat.reduceEqDiff, Int.reduceAdd, ti22, ti24, decide_eq_false hv]
    refine aend_frz rfl ⟨?_, rfl⟩
    simp [frz, AV.sub, AV.subL, hv]
    rfl

/-- the sum of the angles of a type. -/
def anS (c : List G4) (g : G4) : Int := ((c.filter fun x => x.same g).map G4.t).sum
theorem anS_succ (c : List G4) (g : G4) {k : Nat} (hk : k < c.length) : anS (c.take (k + 1)) g = if c[k].same g then anS (c.take k) g + c[k].t else anS (c.take k) g := by
  unfold anS
  rw [List.take_add_one, List.filter_append, List.getElem?_eq_getElem hk]
  cases h1 : c[k].same g <;> simp [h1]
theorem anS_bd {n : Int} {c : List G4} (h : ∀ x ∈ c, okG n x = true) (g : G4) : 0 ≤ anS c g ∧ anS c g ≤ 16 * c.length := by
  unfold anS
  induction c with
  | nil => simp
  | cons x c ih =>
    have := ih fun y hy => h y (by simp [hy])
    have hx := h x (by simp)
    simp only [okG, decide_eq_true_eq] at hx
    rw [List.filter_cons]
    split
    · simp only [List.map_cons, List.sum_cons, List.length_cons]
      omega
    · simp only [List.length_cons]
      omega
/-- the error of a circuit and a gate. -/
def vA (n : Int) (c : List G4) (g : G4) : Int := if vC n c = 0 then (if okG n g = true then 0 else 1) else vC n c

theorem ok49 : okFn Try.prog 49 = true := by kernel_rfl
theorem s49 (n : Int) (c : List G4) (g : G4) (hl : c.length ≤ 10000) : ASpec Try.prog 49 [I n, .s 4 (gtsA c), gA g] (fun r Ms => r = .t [I (if vA n c g = 0 then anS c g % 16 else 0), I (vA n c g)] ∧ Ms = []) := by
  refine aspec_of (own := []) Try.func49 rfl ok49 ?_
  simp only [w_move, w_assign, w_box, w_callF, w_aop, w_anone, w_nil, w_cons, awp, asN, St.ev, St.step, setS, killS, AV.kill, AV.killL, Mem.kill, AV.cellular, AV.pure, AV.pureL, ACond_false, List.getD_cons_succ, List.getD_cons_zero, List.set_cons_succ, List.set_cons_zero, List.length_cons, List.length_nil, List.replicate_succ, List.replicate_zero, List.cons_append, List.nil_append, List.contains_nil, List.isEmpty_nil, Option.getD_some, Bool.false_eq_true, if_false, if_true, true_and, and_true, Bool.and_true, Bool.true_and, Nat.zero_add, Nat.add_zero, List.map_cons, List.map_nil, Nat.reduceAdd, Nat.reduceSub, Int.reduceAdd, Int.reduceSub, Try.ntmps49, gA]
  refine acall_v (s41 n c (by omega)) rfl rfl ?_
  simp only [w_move, w_assign, w_binOp, w_aop, w_some, w_asome, w_anone, w_nil, w_cons, awp, binC, cmpC, asB, asI, asN, St.ev, St.step, setS, killS, AV.kill, AV.killL, Mem.kill, ACond_false, List.getD_cons_succ, List.getD_cons_zero, List.set_cons_succ, List.set_cons_zero, List.contains_nil, List.isEmpty_nil, Option.getD_some, Bool.false_eq_true, if_false, if_true, true_and, Bool.true_and, Nat.reduceAdd, Int.reduceAdd]
  by_cases hv : vC n c = 0
  · have hn := vC_n hv
    have hok := vC_ok hv
    have hcl := vC_len hv
    simp only [w_move, w_load, w_callF, w_aop, w_some, w_asome, w_cons, awp, asP, loadA, St.ev, St.step, setS, killS, AV.kill, AV.killL, Mem.kill, AV.cells, AV.flat, AV.single, ACond_false, List.getD_cons_succ, List.getD_cons_zero, List.set_cons_succ, List.set_cons_zero, List.getElem?_cons_zero, List.length_cons, List.length_nil, List.contains_nil, List.isEmpty_nil, Bool.false_eq_true, if_false, if_true, and_true, List.all_cons, List.all_nil, Bool.and_true, Bool.not_true, Nat.zero_add, beq_self_eq_true, List.map_cons, List.map_nil, decide_true, Nat.reduceAdd, Nat.reduceLeDiff, Int.reduceAdd, ti24, decide_eq_true hv]
    refine acall_v (s69 n g (by omega)) rfl rfl ?_
    simp only [w_not, w_aop, w_some, w_nil, w_cons, awp, asB, St.ev, St.step, setS, killS, AV.kill, AV.killL, Mem.kill, List.getD_cons_succ, List.getD_cons_zero, List.set_cons_succ, List.set_cons_zero, List.isEmpty_nil, if_true]
    cases h1 : okG n g with
    | false =>
      simp only [w_assign, w_aop, w_anone, w_nil, w_cons, awp, asN, St.ev, St.step, setS, killS, AV.kill, AV.killL, Mem.kill, ACond_true, ACond_false, List.set_cons_succ, List.set_cons_zero, List.contains_nil, List.isEmpty_nil, Option.getD_some, Bool.false_eq_true, if_false, if_true, Bool.not_false, Nat.reduceAdd, Int.reduceAdd]
      exact aend_frz rfl ⟨by simp [vA, hv, h1]; rfl, rfl⟩
    | true =>
      simp only [w_assign, w_aop, w_anone, w_nil, w_cons, awp, asN, St.ev, St.step, setS, killS, AV.kill, AV.killL, Mem.kill, ACond_false, List.set_cons_succ, List.set_cons_zero, List.contains_nil, List.isEmpty_nil, Option.getD_some, Bool.false_eq_true, if_false, if_true, Bool.not_true, Nat.reduceAdd, Int.reduceAdd]
      refine swp_loop' (fun k : Nat => ⟨[.bot, .s 4 (gtsA c), .bot, .bot, .bot, .p (.g [I g.k, I g.a, I g.b, I g.t]) 0, .bot, .bot, .bot, I (anS (c.take k) g), I k, .bot, .bot, .bot, .bot, .bot, .bot, .bot, .bot, .bot, .bot, .bot, .bot, .bot, .bot, .bot, .bot, .bot, .bot, .bot, .bot, .bot, .bot, .bot, .bot, .bot, .bot, .bot, .bot, .bot, .bot, .bot, .bot, .bot], []⟩) (fun k => k ≤ c.length) (fun k => c.length - k) 0 (le_sl (by simp [leSl, anS])) (Nat.zero_le _) ?_
      intro k hk
      have hbk := anS_bd (c := c.take k) (fun x hx => hok x (List.mem_of_mem_take hx)) g
      have hkl : (c.take k).length ≤ 10 := by simp; omega
      refine awp_sound (own := []) _ _ _ _ _ ?_
      simp only [w_move, w_binOp, w_len, w_aop, w_some, w_asome, w_nil, w_cons, awp, binC, cmpC, asB, asI, lenA, St.ev, St.step, setS, killS, AV.kill, AV.killL, Mem.kill, ACond_false, List.getD_cons_succ, List.getD_cons_zero, List.set_cons_succ, List.set_cons_zero, List.contains_nil, List.isEmpty_nil, if_true, true_and, Bool.true_and, Option.isSome_some, Nat.reduceAdd, Int.reduceAdd, gtsA_len, ti22]
      by_cases h : k < c.length
      · have h' : (k : Int) < (c.length : Int) := by omega
        simp only [awp, ACond_true, decide_eq_true h']
        refine swp_draw (own := []) (.take 0 .plain [] (.take 1 .plain [] (.take 2 .reads [] (.take 3 .reads [] (.take 5 .reads [] (.alt 4 (.alt 6 (.take 7 .plain [] (.done)) (.nil)) (.nil))))))) [⟨28, 2, 0, 0, true⟩, ⟨29, 1024, 0, 0, true⟩, ⟨30, 402653184, 3, 0, true⟩, ⟨31, 536870912, 4, 0, true⟩, ⟨32, 1073741824, 8, 0, false⟩, ⟨33, 32, 0, 0, true⟩, ⟨34, 4294967296, 48, 0, false⟩, ⟨35, 10737418240, 80, 0, true⟩] mo (by kernel_rfl) ?_
        simp only [w_move, w_load, w_indexAddr, w_callF, w_aop, w_take, w_some, w_asome, idxC, asP, asS, asI, loadA, St.ev, setS, AV.cells, AV.flat, AV.single, List.getD_cons_succ, List.getD_cons_zero, List.set_cons_succ, List.set_cons_zero, List.getElem?_cons_succ, List.getElem?_cons_zero, List.length_cons, List.length_nil, Bool.false_eq_true, if_false, if_true, true_and, and_true, List.all_cons, List.all_nil, Bool.and_true, Bool.true_and, Bool.not_true, Nat.zero_add, beq_self_eq_true, List.map_cons, List.map_nil, decide_true, Nat.reduceAdd, Nat.reduceLeDiff, Int.reduceAdd, ASch, St.put, Md.mem, Md.need, ti22, ti24, aget_gts h, Int.toNat_natCast]
        refine ⟨by omega, acall_v (s44 c[k]) rfl rfl ?_⟩
        simp only [w_callF, w_aop, w_some, St.ev, St.step, setS, killS, AV.kill, AV.killL, Mem.kill, List.getD_cons_succ, List.getD_cons_zero, List.set_cons_succ, List.set_cons_zero, List.getElem?_cons_succ, List.getElem?_cons_zero, List.isEmpty_nil, if_true, and_true, Bool.and_true, List.map_cons, List.map_nil, ASch, gA]
        refine acall_v (s44 g) rfl rfl ?_
        simp only [w_binOp, w_take, w_some, w_asome, w_anone, awp, binC, eqC, asG, asB, asI, St.ev, St.step, setS, killS, AV.kill, AV.killL, Mem.kill, ints, List.getD_cons_succ, List.getD_cons_zero, List.set_cons_succ, List.set_cons_zero, List.getElem?_cons_succ, List.getElem?_cons_zero, List.length_cons, List.length_nil, List.isEmpty_nil, if_true, true_and, and_true, Bool.and_true, Bool.true_and, Nat.zero_add, Nat.reduceAdd, Int.reduceAdd, ASch, St.put, Md.mem, Md.need, Option.map_some, ti24, gA]
        have hg := hok _ (List.getElem_mem h)
        simp only [okG, decide_eq_true_eq] at hg
        by_cases c1 : [c[k].k, c[k].a, c[k].b, 0] = [g.k, g.a, g.b, 0]
        · have d1 := (same_iff _ _).1 c1
          simp only [w_move, w_assign, w_load, w_fieldAddr, w_indexAddr, w_binOp, w_aop, w_some, w_asome, w_anone, w_nil, w_cons, awp, binC, idxC, arithC, cmpC, asP, asS, asI, asN, loadA, St.ev, St.step, setS, killS, AV.kill, AV.killL, Mem.kill, AV.cells, AV.flat, AV.single, ACond_true, ACond_false, List.getD_cons_succ, List.getD_cons_zero, List.set_cons_succ, List.set_cons_zero, List.getElem?_cons_succ, List.getElem?_cons_zero, List.length_cons, List.length_nil, List.contains_nil, List.isEmpty_nil, Option.getD_some, Bool.false_eq_true, if_false, if_true, true_and, and_true, List.all_cons, List.all_nil, Bool.and_true, Bool.true_and, Bool.not_true, Nat.zero_add, decide_true, nbeq, decide_false, Bool.and_false, Nat.reduceAdd, Nat.reduceEqDiff, Nat.reduceLeDiff, Int.reduceAdd, St.put, ne_eq, not_false_eq_true, ti3, ti22, ti24, decide_eq_true c1, aget_gts h, Int.toNat_natCast]
          refine ⟨by omega, by unfold lim; omega, by unfold lim; omega, k + 1, le_sl ?_, h, by omega⟩
          simp [leSl, anS_succ c g h, d1]
        · have d1 : c[k].same g = false := by
            cases hx : c[k].same g with
            | false => rfl
            | true => exact absurd ((same_iff _ _).2 hx) c1
          simp only [w_move, w_assign, w_binOp, w_aop, w_some, w_asome, w_anone, w_nil, w_cons, awp, binC, arithC, cmpC, asI, asN, St.ev, St.step, setS, killS, AV.kill, AV.killL, Mem.kill, ACond_false, List.getD_cons_succ, List.getD_cons_zero, List.set_cons_succ, List.set_cons_zero, List.contains_nil, List.isEmpty_nil, Option.getD_some, Bool.false_eq_true, if_false, if_true, true_and, and_true, Bool.and_true, Bool.true_and, Nat.reduceAdd, Int.reduceAdd, St.put, decide_eq_false c1]
          refine ⟨by unfold lim; omega, k + 1, le_sl ?_, h, by omega⟩
          simp [leSl, anS_succ c g h, d1]
      · have h' : ¬ (k : Int) < (c.length : Int) := by omega
        have hkc : k = c.length := by omega
        subst hkc
        simp only [w_move, w_assign, w_binOp, w_aop, w_some, w_asome, w_anone, w_nil, w_cons, awp, binC, arithC, cmpC, asI, asN, St.ev, St.step, setS, killS, AV.kill, AV.killL, Mem.kill, ACond_false, List.getD_cons_succ, List.getD_cons_zero, List.set_cons_succ, List.set_cons_zero, List.contains_nil, List.isEmpty_nil, Option.getD_some, Bool.false_eq_true, if_false, if_true, true_and, and_true, Bool.and_true, Bool.true_and, Nat.reduceAdd, Int.reduceAdd, Int.reduceEq, ne_eq, not_false_eq_true, decide_eq_false h', List.take_length]
        rw [List.take_length] at hbk
        have ht : (anS c g).tmod 16 = anS c g % 16 := Int.tmod_eq_emod_of_nonneg hbk.1
        exact aend_frz rfl ⟨by simp [vA, hv, h1, ht]; rfl, rfl⟩
  · simp only [w_move, w_assign, w_aop, w_anone, w_nil, w_cons, awp, asN, St.ev, St.step, setS, killS, AV.kill, AV.killL, Mem.kill, ACond_true, ACond_false, List.getD_cons_succ, List.getD_cons_zero, List.set_cons_succ, List.set_cons_zero, List.contains_nil, List.isEmpty_nil, Option.getD_some, Bool.false_eq_true, if_false, if_true, Bool.not_false, Nat.reduceAdd, Int.reduceAdd, decide_eq_false hv]
    exact aend_frz rfl ⟨by simp [vA, hv]; rfl, rfl⟩
end Go.Proofs.Ytkmbbbemmohmcaa

namespace Go.Proofs.Ytkmbbbemmohmcaa
open Aw Go.RowKit
set_option linter.unusedSimpArgs false

theorem le_all {sl sl' : List AV} {M : Mem} (h : leSl sl sl') (hf : AV.freeL ((List.range M.length).map (· + 0)) sl' = true) : Le ⟨sl, M⟩ ⟨sl', []⟩ := le_of (M' := []) (Mx := M) h rfl hf (by simp)
theorem vG1 (n : Int) (g : G4) : vG n [g] = if okG n g = true then 0 else 1 := by unfold vG; simp

theorem ok18 : okFn Try.prog 18 = true := by kernel_rfl
theorem s18 (n : Int) (c : List G4) (g : G4) (hl : c.length ≤ 10000) : ASpec Try.prog 18 [I n, .s 4 (gtsA c), gA g] (fun r Ms => r = .t [I (if vA n c g = 0 then anS c g % 16 else 0), I (vA n c g)] ∧ Ms = []) := by
  refine aspec_of (own := []) Try.func18 rfl ok18 ?_
  simp only [w_move, w_assign, w_box, w_callF, w_aop, w_anone, w_nil, w_cons, awp, asN, St.ev, St.step, setS, killS, AV.kill, AV.killL, Mem.kill, AV.cellular, AV.pure, AV.pureL, ACond_false, List.getD_cons_succ, List.getD_cons_zero, List.set_cons_succ, List.set_cons_zero, List.length_cons, List.length_nil, List.replicate_succ, List.replicate_zero, List.cons_append, List.nil_append, List.contains_nil, List.isEmpty_nil, Option.getD_some, Bool.false_eq_true, if_false, if_true, true_and, and_true, Bool.and_true, Bool.true_and, Nat.zero_add, Nat.add_zero, List.map_cons, List.map_nil, Nat.reduceAdd, Nat.reduceSub, Int.reduceAdd, Int.reduceSub, Try.ntmps18, gA]
  refine acall_v (s21 n c (by omega)) rfl rfl ?_
  simp only [w_move, w_assign, w_binOp, w_aop, w_some, w_asome, w_anone, w_nil, w_cons, awp, binC, cmpC, asB, asI, asN, St.ev, St.step, setS, killS, AV.kill, AV.killL, Mem.kill, ACond_false, List.getD_cons_succ, List.getD_cons_zero, List.set_cons_succ, List.set_cons_zero, List.contains_nil, List.isEmpty_nil, Option.getD_some, Bool.false_eq_true, if_false, if_true, true_and, Bool.true_and, Nat.reduceAdd, Int.reduceAdd]
  by_cases hv : vC n c = 0
  · have hok := vC_ok hv
    have hcl := vC_len hv
    simp only [w_move, w_load, w_buildSlice, w_callF, w_aop, w_some, w_asome, w_cons, awp, asP, loadA, St.ev, St.step, setS, killS, AV.kill, AV.killL, Mem.kill, AV.cells, AV.flat, AV.single, AV.cellular, AV.size, AV.sizeL, AV.pure, AV.pureL, ACond_false, Value.oneCell', List.getD_cons_succ, List.getD_cons_zero, List.set_cons_succ, List.set_cons_zero, List.getElem?_cons_zero, List.length_cons, List.length_nil, List.contains_nil, List.isEmpty_nil, Option.getD_some, Bool.false_eq_true, if_false, if_true, true_and, and_true, List.all_cons, List.all_nil, Bool.and_true, Bool.true_and, Bool.not_true, Nat.zero_add, Nat.add_zero, beq_self_eq_true, List.map_cons, List.map_nil, decide_true, nbeq, Nat.reduceAdd, Nat.reduceMul, Nat.reduceLeDiff, Int.reduceAdd, Int.reduceMul, ti22, ti24, decide_eq_true hv]
    refine ⟨⟨by decide, rfl⟩, acall_v (s55 n [g] (by simp)) rfl rfl ?_⟩
    simp only [w_move, w_assign, w_binOp, w_aop, w_some, w_asome, w_anone, w_nil, w_cons, awp, binC, cmpC, asB, asI, asN, St.ev, St.step, setS, killS, AV.kill, AV.killL, Mem.kill, ACond_false, List.getD_cons_succ, List.getD_cons_zero, List.set_cons_succ, List.set_cons_zero, List.contains_nil, List.isEmpty_nil, Option.getD_some, Bool.false_eq_true, if_false, if_true, true_and, Bool.true_and, Nat.reduceAdd, Int.reduceAdd, vG1]
    cases h1 : okG n g with
    | false =>
      simp only [w_move, w_assign, w_aop, w_anone, w_nil, w_cons, awp, asN, St.ev, St.step, setS, killS, AV.kill, AV.killL, Mem.kill, ACond_true, ACond_false, List.getD_cons_succ, List.getD_cons_zero, List.set_cons_succ, List.set_cons_zero, List.contains_nil, List.isEmpty_nil, Option.getD_some, Bool.false_eq_true, if_false, if_true, Bool.not_false, decide_false, Nat.reduceAdd, Int.reduceAdd, Int.reduceEq]
      exact aend_frz rfl ⟨by simp [vA, hv, h1]; rfl, rfl⟩
    | true =>
      simp only [w_move, w_assign, w_len, w_aop, w_some, w_asome, w_anone, w_nil, w_cons, awp, asN, lenA, St.ev, St.step, setS, killS, AV.kill, AV.killL, Mem.kill, ACond_false, List.getD_cons_succ, List.getD_cons_zero, List.set_cons_succ, List.set_cons_zero, List.contains_nil, List.isEmpty_nil, Option.getD_some, Bool.false_eq_true, if_false, if_true, true_and, Bool.true_and, Bool.not_true, Option.isSome_some, decide_true, Nat.reduceAdd, Int.reduceAdd, gtsA_len, ti22]
      refine swp_loop' (fun k : Nat => ⟨[.bot, .bot, .bot, .bot, .bot, .p (.g [I g.k, I g.a, I g.b, I g.t]) 0, .bot, .bot, .bot, .bot, I (anS (c.take k) g), .bot, .bot, .bot, .bot, .bot, .bot, .bot, .bot, .bot, .bot, .bot, .bot, .bot, .bot, .bot, .s 4 (gtsA c), I c.length, I k, .bot, .bot, .bot, .bot, .bot, .bot, .bot, .bot, .bot, .bot, .bot, .bot, .bot], []⟩) (fun k => k ≤ c.length) (fun k => c.length - k) 0 (le_sl (by simp [leSl, anS])) (Nat.zero_le _) ?_
      intro k hk
      have hbk := anS_bd (c := c.take k) (fun x hx => hok x (List.mem_of_mem_take hx)) g
      have hkl : (c.take k).length ≤ 10 := by simp; omega
      refine awp_sound (own := []) _ _ _ _ _ ?_
      simp only [w_binOp, w_aop, w_some, w_asome, w_nil, w_cons, awp, binC, cmpC, asB, asI, St.ev, St.step, setS, killS, AV.kill, AV.killL, Mem.kill, ACond_false, List.getD_cons_succ, List.getD_cons_zero, List.set_cons_succ, List.set_cons_zero, List.contains_nil, List.isEmpty_nil, if_true, true_and, Bool.true_and, Nat.reduceAdd, Int.reduceAdd]
      by_cases h : k < c.length
      · have h' : (k : Int) < (c.length : Int) := by omega
        simp only [w_alloc, w_load, w_store, w_indexAddr, w_callF, w_aop, w_some, w_asome, w_anone, w_nil, w_cons, awp, idxC, asP, asQ, asS, asI, obA, AGet_zero, loadA, storeA, putsA, mkA, Aw.newRow, St.ev, St.step, setS, killS, AV.kill, AV.killL, Mem.kill, AV.cells, AV.flat, AV.single, AV.cellular, ACond_true, ACond_false, List.getD_cons_succ, List.getD_cons_zero, List.set_cons_succ, List.set_cons_zero, List.getElem?_cons_zero, List.length_cons, List.length_nil, List.nil_append, List.contains_nil, List.isEmpty_nil, Bool.false_eq_true, if_false, if_true, true_and, and_true, List.all_cons, List.all_nil, Bool.and_true, Bool.true_and, Bool.not_true, Nat.zero_add, beq_self_eq_true, List.map_cons, List.map_nil, decide_true, nbeq, decide_false, Bool.or_false, Nat.reduceAdd, Nat.reduceEqDiff, Nat.reduceLeDiff, Int.reduceAdd, ti22, ti24, decide_eq_true h', aget_gts h, Int.toNat_natCast]
        refine ⟨by omega, acall_v (s56 c[k] g) rfl rfl ?_⟩
        have hg := hok _ (List.getElem_mem h)
        simp only [okG, decide_eq_true_eq] at hg
        cases d1 : c[k].same g with
        | true =>
          simp only [w_move, w_assign, w_load, w_fieldAddr, w_binOp, w_aop, w_some, w_asome, w_anone, w_nil, w_cons, awp, binC, arithC, cmpC, asP, asQ, asB, asI, asN, obA, AGet_zero, loadA, St.ev, St.step, setS, killS, AV.kill, AV.killL, Mem.kill, AV.cells, AV.flat, AV.single, ACond_true, ACond_false, List.getD_cons_succ, List.getD_cons_zero, List.set_cons_succ, List.set_cons_zero, List.getElem?_cons_succ, List.getElem?_cons_zero, List.length_cons, List.length_nil, List.contains_nil, List.isEmpty_nil, Option.getD_some, Bool.false_eq_true, if_false, if_true, true_and, and_true, List.all_cons, List.all_nil, Bool.and_true, Bool.true_and, Bool.not_true, Nat.zero_add, decide_true, nbeq, decide_false, Bool.and_false, Nat.reduceAdd, Nat.reduceEqDiff, Nat.reduceLeDiff, Int.reduceAdd, ne_eq, not_false_eq_true, ti3, ti24]
          refine ⟨by unfold lim; omega, by unfold lim; omega, k + 1, ?_, h, by omega⟩
          rw [anS_succ c g h, d1, if_pos rfl]
          exact le_all (by simp [leSl]) rfl
        | false =>
          simp only [w_move, w_binOp, w_aop, w_some, w_asome, w_anone, w_nil, w_cons, awp, binC, arithC, cmpC, asB, asI, St.ev, St.step, setS, killS, AV.kill, AV.killL, Mem.kill, ACond_false, List.getD_cons_succ, List.getD_cons_zero, List.set_cons_succ, List.set_cons_zero, List.contains_nil, List.isEmpty_nil, Bool.false_eq_true, if_false, if_true, true_and, and_true, Bool.and_true, Bool.true_and, Nat.reduceAdd, Int.reduceAdd]
          refine ⟨by unfold lim; omega, k + 1, ?_, h, by omega⟩
          rw [anS_succ c g h, d1, if_neg (by simp)]
          exact le_all (by simp [leSl]) rfl
      · have h' : ¬ (k : Int) < (c.length : Int) := by omega
        have hkc : k = c.length := by omega
        subst hkc
        simp only [w_move, w_assign, w_binOp, w_aop, w_some, w_asome, w_anone, w_nil, w_cons, awp, binC, arithC, cmpC, asI, asN, St.ev, St.step, setS, killS, AV.kill, AV.killL, Mem.kill, ACond_false, List.getD_cons_succ, List.getD_cons_zero, List.set_cons_succ, List.set_cons_zero, List.contains_nil, List.isEmpty_nil, Option.getD_some, Bool.false_eq_true, if_false, if_true, true_and, and_true, Bool.and_true, Bool.true_and, Nat.reduceAdd, Int.reduceAdd, Int.reduceEq, ne_eq, not_false_eq_true, decide_eq_false h', List.take_length]
        rw [List.take_length] at hbk
        have ht : (anS c g).tmod 16 = anS c g % 16 := Int.tmod_eq_emod_of_nonneg hbk.1
        exact aend_frz rfl ⟨by simp [vA, hv, h1, ht]; rfl, rfl⟩
  · simp only [w_move, w_assign, w_aop, w_anone, w_nil, w_cons, awp, asN, St.ev, St.step, setS, killS, AV.kill, AV.killL, Mem.kill, ACond_true, ACond_false, List.getD_cons_succ, List.getD_cons_zero, List.set_cons_succ, List.set_cons_zero, List.contains_nil, List.isEmpty_nil, Option.getD_some, Bool.false_eq_true, if_false, if_true, Bool.not_false, Nat.reduceAdd, Int.reduceAdd, decide_eq_false hv]
    exact aend_frz rfl ⟨by simp [vA, hv]; rfl, rfl⟩

theorem ok47 : okFn Try.prog 47 = true := by kernel_rfl
theorem s47 (n : Int) (c : List G4) (g h : G4) (hl : c.length ≤ 10000) : ASpec Try.prog 47 [I n, .s 4 (gtsA c), gA g, gA h] (fun r Ms => r = .t [.s 4 (gtsA (if vP2 n c g h = 0 then prL c g h else [])), I (vP2 n c g h)] ∧ Ms = []) := by
  refine aspec_of (own := [8, 12]) Try.func47 rfl ok47 ?_
  simp only [w_move, w_assign, w_box, w_callF, w_aop, w_some, w_asome, w_anone, w_nil, w_cons, awp, asN, Aw.newRow, St.ev, St.step, setS, killS, AV.kill, AV.killL, Mem.kill, AV.cellular, AV.pure, AV.pureL, ACond_false, List.getD_cons_succ, List.getD_cons_zero, List.set_cons_succ, List.set_cons_zero, List.length_cons, List.length_nil, List.replicate_succ, List.replicate_zero, List.cons_append, List.nil_append, List.contains_nil, List.contains_cons, List.isEmpty_nil, Option.getD_some, Bool.false_eq_true, if_false, if_true, true_and, and_true, Bool.and_true, Bool.true_and, Nat.zero_add, Nat.add_zero, beq_self_eq_true, List.map_cons, List.map_nil, nbeq, decide_false, Bool.or_false, Nat.reduceAdd, Nat.reduceEqDiff, Nat.reduceSub, Int.reduceAdd, Int.reduceSub, ti22, ti24, Try.ntmps47, gA]
  refine acall_v (s21 n c (by omega)) rfl rfl ?_
  simp only [w_move, w_assign, w_binOp, w_aop, w_some, w_asome, w_anone, w_nil, w_cons, awp, binC, cmpC, asB, asI, asN, St.ev, St.step, setS, killS, AV.kill, AV.killL, Mem.kill, ACond_false, List.getD_cons_succ, List.getD_cons_zero, List.set_cons_succ, List.set_cons_zero, List.contains_nil, List.contains_cons, List.isEmpty_nil, Option.getD_some, Bool.false_eq_true, if_false, if_true, true_and, Bool.true_and, nbeq, decide_false, Bool.or_false, Nat.reduceAdd, Nat.reduceEqDiff, Int.reduceAdd]
  by_cases hv : vC n c = 0
  · simp only [w_move, w_load, w_buildSlice, w_callF, w_aop, w_some, w_asome, w_cons, awp, asP, loadA, St.ev, St.step, setS, killS, AV.kill, AV.killL, Mem.kill, AV.cells, AV.flat, AV.single, AV.cellular, AV.size, AV.sizeL, AV.pure, AV.pureL, ACond_false, Value.oneCell', List.getD_cons_succ, List.getD_cons_zero, List.set_cons_succ, List.set_cons_zero, List.getElem?_cons_zero, List.length_cons, List.length_nil, List.contains_nil, List.contains_cons, List.isEmpty_nil, Option.getD_some, Bool.false_eq_true, if_false, if_true, true_and, and_true, List.all_cons, List.all_nil, Bool.and_true, Bool.true_and, Bool.not_true, Nat.zero_add, Nat.add_zero, beq_self_eq_true, List.map_cons, List.map_nil, decide_true, nbeq, decide_false, Bool.or_false, Nat.reduceAdd, Nat.reduceEqDiff, Nat.reduceMul, Nat.reduceLeDiff, Int.reduceAdd, Int.reduceMul, ti22, ti24, decide_eq_true hv]
    refine ⟨⟨by decide, rfl⟩, acall_v (s55 n [g, h] (by simp)) rfl rfl ?_⟩
    simp only [w_move, w_assign, w_binOp, w_aop, w_some, w_asome, w_anone, w_nil, w_cons, awp, binC, cmpC, asB, asI, asN, St.ev, St.step, setS, killS, AV.kill, AV.killL, Mem.kill, ACond_false, List.getD_cons_succ, List.getD_cons_zero, List.set_cons_succ, List.set_cons_zero, List.contains_nil, List.contains_cons, List.isEmpty_nil, Option.getD_some, Bool.false_eq_true, if_false, if_true, true_and, Bool.true_and, nbeq, decide_false, Bool.or_false, Nat.reduceAdd, Nat.reduceEqDiff, Int.reduceAdd, vG2]
    by_cases h1 : okG n g = true ∧ okG n h = true
    · simp only [w_move, w_assign, w_len, w_aop, w_some, w_asome, w_nil, w_cons, awp, asN, lenA, Aw.newRow, St.ev, St.step, setS, killS, AV.kill, AV.killL, Mem.kill, ACond_false, List.getD_cons_succ, List.getD_cons_zero, List.set_cons_succ, List.set_cons_zero, List.length_cons, List.length_nil, List.cons_append, List.nil_append, List.contains_nil, List.contains_cons, List.isEmpty_nil, Option.getD_some, Bool.false_eq_true, if_false, if_true, true_and, Bool.true_and, Bool.not_true, Option.isSome_some, Nat.zero_add, beq_self_eq_true, decide_true, nbeq, decide_false, Bool.or_false, Bool.or_true, Nat.reduceAdd, Nat.reduceEqDiff, Int.reduceAdd, gtsA_len, ti22, ti24, if_pos h1]
      refine swp_loop' (fun k : Nat => ⟨[.bot, .bot, .bot, .bot, .bot, .bot, .p (.g [I g.k, I g.a, I g.b, I g.t]) 0, .p (.g [I h.k, I h.a, I h.b, I h.t]) 0, .bot, .bot, .bot, .bot, .o 1, .bot, .bot, .bot, .bot, .bot, .bot, .bot, .bot, .bot, .bot, .bot, .bot, .bot, .bot, .bot, .bot, .s 4 (gtsA c), I c.length, I k, .bot, .bot, .bot, .bot, .bot, .bot, .bot, .bot, .bot, .bot, .bot, .bot, .bot, .bot, .bot, .bot, .bot], [some ⟨none, 24, 4, []⟩, some ⟨none, 24, 4, gtsA (prL (c.take k) g h)⟩]⟩) (fun k => k ≤ c.length) (fun k => c.length - k) 0 (le_sl (by simp [leSl])) (Nat.zero_le _) ?_
      intro k hk
      refine awp_sound (own := [8, 12]) _ _ _ _ _ ?_
      simp only [w_binOp, w_aop, w_some, w_asome, w_nil, w_cons, awp, binC, cmpC, asB, asI, St.ev, St.step, setS, killS, AV.kill, AV.killL, Mem.kill, ACond_false, List.getD_cons_succ, List.getD_cons_zero, List.set_cons_succ, List.set_cons_zero, List.contains_nil, List.contains_cons, List.isEmpty_nil, Bool.false_eq_true, if_false, if_true, true_and, Bool.true_and, nbeq, decide_false, Bool.or_false, Nat.reduceAdd, Nat.reduceEqDiff, Int.reduceAdd]
      by_cases hkl : k < c.length
      · have h' : (k : Int) < (c.length : Int) := by omega
        have hp := prL_len (c.take k) g h
        have hpk : (c.take k).length = k := by simp; omega
        simp only [w_alloc, w_load, w_store, w_indexAddr, w_callF, w_aop, w_some, w_asome, w_anone, w_nil, w_cons, awp, idxC, asP, asQ, asS, asI, obA, AGet_zero, loadA, storeA, putsA, mkA, Aw.newRow, St.ev, St.step, setS, killS, AV.kill, AV.killL, Mem.kill, AV.cells, AV.flat, AV.single, AV.cellular, ACond_true, ACond_false, List.getD_cons_succ, List.getD_cons_zero, List.set_cons_succ, List.set_cons_zero, List.getElem?_cons_succ, List.getElem?_cons_zero, List.length_cons, List.length_nil, List.cons_append, List.nil_append, List.contains_nil, List.contains_cons, List.isEmpty_nil, Bool.false_eq_true, if_false, if_true, true_and, and_true, List.all_cons, List.all_nil, Bool.and_true, Bool.true_and, Bool.not_true, Nat.zero_add, beq_self_eq_true, List.map_cons, List.map_nil, decide_true, nbeq, decide_false, Bool.or_false, Nat.reduceAdd, Nat.reduceEqDiff, Nat.reduceLeDiff, Int.reduceAdd, ti22, ti24, decide_eq_true h', aget_gts hkl, Int.toNat_natCast]
        refine ⟨by omega, acall_v (s56 c[k] g) rfl rfl ?_⟩
        cases d1 : c[k].same g with
        | true =>
          simp only [w_move, w_assign, w_pick, w_load, w_binOp, w_buildSlice, w_append, w_aop, w_aopg, w_gdb, w_some, w_asome, w_anone, w_nil, w_cons, awp, binC, arithC, cmpC, asP, asQ, asO, asS, asB, asI, asN, obA, AGet_zero, loadA, St.ev, St.step, setS, killS, AV.kill, AV.killL, Mem.kill, AV.cells, AV.flat, AV.single, AV.cellular, AV.size, AV.sizeL, AV.pure, AV.pureL, ACond_true, ACond_false, Value.oneCell', List.getD_cons_succ, List.getD_cons_zero, List.set_cons_succ, List.set_cons_zero, List.getElem?_cons_succ, List.getElem?_cons_zero, List.length_cons, List.length_nil, List.contains_nil, List.contains_cons, List.isEmpty_nil, List.isEmpty_cons, Option.getD_some, Bool.false_eq_true, if_false, if_true, true_and, and_true, List.all_cons, List.all_nil, Bool.and_true, Bool.true_and, Bool.not_true, Nat.zero_add, Nat.add_zero, beq_self_eq_true, List.map_cons, List.map_nil, decide_true, nbeq, decide_false, Bool.or_false, Bool.or_true, Nat.reduceAdd, Nat.reduceEqDiff, Nat.reduceMul, Nat.reduceLeDiff, Int.reduceAdd, Int.reduceMul, Option.bind_some, Option.map_some, w_bf, gtsA_len, ti22, ti24]
          refine ⟨⟨by decide, rfl⟩, ⟨by decide, by omega⟩, by unfold lim; omega, k + 1, ?_, hkl, by omega⟩
          rw [prL_succ c g h hkl, d1, if_pos (by simp), gtsA_kill, gtsA_app]
          exact le_cut (Mx := [_]) (M' := [_, _]) (by simp [leSl]) rfl (by simp [AV.freeL, AV.free, freeL_pure, gtsA_pure]) (by simp [freeM, AV.freeL, AV.free, freeL_pure, gtsA_pure])
        | false =>
          simp only [w_move, w_load, w_callF, w_aop, w_aopg, w_gdb, w_some, w_asome, w_anone, w_cons, asP, asQ, obA, AGet_zero, loadA, St.ev, St.step, setS, killS, AV.kill, AV.killL, Mem.kill, AV.cells, AV.flat, AV.single, ACond_true, List.getD_cons_succ, List.getD_cons_zero, List.set_cons_succ, List.set_cons_zero, List.getElem?_cons_succ, List.getElem?_cons_zero, List.length_cons, List.length_nil, List.contains_nil, List.isEmpty_nil, Bool.false_eq_true, if_false, if_true, true_and, and_true, List.all_cons, List.all_nil, Bool.and_true, Bool.true_and, Bool.not_true, Nat.zero_add, beq_self_eq_true, List.map_cons, List.map_nil, decide_true, Nat.reduceAdd, Nat.reduceLeDiff, Int.reduceAdd, Option.bind_some, ti24]
          refine acall_v (s56 c[k] h) rfl rfl ?_
          cases d2 : c[k].same h with
          | true =>
            simp only [w_move, w_assign, w_pick, w_load, w_binOp, w_buildSlice, w_append, w_aop, w_some, w_asome, w_anone, w_nil, w_cons, awp, binC, arithC, cmpC, asP, asQ, asO, asS, asB, asI, asN, obA, AGet_zero, loadA, St.ev, St.step, setS, killS, AV.kill, AV.killL, Mem.kill, AV.cells, AV.flat, AV.single, AV.cellular, AV.size, AV.sizeL, AV.pure, AV.pureL, ACond_true, ACond_false, Value.oneCell', List.getD_cons_succ, List.getD_cons_zero, List.set_cons_succ, List.set_cons_zero, List.getElem?_cons_succ, List.getElem?_cons_zero, List.length_cons, List.length_nil, List.contains_nil, List.contains_cons, List.isEmpty_nil, List.isEmpty_cons, Option.getD_some, Bool.false_eq_true, if_false, if_true, true_and, and_true, List.all_cons, List.all_nil, Bool.and_true, Bool.true_and, Bool.not_true, Nat.zero_add, Nat.add_zero, beq_self_eq_true, List.map_cons, List.map_nil, decide_true, nbeq, decide_false, Bool.or_false, Bool.or_true, Nat.reduceAdd, Nat.reduceEqDiff, Nat.reduceMul, Nat.reduceLeDiff, Int.reduceAdd, Int.reduceMul, Option.map_some, gtsA_len, ti22, ti24]
            refine ⟨⟨by decide, rfl⟩, ⟨by decide, by omega⟩, by unfold lim; omega, k + 1, ?_, hkl, by omega⟩
            rw [prL_succ c g h hkl, d1, d2, if_pos (by simp), gtsA_kill, gtsA_app]
            exact le_cut (Mx := [_]) (M' := [_, _]) (by simp [leSl]) rfl (by simp [AV.freeL, AV.free, freeL_pure, gtsA_pure]) (by simp [freeM, AV.freeL, AV.free, freeL_pure, gtsA_pure])
          | false =>
            simp only [w_move, w_pick, w_binOp, w_aop, w_some, w_asome, w_anone, w_nil, w_cons, awp, binC, arithC, cmpC, asB, asI, St.ev, St.step, setS, killS, AV.kill, AV.killL, Mem.kill, ACond_false, List.getD_cons_succ, List.getD_cons_zero, List.set_cons_succ, List.set_cons_zero, List.contains_nil, List.contains_cons, List.isEmpty_nil, Bool.false_eq_true, if_false, if_true, true_and, and_true, Bool.and_true, Bool.true_and, nbeq, decide_false, Bool.or_false, Nat.reduceAdd, Nat.reduceEqDiff, Int.reduceAdd]
            refine ⟨by unfold lim; omega, k + 1, ?_, hkl, by omega⟩
            rw [prL_succ c g h hkl, d1, d2, if_neg (by simp)]
            exact le_cut (Mx := [_]) (M' := [_, _]) (by simp [leSl]) rfl (by simp [AV.freeL, AV.free, freeL_pure, gtsA_pure]) (by simp [freeM, AV.freeL, AV.free, freeL_pure, gtsA_pure])
      · have h' : ¬ (k : Int) < (c.length : Int) := by omega
        have hkc : k = c.length := by omega
        subst hkc
        simp only [w_move, w_assign, w_aop, w_anone, w_nil, w_cons, awp, asN, St.ev, St.step, setS, killS, AV.kill, AV.killL, Mem.kill, ACond_false, List.getD_cons_succ, List.getD_cons_zero, List.set_cons_succ, List.set_cons_zero, List.contains_nil, List.contains_cons, List.isEmpty_nil, Option.getD_some, Bool.false_eq_true, if_false, if_true, beq_self_eq_true, nbeq, decide_false, Bool.or_false, Nat.reduceAdd, Nat.reduceEqDiff, Int.reduceAdd, decide_eq_false h', List.take_length]
        exact aend_frz rfl ⟨by simp [frz, AV.sub, AV.subL, gtsA_pure, vP2, hv, h1], rfl⟩
    · simp only [w_move, w_assign, w_aop, w_some, w_asome, w_anone, w_nil, w_cons, awp, asN, Aw.newRow, St.ev, St.step, setS, killS, AV.kill, AV.killL, Mem.kill, ACond_true, ACond_false, List.getD_cons_succ, List.getD_cons_zero, List.set_cons_succ, List.set_cons_zero, List.length_cons, List.length_nil, List.cons_append, List.nil_append, List.contains_nil, List.contains_cons, List.isEmpty_nil, Option.getD_some, Bool.false_eq_true, if_false, if_true, Bool.not_false, Nat.zero_add, beq_self_eq_true, nbeq, decide_false, Bool.or_false, Nat.reduceAdd, Nat.reduceEqDiff, Int.reduceAdd, Int.reduceEq, ti22, ti24, if_neg h1]
      refine aend_frz rfl ⟨?_, rfl⟩
      simp [frz, AV.sub, AV.subL, vP2, hv, h1]
      rfl
  · simp only [w_move, w_assign, w_aop, w_some, w_asome, w_anone, w_nil, w_cons, awp, asN, Aw.newRow, St.ev, St.step, setS, killS, AV.kill, AV.killL, Mem.kill, ACond_true, ACond_false, List.getD_cons_succ, List.getD_cons_zero, List.set_cons_succ, List.set_cons_zero, List.length_cons, List.length_nil, List.cons_append, List.nil_append, List.contains_nil, List.contains_cons, List.isEmpty_nil, Option.getD_some, Bool.false_eq_true, if_false, if_true, Bool.not_false, Nat.zero_add, beq_self_eq_true, nbeq, decide_false, Bool.or_false, Nat.reduceAdd, Nat.reduceEqDiff, Int.reduceAdd, ti22, ti24, decide_eq_false hv]
    refine aend_frz rfl ⟨?_, rfl⟩
    simp [frz, AV.sub, AV.subL, vP2, hv]
    rfl
end Go.Proofs.Ytkmbbbemmohmcaa

namespace Go.Proofs.Ytkmbbbemmohmcaa
open Aw Go.RowKit
set_option linter.unusedSimpArgs false

theorem ok95 : okFn Try.prog 95 = true := by kernel_rfl
theorem s95 (k : Nat) (hk : k ≤ 1000000) : ASpec Try.prog 95 [.v (.slice none 0 0), I k] (fun r Ms => r = .o 0 ∧ Ms = [⟨none, 24, 4, []⟩]) := by
  refine aspec_of (own := [4, 1003, 1005]) Try.func95 rfl ok95 ?_
  simp only [w_move, w_assign, w_binOp, w_aop, w_some, w_asome, w_nil, w_cons, awp, binC, cmpC, asB, asI, asN, Aw.newRow, St.ev, St.step, setS, killS, AV.kill, AV.killL, Mem.kill, ACond_false, List.getD_cons_succ, List.getD_cons_zero, List.set_cons_succ, List.set_cons_zero, List.length_cons, List.length_nil, List.replicate_succ, List.replicate_zero, List.cons_append, List.nil_append, List.contains_nil, List.contains_cons, List.isEmpty_nil, Option.getD_some, Bool.false_eq_true, if_false, if_true, true_and, Bool.true_and, Nat.zero_add, Nat.add_zero, beq_self_eq_true, nbeq, decide_false, Bool.or_false, Nat.reduceAdd, Nat.reduceEqDiff, Nat.reduceSub, Int.reduceAdd, Int.reduceSub, ti22, ti24, Try.ntmps95]
  have h0 : ¬ (k : Int) < 0 := by omega
  simp only [awp, ACond_true, ACond_false, List.contains_nil, List.contains_cons, beq_self_eq_true, nbeq, decide_false, Bool.or_false, Bool.or_true, Nat.reduceAdd, Nat.reduceEqDiff, Int.reduceAdd, decide_eq_false h0]
  refine swp_cap (n := k) ti22 rfl rfl rfl (by unfold lim; omega) rfl ?_
  simp only [w_move, w_binOp, w_aop, w_some, w_asome, w_nil, w_cons, awp, binC, cmpC, asB, asI, St.ev, St.step, setS, killS, AV.kill, AV.killL, Mem.kill, ACond_false, List.getD_cons_succ, List.getD_cons_zero, List.set_cons_succ, List.set_cons_zero, List.replicate_succ, List.replicate_zero, List.contains_nil, List.contains_cons, List.isEmpty_nil, if_true, true_and, Bool.true_and, nbeq, decide_false, Bool.or_false, Nat.reduceAdd, Nat.reduceEqDiff, Int.reduceAdd, List.replicate_succ, List.replicate_zero, List.set_cons_zero, List.set_cons_succ]
  by_cases hk0 : (0 : Int) < k
  · simp only [awp, ACond_true, List.contains_nil, List.contains_cons, beq_self_eq_true, nbeq, decide_false, Bool.or_false, Bool.or_true, Nat.reduceAdd, Nat.reduceEqDiff, Int.reduceAdd, decide_eq_true hk0]
    refine swp_grow (n := k) (k := .i64) ti22 rfl ti24 (by kernel_rfl) rfl rfl (by omega) hk (by decide) (by decide) rfl ?_
    simp only [w_move, w_assign, w_aop, w_anone, w_nil, w_cons, awp, asN, St.ev, St.step, setS, killS, AV.kill, AV.killL, Mem.kill, ACond_false, List.getD_cons_succ, List.getD_cons_zero, List.set_cons_succ, List.set_cons_zero, List.length_cons, List.length_nil, List.replicate_succ, List.replicate_zero, List.cons_append, List.nil_append, List.contains_nil, List.contains_cons, List.isEmpty_nil, Option.getD_some, Bool.false_eq_true, if_false, if_true, Nat.zero_add, beq_self_eq_true, nbeq, decide_false, Bool.or_false, Nat.reduceAdd, Nat.reduceEqDiff, Int.reduceAdd, List.replicate_succ, List.replicate_zero, List.set_cons_zero, List.set_cons_succ]
    exact aend_exp 1 rfl rfl rfl ⟨rfl, rfl⟩
  · simp only [w_move, w_assign, w_aop, w_some, w_asome, w_nil, w_cons, awp, asN, Aw.newRow, St.ev, St.step, setS, killS, AV.kill, AV.killL, Mem.kill, ACond_false, List.getD_cons_succ, List.getD_cons_zero, List.set_cons_succ, List.set_cons_zero, List.length_cons, List.length_nil, List.cons_append, List.nil_append, List.contains_nil, List.contains_cons, List.isEmpty_nil, Option.getD_some, if_true, Nat.zero_add, beq_self_eq_true, nbeq, decide_false, Bool.or_false, Nat.reduceAdd, Nat.reduceEqDiff, Int.reduceAdd, ti22, ti24, decide_eq_false hk0]
    exact aend_exp 1 rfl rfl rfl ⟨rfl, rfl⟩

/-! slices of slices -/
def rowsA (lss : List (List G4)) : List AV := lss.map fun l => .s 4 (gtsA l)
theorem rowsA_len (lss : List (List G4)) : (rowsA lss).length = lss.length := by simp [rowsA]
theorem rowsA_pure (lss : List (List G4)) : AV.pureL (rowsA lss) = true := pureL_map _ (fun _ => rfl) lss
theorem aget_rowsA {lss : List (List G4)} {j : Nat} (h : j < lss.length) (K : HK (AV → Prop)) : @AGet (rowsA lss) j K = K.k (.s 4 (gtsA lss[j])) := by simp [AGet, rowsA, h]
theorem flat_take {α : Type} {lss : List (List α)} {j : Nat} (h : j < lss.length) : (lss.take (j + 1)).flatten = (lss.take j).flatten ++ lss[j] := by
  rw [List.take_succ_eq_append_getElem h, List.flatten_append]; simp
theorem flat_le {α : Type} (lss : List (List α)) (j : Nat) : (lss.take j).flatten.length ≤ lss.flatten.length := by
  have : lss.flatten = (lss.take j).flatten ++ (lss.drop j).flatten := by rw [← List.flatten_append, List.take_append_drop]
  rw [this, List.length_append]; omega

theorem ok65 : okFn Try.prog 65 = true := by kernel_rfl
theorem s65 (lss : List (List G4)) (hl : lss.length ≤ 1000000) (hf : lss.flatten.length ≤ 1000000) : ASpec Try.prog 65 [.s 1 (rowsA lss)] (fun r Ms => r = .o 0 ∧ Ms = [⟨none, 24, 4, gtsA lss.flatten⟩]) := by
  refine aspec_of (own := []) Try.func65 rfl ok65 ?_
  simp only [w_move, w_assign, w_len, w_aop, w_some, w_asome, w_anone, w_nil, w_cons, awp, asN, lenA, St.ev, St.step, setS, killS, AV.kill, AV.killL, Mem.kill, ACond_false, List.getD_cons_succ, List.getD_cons_zero, List.set_cons_succ, List.set_cons_zero, List.length_cons, List.length_nil, List.replicate_succ, List.replicate_zero, List.cons_append, List.nil_append, List.contains_nil, List.isEmpty_nil, Option.getD_some, Bool.false_eq_true, if_false, if_true, true_and, Bool.true_and, Option.isSome_some, Nat.zero_add, Nat.add_zero, Nat.reduceAdd, Nat.reduceSub, Int.reduceAdd, Int.reduceSub, ti34, Try.ntmps65, rowsA_len]
  refine swp_loop' (fun i : Nat => ⟨[.s 1 (rowsA lss), .bot, .bot, I (lss.take i).flatten.length, .bot, .bot, .bot, .bot, .bot, .s 1 (rowsA lss), I lss.length, I i, .bot, .bot, .bot, .bot, .bot, .bot, .bot, .bot, .bot, .bot, .bot, .bot, .bot, .bot, .bot, .bot, .bot, .bot, .bot, .bot, .bot, .bot, .bot, .bot], []⟩) (fun i => i ≤ lss.length) (fun i => lss.length - i) 0 (le_sl (by simp [leSl])) (Nat.zero_le _) ?_
  intro i hi
  refine awp_sound (own := []) _ _ _ _ _ ?_
  simp only [w_binOp, w_aop, w_some, w_asome, w_nil, w_cons, awp, binC, cmpC, asB, asI, St.ev, St.step, setS, killS, AV.kill, AV.killL, Mem.kill, ACond_false, List.getD_cons_succ, List.getD_cons_zero, List.set_cons_succ, List.set_cons_zero, List.contains_nil, List.isEmpty_nil, if_true, true_and, Bool.true_and, Nat.reduceAdd, Int.reduceAdd]
  by_cases h : i < lss.length
  · have h' : (i : Int) < (lss.length : Int) := by omega
    have h1 := flat_le lss (i + 1)
    rw [flat_take h, List.length_append] at h1
    have h0 : ¬ ((lss.take i).flatten.length : Int) + (lss[i].length : Int) < 0 := by omega
    simp only [w_move, w_assign, w_load, w_indexAddr, w_binOp, w_len, w_aop, w_some, w_asome, w_anone, w_nil, w_cons, awp, binC, idxC, arithC, cmpC, asP, asS, asB, asI, asN, lenA, loadA, St.ev, St.step, setS, killS, AV.kill, AV.killL, Mem.kill, AV.cells, AV.flat, AV.single, ACond_true, ACond_false, List.getD_cons_succ, List.getD_cons_zero, List.set_cons_succ, List.set_cons_zero, List.getElem?_cons_zero, List.contains_nil, List.isEmpty_nil, Option.getD_some, Bool.false_eq_true, if_false, if_true, true_and, and_true, List.all_cons, List.all_nil, Bool.and_true, Bool.true_and, Bool.not_true, Option.isSome_some, Nat.reduceAdd, Int.reduceAdd, gtsA_len, ti22, ti34, decide_eq_true h', aget_rowsA h, Int.toNat_natCast, gtsA_len, decide_eq_false h0]
    refine ⟨by omega, by unfold lim; omega, by unfold lim; omega, i + 1, ?_, by omega, by omega⟩
    rw [flat_take h, List.length_append]
    exact le_sl (by simp [leSl])
  · have h' : ¬ (i : Int) < (lss.length : Int) := by omega
    obtain rfl : i = lss.length := by omega
    simp only [w_move, w_callF, w_aop, w_cons, awp, St.ev, St.step, setS, killS, AV.kill, AV.killL, Mem.kill, ACond_false, List.getD_cons_succ, List.getD_cons_zero, List.set_cons_succ, List.set_cons_zero, List.contains_nil, List.isEmpty_nil, if_true, List.map_cons, List.map_nil, Nat.reduceAdd, Int.reduceAdd, decide_eq_false h', List.take_length]
    refine acall_o (x := .o 0) (s95 lss.flatten.length hf) rfl rfl ?_
    simp only [w_move, w_assign, w_len, w_aop, w_some, w_asome, w_anone, w_nil, w_cons, awp, asN, lenA, St.ev, St.step, setS, killS, AV.kill, AV.killL, Mem.kill, ACond_false, List.getD_cons_succ, List.getD_cons_zero, List.set_cons_succ, List.set_cons_zero, List.length_nil, List.nil_append, List.contains_nil, List.isEmpty_nil, Option.getD_some, Bool.false_eq_true, if_false, if_true, true_and, Bool.true_and, Option.isSome_some, Nat.add_zero, Nat.reduceAdd, Int.reduceAdd, ti34, AV.up, AV.sub, rowsA_len]
    refine swp_loop' (fun i : Nat => ⟨[.bot, .bot, .bot, .bot, .bot, .bot, .o 0, .bot, .bot, .bot, .bot, .bot, .bot, .bot, .bot, .bot, .bot, .bot, .bot, .bot, .bot, .bot, .bot, .bot, .bot, .s 1 (rowsA lss), I lss.length, I i, .bot, .bot, .bot, .bot, .bot, .bot, .bot, .bot], [some ⟨none, 24, 4, gtsA (lss.take i).flatten⟩]⟩) (fun i => i ≤ lss.length) (fun i => lss.length - i) 0 (le_sl (by simp [leSl])) (Nat.zero_le _) ?_
    intro i hi
    refine awp_sound (own := []) _ _ _ _ _ ?_
    simp only [w_binOp, w_aop, w_some, w_asome, w_nil, w_cons, awp, binC, cmpC, asB, asI, St.ev, St.step, setS, killS, AV.kill, AV.killL, Mem.kill, ACond_false, List.getD_cons_succ, List.getD_cons_zero, List.set_cons_succ, List.set_cons_zero, List.contains_nil, List.isEmpty_nil, Bool.false_eq_true, if_false, if_true, true_and, Bool.true_and, Nat.reduceAdd, Int.reduceAdd]
    by_cases h : i < lss.length
    · have h' : (i : Int) < (lss.length : Int) := by omega
      have h1 := flat_le lss (i + 1)
      rw [flat_take h, List.length_append] at h1
      simp only [w_move, w_assign, w_load, w_indexAddr, w_binOp, w_append, w_aop, w_some, w_asome, w_anone, w_nil, w_cons, awp, binC, idxC, arithC, cmpC, asP, asO, asS, asI, asN, obA, loadA, St.ev, St.step, setS, killS, AV.kill, AV.killL, Mem.kill, AV.cells, AV.flat, AV.single, ACond_true, ACond_false, List.getD_cons_succ, List.getD_cons_zero, List.set_cons_succ, List.set_cons_zero, List.getElem?_cons_zero, List.contains_nil, List.contains_cons, List.isEmpty_nil, List.isEmpty_cons, Option.getD_some, Bool.false_eq_true, if_false, if_true, true_and, and_true, List.all_cons, List.all_nil, Bool.and_true, Bool.true_and, Bool.not_true, beq_self_eq_true, List.map_cons, List.map_nil, Bool.or_false, Nat.reduceAdd, Nat.reduceLeDiff, Int.reduceAdd, Option.map_some, gtsA_len, ti22, ti24, ti34, decide_eq_true h', aget_rowsA h, Int.toNat_natCast, gtsA_len, gtsA_kill]
      refine ⟨by omega, ⟨by decide, by omega⟩, by unfold lim; omega, i + 1, ?_, by omega, by omega⟩
      have e : gtsA (lss.take i).flatten ++ gtsA lss[i] = gtsA (lss.take (i + 1)).flatten := by rw [flat_take h]; simp [gtsA]
      rw [e]
      exact le_sl (by simp [leSl])
    · have h' : ¬ (i : Int) < (lss.length : Int) := by omega
      obtain rfl : i = lss.length := by omega
      simp only [w_move, w_assign, w_aop, w_anone, w_nil, w_cons, awp, asN, St.ev, St.step, setS, killS, AV.kill, AV.killL, Mem.kill, ACond_false, List.getD_cons_succ, List.getD_cons_zero, List.set_cons_succ, List.set_cons_zero, List.contains_nil, List.isEmpty_nil, Option.getD_some, Bool.false_eq_true, if_false, if_true, Nat.reduceAdd, Int.reduceAdd, decide_eq_false h', List.take_length]
      exact aend_exp 0 rfl rfl (gtsA_pure _) ⟨rfl, rfl⟩


/-- the error of two circuits together. -/
def vJ (n : Int) (c d : List G4) : Int := if vC2 n c d = 0 then (if 10 < c.length + d.length then 3 else 0) else vC2 n c d

theorem ok54 : okFn Try.prog 54 = true := by kernel_rfl
theorem s54 (n : Int) (c d : List G4) (hl : c.length ≤ 10000) (hl' : d.length ≤ 10000) : ASpec Try.prog 54 [I n, .s 4 (gtsA c), .s 4 (gtsA d)] (fun r Ms => r = .t [.s 4 (gtsA (if vJ n c d = 0 then c ++ d else [])), I (vJ n c d)] ∧ Ms = []) := by
  refine aspec_of (own := [6, 22]) Try.func54 rfl ok54 ?_
  simp only [w_move, w_assign, w_callF, w_aop, w_some, w_asome, w_anone, w_nil, w_cons, awp, asN, Aw.newRow, St.ev, St.step, setS, killS, AV.kill, AV.killL, Mem.kill, ACond_false, List.getD_cons_succ, List.getD_cons_zero, List.set_cons_succ, List.set_cons_zero, List.length_cons, List.length_nil, List.replicate_succ, List.replicate_zero, List.cons_append, List.nil_append, List.contains_nil, List.contains_cons, List.isEmpty_nil, Option.getD_some, Bool.false_eq_true, if_false, if_true, Nat.zero_add, Nat.add_zero, beq_self_eq_true, List.map_cons, List.map_nil, nbeq, decide_false, Bool.or_false, Nat.reduceAdd, Nat.reduceEqDiff, Nat.reduceSub, Int.reduceAdd, Int.reduceSub, ti22, ti24, Try.ntmps54]
  refine acall_v (s73 n c d (by omega) (by omega)) rfl rfl ?_
  simp only [w_move, w_assign, w_binOp, w_aop, w_some, w_asome, w_anone, w_nil, w_cons, awp, binC, cmpC, asB, asI, asN, St.ev, St.step, setS, killS, AV.kill, AV.killL, Mem.kill, ACond_false, List.getD_cons_succ, List.getD_cons_zero, List.set_cons_succ, List.set_cons_zero, List.contains_nil, List.contains_cons, List.isEmpty_nil, Option.getD_some, Bool.false_eq_true, if_false, if_true, true_and, Bool.true_and, nbeq, decide_false, Bool.or_false, Nat.reduceAdd, Nat.reduceEqDiff, Int.reduceAdd]
  by_cases hv : vC2 n c d = 0
  · simp only [w_move, w_binOp, w_len, w_aop, w_some, w_asome, w_anone, w_nil, w_cons, awp, binC, arithC, cmpC, asB, asI, lenA, St.ev, St.step, setS, killS, AV.kill, AV.killL, Mem.kill, ACond_false, List.getD_cons_succ, List.getD_cons_zero, List.set_cons_succ, List.set_cons_zero, List.contains_nil, List.contains_cons, List.isEmpty_nil, Bool.false_eq_true, if_false, if_true, true_and, and_true, Bool.and_true, Bool.true_and, Bool.not_true, Option.isSome_some, nbeq, decide_false, Bool.or_false, Nat.reduceAdd, Nat.reduceEqDiff, Int.reduceAdd, gtsA_len, ti22, decide_eq_true hv]
    refine ⟨by unfold lim; omega, ?_⟩
    by_cases h1 : (10 : Int) < (c.length : Int) + (d.length : Int)
    · simp only [w_assign, w_aop, w_some, w_asome, w_anone, w_nil, w_cons, awp, asN, Aw.newRow, St.ev, St.step, setS, killS, AV.kill, AV.killL, Mem.kill, ACond_true, ACond_false, List.set_cons_succ, List.set_cons_zero, List.length_cons, List.length_nil, List.cons_append, List.nil_append, List.contains_nil, List.contains_cons, List.isEmpty_nil, Option.getD_some, Bool.false_eq_true, if_false, if_true, Nat.zero_add, beq_self_eq_true, nbeq, decide_false, Bool.or_false, Nat.reduceAdd, Nat.reduceEqDiff, Int.reduceAdd, ti22, ti24, decide_eq_true h1]
      refine aend_frz rfl ⟨?_, rfl⟩
      simp [frz, AV.sub, AV.subL, vJ, hv, show 10 < c.length + d.length by omega]
      rfl
    · simp only [w_move, w_assign, w_buildSlice, w_append, w_aop, w_some, w_asome, w_anone, w_nil, w_cons, awp, asO, asS, asN, obA, Aw.newRow, St.ev, St.step, setS, killS, AV.kill, AV.killL, Mem.kill, AV.cells, AV.flat, AV.single, AV.cellular, ACond_true, ACond_false, Value.oneCell', List.getD_cons_succ, List.getD_cons_zero, List.set_cons_succ, List.set_cons_zero, List.getElem?_cons_succ, List.getElem?_cons_zero, List.length_cons, List.length_nil, List.cons_append, List.nil_append, List.contains_nil, List.contains_cons, List.isEmpty_nil, List.isEmpty_cons, Option.getD_some, Bool.false_eq_true, if_false, if_true, true_and, and_true, List.all_nil, Bool.and_true, Bool.true_and, Nat.zero_add, beq_self_eq_true, List.map_cons, List.map_nil, nbeq, decide_false, Bool.or_false, Bool.or_true, Nat.reduceAdd, Nat.reduceEqDiff, Nat.reduceMul, Nat.reduceLeDiff, Int.reduceAdd, Int.reduceMul, Option.map_some, gtsA_len, ti22, ti24, decide_eq_false h1, gtsA_kill, gtsA_join]
      refine ⟨⟨by decide, rfl⟩, ⟨by decide, by omega⟩, ⟨by decide, by omega⟩, ?_⟩
      exact aend_frz rfl ⟨by simp [frz, AV.sub, AV.subL, gtsA_pure, vJ, hv, show ¬ 10 < c.length + d.length by omega], rfl⟩
  · simp only [w_move, w_assign, w_aop, w_some, w_asome, w_anone, w_nil, w_cons, awp, asN, Aw.newRow, St.ev, St.step, setS, killS, AV.kill, AV.killL, Mem.kill, ACond_true, ACond_false, List.getD_cons_succ, List.getD_cons_zero, List.set_cons_succ, List.set_cons_zero, List.length_cons, List.length_nil, List.cons_append, List.nil_append, List.contains_nil, List.contains_cons, List.isEmpty_nil, Option.getD_some, Bool.false_eq_true, if_false, if_true, Bool.not_false, Nat.zero_add, beq_self_eq_true, nbeq, decide_false, Bool.or_false, Nat.reduceAdd, Nat.reduceEqDiff, Int.reduceAdd, ti22, ti24, decide_eq_false hv]
    refine aend_frz rfl ⟨?_, rfl⟩
    simp [frz, AV.sub, AV.subL, vJ, hv]
    rfl
end Go.Proofs.Ytkmbbbemmohmcaa

namespace Go.Proofs.Ytkmbbbemmohmcaa
open Aw Go.RowKit
set_option linter.unusedSimpArgs false

theorem ok31 : okFn Try.prog 31 = true := by kernel_rfl
theorem s31 (n : Int) (c d : List G4) (hl : c.length ≤ 10000) (hl' : d.length ≤ 10000) : ASpec Try.prog 31 [I n, .s 4 (gtsA c), .s 4 (gtsA d)] (fun r Ms => r = .t [.s 4 (gtsA (if vJ n c d = 0 then c ++ d else [])), I (vJ n c d)] ∧ Ms = []) := by
  refine aspec_of (own := [6]) Try.func31 rfl ok31 ?_
  simp only [w_move, w_assign, w_callF, w_aop, w_some, w_asome, w_anone, w_nil, w_cons, awp, asN, Aw.newRow, St.ev, St.step, setS, killS, AV.kill, AV.killL, Mem.kill, ACond_false, List.getD_cons_succ, List.getD_cons_zero, List.set_cons_succ, List.set_cons_zero, List.length_cons, List.length_nil, List.replicate_succ, List.replicate_zero, List.cons_append, List.nil_append, List.contains_nil, List.contains_cons, List.isEmpty_nil, Option.getD_some, Bool.false_eq_true, if_false, if_true, Nat.zero_add, Nat.add_zero, beq_self_eq_true, List.map_cons, List.map_nil, nbeq, decide_false, Bool.or_false, Nat.reduceAdd, Nat.reduceEqDiff, Nat.reduceSub, Int.reduceAdd, Int.reduceSub, ti22, ti24, Try.ntmps31]
  refine acall_v (s61 n c d (by omega) (by omega)) rfl rfl ?_
  simp only [w_move, w_assign, w_binOp, w_aop, w_some, w_asome, w_anone, w_nil, w_cons, awp, binC, cmpC, asB, asI, asN, St.ev, St.step, setS, killS, AV.kill, AV.killL, Mem.kill, ACond_false, List.getD_cons_succ, List.getD_cons_zero, List.set_cons_succ, List.set_cons_zero, List.contains_nil, List.contains_cons, List.isEmpty_nil, Option.getD_some, Bool.false_eq_true, if_false, if_true, true_and, Bool.true_and, nbeq, decide_false, Bool.or_false, Nat.reduceAdd, Nat.reduceEqDiff, Int.reduceAdd]
  by_cases hv : vC2 n c d = 0
  · simp only [w_move, w_binOp, w_len, w_aop, w_some, w_asome, w_anone, w_nil, w_cons, awp, binC, arithC, cmpC, asB, asI, lenA, St.ev, St.step, setS, killS, AV.kill, AV.killL, Mem.kill, ACond_false, List.getD_cons_succ, List.getD_cons_zero, List.set_cons_succ, List.set_cons_zero, List.contains_nil, List.contains_cons, List.isEmpty_nil, Bool.false_eq_true, if_false, if_true, true_and, and_true, Bool.and_true, Bool.true_and, Bool.not_true, Option.isSome_some, nbeq, decide_false, Bool.or_false, Nat.reduceAdd, Nat.reduceEqDiff, Int.reduceAdd, gtsA_len, ti22, decide_eq_true hv]
    refine ⟨by unfold lim; omega, ?_⟩
    by_cases h1 : (10 : Int) < (c.length : Int) + (d.length : Int)
    · simp only [w_assign, w_aop, w_some, w_asome, w_anone, w_nil, w_cons, awp, asN, Aw.newRow, St.ev, St.step, setS, killS, AV.kill, AV.killL, Mem.kill, ACond_true, ACond_false, List.set_cons_succ, List.set_cons_zero, List.length_cons, List.length_nil, List.cons_append, List.nil_append, List.contains_nil, List.contains_cons, List.isEmpty_nil, Option.getD_some, Bool.false_eq_true, if_false, if_true, Nat.zero_add, beq_self_eq_true, nbeq, decide_false, Bool.or_false, Nat.reduceAdd, Nat.reduceEqDiff, Int.reduceAdd, ti22, ti24, decide_eq_true h1]
      refine aend_frz rfl ⟨?_, rfl⟩
      simp [frz, AV.sub, AV.subL, vJ, hv, show 10 < c.length + d.length by omega]
      rfl
    · simp only [w_move, w_buildSlice, w_callF, w_aop, w_some, w_cons, awp, St.ev, St.step, setS, killS, AV.kill, AV.killL, Mem.kill, AV.cells, AV.flat, AV.single, AV.cellular, AV.size, AV.pure, AV.pureL, ACond_false, Value.oneCell', List.getD_cons_succ, List.getD_cons_zero, List.set_cons_succ, List.set_cons_zero, List.contains_nil, List.contains_cons, List.isEmpty_nil, Option.getD_some, Bool.false_eq_true, if_false, if_true, true_and, and_true, List.all_cons, List.all_nil, Bool.and_true, Bool.true_and, List.map_cons, List.map_nil, decide_true, nbeq, decide_false, Bool.or_false, Nat.reduceAdd, Nat.reduceEqDiff, Nat.reduceMul, Nat.reduceLeDiff, Int.reduceAdd, Int.reduceMul, ti22, ti34, decide_eq_false h1]
      refine ⟨⟨by decide, rfl⟩, acall_o (s65 [c, d] (by simp) (by simp; omega)) rfl (gtsA_pure _) ?_⟩
      simp only [w_assign, w_aop, w_anone, w_nil, w_cons, awp, asN, St.ev, St.step, setS, killS, AV.kill, AV.killL, Mem.kill, List.getD_cons_succ, List.getD_cons_zero, List.set_cons_succ, List.set_cons_zero, List.length_cons, List.length_nil, List.cons_append, List.nil_append, List.contains_nil, List.contains_cons, List.isEmpty_nil, Option.getD_some, Bool.false_eq_true, if_false, if_true, Nat.zero_add, beq_self_eq_true, nbeq, decide_false, Bool.or_false, Nat.reduceEqDiff, AV.up, AV.sub]
      refine aend_frz rfl ⟨?_, rfl⟩
      simp [frz, AV.sub, AV.subL, gtsA_pure, vJ, hv, show ¬ 10 < c.length + d.length by omega]
  · simp only [w_move, w_assign, w_aop, w_some, w_asome, w_anone, w_nil, w_cons, awp, asN, Aw.newRow, St.ev, St.step, setS, killS, AV.kill, AV.killL, Mem.kill, ACond_true, ACond_false, List.getD_cons_succ, List.getD_cons_zero, List.set_cons_succ, List.set_cons_zero, List.length_cons, List.length_nil, List.cons_append, List.nil_append, List.contains_nil, List.contains_cons, List.isEmpty_nil, Option.getD_some, Bool.false_eq_true, if_false, if_true, Bool.not_false, Nat.zero_add, beq_self_eq_true, nbeq, decide_false, Bool.or_false, Nat.reduceAdd, Nat.reduceEqDiff, Int.reduceAdd, ti22, ti24, decide_eq_false hv]
    refine aend_frz rfl ⟨?_, rfl⟩
    simp [frz, AV.sub, AV.subL, vJ, hv]
    rfl

theorem ok62 : okFn Try.prog 62 = true := by kernel_rfl
theorem s62 (a b : List G4) (ha : a.length ≤ 10000) (hb : b.length ≤ 10000) : ASpec Try.prog 62 [.s 4 (gtsA a), .s 4 (gtsA b)] (fun r Ms => r = B (decide (a = b)) ∧ Ms = []) := by
  refine aspec_of (own := []) Try.func62 rfl ok62 ?_
  simp only [w_move, w_assign, w_binOp, w_len, w_aop, w_some, w_asome, w_anone, w_nil, w_cons, awp, binC, cmpC, asB, asI, asN, lenA, St.ev, St.step, setS, killS, AV.kill, AV.killL, Mem.kill, ACond_false, List.getD_cons_succ, List.getD_cons_zero, List.set_cons_succ, List.set_cons_zero, List.length_cons, List.length_nil, List.replicate_succ, List.replicate_zero, List.cons_append, List.nil_append, List.contains_nil, List.isEmpty_nil, Option.getD_some, Bool.false_eq_true, if_false, if_true, true_and, Bool.true_and, Option.isSome_some, Nat.zero_add, Nat.add_zero, Nat.reduceAdd, Nat.reduceSub, Int.reduceAdd, Int.reduceSub, gtsA_len, ti22, Try.ntmps62]
  by_cases h0 : a.length = b.length
  · have h0' : (a.length : Int) = (b.length : Int) := by omega
    simp only [w_move, w_len, w_aop, w_some, w_asome, w_nil, w_cons, awp, lenA, St.ev, St.step, setS, killS, AV.kill, AV.killL, Mem.kill, ACond_false, List.getD_cons_succ, List.getD_cons_zero, List.set_cons_succ, List.set_cons_zero, List.contains_nil, List.isEmpty_nil, if_true, true_and, Bool.true_and, Bool.not_true, Option.isSome_some, Nat.reduceAdd, Int.reduceAdd, gtsA_len, ti22, decide_eq_true h0']
    refine swp_loop' (fun k : Nat => ⟨[.s 4 (gtsA a), .s 4 (gtsA b), .bot, .bot, .bot, .bot, .bot, .bot, .bot, .bot, .bot, .bot, I a.length, I k, .bot, .bot, .bot, .bot, .bot, .bot, .bot, .bot, .bot, .bot, .bot, .bot], []⟩) (fun k => k ≤ a.length ∧ ∀ j, j < k → ∀ (h1 : j < a.length) (h2 : j < b.length), a[j] = b[j]) (fun k => a.length - k) 0 (le_sl (by simp [leSl, h0])) ⟨Nat.zero_le _, by omega⟩ ?_
    rintro k ⟨hk, hno⟩
    refine awp_sound (own := []) _ _ _ _ _ ?_
    simp only [w_binOp, w_aop, w_some, w_asome, w_nil, w_cons, awp, binC, cmpC, asB, asI, St.ev, St.step, setS, killS, AV.kill, AV.killL, Mem.kill, ACond_false, List.getD_cons_succ, List.getD_cons_zero, List.set_cons_succ, List.set_cons_zero, List.contains_nil, List.isEmpty_nil, if_true, true_and, Bool.true_and, Nat.reduceAdd, Int.reduceAdd]
    by_cases h : k < a.length
    · have h' : (k : Int) < (a.length : Int) := by omega
      have hb' : k < b.length := by omega
      simp only [w_move, w_assign, w_aop, w_anone, w_nil, w_cons, awp, asN, St.ev, St.step, setS, killS, AV.kill, AV.killL, Mem.kill, ACond_true, ACond_false, List.getD_cons_succ, List.getD_cons_zero, List.set_cons_succ, List.set_cons_zero, List.contains_nil, List.isEmpty_nil, Option.getD_some, Bool.false_eq_true, if_false, if_true, Nat.reduceAdd, Int.reduceAdd, decide_eq_true h']
      refine swp_draw (own := []) (.take 0 .plain [] (.take 1 .plain [] (.take 2 .reads [] (.take 3 .reads [] (.take 4 .plain [] (.take 5 .plain [] (.take 6 .reads [] (.take 7 .reads [] (.take 8 .plain [] (.done)))))))))) [⟨17, 1, 0, 0, true⟩, ⟨18, 32, 0, 0, true⟩, ⟨19, 196608, 3, 0, true⟩, ⟨20, 262144, 4, 0, true⟩, ⟨21, 2, 0, 0, true⟩, ⟨22, 32, 0, 0, true⟩, ⟨23, 3145728, 48, 0, true⟩, ⟨24, 4194304, 64, 0, true⟩, ⟨25, 8912896, 136, 0, true⟩] mo (by kernel_rfl) ?_
      simp only [w_move, w_load, w_indexAddr, w_binOp, w_take, w_some, w_asome, w_anone, awp, binC, idxC, eqC, asP, asS, asG, asB, asI, loadA, St.ev, setS, AV.cells, AV.flat, AV.single, ints, List.getD_cons_succ, List.getD_cons_zero, List.set_cons_succ, List.set_cons_zero, List.getElem?_cons_succ, List.getElem?_cons_zero, List.length_cons, List.length_nil, Bool.false_eq_true, if_false, if_true, true_and, and_true, List.all_cons, List.all_nil, Bool.and_true, Bool.true_and, Bool.not_true, Nat.zero_add, beq_self_eq_true, decide_true, Nat.reduceAdd, Nat.reduceLeDiff, Int.reduceAdd, ASch, St.put, Md.mem, Md.need, Option.map_some, ti22, ti24, aget_gts h, aget_gts hb', Int.toNat_natCast]
      refine ⟨by omega, by omega, ?_⟩
      by_cases hx : [a[k].k, a[k].a, a[k].b, a[k].t] = [b[k].k, b[k].a, b[k].b, b[k].t]
      · simp only [w_move, w_binOp, w_aop, w_some, w_asome, w_anone, w_nil, w_cons, awp, binC, arithC, cmpC, asI, St.ev, St.step, setS, killS, AV.kill, AV.killL, Mem.kill, ACond_false, List.getD_cons_succ, List.getD_cons_zero, List.set_cons_succ, List.set_cons_zero, List.contains_nil, List.isEmpty_nil, if_true, true_and, and_true, Bool.and_true, Bool.true_and, Bool.not_true, Nat.reduceAdd, Int.reduceAdd, St.put, decide_eq_true hx]
        refine ⟨by unfold lim; omega, k + 1, le_sl (by simp [leSl]), ⟨h, fun j hj h1 h2 => ?_⟩, by omega⟩
        rcases Nat.lt_or_ge j k with h3 | h3
        · exact hno j h3 h1 h2
        · obtain rfl : j = k := by omega
          exact (g4_eq _ _).1 hx
      · simp only [w_assign, w_aop, w_anone, w_nil, w_cons, awp, asN, St.ev, St.step, setS, killS, AV.kill, AV.killL, Mem.kill, ACond_true, ACond_false, List.set_cons_succ, List.set_cons_zero, List.contains_nil, List.isEmpty_nil, Option.getD_some, Bool.false_eq_true, if_false, if_true, Bool.not_false, Nat.reduceAdd, Int.reduceAdd, St.put, decide_eq_false hx]
        exact aend_frz rfl ⟨by rw [decide_eq_false (fun e => hx (by subst e; rfl))]; rfl, rfl⟩
    · have h' : ¬ (k : Int) < (a.length : Int) := by omega
      simp only [w_assign, w_aop, w_anone, w_nil, w_cons, awp, asN, St.ev, St.step, setS, killS, AV.kill, AV.killL, Mem.kill, ACond_false, List.set_cons_succ, List.set_cons_zero, List.contains_nil, List.isEmpty_nil, Option.getD_some, Bool.false_eq_true, if_false, if_true, Nat.reduceAdd, Int.reduceAdd, decide_eq_false h']
      exact aend_frz rfl ⟨by rw [decide_eq_true (all_eq h0 fun j hj h1 h2 => hno j (by omega) h1 h2)]; rfl, rfl⟩
  · have h0' : ¬ (a.length : Int) = (b.length : Int) := by omega
    simp only [w_assign, w_aop, w_anone, w_nil, w_cons, awp, asN, St.ev, St.step, setS, killS, AV.kill, AV.killL, Mem.kill, ACond_true, ACond_false, List.set_cons_succ, List.set_cons_zero, List.contains_nil, List.isEmpty_nil, Option.getD_some, Bool.false_eq_true, if_false, if_true, Bool.not_false, Nat.reduceAdd, Int.reduceAdd, decide_eq_false h0']
    exact aend_frz rfl ⟨by rw [decide_eq_false (fun e => h0 (by rw [e]))]; rfl, rfl⟩

theorem ok46 : okFn Try.prog 46 = true := by kernel_rfl
theorem s46 (a b : List (List G4)) (ha : a.length ≤ 10000) (hb : b.length ≤ 10000) (ha' : ∀ x ∈ a, x.length ≤ 10000) (hb' : ∀ x ∈ b, x.length ≤ 10000) : ASpec Try.prog 46 [.s 1 (rowsA a), .s 1 (rowsA b)] (fun r Ms => r = B (decide (a = b)) ∧ Ms = []) := by
  refine aspec_of (own := []) Try.func46 rfl ok46 ?_
  simp only [w_move, w_assign, w_binOp, w_len, w_aop, w_some, w_asome, w_anone, w_nil, w_cons, awp, binC, cmpC, asB, asI, asN, lenA, St.ev, St.step, setS, killS, AV.kill, AV.killL, Mem.kill, ACond_false, List.getD_cons_succ, List.getD_cons_zero, List.set_cons_succ, List.set_cons_zero, List.length_cons, List.length_nil, List.replicate_succ, List.replicate_zero, List.cons_append, List.nil_append, List.contains_nil, List.isEmpty_nil, Option.getD_some, Bool.false_eq_true, if_false, if_true, true_and, Bool.true_and, Option.isSome_some, Nat.zero_add, Nat.add_zero, Nat.reduceAdd, Nat.reduceSub, Int.reduceAdd, Int.reduceSub, ti34, Try.ntmps46, rowsA_len]
  by_cases h0 : a.length = b.length
  · have h0' : (a.length : Int) = (b.length : Int) := by omega
    simp only [w_assign, w_aop, w_anone, w_nil, w_cons, awp, asN, St.ev, St.step, setS, killS, AV.kill, AV.killL, Mem.kill, ACond_false, List.set_cons_succ, List.set_cons_zero, List.contains_nil, List.isEmpty_nil, Option.getD_some, Bool.false_eq_true, if_false, if_true, Bool.not_true, Nat.reduceAdd, Int.reduceAdd, decide_eq_true h0']
    refine swp_loop' (fun k : Nat => ⟨[.s 1 (rowsA a), .s 1 (rowsA b), .bot, .bot, .bot, I k, .bot, .bot, .bot, .bot, .bot, .bot, .bot, .bot, .bot, .bot, .bot, .bot, .bot, .bot, .bot, .bot, .bot, .bot, .bot, .bot, .bot], []⟩) (fun k => k ≤ a.length ∧ ∀ j, j < k → ∀ (h1 : j < a.length) (h2 : j < b.length), a[j] = b[j]) (fun k => a.length - k) 0 (le_sl (by simp [leSl])) ⟨Nat.zero_le _, by omega⟩ ?_
    rintro k ⟨hk, hno⟩
    refine awp_sound (own := []) _ _ _ _ _ ?_
    simp only [w_move, w_binOp, w_len, w_aop, w_some, w_asome, w_nil, w_cons, awp, binC, cmpC, asB, asI, lenA, St.ev, St.step, setS, killS, AV.kill, AV.killL, Mem.kill, ACond_false, List.getD_cons_succ, List.getD_cons_zero, List.set_cons_succ, List.set_cons_zero, List.contains_nil, List.isEmpty_nil, if_true, true_and, Bool.true_and, Option.isSome_some, Nat.reduceAdd, Int.reduceAdd, ti34, rowsA_len]
    by_cases h : k < a.length
    · have h' : (k : Int) < (a.length : Int) := by omega
      have hkb : k < b.length := by omega
      simp only [awp, ACond_true, decide_eq_true h']
      refine swp_draw (own := []) (.take 0 .plain [] (.take 1 .plain [] (.take 2 .reads [] (.take 3 .reads [] (.take 4 .plain [] (.take 5 .plain [] (.take 6 .reads [] (.take 7 .reads [] (.alt 8 (.take 9 .plain [] (.done)) (.nil)))))))))) [⟨18, 1, 0, 0, true⟩, ⟨19, 32, 0, 0, true⟩, ⟨20, 393216, 3, 0, true⟩, ⟨21, 524288, 4, 0, true⟩, ⟨22, 2, 0, 0, true⟩, ⟨23, 32, 0, 0, true⟩, ⟨24, 6291456, 48, 0, true⟩, ⟨25, 8388608, 64, 0, true⟩, ⟨26, 17825792, 136, 0, false⟩, ⟨27, 33554432, 256, 0, true⟩] mo (by kernel_rfl) ?_
      simp only [w_move, w_load, w_indexAddr, w_callF, w_aop, w_take, w_some, w_asome, idxC, asP, asS, asI, loadA, St.ev, setS, AV.cells, AV.flat, AV.single, List.getD_cons_succ, List.getD_cons_zero, List.set_cons_succ, List.set_cons_zero, List.getElem?_cons_succ, List.getElem?_cons_zero, Bool.false_eq_true, if_false, true_and, and_true, List.all_cons, List.all_nil, Bool.and_true, Bool.true_and, Bool.not_true, List.map_cons, List.map_nil, ASch, St.put, Md.mem, Md.need, ti22, ti34, aget_rowsA h, aget_rowsA hkb, Int.toNat_natCast]
      refine ⟨by omega, by omega, acall_v (s29 a[k] b[k] (ha' _ (List.getElem_mem h)) (hb' _ (List.getElem_mem hkb))) rfl rfl ?_⟩
      simp only [w_not, w_take, w_some, awp, asB, St.ev, St.step, setS, killS, AV.kill, AV.killL, Mem.kill, List.getD_cons_succ, List.getD_cons_zero, List.set_cons_succ, List.set_cons_zero, List.getElem?_cons_succ, List.getElem?_cons_zero, List.isEmpty_nil, if_true, true_and, Bool.true_and, ASch, St.put, Md.mem, Md.need]
      by_cases hx : a[k] = b[k]
      · simp only [w_move, w_assign, w_binOp, w_aop, w_some, w_asome, w_anone, w_nil, w_cons, awp, binC, arithC, cmpC, asI, asN, St.ev, St.step, setS, killS, AV.kill, AV.killL, Mem.kill, ACond_false, List.getD_cons_succ, List.getD_cons_zero, List.set_cons_succ, List.set_cons_zero, List.contains_nil, List.isEmpty_nil, Option.getD_some, Bool.false_eq_true, if_false, if_true, true_and, and_true, Bool.and_true, Bool.true_and, Bool.not_true, Nat.reduceAdd, Int.reduceAdd, St.put, decide_eq_true hx]
        refine ⟨by unfold lim; omega, k + 1, le_sl (by simp [leSl]), ⟨h, fun j hj h1 h2 => ?_⟩, by omega⟩
        rcases Nat.lt_or_ge j k with h3 | h3
        · exact hno j h3 h1 h2
        · obtain rfl : j = k := by omega
          exact hx
      · simp only [w_assign, w_aop, w_anone, w_nil, w_cons, awp, asN, St.ev, St.step, setS, killS, AV.kill, AV.killL, Mem.kill, ACond_true, ACond_false, List.set_cons_succ, List.set_cons_zero, List.contains_nil, List.isEmpty_nil, Option.getD_some, Bool.false_eq_true, if_false, if_true, Bool.not_false, Nat.reduceAdd, Int.reduceAdd, St.put, decide_eq_false hx]
        exact aend_frz rfl ⟨by rw [decide_eq_false (fun e => hx (by subst e; rfl))]; rfl, rfl⟩
    · have h' : ¬ (k : Int) < (a.length : Int) := by omega
      simp only [w_assign, w_aop, w_anone, w_nil, w_cons, awp, asN, St.ev, St.step, setS, killS, AV.kill, AV.killL, Mem.kill, ACond_false, List.set_cons_succ, List.set_cons_zero, List.contains_nil, List.isEmpty_nil, Option.getD_some, Bool.false_eq_true, if_false, if_true, Nat.reduceAdd, Int.reduceAdd, decide_eq_false h']
      exact aend_frz rfl ⟨by rw [decide_eq_true (List.ext_getElem h0 fun j h1 h2 => hno j (by omega) h1 h2)]; rfl, rfl⟩
  · have h0' : ¬ (a.length : Int) = (b.length : Int) := by omega
    simp only [w_assign, w_aop, w_anone, w_nil, w_cons, awp, asN, St.ev, St.step, setS, killS, AV.kill, AV.killL, Mem.kill, ACond_true, ACond_false, List.set_cons_succ, List.set_cons_zero, List.contains_nil, List.isEmpty_nil, Option.getD_some, Bool.false_eq_true, if_false, if_true, Bool.not_false, Nat.reduceAdd, Int.reduceAdd, decide_eq_false h0']
    exact aend_frz rfl ⟨by rw [decide_eq_false (fun e => h0 (by rw [e]))]; rfl, rfl⟩
end Go.Proofs.Ytkmbbbemmohmcaa

namespace Go.Proofs.Ytkmbbbemmohmcaa
open Aw Go.RowKit
set_option linter.unusedSimpArgs false

theorem ok96 : okFn Try.prog 96 = true := by kernel_rfl
theorem s96 (x h : G4) : ASpec Try.prog 96 [gA x, .p (gA h) 0] (fun r Ms => r = B (G4.bound h x) ∧ Ms = []) := by
  refine aspec_of (own := []) Try.func96 rfl ok96 ?_
  simp only [w_assign, w_box, w_load, w_callF, w_aop, w_some, w_asome, w_anone, w_nil, w_cons, awp, asP, asN, loadA, St.ev, St.step, setS, killS, AV.kill, AV.killL, Mem.kill, AV.cells, AV.flat, AV.single, AV.cellular, AV.pure, AV.pureL, ACond_false, List.getD_cons_succ, List.getD_cons_zero, List.set_cons_succ, List.set_cons_zero, List.getElem?_cons_zero, List.length_cons, List.length_nil, List.replicate_succ, List.replicate_zero, List.cons_append, List.nil_append, List.contains_nil, List.isEmpty_nil, Option.getD_some, Bool.false_eq_true, if_false, if_true, true_and, and_true, List.all_cons, List.all_nil, Bool.and_true, Bool.true_and, Bool.not_true, Nat.zero_add, Nat.add_zero, beq_self_eq_true, List.map_cons, List.map_nil, decide_true, Nat.reduceAdd, Nat.reduceSub, Nat.reduceLeDiff, Int.reduceAdd, Int.reduceSub, ti24, Try.ntmps96, gA]
  refine acall_v (s57 h x) rfl rfl ?_
  simp only [w_assign, w_aop, w_anone, w_nil, w_cons, awp, asN, St.ev, St.step, setS, killS, AV.kill, AV.killL, Mem.kill, List.getD_cons_succ, List.getD_cons_zero, List.set_cons_succ, List.set_cons_zero, List.contains_nil, List.isEmpty_nil, Option.getD_some, Bool.false_eq_true, if_false, if_true]
  exact aend_frz rfl ⟨rfl, rfl⟩

/-- how far behind a gate the next one of its type lies to which it can be brought; beh: those that stay behind it. -/
def pmIn (g : G4) : List G4 → List G4 → Option Nat
  | _, [] => none
  | beh, h :: t => if g.same h && !(beh.any fun x => h.bound x) then some 0 else (pmIn g (if (beh.any fun x => h.bound x) || g.bound h then beh ++ [h] else beh) t).map (· + 1)
/-- the places of two gates that meet. -/
def pm : List G4 → Option (Nat × Nat)
  | [] => none
  | g :: t => match pmIn g [] t with | some k => some (0, k + 1) | none => (pm t).map fun p => (p.1 + 1, p.2 + 1)
theorem pmIn_step {l : List G4} {g : G4} {beh : List G4} {j : Nat} (hj : j < l.length) : pmIn g beh (l.drop j) = if g.same l[j] && !(beh.any fun x => l[j].bound x) then some 0 else (pmIn g (if (beh.any fun x => l[j].bound x) || g.bound l[j] then beh ++ [l[j]] else beh) (l.drop (j + 1))).map (· + 1) := by
  rw [List.drop_eq_getElem_cons hj, pmIn]
theorem pm_step {c : List G4} {k : Nat} (hk : k < c.length) : pm (c.drop k) = match pmIn c[k] [] (c.drop (k + 1)) with | some j => some (0, j + 1) | none => (pm (c.drop (k + 1))).map fun p => (p.1 + 1, p.2 + 1) := by
  rw [List.drop_eq_getElem_cons hk, pm]

theorem ok66 : okFn Try.prog 66 = true := by kernel_rfl
set_option maxHeartbeats 2000000 in
theorem s66 (c : List G4) (hl : c.length ≤ 10000) : ASpec Try.prog 66 [.s 4 (gtsA c)] (fun r Ms => r = mtA (pm c) ∧ Ms = []) := by
  refine aspec_of (own := [7]) Try.func66 rfl ok66 ?_
  simp only [w_move, w_assign, w_len, w_aop, w_some, w_asome, w_anone, w_nil, w_cons, awp, asN, lenA, St.ev, St.step, setS, killS, AV.kill, AV.killL, Mem.kill, ACond_false, List.getD_cons_succ, List.getD_cons_zero, List.set_cons_succ, List.set_cons_zero, List.length_cons, List.length_nil, List.replicate_succ, List.replicate_zero, List.cons_append, List.nil_append, List.contains_nil, List.contains_cons, List.isEmpty_nil, Option.getD_some, Bool.false_eq_true, if_false, if_true, true_and, Bool.true_and, Option.isSome_some, Nat.zero_add, Nat.add_zero, nbeq, decide_false, Bool.or_false, Nat.reduceAdd, Nat.reduceEqDiff, Nat.reduceSub, Int.reduceAdd, Int.reduceSub, gtsA_len, ti22, Try.ntmps66]
  refine swp_loop' (fun i : Nat => ⟨[.s 4 (gtsA c), .bot, .bot, .bot, .bot, .bot, .bot, .bot, .bot, .bot, .bot, .s 4 (gtsA c), I c.length, I i, .bot, .bot, .bot, .bot, .bot, .bot, .bot, .bot, .bot, .bot, .bot, .bot, .bot, .bot, .bot, .bot, .bot, .bot, .bot, .bot, .bot, .bot, .bot, .bot, .bot, .bot, .bot, .bot, .bot, .bot, .bot, .bot, .bot, .bot, .bot, .bot, .bot, .bot, .bot, .bot, .bot], []⟩) (fun i => i ≤ c.length ∧ pm c = (pm (c.drop i)).map fun p => (p.1 + i, p.2 + i)) (fun i => c.length - i) 0 (le_sl (by simp [leSl])) ⟨Nat.zero_le _, by simp⟩ ?_
  rintro i ⟨hi, hm⟩
  refine awp_sound (own := [7]) _ _ _ _ _ ?_
  simp only [w_binOp, w_aop, w_some, w_asome, w_nil, w_cons, awp, binC, cmpC, asB, asI, St.ev, St.step, setS, killS, AV.kill, AV.killL, Mem.kill, ACond_false, List.getD_cons_succ, List.getD_cons_zero, List.set_cons_succ, List.set_cons_zero, List.contains_nil, List.contains_cons, List.isEmpty_nil, if_true, true_and, Bool.true_and, nbeq, decide_false, Bool.or_false, Nat.reduceAdd, Nat.reduceEqDiff, Int.reduceAdd]
  by_cases h : i < c.length
  · have h' : (i : Int) < (c.length : Int) := by omega
    simp only [w_move, w_assign, w_alloc, w_load, w_store, w_indexAddr, w_binOp, w_slice, w_len, w_aop, w_some, w_asome, w_anone, w_nil, w_cons, awp, binC, idxC, arithC, cmpC, asP, asQ, asS, asI, asN, obA, AGet_zero, bndA, lenA, loadA, storeA, putsA, mkA, Aw.newRow, St.ev, St.step, setS, killS, AV.kill, AV.killL, Mem.kill, AV.cells, AV.flat, AV.single, AV.cellular, ACond_true, ACond_false, List.getD_cons_succ, List.getD_cons_zero, List.set_cons_succ, List.set_cons_zero, List.getElem?_cons_zero, List.length_cons, List.length_nil, List.cons_append, List.nil_append, List.contains_nil, List.contains_cons, List.isEmpty_nil, Option.getD_some, Option.getD_none, Bool.false_eq_true, if_false, if_true, true_and, and_true, List.all_cons, List.all_nil, Bool.and_true, Bool.true_and, Bool.not_true, Option.isSome_some, Nat.zero_add, beq_self_eq_true, List.map_cons, List.map_nil, decide_true, nbeq, decide_false, Bool.or_false, Nat.reduceAdd, Nat.reduceEqDiff, Nat.reduceLeDiff, Int.reduceAdd, gtsA_len, ti22, ti24, decide_eq_true h', aget_gts h, Int.toNat_natCast]
    refine ⟨by omega, by unfold lim; omega, by omega, ?_⟩
    have ed : List.drop ((i : Int) + 1).toNat (List.take (c.length : Int).toNat (gtsA c)) = gtsA (c.drop (i + 1)) := by
      rw [show ((i : Int) + 1).toNat = i + 1 by omega, Int.toNat_natCast, gtsA_take, List.take_length, gtsA_drop]
    obtain ⟨l, hld⟩ : ∃ l, l = c.drop (i + 1) := ⟨_, rfl⟩
    have hll : l.length = c.length - (i + 1) := by rw [hld]; simp
    refine swp_loop' (fun j : Nat × List G4 => ⟨[.s 4 (gtsA c), .bot, .bot, .bot, .bot, I i, .q 0 4 0 0, .o 1, .bot, .bot, .bot, .s 4 (gtsA c), I c.length, I i, .bot, .bot, .bot, .bot, .bot, .bot, .bot, .s 4 (gtsA l), I l.length, I j.1, .bot, .bot, .bot, .bot, .bot, .bot, .bot, .bot, .bot, .bot, .bot, .bot, .bot, .bot, .bot, .bot, .bot, .bot, .bot, .bot, .bot, .bot, .bot, .bot, .bot, .bot, .bot, .bot, .bot, .bot, .bot], [some ⟨none, 24, 4, [.g [I c[i].k, I c[i].a, I c[i].b, I c[i].t]]⟩, some ⟨none, 24, 4, gtsA j.2⟩]⟩)
      (fun j => j.1 ≤ l.length ∧ j.2.length ≤ j.1 ∧ pmIn c[i] [] l = (pmIn c[i] j.2 (l.drop j.1)).map (· + j.1)) (fun j => l.length - j.1) (0, []) (le_sl (by simp [leSl, gtsA_len]; exact ⟨by rw [hld, gtsA_take, List.take_length, gtsA_drop], by omega⟩)) ⟨Nat.zero_le _, Nat.le_refl _, by simp⟩ ?_
    rintro ⟨j, beh⟩ ⟨hj, hbl, hn⟩
    simp only at hj hbl hn
    refine awp_sound (own := [7]) _ _ _ _ _ ?_
    simp only [w_binOp, w_aop, w_some, w_asome, w_nil, w_cons, awp, binC, cmpC, asB, asI, St.ev, St.step, setS, killS, AV.kill, AV.killL, Mem.kill, ACond_false, List.getD_cons_succ, List.getD_cons_zero, List.set_cons_succ, List.set_cons_zero, List.contains_nil, List.contains_cons, List.isEmpty_nil, Bool.false_eq_true, if_false, if_true, true_and, Bool.true_and, nbeq, decide_false, Bool.or_false, Nat.reduceAdd, Nat.reduceEqDiff, Int.reduceAdd]
    by_cases hjl : j < l.length
    · have hj' : (j : Int) < (l.length : Int) := by omega
      simp only [w_move, w_assign, w_alloc, w_load, w_store, w_indexAddr, w_makeFunc, w_callF, w_aop, w_some, w_asome, w_anone, w_nil, w_cons, awp, idxC, asP, asQ, asS, asI, asN, obA, AGet_zero, loadA, storeA, putsA, mkA, Aw.newRow, St.ev, St.step, setS, killS, AV.kill, AV.killL, Mem.kill, AV.cells, AV.flat, AV.single, AV.cellular, ACond_true, ACond_false, Value.oneCell', List.getD_cons_succ, List.getD_cons_zero, List.set_cons_succ, List.set_cons_zero, List.getElem?_cons_succ, List.getElem?_cons_zero, List.length_cons, List.length_nil, List.cons_append, List.nil_append, List.contains_nil, List.contains_cons, List.isEmpty_nil, Option.getD_some, Bool.false_eq_true, if_false, if_true, true_and, and_true, List.all_cons, List.all_nil, Bool.and_true, Bool.true_and, Bool.not_true, Nat.zero_add, beq_self_eq_true, List.map_cons, List.map_nil, decide_true, nbeq, decide_false, Bool.or_false, Nat.reduceAdd, Nat.reduceEqDiff, Nat.reduceLeDiff, Int.reduceAdd, ti22, ti24, decide_eq_true hj', aget_gts hjl, Int.toNat_natCast]
      refine ⟨by omega, rfl, acall_l2 (s84 beh (fun x => l[j].bound x) 96 [.p (gA l[j]) 0] (by omega) rfl (fun z => s96 z l[j])) (by simp [frz2, AV.sub, AV.subL, gtsA_pure, frz, gA]) rfl rfl ?_⟩
      simp only [w_assign, w_load, w_callF, w_aop, w_some, w_anone, w_nil, w_cons, awp, asP, asQ, asN, obA, AGet_zero, loadA, St.ev, St.step, setS, killS, AV.kill, AV.killL, Mem.kill, AV.cells, AV.flat, AV.single, ACond_false, List.getD_cons_succ, List.getD_cons_zero, List.set_cons_succ, List.set_cons_zero, List.getElem?_cons_succ, List.getElem?_cons_zero, List.length_cons, List.length_nil, List.contains_nil, List.contains_cons, List.isEmpty_nil, Option.getD_some, Bool.false_eq_true, if_false, if_true, true_and, and_true, List.all_cons, List.all_nil, Bool.and_true, Bool.true_and, Bool.not_true, Nat.zero_add, beq_self_eq_true, List.map_cons, List.map_nil, decide_true, nbeq, decide_false, Bool.or_false, Nat.reduceAdd, Nat.reduceEqDiff, Nat.reduceLeDiff, Int.reduceAdd, ti24]
      refine acall_v (s56 c[i] l[j]) rfl rfl ?_
      cases hw : beh.any (fun x => l[j].bound x) with
      | true =>
        cases d1 : c[i].same l[j] with
        | true =>
          simp only [w_move, w_assign, w_pick, w_load, w_binOp, w_not, w_buildSlice, w_append, w_aop, w_aopg, w_gdb, w_some, w_asome, w_anone, w_nil, w_cons, awp, binC, arithC, cmpC, asP, asQ, asO, asS, asB, asI, asN, obA, AGet_zero, loadA, St.ev, St.step, setS, killS, AV.kill, AV.killL, Mem.kill, AV.cells, AV.flat, AV.single, AV.cellular, AV.size, AV.sizeL, AV.pure, AV.pureL, ACond_true, ACond_false, Value.oneCell', List.getD_cons_succ, List.getD_cons_zero, List.set_cons_succ, List.set_cons_zero, List.getElem?_cons_succ, List.getElem?_cons_zero, List.length_cons, List.length_nil, List.contains_nil, List.contains_cons, List.isEmpty_nil, List.isEmpty_cons, Option.getD_some, Bool.false_eq_true, if_false, if_true, true_and, and_true, List.all_cons, List.all_nil, Bool.and_true, Bool.true_and, Bool.not_true, Nat.zero_add, Nat.add_zero, beq_self_eq_true, List.map_cons, List.map_nil, decide_true, nbeq, decide_false, Bool.or_false, Nat.reduceAdd, Nat.reduceEqDiff, Nat.reduceMul, Nat.reduceLeDiff, Int.reduceAdd, Int.reduceMul, Option.bind_some, Option.map_some, w_bf, gtsA_len, ti22, ti24]
          refine ⟨⟨by decide, rfl⟩, ⟨by decide, by omega⟩, by unfold lim; omega, (j + 1, beh ++ [l[j]]), ?_, ⟨hjl, by simp; omega, ?_⟩, by simp only; omega⟩
          · rw [gtsA_kill, gtsA_app]
            exact le_cut (Mx := [_]) (M' := [_, _]) (by simp [leSl]) rfl (by simp [AV.freeL, AV.free, freeL_pure, gtsA_pure]) (by simp [freeM, AV.freeL, AV.free, freeL_pure, gtsA_pure])
          · rw [hn, pmIn_step hjl, hw, d1]
            simp only [Bool.and_false, Bool.and_true, Bool.false_and, Bool.true_or, Bool.or_true, Bool.not_true, Bool.not_false, Bool.false_eq_true, if_false, if_true, Option.map_map]
            congr 1
            funext x
            simp
            omega
        | false =>
          simp only [w_move, w_assign, w_pick, w_load, w_binOp, w_buildSlice, w_append, w_aop, w_aopg, w_gdb, w_some, w_asome, w_anone, w_nil, w_cons, awp, binC, arithC, cmpC, asP, asQ, asO, asS, asB, asI, asN, obA, AGet_zero, loadA, St.ev, St.step, setS, killS, AV.kill, AV.killL, Mem.kill, AV.cells, AV.flat, AV.single, AV.cellular, AV.size, AV.sizeL, AV.pure, AV.pureL, ACond_true, ACond_false, Value.oneCell', List.getD_cons_succ, List.getD_cons_zero, List.set_cons_succ, List.set_cons_zero, List.getElem?_cons_succ, List.getElem?_cons_zero, List.length_cons, List.length_nil, List.contains_nil, List.contains_cons, List.isEmpty_nil, List.isEmpty_cons, Option.getD_some, Bool.false_eq_true, if_false, if_true, true_and, and_true, List.all_cons, List.all_nil, Bool.and_true, Bool.true_and, Bool.not_true, Nat.zero_add, Nat.add_zero, beq_self_eq_true, List.map_cons, List.map_nil, decide_true, nbeq, decide_false, Bool.or_false, Nat.reduceAdd, Nat.reduceEqDiff, Nat.reduceMul, Nat.reduceLeDiff, Int.reduceAdd, Int.reduceMul, Option.bind_some, Option.map_some, w_bt, w_bf, gtsA_len, ti22, ti24]
          refine ⟨⟨by decide, rfl⟩, ⟨by decide, by omega⟩, by unfold lim; omega, (j + 1, beh ++ [l[j]]), ?_, ⟨hjl, by simp; omega, ?_⟩, by simp only; omega⟩
          · rw [gtsA_kill, gtsA_app]
            exact le_cut (Mx := [_]) (M' := [_, _]) (by simp [leSl]) rfl (by simp [AV.freeL, AV.free, freeL_pure, gtsA_pure]) (by simp [freeM, AV.freeL, AV.free, freeL_pure, gtsA_pure])
          · rw [hn, pmIn_step hjl, hw, d1]
            simp only [Bool.and_false, Bool.and_true, Bool.false_and, Bool.true_or, Bool.or_true, Bool.not_true, Bool.not_false, Bool.false_eq_true, if_false, if_true, Option.map_map]
            congr 1
            funext x
            simp
            omega
      | false =>
        cases d1 : c[i].same l[j] with
        | true =>
          simp only [w_move, w_assign, w_pick, w_binOp, w_not, w_aop, w_aopg, w_gdb, w_some, w_asome, w_anone, w_nil, w_cons, awp, binC, arithC, cmpC, asB, asI, asN, St.ev, St.step, setS, killS, AV.kill, AV.killL, Mem.kill, ACond_true, ACond_false, List.getD_cons_succ, List.getD_cons_zero, List.set_cons_succ, List.set_cons_zero, List.getElem?_cons_succ, List.getElem?_cons_zero, List.contains_nil, List.contains_cons, List.isEmpty_nil, Option.getD_some, Bool.false_eq_true, if_false, if_true, true_and, and_true, Bool.and_true, Bool.true_and, Bool.not_false, beq_self_eq_true, nbeq, decide_false, Bool.or_false, Nat.reduceAdd, Nat.reduceEqDiff, Int.reduceAdd, Option.bind_some]
          have e1 : pmIn c[i] [] l = some j := by rw [hn, pmIn_step hjl, hw, d1]; simp
          have e2 : pm c = some (i, i + 1 + j) := by rw [hm, pm_step h, ← hld, e1]; simp; omega
          refine ⟨by unfold lim; omega, by unfold lim; omega, ?_⟩
          exact aend_frz rfl ⟨by rw [e2]; simp [frz, AV.sub, AV.subL, mtA], rfl⟩
        | false =>
          simp only [w_move, w_pick, w_load, w_callF, w_aop, w_aopg, w_gdb, w_some, w_anone, w_nil, w_cons, awp, asP, asQ, asB, obA, AGet_zero, loadA, St.ev, St.step, setS, killS, AV.kill, AV.killL, Mem.kill, AV.cells, AV.flat, AV.single, ACond_true, ACond_false, List.getD_cons_succ, List.getD_cons_zero, List.set_cons_succ, List.set_cons_zero, List.getElem?_cons_succ, List.getElem?_cons_zero, List.length_cons, List.length_nil, List.contains_nil, List.contains_cons, List.isEmpty_nil, Bool.false_eq_true, if_false, if_true, true_and, and_true, List.all_cons, List.all_nil, Bool.and_true, Bool.true_and, Bool.not_true, Nat.zero_add, beq_self_eq_true, List.map_cons, List.map_nil, decide_true, nbeq, decide_false, Bool.or_false, Nat.reduceAdd, Nat.reduceEqDiff, Nat.reduceLeDiff, Int.reduceAdd, Option.bind_some, w_bt, ti24]
          refine acall_v (s57 c[i] l[j]) rfl rfl ?_
          cases d2 : c[i].bound l[j] with
          | true =>
            simp only [w_move, w_assign, w_pick, w_load, w_binOp, w_buildSlice, w_append, w_aop, w_some, w_asome, w_anone, w_nil, w_cons, awp, binC, arithC, cmpC, asP, asQ, asO, asS, asB, asI, asN, obA, AGet_zero, loadA, St.ev, St.step, setS, killS, AV.kill, AV.killL, Mem.kill, AV.cells, AV.flat, AV.single, AV.cellular, AV.size, AV.sizeL, AV.pure, AV.pureL, ACond_true, ACond_false, Value.oneCell', List.getD_cons_succ, List.getD_cons_zero, List.set_cons_succ, List.set_cons_zero, List.getElem?_cons_succ, List.getElem?_cons_zero, List.length_cons, List.length_nil, List.contains_nil, List.contains_cons, List.isEmpty_nil, List.isEmpty_cons, Option.getD_some, Bool.false_eq_true, if_false, if_true, true_and, and_true, List.all_cons, List.all_nil, Bool.and_true, Bool.true_and, Bool.not_true, Nat.zero_add, Nat.add_zero, beq_self_eq_true, List.map_cons, List.map_nil, decide_true, nbeq, decide_false, Bool.or_false, Nat.reduceAdd, Nat.reduceEqDiff, Nat.reduceMul, Nat.reduceLeDiff, Int.reduceAdd, Int.reduceMul, Option.map_some, gtsA_len, ti22, ti24]
            refine ⟨⟨by decide, rfl⟩, ⟨by decide, by omega⟩, by unfold lim; omega, (j + 1, beh ++ [l[j]]), ?_, ⟨hjl, by simp; omega, ?_⟩, by simp only; omega⟩
            · rw [gtsA_kill, gtsA_app]
              exact le_cut (Mx := [_]) (M' := [_, _]) (by simp [leSl]) rfl (by simp [AV.freeL, AV.free, freeL_pure, gtsA_pure]) (by simp [freeM, AV.freeL, AV.free, freeL_pure, gtsA_pure])
            · rw [hn, pmIn_step hjl, hw, d1, d2]
              simp only [Bool.and_false, Bool.and_true, Bool.false_and, Bool.true_or, Bool.or_true, Bool.not_true, Bool.not_false, Bool.false_eq_true, if_false, if_true, Option.map_map]
              congr 1
              funext x
              simp
              omega
          | false =>
            simp only [w_move, w_pick, w_binOp, w_aop, w_some, w_asome, w_anone, w_nil, w_cons, awp, binC, arithC, cmpC, asB, asI, St.ev, St.step, setS, killS, AV.kill, AV.killL, Mem.kill, ACond_false, List.getD_cons_succ, List.getD_cons_zero, List.set_cons_succ, List.set_cons_zero, List.contains_nil, List.contains_cons, List.isEmpty_nil, Bool.false_eq_true, if_false, if_true, true_and, and_true, Bool.and_true, Bool.true_and, nbeq, decide_false, Bool.or_false, Nat.reduceAdd, Nat.reduceEqDiff, Int.reduceAdd]
            refine ⟨by unfold lim; omega, (j + 1, beh), ?_, ⟨hjl, by simp only; omega, ?_⟩, by simp only; omega⟩
            · exact le_cut (Mx := [_]) (M' := [_, _]) (by simp [leSl]) rfl (by simp [AV.freeL, AV.free, freeL_pure, gtsA_pure]) (by simp [freeM, AV.freeL, AV.free, freeL_pure, gtsA_pure])
            · rw [hn, pmIn_step hjl, hw, d1, d2]
              simp only [Bool.and_false, Bool.and_true, Bool.false_and, Bool.true_or, Bool.or_true, Bool.or_false, Bool.not_true, Bool.not_false, Bool.false_eq_true, if_false, if_true, Option.map_map]
              congr 1
              funext x
              simp
              omega
    · have hj' : ¬ (j : Int) < (l.length : Int) := by omega
      have hje : j = l.length := by omega
      simp only [w_move, w_assign, w_binOp, w_aop, w_some, w_asome, w_anone, w_nil, w_cons, awp, binC, arithC, cmpC, asI, asN, St.ev, St.step, setS, killS, AV.kill, AV.killL, Mem.kill, ACond_false, List.getD_cons_succ, List.getD_cons_zero, List.set_cons_succ, List.set_cons_zero, List.contains_nil, List.contains_cons, List.isEmpty_nil, Option.getD_some, Bool.false_eq_true, if_false, if_true, true_and, and_true, Bool.and_true, Bool.true_and, nbeq, decide_false, Bool.or_false, Nat.reduceAdd, Nat.reduceEqDiff, Int.reduceAdd, decide_eq_false hj']
      have e1 : pmIn c[i] [] l = none := by rw [hn, hje, List.drop_length]; simp [pmIn]
      refine ⟨by unfold lim; omega, i + 1, le_all (by simp [leSl]) rfl, ⟨h, ?_⟩, by omega⟩
      rw [hm, pm_step h, ← hld, e1]
      simp only [Option.map_map]
      rw [hld]
      congr 1
      funext x
      simp
      omega
  · have h' : ¬ (i : Int) < (c.length : Int) := by omega
    simp only [w_assign, w_aop, w_anone, w_nil, w_cons, awp, asN, St.ev, St.step, setS, killS, AV.kill, AV.killL, Mem.kill, ACond_false, List.set_cons_succ, List.set_cons_zero, List.contains_nil, List.contains_cons, List.isEmpty_nil, Option.getD_some, Bool.false_eq_true, if_false, if_true, nbeq, decide_false, Bool.or_false, Nat.reduceAdd, Nat.reduceEqDiff, Int.reduceAdd, decide_eq_false h']
    have e1 : pm c = none := by rw [hm, show i = c.length by omega, List.drop_length]; rfl
    exact aend_frz rfl ⟨by rw [e1]; rfl, rfl⟩
end Go.Proofs.Ytkmbbbemmohmcaa
