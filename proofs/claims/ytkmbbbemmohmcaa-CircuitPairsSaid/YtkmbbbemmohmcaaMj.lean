/-
  Several texts in one: DbA, DbB, DbC, DbD.
-/
import Derived.Test.YtkmbbbemmohmcaaMi
import Derived.Test.YtkmbbbemmohmcaaMf
set_option linter.unusedSimpArgs false
set_option linter.unusedVariables false
namespace Go.Proofs.Ytkmbbbemmohmcaa
open Aw Go.RowKit
set_option linter.unusedSimpArgs false

theorem vG_two {n : Int} {g h : G4} (e : vG n [g, h] = 0) : okT g ∧ okT h := by
  rw [vG2] at e
  split at e
  · rename_i hh; exact ⟨okG_okT hh.1, okG_okT hh.2⟩
  · cases e
theorem vG_swap (n : Int) (g h : G4) : vG n [h, g] = vG n [g, h] := by
  rw [vG2, vG2]
  split <;> split <;> simp_all

theorem ok5 : okFn Try.prog 5 = true := by kernel_rfl
theorem s5 (g h : G4) : ASpec Try.prog 5 [gA g, gA h] (fun r Ms => r = B true ∧ Ms = []) := by
  have h1 := s35 g h
  have h2 := s36 g h
  have h3 := s35 h g
  rw [vG_swap] at h3
  rw [show (decide (vG 4 [g, h] = 0) && g.comm' h) = (decide (vG 4 [g, h] = 0) && g.comm h) by
    by_cases e : vG 4 [g, h] = 0
    · rw [comm'_eq (vG_two e).1 (vG_two e).2]
    · simp [e]] at h2
  rw [show (decide (vG 4 [g, h] = 0) && h.comm g) = (decide (vG 4 [g, h] = 0) && g.comm h) by
    by_cases e : vG 4 [g, h] = 0
    · rw [comm_sym (vG_two e).2 (vG_two e).1]
    · simp [e]] at h3
  generalize (decide (vG 4 [g, h] = 0) && g.comm h) = A at h1 h2 h3
  generalize vG 4 [g, h] = E at h1 h2 h3
  refine aspec_of (own := []) Try.func5 rfl ok5 ?_
  simp only [w_assign, w_box, w_load, w_callF, w_aop, w_some, w_asome, w_anone, w_nil, w_cons, awp, asP, asN, loadA, St.ev, St.step, setS, killS, AV.kill, AV.killL, Mem.kill, AV.cells, AV.flat, AV.single, AV.cellular, AV.pure, AV.pureL, ACond_false, List.getD_cons_succ, List.getD_cons_zero, List.set_cons_succ, List.set_cons_zero, List.getElem?_cons_zero, List.length_cons, List.length_nil, List.replicate_succ, List.replicate_zero, List.cons_append, List.nil_append, List.contains_nil, List.isEmpty_nil, Option.getD_some, Bool.false_eq_true, if_false, if_true, true_and, and_true, List.all_cons, List.all_nil, Bool.and_true, Bool.true_and, Bool.not_true, Nat.zero_add, Nat.add_zero, beq_self_eq_true, List.map_cons, List.map_nil, decide_true, Nat.reduceAdd, Nat.reduceSub, Nat.reduceLeDiff, Int.reduceAdd, Int.reduceSub, ti24, Try.ntmps5, gA]
  refine acall_v h1 rfl rfl ?_
  simp only [w_move, w_assign, w_load, w_extract, w_callF, w_aop, w_some, w_asome, w_anone, w_nil, w_cons, awp, asP, asT, asN, loadA, St.ev, St.step, setS, killS, AV.kill, AV.killL, Mem.kill, AV.cells, AV.flat, AV.single, ACond_false, List.getD_cons_succ, List.getD_cons_zero, List.set_cons_succ, List.set_cons_zero, List.getElem?_cons_succ, List.getElem?_cons_zero, List.length_cons, List.length_nil, List.contains_nil, List.isEmpty_nil, Option.getD_some, Bool.false_eq_true, if_false, if_true, and_true, List.all_cons, List.all_nil, Bool.and_true, Bool.not_true, Nat.zero_add, beq_self_eq_true, List.map_cons, List.map_nil, decide_true, Nat.reduceAdd, Nat.reduceLeDiff, Int.reduceAdd, ti24]
  refine acall_v h2 rfl rfl ?_
  simp only [w_move, w_assign, w_load, w_extract, w_callF, w_aop, w_some, w_asome, w_anone, w_nil, w_cons, awp, asP, asT, asN, loadA, St.ev, St.step, setS, killS, AV.kill, AV.killL, Mem.kill, AV.cells, AV.flat, AV.single, ACond_false, List.getD_cons_succ, List.getD_cons_zero, List.set_cons_succ, List.set_cons_zero, List.getElem?_cons_succ, List.getElem?_cons_zero, List.length_cons, List.length_nil, List.contains_nil, List.isEmpty_nil, Option.getD_some, Bool.false_eq_true, if_false, if_true, and_true, List.all_cons, List.all_nil, Bool.and_true, Bool.not_true, Nat.zero_add, beq_self_eq_true, List.map_cons, List.map_nil, decide_true, Nat.reduceAdd, Nat.reduceLeDiff, Int.reduceAdd, ti24]
  refine acall_v h3 rfl rfl ?_
  simp only [w_move, w_assign, w_pick, w_binOp, w_extract, w_callF, w_aop, w_aopg, w_gdb, w_some, w_asome, w_anone, w_nil, w_cons, awp, binC, cmpC, eqC, asT, asB, asI, asN, St.ev, St.step, setS, killS, AV.kill, AV.killL, Mem.kill, ACond_true, ACond_false, List.getD_cons_succ, List.getD_cons_zero, List.set_cons_succ, List.set_cons_zero, List.getElem?_cons_succ, List.getElem?_cons_zero, List.contains_nil, List.isEmpty_nil, Option.getD_some, Bool.false_eq_true, if_false, if_true, true_and, Bool.true_and, beq_self_eq_true, List.map_nil, decide_true, Nat.reduceAdd, Int.reduceAdd, Option.bind_some, ti4]
  refine acall_v s32 rfl rfl ?_
  simp only [w_assign, w_pick, w_aop, w_some, w_anone, w_nil, w_cons, awp, asB, asN, St.ev, St.step, setS, killS, AV.kill, AV.killL, Mem.kill, ACond_true, List.getD_cons_succ, List.getD_cons_zero, List.set_cons_succ, List.set_cons_zero, List.contains_nil, List.isEmpty_nil, Option.getD_some, Bool.false_eq_true, if_false, if_true]
  trace_state
  exact aend_frz rfl ⟨rfl, rfl⟩
end Go.Proofs.Ytkmbbbemmohmcaa

namespace Go.Proofs.Ytkmbbbemmohmcaa
open Aw Go.RowKit
set_option linter.unusedSimpArgs false

theorem ok12 : okFn Try.prog 12 = true := by kernel_rfl
theorem s12 (n : Int) (c : List G4) (g h : G4) : ASpec Try.prog 12 [I n, .s 4 (gtsA c), .g [I g.k, I g.a, I g.b, I g.t, I h.k, I h.a, I h.b, I h.t]] (fun r Ms => r = B true ∧ Ms = []) := by
  refine aspec_of (own := []) Try.func12 rfl ok12 ?_
  simp only [w_move, w_assign, w_box, w_callF, w_aop, w_anone, w_nil, w_cons, awp, asN, St.ev, St.step, setS, killS, AV.kill, AV.killL, Mem.kill, AV.cellular, AV.pure, AV.pureL, ACond_false, List.getD_cons_succ, List.getD_cons_zero, List.set_cons_succ, List.set_cons_zero, List.length_cons, List.length_nil, List.replicate_succ, List.replicate_zero, List.cons_append, List.nil_append, List.contains_nil, List.isEmpty_nil, Option.getD_some, Bool.false_eq_true, if_false, if_true, true_and, and_true, Bool.and_true, Bool.true_and, Nat.zero_add, Nat.add_zero, List.map_cons, List.map_nil, Nat.reduceAdd, Nat.reduceSub, Int.reduceAdd, Int.reduceSub, Try.ntmps12]
  refine acall_v (s19 c) rfl rfl ?_
  by_cases hl : 50 < c.length
  · simp only [w_callF, w_aop, w_some, w_nil, w_cons, awp, asB, St.ev, St.step, setS, killS, AV.kill, AV.killL, Mem.kill, ACond_true, ACond_false, List.getD_cons_succ, List.getD_cons_zero, List.set_cons_succ, List.set_cons_zero, List.contains_nil, List.isEmpty_nil, if_true, List.map_nil, Nat.reduceAdd, Int.reduceAdd, decide_eq_true hl]
    refine acall_v s32 rfl rfl ?_
    simp only [w_assign, w_aop, w_anone, w_nil, w_cons, awp, asN, St.ev, St.step, setS, killS, AV.kill, AV.killL, Mem.kill, List.getD_cons_succ, List.getD_cons_zero, List.set_cons_succ, List.set_cons_zero, List.contains_nil, List.isEmpty_nil, Option.getD_some, Bool.false_eq_true, if_false, if_true]
    exact aend_frz rfl ⟨rfl, rfl⟩
  simp only [w_move, w_load, w_fieldAddr, w_callF, w_aop, w_some, w_asome, w_nil, w_cons, awp, asP, asB, loadA, St.ev, St.step, setS, killS, AV.kill, AV.killL, Mem.kill, AV.cells, AV.flat, AV.single, ACond_false, List.getD_cons_succ, List.getD_cons_zero, List.set_cons_succ, List.set_cons_zero, List.getElem?_cons_succ, List.getElem?_cons_zero, List.length_cons, List.length_nil, List.contains_nil, List.isEmpty_nil, Bool.false_eq_true, if_false, if_true, true_and, and_true, List.all_cons, List.all_nil, Bool.and_true, Bool.true_and, Bool.not_true, Nat.zero_add, Nat.add_zero, beq_self_eq_true, List.map_cons, List.map_nil, decide_true, nbeq, decide_false, Bool.and_false, Nat.reduceAdd, Nat.reduceEqDiff, Nat.reduceLeDiff, Int.reduceAdd, ne_eq, not_false_eq_true, ti24, ti53, decide_eq_false hl]
  have h1 := s47 n c g h (by omega)
  have h2 := s48 n c g h (by omega)
  have h3 := s18 n c g (by omega)
  have h4 := s49 n c g (by omega)
  have hpl : (if vP2 n c g h = 0 then prL c g h else []).length ≤ 10000 := by
    split
    · have := prL_len c g h; omega
    · simp
  generalize (if vP2 n c g h = 0 then prL c g h else []) = L at h1 h2 hpl
  generalize vP2 n c g h = E at h1 h2
  generalize (if vA n c g = 0 then anS c g % 16 else 0) = A at h3 h4
  generalize vA n c g = F at h3 h4
  have h5 := s29 L L hpl hpl
  rw [decide_eq_true rfl] at h5
  refine acall_v h1 rfl rfl ?_
  simp only [w_move, w_assign, w_load, w_fieldAddr, w_extract, w_callF, w_aop, w_some, w_asome, w_anone, w_nil, w_cons, awp, asP, asT, asN, loadA, St.ev, St.step, setS, killS, AV.kill, AV.killL, Mem.kill, AV.cells, AV.flat, AV.single, ACond_false, List.getD_cons_succ, List.getD_cons_zero, List.set_cons_succ, List.set_cons_zero, List.getElem?_cons_succ, List.getElem?_cons_zero, List.length_cons, List.length_nil, List.contains_nil, List.isEmpty_nil, Option.getD_some, Bool.false_eq_true, if_false, if_true, true_and, and_true, List.all_cons, List.all_nil, Bool.and_true, Bool.true_and, Bool.not_true, Nat.zero_add, Nat.add_zero, beq_self_eq_true, List.map_cons, List.map_nil, decide_true, nbeq, decide_false, Bool.and_false, Nat.reduceAdd, Nat.reduceEqDiff, Nat.reduceLeDiff, Int.reduceAdd, ne_eq, not_false_eq_true, ti24, ti53]
  refine acall_v h2 rfl rfl ?_
  simp only [w_move, w_assign, w_load, w_fieldAddr, w_extract, w_callF, w_aop, w_some, w_asome, w_anone, w_nil, w_cons, awp, asP, asT, asN, loadA, St.ev, St.step, setS, killS, AV.kill, AV.killL, Mem.kill, AV.cells, AV.flat, AV.single, ACond_false, List.getD_cons_succ, List.getD_cons_zero, List.set_cons_succ, List.set_cons_zero, List.getElem?_cons_succ, List.getElem?_cons_zero, List.length_cons, List.length_nil, List.contains_nil, List.isEmpty_nil, Option.getD_some, Bool.false_eq_true, if_false, if_true, true_and, and_true, List.all_cons, List.all_nil, Bool.and_true, Bool.true_and, Bool.not_true, Nat.zero_add, Nat.add_zero, beq_self_eq_true, List.map_cons, List.map_nil, decide_true, nbeq, decide_false, Bool.and_false, Nat.reduceAdd, Nat.reduceEqDiff, Nat.reduceLeDiff, Int.reduceAdd, ne_eq, not_false_eq_true, ti24, ti53]
  refine acall_v h3 rfl rfl ?_
  simp only [w_move, w_assign, w_load, w_fieldAddr, w_extract, w_callF, w_aop, w_some, w_asome, w_anone, w_nil, w_cons, awp, asP, asT, asN, loadA, St.ev, St.step, setS, killS, AV.kill, AV.killL, Mem.kill, AV.cells, AV.flat, AV.single, ACond_false, List.getD_cons_succ, List.getD_cons_zero, List.set_cons_succ, List.set_cons_zero, List.getElem?_cons_succ, List.getElem?_cons_zero, List.length_cons, List.length_nil, List.contains_nil, List.isEmpty_nil, Option.getD_some, Bool.false_eq_true, if_false, if_true, true_and, and_true, List.all_cons, List.all_nil, Bool.and_true, Bool.true_and, Bool.not_true, Nat.zero_add, Nat.add_zero, beq_self_eq_true, List.map_cons, List.map_nil, decide_true, nbeq, decide_false, Bool.and_false, Nat.reduceAdd, Nat.reduceEqDiff, Nat.reduceLeDiff, Int.reduceAdd, ne_eq, not_false_eq_true, ti24, ti53]
  refine acall_v h4 rfl rfl ?_
  simp only [w_move, w_assign, w_binOp, w_extract, w_callF, w_aop, w_aopg, w_gdb, w_some, w_asome, w_anone, w_nil, w_cons, awp, binC, cmpC, asT, asI, asN, St.ev, St.step, setS, killS, AV.kill, AV.killL, Mem.kill, ACond_true, ACond_false, List.getD_cons_succ, List.getD_cons_zero, List.set_cons_succ, List.set_cons_zero, List.getElem?_cons_succ, List.getElem?_cons_zero, List.contains_nil, List.isEmpty_nil, Option.getD_some, Bool.false_eq_true, if_false, if_true, true_and, Bool.true_and, beq_self_eq_true, List.map_cons, List.map_nil, decide_true, Nat.reduceAdd, Int.reduceAdd, Option.bind_some]
  refine acall_v h5 rfl rfl ?_
  simp only [w_move, w_pick, w_binOp, w_callF, w_aop, w_aopg, w_gdb, w_some, w_asome, w_cons, binC, cmpC, asB, asI, St.ev, St.step, setS, killS, AV.kill, AV.killL, Mem.kill, ACond_true, List.getD_cons_succ, List.getD_cons_zero, List.set_cons_succ, List.set_cons_zero, List.getElem?_cons_succ, List.getElem?_cons_zero, List.isEmpty_nil, if_true, true_and, Bool.true_and, beq_self_eq_true, List.map_nil, decide_true, Option.bind_some]
  refine acall_v s32 rfl rfl ?_
  simp only [w_assign, w_pick, w_aop, w_some, w_anone, w_nil, w_cons, awp, asB, asN, St.ev, St.step, setS, killS, AV.kill, AV.killL, Mem.kill, ACond_true, List.getD_cons_succ, List.getD_cons_zero, List.set_cons_succ, List.set_cons_zero, List.contains_nil, List.isEmpty_nil, Option.getD_some, Bool.false_eq_true, if_false, if_true]
  exact aend_frz rfl ⟨rfl, rfl⟩
end Go.Proofs.Ytkmbbbemmohmcaa

namespace Go.Proofs.Ytkmbbbemmohmcaa
open Aw Go.RowKit
set_option linter.unusedSimpArgs false

theorem fsI_bdr {n : Int} {c : List G4} (h : vC n c = 0) : fsI bdr c c.length = fsI G4.bound c c.length := by
  rw [fsI_congr (cg_bdr (vC_Ok h)), fsI_congr (cg_bound (vC_Ok h))]
theorem lyR_first {c : List G4} (h : 0 < c.length) : ∃ h' : 0 < (lyR G4.bound c).length, (lyR G4.bound c)[0].length = (fsI G4.bound c c.length).length := by
  rw [lyR_step h]
  refine ⟨by simp, ?_⟩
  simp only [List.getElem_cons_zero]
  rw [srt_len, fsI_lenN]
  unfold layT
  rw [layG_len _ _ (Nat.le_refl _)]
  unfold fsR
  simp

theorem ok6 : okFn Try.prog 6 = true := by kernel_rfl
theorem s6 (n : Int) (c : List G4) : ASpec Try.prog 6 [I n, .s 4 (gtsA c)] (fun r Ms => r = B true ∧ Ms = []) := by
  refine aspec_of (own := []) Try.func6 rfl ok6 ?_
  simp only [w_move, w_assign, w_callF, w_aop, w_anone, w_nil, w_cons, awp, asN, St.ev, St.step, setS, killS, AV.kill, AV.killL, Mem.kill, ACond_false, List.getD_cons_succ, List.getD_cons_zero, List.set_cons_succ, List.set_cons_zero, List.length_cons, List.length_nil, List.replicate_succ, List.replicate_zero, List.cons_append, List.nil_append, List.contains_nil, List.isEmpty_nil, Option.getD_some, Bool.false_eq_true, if_false, if_true, Nat.zero_add, Nat.add_zero, List.map_cons, List.map_nil, Nat.reduceAdd, Nat.reduceSub, Int.reduceAdd, Int.reduceSub, Try.ntmps6]
  refine acall_v (s19 c) rfl rfl ?_
  by_cases hl : 50 < c.length
  · simp only [w_callF, w_aop, w_some, w_nil, w_cons, awp, asB, St.ev, St.step, setS, killS, AV.kill, AV.killL, Mem.kill, ACond_true, ACond_false, List.getD_cons_succ, List.getD_cons_zero, List.set_cons_succ, List.set_cons_zero, List.contains_nil, List.isEmpty_nil, if_true, List.map_nil, Nat.reduceAdd, Int.reduceAdd, decide_eq_true hl]
    refine acall_v s32 rfl rfl ?_
    simp only [w_assign, w_aop, w_anone, w_nil, w_cons, awp, asN, St.ev, St.step, setS, killS, AV.kill, AV.killL, Mem.kill, List.getD_cons_succ, List.getD_cons_zero, List.set_cons_succ, List.set_cons_zero, List.contains_nil, List.isEmpty_nil, Option.getD_some, Bool.false_eq_true, if_false, if_true]
    exact aend_frz rfl ⟨rfl, rfl⟩
  simp only [w_move, w_callF, w_aop, w_some, w_nil, w_cons, awp, asB, St.ev, St.step, setS, killS, AV.kill, AV.killL, Mem.kill, ACond_false, List.getD_cons_succ, List.getD_cons_zero, List.set_cons_succ, List.set_cons_zero, List.contains_nil, List.isEmpty_nil, if_true, List.map_cons, List.map_nil, Nat.reduceAdd, Int.reduceAdd, decide_eq_false hl]
  have h1 := s22 n c (by omega)
  have h2 := s37 n c (by omega)
  have h3 := s23 n c (by omega)
  by_cases hv : vC n c = 0
  · have hF := fsI_len G4.bound c c.length
    rw [if_pos hv, hv] at h1 h2 h3
    rw [fsI_bdr hv] at h2
    have h4 := s38 (fsI G4.bound c c.length) (fsI G4.bound c c.length) (by omega) (by omega)
    rw [decide_eq_true rfl] at h4
    refine acall_v h1 rfl rfl ?_
    simp only [w_move, w_assign, w_extract, w_callF, w_aop, w_some, w_anone, w_nil, w_cons, awp, asT, asN, St.ev, St.step, setS, killS, AV.kill, AV.killL, Mem.kill, ACond_false, List.getD_cons_succ, List.getD_cons_zero, List.set_cons_succ, List.set_cons_zero, List.getElem?_cons_succ, List.getElem?_cons_zero, List.contains_nil, List.isEmpty_nil, Option.getD_some, Bool.false_eq_true, if_false, if_true, List.map_cons, List.map_nil, Nat.reduceAdd, Int.reduceAdd]
    refine acall_v h2 rfl rfl ?_
    simp only [w_move, w_assign, w_binOp, w_extract, w_callF, w_aop, w_aopg, w_gdb, w_some, w_asome, w_anone, w_nil, w_cons, awp, binC, cmpC, asT, asI, asN, St.ev, St.step, setS, killS, AV.kill, AV.killL, Mem.kill, ACond_true, ACond_false, List.getD_cons_succ, List.getD_cons_zero, List.set_cons_succ, List.set_cons_zero, List.getElem?_cons_succ, List.getElem?_cons_zero, List.contains_nil, List.isEmpty_nil, Option.getD_some, Bool.false_eq_true, if_false, if_true, true_and, Bool.true_and, Bool.not_true, beq_self_eq_true, List.map_cons, List.map_nil, decide_true, Nat.reduceAdd, Int.reduceAdd, Option.bind_some]
    refine acall_v h4 rfl rfl ?_
    simp only [w_move, w_pick, w_not, w_callF, w_aop, w_aopg, w_gdb, w_some, w_nil, w_cons, awp, asB, St.ev, St.step, setS, killS, AV.kill, AV.killL, Mem.kill, ACond_true, ACond_false, List.getD_cons_succ, List.getD_cons_zero, List.set_cons_succ, List.set_cons_zero, List.getElem?_cons_succ, List.getElem?_cons_zero, List.contains_nil, List.isEmpty_nil, if_true, Bool.not_true, beq_self_eq_true, List.map_cons, List.map_nil, Nat.reduceAdd, Int.reduceAdd, Option.bind_some]
    refine acall_v h3 rfl rfl ?_
    simp only [w_move, w_assign, w_binOp, w_extract, w_len, w_aop, w_aopg, w_gdb, w_some, w_asome, w_anone, w_nil, w_cons, awp, binC, cmpC, asT, asB, asI, asN, lenA, St.ev, St.step, setS, killS, AV.kill, AV.killL, Mem.kill, ACond_true, ACond_false, List.getD_cons_succ, List.getD_cons_zero, List.set_cons_succ, List.set_cons_zero, List.getElem?_cons_succ, List.getElem?_cons_zero, List.contains_nil, List.isEmpty_nil, Option.getD_some, Bool.false_eq_true, if_false, if_true, true_and, Bool.true_and, Bool.not_true, Option.isSome_some, beq_self_eq_true, decide_true, Nat.reduceAdd, Int.reduceAdd, Option.bind_some, w_bt, gtsA_len, ti22, gtsA_len]
    by_cases h0 : c.length = 0
    · have hc : c = [] := List.eq_nil_of_length_eq_zero h0
      subst hc
      have e0 : (((0 : Nat) : Int) = 0) := rfl
      have e1 : (((([] : List (List G4)).length : Nat) : Int) = 0) := rfl
      simp only [w_move, w_pick, w_binOp, w_callF, w_len, w_aop, w_aopg, w_gdb, w_gdu, w_some, w_asome, w_cons, binC, cmpC, asB, asI, lenA, St.ev, St.step, setS, killS, AV.kill, AV.killL, Mem.kill, ACond_true, ACond_false, List.getD_cons_succ, List.getD_cons_zero, List.set_cons_succ, List.set_cons_zero, List.getElem?_cons_succ, List.getElem?_cons_zero, List.length_nil, List.isEmpty_nil, if_true, true_and, Bool.true_and, Bool.not_true, Option.isSome_some, beq_self_eq_true, List.map_nil, Option.bind_some, w_bf, ti34, lyR_nil, rowsA_len, decide_eq_true e0, decide_eq_true e1]
      refine acall_v s32 rfl rfl ?_
      simp only [w_assign, w_pick, w_aop, w_some, w_anone, w_nil, w_cons, awp, asB, asN, St.ev, St.step, setS, killS, AV.kill, AV.killL, Mem.kill, ACond_true, List.getD_cons_succ, List.getD_cons_zero, List.set_cons_succ, List.set_cons_zero, List.contains_nil, List.isEmpty_nil, Option.getD_some, Bool.false_eq_true, if_false, if_true]
      exact aend_frz rfl ⟨rfl, rfl⟩
    · have h0' : ¬ (c.length : Int) = 0 := by omega
      obtain ⟨g1, g2⟩ := lyR_first (c := c) (by omega)
      have g1' : (0 : Int) < ((lyR G4.bound c).length : Int) := by omega
      simp only [w_move, w_pick, w_load, w_indexAddr, w_binOp, w_callF, w_len, w_aop, w_aopg, w_gdb, w_some, w_asome, w_cons, binC, idxC, cmpC, asP, asS, asB, asI, lenA, loadA, St.ev, St.step, setS, killS, AV.kill, AV.killL, Mem.kill, AV.cells, AV.flat, AV.single, ACond_true, ACond_false, List.getD_cons_succ, List.getD_cons_zero, List.set_cons_succ, List.set_cons_zero, List.getElem?_cons_succ, List.getElem?_cons_zero, List.isEmpty_nil, Bool.false_eq_true, if_false, if_true, true_and, and_true, List.all_cons, List.all_nil, Bool.and_true, Bool.true_and, Bool.not_true, Option.isSome_some, beq_self_eq_true, List.map_nil, decide_true, Int.reduceLE, Int.toNat_zero, Option.bind_some, w_bt, gtsA_len, intsA_len, ti22, ti31, ti34, decide_eq_false h0', decide_eq_true g1', gtsA_len, rowsA_len, aget_rowsA g1, intsA_len, g2]
      refine acall_v s32 rfl rfl ?_
      simp only [w_assign, w_pick, w_aop, w_some, w_anone, w_nil, w_cons, awp, asB, asN, St.ev, St.step, setS, killS, AV.kill, AV.killL, Mem.kill, ACond_true, List.getD_cons_succ, List.getD_cons_zero, List.set_cons_succ, List.set_cons_zero, List.contains_nil, List.isEmpty_nil, Option.getD_some, Bool.false_eq_true, if_false, if_true]
      exact aend_frz rfl ⟨rfl, rfl⟩
  · rw [if_neg hv] at h1 h2
    rw [if_neg hv] at h3
    generalize vC n c = E at h1 h2 h3 hv
    have h4 := s38 [] [] (by decide) (by decide)
    rw [decide_eq_true rfl] at h4
    refine acall_v h1 rfl rfl ?_
    simp only [w_move, w_assign, w_extract, w_callF, w_aop, w_some, w_anone, w_nil, w_cons, awp, asT, asN, St.ev, St.step, setS, killS, AV.kill, AV.killL, Mem.kill, ACond_false, List.getD_cons_succ, List.getD_cons_zero, List.set_cons_succ, List.set_cons_zero, List.getElem?_cons_succ, List.getElem?_cons_zero, List.contains_nil, List.isEmpty_nil, Option.getD_some, Bool.false_eq_true, if_false, if_true, List.map_cons, List.map_nil, Nat.reduceAdd, Int.reduceAdd]
    refine acall_v h2 rfl rfl ?_
    simp only [w_move, w_assign, w_binOp, w_extract, w_callF, w_aop, w_aopg, w_gdb, w_some, w_asome, w_anone, w_nil, w_cons, awp, binC, cmpC, asT, asI, asN, St.ev, St.step, setS, killS, AV.kill, AV.killL, Mem.kill, ACond_true, ACond_false, List.getD_cons_succ, List.getD_cons_zero, List.set_cons_succ, List.set_cons_zero, List.getElem?_cons_succ, List.getElem?_cons_zero, List.contains_nil, List.isEmpty_nil, Option.getD_some, Bool.false_eq_true, if_false, if_true, true_and, Bool.true_and, Bool.not_true, beq_self_eq_true, List.map_cons, List.map_nil, decide_true, Nat.reduceAdd, Int.reduceAdd, Option.bind_some]
    refine acall_v h4 rfl rfl ?_
    simp only [w_move, w_pick, w_not, w_callF, w_aop, w_aopg, w_gdb, w_some, w_nil, w_cons, awp, asB, St.ev, St.step, setS, killS, AV.kill, AV.killL, Mem.kill, ACond_true, ACond_false, List.getD_cons_succ, List.getD_cons_zero, List.set_cons_succ, List.set_cons_zero, List.getElem?_cons_succ, List.getElem?_cons_zero, List.contains_nil, List.isEmpty_nil, if_true, Bool.not_true, beq_self_eq_true, List.map_cons, List.map_nil, Nat.reduceAdd, Int.reduceAdd, Option.bind_some, decide_eq_false hv]
    refine acall_v h3 rfl rfl ?_
    simp only [w_move, w_assign, w_binOp, w_extract, w_callF, w_aop, w_some, w_asome, w_anone, w_nil, w_cons, awp, binC, cmpC, asT, asB, asI, asN, St.ev, St.step, setS, killS, AV.kill, AV.killL, Mem.kill, ACond_true, ACond_false, List.getD_cons_succ, List.getD_cons_zero, List.set_cons_succ, List.set_cons_zero, List.getElem?_cons_succ, List.getElem?_cons_zero, List.contains_nil, List.isEmpty_nil, Option.getD_some, Bool.false_eq_true, if_false, if_true, true_and, Bool.true_and, Bool.not_false, List.map_nil, Nat.reduceAdd, Int.reduceAdd, decide_eq_false hv]
    refine acall_v s32 rfl rfl ?_
    simp only [w_assign, w_aop, w_anone, w_nil, w_cons, awp, asN, St.ev, St.step, setS, killS, AV.kill, AV.killL, Mem.kill, List.getD_cons_succ, List.getD_cons_zero, List.set_cons_succ, List.set_cons_zero, List.contains_nil, List.isEmpty_nil, Option.getD_some, Bool.false_eq_true, if_false, if_true]
    exact aend_frz rfl ⟨rfl, rfl⟩
end Go.Proofs.Ytkmbbbemmohmcaa

namespace Go.Proofs.Ytkmbbbemmohmcaa
open Aw Go.RowKit
set_option linter.unusedSimpArgs false

theorem ok4 : okFn Try.prog 4 = true := by kernel_rfl
theorem s4 (n : Int) (c : List G4) : ASpec Try.prog 4 [I n, .s 4 (gtsA c)] (fun r Ms => r = B true ∧ Ms = []) := by
  refine aspec_of (own := []) Try.func4 rfl ok4 ?_
  simp only [w_move, w_assign, w_callF, w_aop, w_anone, w_nil, w_cons, awp, asN, St.ev, St.step, setS, killS, AV.kill, AV.killL, Mem.kill, ACond_false, List.getD_cons_succ, List.getD_cons_zero, List.set_cons_succ, List.set_cons_zero, List.length_cons, List.length_nil, List.replicate_succ, List.replicate_zero, List.cons_append, List.nil_append, List.contains_nil, List.isEmpty_nil, Option.getD_some, Bool.false_eq_true, if_false, if_true, Nat.zero_add, Nat.add_zero, List.map_cons, List.map_nil, Nat.reduceAdd, Nat.reduceSub, Int.reduceAdd, Int.reduceSub, Try.ntmps4]
  refine acall_v (s19 c) rfl rfl ?_
  by_cases hl : 50 < c.length
  · simp only [w_callF, w_aop, w_some, w_nil, w_cons, awp, asB, St.ev, St.step, setS, killS, AV.kill, AV.killL, Mem.kill, ACond_true, ACond_false, List.getD_cons_succ, List.getD_cons_zero, List.set_cons_succ, List.set_cons_zero, List.contains_nil, List.isEmpty_nil, if_true, List.map_nil, Nat.reduceAdd, Int.reduceAdd, decide_eq_true hl]
    refine acall_v s32 rfl rfl ?_
    simp only [w_assign, w_aop, w_anone, w_nil, w_cons, awp, asN, St.ev, St.step, setS, killS, AV.kill, AV.killL, Mem.kill, List.getD_cons_succ, List.getD_cons_zero, List.set_cons_succ, List.set_cons_zero, List.contains_nil, List.isEmpty_nil, Option.getD_some, Bool.false_eq_true, if_false, if_true]
    exact aend_frz rfl ⟨rfl, rfl⟩
  simp only [w_move, w_callF, w_aop, w_some, w_nil, w_cons, awp, asB, St.ev, St.step, setS, killS, AV.kill, AV.killL, Mem.kill, ACond_false, List.getD_cons_succ, List.getD_cons_zero, List.set_cons_succ, List.set_cons_zero, List.contains_nil, List.isEmpty_nil, if_true, List.map_cons, List.map_nil, Nat.reduceAdd, Int.reduceAdd, decide_eq_false hl]
  have h1 := s33 n c (by omega)
  have h2 := s34 n c (by omega)
  have h3 := s27 n c (by omega)
  by_cases hv : vC n c = 0
  · have hok := vC_Ok hv
    rw [pm_mt hok] at h1
    have h4 := s33 n (red c) (by have := red_ten hv; omega)
    rw [pm_mt (red_ok hok), red_short hok, vC_red hv] at h4
    rw [if_pos hv] at h3
    rw [hv] at h1 h2 h3
    have h4 : ASpec Try.prog 33 [I n, .s 4 (gtsA (red c))] (fun r Ms => r = .t [B true, I 0] ∧ Ms = []) := h4
    have hlen : decide (((red c).length : Int) = (c.length : Int)) = (mt c).isNone := by
      apply Bool.eq_iff_iff.2
      rw [decide_eq_true_eq, Option.isNone_iff_eq_none, ← red_len_iff hok]
      omega
    rw [decide_eq_true rfl, Bool.true_and] at h1 h2
    refine acall_v h1 rfl rfl ?_
    simp only [w_move, w_assign, w_extract, w_callF, w_aop, w_some, w_anone, w_nil, w_cons, awp, asT, asN, St.ev, St.step, setS, killS, AV.kill, AV.killL, Mem.kill, ACond_false, List.getD_cons_succ, List.getD_cons_zero, List.set_cons_succ, List.set_cons_zero, List.getElem?_cons_succ, List.getElem?_cons_zero, List.contains_nil, List.isEmpty_nil, Option.getD_some, Bool.false_eq_true, if_false, if_true, List.map_cons, List.map_nil, Nat.reduceAdd, Int.reduceAdd]
    refine acall_v h2 rfl rfl ?_
    simp only [w_move, w_assign, w_pick, w_binOp, w_extract, w_callF, w_aop, w_aopg, w_gdb, w_some, w_asome, w_anone, w_nil, w_cons, awp, binC, cmpC, eqC, asT, asB, asI, asN, St.ev, St.step, setS, killS, AV.kill, AV.killL, Mem.kill, ACond_true, ACond_false, List.getD_cons_succ, List.getD_cons_zero, List.set_cons_succ, List.set_cons_zero, List.getElem?_cons_succ, List.getElem?_cons_zero, List.contains_nil, List.isEmpty_nil, Option.getD_some, Bool.false_eq_true, if_false, if_true, true_and, Bool.true_and, Bool.not_true, beq_self_eq_true, List.map_cons, List.map_nil, decide_true, Nat.reduceAdd, Int.reduceAdd, Option.bind_some, ti4]
    refine acall_v h3 rfl rfl ?_
    simp only [w_move, w_assign, w_binOp, w_extract, w_callF, w_aop, w_some, w_asome, w_anone, w_nil, w_cons, awp, binC, cmpC, asT, asB, asI, asN, St.ev, St.step, setS, killS, AV.kill, AV.killL, Mem.kill, ACond_false, List.getD_cons_succ, List.getD_cons_zero, List.set_cons_succ, List.set_cons_zero, List.getElem?_cons_succ, List.getElem?_cons_zero, List.contains_nil, List.isEmpty_nil, Option.getD_some, Bool.false_eq_true, if_false, if_true, true_and, Bool.true_and, Bool.not_true, List.map_cons, List.map_nil, decide_true, Nat.reduceAdd, Int.reduceAdd]
    refine acall_v h4 rfl rfl ?_
    simp only [w_move, w_assign, w_pick, w_binOp, w_extract, w_callF, w_len, w_aop, w_aopg, w_gdb, w_some, w_asome, w_anone, w_nil, w_cons, awp, binC, cmpC, eqC, asT, asB, asI, asN, lenA, St.ev, St.step, setS, killS, AV.kill, AV.killL, Mem.kill, ACond_true, ACond_false, List.getD_cons_succ, List.getD_cons_zero, List.set_cons_succ, List.set_cons_zero, List.getElem?_cons_succ, List.getElem?_cons_zero, List.contains_nil, List.isEmpty_nil, Option.getD_some, Bool.false_eq_true, if_false, if_true, true_and, Bool.true_and, Option.isSome_some, beq_self_eq_true, List.map_nil, decide_true, Nat.reduceAdd, Int.reduceAdd, Option.bind_some, gtsA_len, ti4, ti22, gtsA_len, hlen]
    refine acall_v s32 rfl rfl ?_
    simp only [w_assign, w_pick, w_aop, w_some, w_anone, w_nil, w_cons, awp, asB, asN, St.ev, St.step, setS, killS, AV.kill, AV.killL, Mem.kill, ACond_true, List.getD_cons_succ, List.getD_cons_zero, List.set_cons_succ, List.set_cons_zero, List.contains_nil, List.isEmpty_nil, Option.getD_some, Bool.false_eq_true, if_false, if_true]
    exact aend_frz rfl ⟨rfl, rfl⟩
  · rw [if_neg hv] at h3
    rw [decide_eq_false hv, Bool.false_and] at h1 h2
    generalize vC n c = E at h1 h2 h3 hv
    refine acall_v h1 rfl rfl ?_
    simp only [w_move, w_assign, w_extract, w_callF, w_aop, w_some, w_anone, w_nil, w_cons, awp, asT, asN, St.ev, St.step, setS, killS, AV.kill, AV.killL, Mem.kill, ACond_false, List.getD_cons_succ, List.getD_cons_zero, List.set_cons_succ, List.set_cons_zero, List.getElem?_cons_succ, List.getElem?_cons_zero, List.contains_nil, List.isEmpty_nil, Option.getD_some, Bool.false_eq_true, if_false, if_true, List.map_cons, List.map_nil, Nat.reduceAdd, Int.reduceAdd]
    refine acall_v h2 rfl rfl ?_
    simp only [w_move, w_assign, w_pick, w_binOp, w_extract, w_callF, w_aop, w_aopg, w_gdb, w_some, w_asome, w_anone, w_nil, w_cons, awp, binC, cmpC, eqC, asT, asB, asI, asN, St.ev, St.step, setS, killS, AV.kill, AV.killL, Mem.kill, ACond_true, ACond_false, List.getD_cons_succ, List.getD_cons_zero, List.set_cons_succ, List.set_cons_zero, List.getElem?_cons_succ, List.getElem?_cons_zero, List.contains_nil, List.isEmpty_nil, Option.getD_some, Bool.false_eq_true, if_false, if_true, true_and, Bool.true_and, Bool.not_true, beq_self_eq_true, List.map_cons, List.map_nil, decide_true, Nat.reduceAdd, Int.reduceAdd, Option.bind_some, ti4]
    refine acall_v h3 rfl rfl ?_
    simp only [w_move, w_assign, w_binOp, w_extract, w_callF, w_aop, w_some, w_asome, w_anone, w_nil, w_cons, awp, binC, cmpC, asT, asB, asI, asN, St.ev, St.step, setS, killS, AV.kill, AV.killL, Mem.kill, ACond_true, ACond_false, List.getD_cons_succ, List.getD_cons_zero, List.set_cons_succ, List.set_cons_zero, List.getElem?_cons_succ, List.getElem?_cons_zero, List.contains_nil, List.isEmpty_nil, Option.getD_some, Bool.false_eq_true, if_false, if_true, true_and, Bool.true_and, Bool.not_false, List.map_nil, Nat.reduceAdd, Int.reduceAdd, decide_eq_false hv]
    refine acall_v s32 rfl rfl ?_
    simp only [w_assign, w_aop, w_anone, w_nil, w_cons, awp, asN, St.ev, St.step, setS, killS, AV.kill, AV.killL, Mem.kill, List.getD_cons_succ, List.getD_cons_zero, List.set_cons_succ, List.set_cons_zero, List.contains_nil, List.isEmpty_nil, Option.getD_some, Bool.false_eq_true, if_false, if_true]
    exact aend_frz rfl ⟨rfl, rfl⟩

theorem ok7 : okFn Try.prog 7 = true := by kernel_rfl
theorem s7 (n : Int) (c : List G4) : ASpec Try.prog 7 [I n, .s 4 (gtsA c)] (fun r Ms => r = B true ∧ Ms = []) := by
  refine aspec_of (own := []) Try.func7 rfl ok7 ?_
  simp only [w_move, w_assign, w_callF, w_aop, w_anone, w_nil, w_cons, awp, asN, St.ev, St.step, setS, killS, AV.kill, AV.killL, Mem.kill, ACond_false, List.getD_cons_succ, List.getD_cons_zero, List.set_cons_succ, List.set_cons_zero, List.length_cons, List.length_nil, List.replicate_succ, List.replicate_zero, List.cons_append, List.nil_append, List.contains_nil, List.isEmpty_nil, Option.getD_some, Bool.false_eq_true, if_false, if_true, Nat.zero_add, Nat.add_zero, List.map_cons, List.map_nil, Nat.reduceAdd, Nat.reduceSub, Int.reduceAdd, Int.reduceSub, Try.ntmps7]
  refine acall_v (s19 c) rfl rfl ?_
  by_cases hl : 50 < c.length
  · simp only [w_callF, w_aop, w_some, w_nil, w_cons, awp, asB, St.ev, St.step, setS, killS, AV.kill, AV.killL, Mem.kill, ACond_true, ACond_false, List.getD_cons_succ, List.getD_cons_zero, List.set_cons_succ, List.set_cons_zero, List.contains_nil, List.isEmpty_nil, if_true, List.map_nil, Nat.reduceAdd, Int.reduceAdd, decide_eq_true hl]
    refine acall_v s32 rfl rfl ?_
    simp only [w_assign, w_aop, w_anone, w_nil, w_cons, awp, asN, St.ev, St.step, setS, killS, AV.kill, AV.killL, Mem.kill, List.getD_cons_succ, List.getD_cons_zero, List.set_cons_succ, List.set_cons_zero, List.contains_nil, List.isEmpty_nil, Option.getD_some, Bool.false_eq_true, if_false, if_true]
    exact aend_frz rfl ⟨rfl, rfl⟩
  simp only [w_move, w_callF, w_aop, w_some, w_nil, w_cons, awp, asB, St.ev, St.step, setS, killS, AV.kill, AV.killL, Mem.kill, ACond_false, List.getD_cons_succ, List.getD_cons_zero, List.set_cons_succ, List.set_cons_zero, List.contains_nil, List.isEmpty_nil, if_true, List.map_cons, List.map_nil, Nat.reduceAdd, Int.reduceAdd, decide_eq_false hl]
  have h1 := s27 n c (by omega)
  have h2 := s39 n c (by omega)
  by_cases hv : vC n c = 0
  · have hok := vC_Ok hv
    have h10 := red_ten hv
    rw [if_pos hv, hv] at h1 h2
    have h3 := s29 (red c) (red c) (by omega) (by omega)
    rw [decide_eq_true rfl] at h3
    have h4 := s27 n (red c) (by omega)
    rw [if_pos (vC_red hv), vC_red hv, red_red hok] at h4
    have h5 := s30 n (red c) c (by omega) (by omega)
    rw [red_red hok, show vC2 n (red c) c = 0 by rw [vC2, if_pos (vC_red hv), hv], decide_eq_true rfl, decide_eq_true rfl] at h5
    have h5 : ASpec Try.prog 30 [I n, .s 4 (gtsA (red c)), .s 4 (gtsA c)] (fun r Ms => r = .t [B true, I 0] ∧ Ms = []) := h5
    refine acall_v h1 rfl rfl ?_
    simp only [w_move, w_assign, w_extract, w_callF, w_aop, w_some, w_anone, w_nil, w_cons, awp, asT, asN, St.ev, St.step, setS, killS, AV.kill, AV.killL, Mem.kill, ACond_false, List.getD_cons_succ, List.getD_cons_zero, List.set_cons_succ, List.set_cons_zero, List.getElem?_cons_succ, List.getElem?_cons_zero, List.contains_nil, List.isEmpty_nil, Option.getD_some, Bool.false_eq_true, if_false, if_true, List.map_cons, List.map_nil, Nat.reduceAdd, Int.reduceAdd]
    refine acall_v h2 rfl rfl ?_
    simp only [w_move, w_assign, w_binOp, w_extract, w_callF, w_aop, w_aopg, w_gdb, w_some, w_asome, w_anone, w_nil, w_cons, awp, binC, cmpC, asT, asI, asN, St.ev, St.step, setS, killS, AV.kill, AV.killL, Mem.kill, ACond_true, ACond_false, List.getD_cons_succ, List.getD_cons_zero, List.set_cons_succ, List.set_cons_zero, List.getElem?_cons_succ, List.getElem?_cons_zero, List.contains_nil, List.isEmpty_nil, Option.getD_some, Bool.false_eq_true, if_false, if_true, true_and, Bool.true_and, Bool.not_true, beq_self_eq_true, List.map_cons, List.map_nil, decide_true, Nat.reduceAdd, Int.reduceAdd, Option.bind_some]
    refine acall_v h3 rfl rfl ?_
    simp only [w_move, w_pick, w_binOp, w_not, w_callF, w_aop, w_aopg, w_gdb, w_some, w_asome, w_nil, w_cons, awp, binC, cmpC, asB, asI, St.ev, St.step, setS, killS, AV.kill, AV.killL, Mem.kill, ACond_true, ACond_false, List.getD_cons_succ, List.getD_cons_zero, List.set_cons_succ, List.set_cons_zero, List.getElem?_cons_succ, List.getElem?_cons_zero, List.contains_nil, List.isEmpty_nil, if_true, true_and, Bool.true_and, Bool.not_true, beq_self_eq_true, List.map_cons, List.map_nil, decide_true, Nat.reduceAdd, Int.reduceAdd, Option.bind_some]
    refine acall_v h4 rfl rfl ?_
    simp only [w_move, w_assign, w_extract, w_callF, w_aop, w_some, w_anone, w_nil, w_cons, awp, asT, asN, St.ev, St.step, setS, killS, AV.kill, AV.killL, Mem.kill, ACond_false, List.getD_cons_succ, List.getD_cons_zero, List.set_cons_succ, List.set_cons_zero, List.getElem?_cons_succ, List.getElem?_cons_zero, List.contains_nil, List.isEmpty_nil, Option.getD_some, Bool.false_eq_true, if_false, if_true, List.map_cons, List.map_nil, Nat.reduceAdd, Int.reduceAdd]
    refine acall_v h5 rfl rfl ?_
    simp only [w_move, w_assign, w_binOp, w_extract, w_callF, w_aop, w_aopg, w_gdb, w_some, w_asome, w_anone, w_nil, w_cons, awp, binC, cmpC, asT, asI, asN, St.ev, St.step, setS, killS, AV.kill, AV.killL, Mem.kill, ACond_true, ACond_false, List.getD_cons_succ, List.getD_cons_zero, List.set_cons_succ, List.set_cons_zero, List.getElem?_cons_succ, List.getElem?_cons_zero, List.contains_nil, List.isEmpty_nil, Option.getD_some, Bool.false_eq_true, if_false, if_true, true_and, Bool.true_and, beq_self_eq_true, List.map_cons, List.map_nil, decide_true, Nat.reduceAdd, Int.reduceAdd, Option.bind_some]
    refine acall_v h3 rfl rfl ?_
    simp only [w_move, w_pick, w_binOp, w_callF, w_aop, w_aopg, w_gdb, w_some, w_asome, w_cons, binC, cmpC, asB, asI, St.ev, St.step, setS, killS, AV.kill, AV.killL, Mem.kill, ACond_true, List.getD_cons_succ, List.getD_cons_zero, List.set_cons_succ, List.set_cons_zero, List.getElem?_cons_succ, List.getElem?_cons_zero, List.isEmpty_nil, if_true, true_and, Bool.true_and, beq_self_eq_true, List.map_nil, decide_true, Option.bind_some]
    refine acall_v s32 rfl rfl ?_
    simp only [w_assign, w_pick, w_aop, w_some, w_anone, w_nil, w_cons, awp, asB, asN, St.ev, St.step, setS, killS, AV.kill, AV.killL, Mem.kill, ACond_true, List.getD_cons_succ, List.getD_cons_zero, List.set_cons_succ, List.set_cons_zero, List.contains_nil, List.isEmpty_nil, Option.getD_some, Bool.false_eq_true, if_false, if_true]
    exact aend_frz rfl ⟨rfl, rfl⟩
  · rw [if_neg hv] at h1 h2
    have h3 := s29 [] [] (by decide) (by decide)
    rw [decide_eq_true rfl] at h3
    generalize vC n c = E at h1 h2 hv
    refine acall_v h1 rfl rfl ?_
    simp only [w_move, w_assign, w_extract, w_callF, w_aop, w_some, w_anone, w_nil, w_cons, awp, asT, asN, St.ev, St.step, setS, killS, AV.kill, AV.killL, Mem.kill, ACond_false, List.getD_cons_succ, List.getD_cons_zero, List.set_cons_succ, List.set_cons_zero, List.getElem?_cons_succ, List.getElem?_cons_zero, List.contains_nil, List.isEmpty_nil, Option.getD_some, Bool.false_eq_true, if_false, if_true, List.map_cons, List.map_nil, Nat.reduceAdd, Int.reduceAdd]
    refine acall_v h2 rfl rfl ?_
    simp only [w_move, w_assign, w_binOp, w_extract, w_callF, w_aop, w_aopg, w_gdb, w_some, w_asome, w_anone, w_nil, w_cons, awp, binC, cmpC, asT, asI, asN, St.ev, St.step, setS, killS, AV.kill, AV.killL, Mem.kill, ACond_true, ACond_false, List.getD_cons_succ, List.getD_cons_zero, List.set_cons_succ, List.set_cons_zero, List.getElem?_cons_succ, List.getElem?_cons_zero, List.contains_nil, List.isEmpty_nil, Option.getD_some, Bool.false_eq_true, if_false, if_true, true_and, Bool.true_and, Bool.not_true, beq_self_eq_true, List.map_cons, List.map_nil, decide_true, Nat.reduceAdd, Int.reduceAdd, Option.bind_some]
    refine acall_v h3 rfl rfl ?_
    simp only [w_move, w_pick, w_binOp, w_not, w_callF, w_aop, w_aopg, w_gdb, w_some, w_asome, w_nil, w_cons, awp, binC, cmpC, asB, asI, St.ev, St.step, setS, killS, AV.kill, AV.killL, Mem.kill, ACond_true, ACond_false, List.getD_cons_succ, List.getD_cons_zero, List.set_cons_succ, List.set_cons_zero, List.getElem?_cons_succ, List.getElem?_cons_zero, List.contains_nil, List.isEmpty_nil, if_true, true_and, Bool.true_and, Bool.not_true, Bool.not_false, beq_self_eq_true, List.map_nil, Nat.reduceAdd, Int.reduceAdd, Option.bind_some, decide_eq_false hv]
    refine acall_v s32 rfl rfl ?_
    simp only [w_assign, w_aop, w_anone, w_nil, w_cons, awp, asN, St.ev, St.step, setS, killS, AV.kill, AV.killL, Mem.kill, List.getD_cons_succ, List.getD_cons_zero, List.set_cons_succ, List.set_cons_zero, List.contains_nil, List.isEmpty_nil, Option.getD_some, Bool.false_eq_true, if_false, if_true]
    exact aend_frz rfl ⟨rfl, rfl⟩

theorem ok8 : okFn Try.prog 8 = true := by kernel_rfl
theorem s8 (n : Int) (c d : List G4) : ASpec Try.prog 8 [I n, .s 4 (gtsA c), .s 4 (gtsA d)] (fun r Ms => r = B true ∧ Ms = []) := by
  refine aspec_of (own := []) Try.func8 rfl ok8 ?_
  simp only [w_move, w_assign, w_callF, w_aop, w_anone, w_nil, w_cons, awp, asN, St.ev, St.step, setS, killS, AV.kill, AV.killL, Mem.kill, ACond_false, List.getD_cons_succ, List.getD_cons_zero, List.set_cons_succ, List.set_cons_zero, List.length_cons, List.length_nil, List.replicate_succ, List.replicate_zero, List.cons_append, List.nil_append, List.contains_nil, List.isEmpty_nil, Option.getD_some, Bool.false_eq_true, if_false, if_true, Nat.zero_add, Nat.add_zero, List.map_cons, List.map_nil, Nat.reduceAdd, Nat.reduceSub, Int.reduceAdd, Int.reduceSub, Try.ntmps8]
  refine acall_v (s19 c) rfl rfl ?_
  by_cases hl : 50 < c.length
  · simp only [w_move, w_pick, w_callF, w_aop, w_aopg, w_gdb, w_some, w_nil, w_cons, awp, asB, St.ev, St.step, setS, killS, AV.kill, AV.killL, Mem.kill, ACond_true, ACond_false, List.getD_cons_succ, List.getD_cons_zero, List.set_cons_succ, List.set_cons_zero, List.getElem?_cons_succ, List.getElem?_cons_zero, List.contains_nil, List.isEmpty_nil, if_true, Bool.not_true, List.map_nil, Nat.reduceAdd, Int.reduceAdd, Option.bind_some, w_bf, decide_eq_true hl]
    refine acall_v s32 rfl rfl ?_
    simp only [w_assign, w_aop, w_anone, w_nil, w_cons, awp, asN, St.ev, St.step, setS, killS, AV.kill, AV.killL, Mem.kill, List.getD_cons_succ, List.getD_cons_zero, List.set_cons_succ, List.set_cons_zero, List.contains_nil, List.isEmpty_nil, Option.getD_some, Bool.false_eq_true, if_false, if_true]
    exact aend_frz rfl ⟨rfl, rfl⟩
  simp only [w_move, w_callF, w_aop, w_aopg, w_gdb, w_some, w_cons, St.ev, St.step, setS, killS, AV.kill, AV.killL, Mem.kill, ACond_true, List.getD_cons_succ, List.getD_cons_zero, List.set_cons_succ, List.set_cons_zero, List.getElem?_cons_succ, List.getElem?_cons_zero, List.isEmpty_nil, if_true, beq_self_eq_true, List.map_cons, List.map_nil, Option.bind_some, decide_eq_false hl]
  refine acall_v (s19 d) rfl rfl ?_
  by_cases hl' : 50 < d.length
  · simp only [w_pick, w_callF, w_aop, w_some, w_nil, w_cons, awp, asB, St.ev, St.step, setS, killS, AV.kill, AV.killL, Mem.kill, ACond_true, ACond_false, List.getD_cons_succ, List.getD_cons_zero, List.set_cons_succ, List.set_cons_zero, List.contains_nil, List.isEmpty_nil, if_true, List.map_nil, Nat.reduceAdd, Int.reduceAdd, decide_eq_true hl']
    refine acall_v s32 rfl rfl ?_
    simp only [w_assign, w_aop, w_anone, w_nil, w_cons, awp, asN, St.ev, St.step, setS, killS, AV.kill, AV.killL, Mem.kill, List.getD_cons_succ, List.getD_cons_zero, List.set_cons_succ, List.set_cons_zero, List.contains_nil, List.isEmpty_nil, Option.getD_some, Bool.false_eq_true, if_false, if_true]
    exact aend_frz rfl ⟨rfl, rfl⟩
  simp only [w_move, w_pick, w_callF, w_aop, w_some, w_nil, w_cons, awp, asB, St.ev, St.step, setS, killS, AV.kill, AV.killL, Mem.kill, ACond_false, List.getD_cons_succ, List.getD_cons_zero, List.set_cons_succ, List.set_cons_zero, List.contains_nil, List.isEmpty_nil, if_true, List.map_cons, List.map_nil, Nat.reduceAdd, Int.reduceAdd, decide_eq_false hl']
  have h1 := s26 n c d (by omega) (by omega)
  have h2 := s40 n c d (by omega) (by omega)
  have h3 := s21 n c (by omega)
  have h4 := s41 n c (by omega)
  by_cases hv : vC2 n c d = 0
  · obtain ⟨vc, vd⟩ := vC2_zero hv
    rw [alkB_name (vC_Ok vc) (vC_Ok vd)] at h2
    rw [decide_eq_true hv, Bool.true_and, hv] at h1 h2
    have l1 := vC_len vc
    have l2 := vC_len vd
    have h5 := s25 n c (by omega)
    have h6 := s25 n d (by omega)
    rw [if_pos vc, vc] at h5
    rw [if_pos vd, vd] at h6
    have h7 := s29 (nmS c) (nmS d) (by rw [nmS_len]; omega) (by rw [nmS_len]; omega)
    generalize decide (nmS c = nmS d) = A at h1 h2 h7
    generalize vC n c = E at h3 h4
    refine acall_v h1 rfl rfl ?_
    simp only [w_move, w_assign, w_extract, w_callF, w_aop, w_some, w_anone, w_nil, w_cons, awp, asT, asN, St.ev, St.step, setS, killS, AV.kill, AV.killL, Mem.kill, ACond_false, List.getD_cons_succ, List.getD_cons_zero, List.set_cons_succ, List.set_cons_zero, List.getElem?_cons_succ, List.getElem?_cons_zero, List.contains_nil, List.isEmpty_nil, Option.getD_some, Bool.false_eq_true, if_false, if_true, List.map_cons, List.map_nil, Nat.reduceAdd, Int.reduceAdd]
    refine acall_v h2 rfl rfl ?_
    simp only [w_move, w_assign, w_extract, w_callF, w_aop, w_some, w_anone, w_nil, w_cons, awp, asT, asN, St.ev, St.step, setS, killS, AV.kill, AV.killL, Mem.kill, ACond_false, List.getD_cons_succ, List.getD_cons_zero, List.set_cons_succ, List.set_cons_zero, List.getElem?_cons_succ, List.getElem?_cons_zero, List.contains_nil, List.isEmpty_nil, Option.getD_some, Bool.false_eq_true, if_false, if_true, List.map_cons, List.map_nil, Nat.reduceAdd, Int.reduceAdd]
    refine acall_v h3 rfl rfl ?_
    simp only [w_move, w_callF, w_aop, w_cons, St.ev, St.step, setS, killS, AV.kill, AV.killL, Mem.kill, List.getD_cons_succ, List.getD_cons_zero, List.set_cons_succ, List.set_cons_zero, List.isEmpty_nil, if_true, List.map_cons, List.map_nil]
    refine acall_v h4 rfl rfl ?_
    simp only [w_move, w_pick, w_binOp, w_callF, w_aop, w_aopg, w_gdb, w_some, w_asome, w_anone, w_nil, w_cons, awp, binC, cmpC, eqC, asB, asI, St.ev, St.step, setS, killS, AV.kill, AV.killL, Mem.kill, ACond_true, ACond_false, List.getD_cons_succ, List.getD_cons_zero, List.set_cons_succ, List.set_cons_zero, List.getElem?_cons_succ, List.getElem?_cons_zero, List.contains_nil, List.isEmpty_nil, if_true, true_and, Bool.true_and, Bool.not_true, beq_self_eq_true, List.map_cons, List.map_nil, decide_true, Nat.reduceAdd, Int.reduceAdd, Option.bind_some, ti4]
    refine acall_v h5 rfl rfl ?_
    simp only [w_move, w_assign, w_extract, w_callF, w_aop, w_some, w_anone, w_nil, w_cons, awp, asT, asN, St.ev, St.step, setS, killS, AV.kill, AV.killL, Mem.kill, ACond_false, List.getD_cons_succ, List.getD_cons_zero, List.set_cons_succ, List.set_cons_zero, List.getElem?_cons_succ, List.getElem?_cons_zero, List.contains_nil, List.isEmpty_nil, Option.getD_some, Bool.false_eq_true, if_false, if_true, List.map_cons, List.map_nil, Nat.reduceAdd, Int.reduceAdd]
    refine acall_v h6 rfl rfl ?_
    simp only [w_move, w_assign, w_pick, w_binOp, w_extract, w_callF, w_aop, w_aopg, w_gdb, w_some, w_asome, w_anone, w_nil, w_cons, awp, binC, cmpC, asT, asB, asI, asN, St.ev, St.step, setS, killS, AV.kill, AV.killL, Mem.kill, ACond_true, ACond_false, List.getD_cons_succ, List.getD_cons_zero, List.set_cons_succ, List.set_cons_zero, List.getElem?_cons_succ, List.getElem?_cons_zero, List.contains_nil, List.isEmpty_nil, Option.getD_some, Bool.false_eq_true, if_false, if_true, true_and, Bool.true_and, beq_self_eq_true, List.map_cons, List.map_nil, decide_true, Nat.reduceAdd, Int.reduceAdd, Option.bind_some]
    refine acall_v h7 rfl rfl ?_
    simp only [w_move, w_pick, w_binOp, w_callF, w_aop, w_aopg, w_gdb, w_some, w_asome, w_anone, w_cons, binC, eqC, asB, asI, St.ev, St.step, setS, killS, AV.kill, AV.killL, Mem.kill, ACond_true, List.getD_cons_succ, List.getD_cons_zero, List.set_cons_succ, List.set_cons_zero, List.getElem?_cons_succ, List.getElem?_cons_zero, List.isEmpty_nil, if_true, true_and, Bool.true_and, beq_self_eq_true, List.map_nil, Option.bind_some, ti4]
    refine acall_v s32 rfl rfl ?_
    simp only [w_assign, w_pick, w_aop, w_some, w_anone, w_nil, w_cons, awp, asB, asN, St.ev, St.step, setS, killS, AV.kill, AV.killL, Mem.kill, ACond_true, List.getD_cons_succ, List.getD_cons_zero, List.set_cons_succ, List.set_cons_zero, List.contains_nil, List.isEmpty_nil, Option.getD_some, Bool.false_eq_true, if_false, if_true]
    exact aend_frz rfl ⟨rfl, rfl⟩
  · rw [decide_eq_false hv, Bool.false_and] at h1 h2
    generalize vC n c = E at h3 h4
    generalize vC2 n c d = F at h1 h2 hv
    refine acall_v h1 rfl rfl ?_
    simp only [w_move, w_assign, w_extract, w_callF, w_aop, w_some, w_anone, w_nil, w_cons, awp, asT, asN, St.ev, St.step, setS, killS, AV.kill, AV.killL, Mem.kill, ACond_false, List.getD_cons_succ, List.getD_cons_zero, List.set_cons_succ, List.set_cons_zero, List.getElem?_cons_succ, List.getElem?_cons_zero, List.contains_nil, List.isEmpty_nil, Option.getD_some, Bool.false_eq_true, if_false, if_true, List.map_cons, List.map_nil, Nat.reduceAdd, Int.reduceAdd]
    refine acall_v h2 rfl rfl ?_
    simp only [w_move, w_assign, w_extract, w_callF, w_aop, w_some, w_anone, w_nil, w_cons, awp, asT, asN, St.ev, St.step, setS, killS, AV.kill, AV.killL, Mem.kill, ACond_false, List.getD_cons_succ, List.getD_cons_zero, List.set_cons_succ, List.set_cons_zero, List.getElem?_cons_succ, List.getElem?_cons_zero, List.contains_nil, List.isEmpty_nil, Option.getD_some, Bool.false_eq_true, if_false, if_true, List.map_cons, List.map_nil, Nat.reduceAdd, Int.reduceAdd]
    refine acall_v h3 rfl rfl ?_
    simp only [w_move, w_callF, w_aop, w_cons, St.ev, St.step, setS, killS, AV.kill, AV.killL, Mem.kill, List.getD_cons_succ, List.getD_cons_zero, List.set_cons_succ, List.set_cons_zero, List.isEmpty_nil, if_true, List.map_cons, List.map_nil]
    refine acall_v h4 rfl rfl ?_
    simp only [w_move, w_pick, w_binOp, w_callF, w_aop, w_aopg, w_gdb, w_some, w_asome, w_anone, w_nil, w_cons, awp, binC, cmpC, eqC, asB, asI, St.ev, St.step, setS, killS, AV.kill, AV.killL, Mem.kill, ACond_true, ACond_false, List.getD_cons_succ, List.getD_cons_zero, List.set_cons_succ, List.set_cons_zero, List.getElem?_cons_succ, List.getElem?_cons_zero, List.contains_nil, List.isEmpty_nil, if_true, true_and, Bool.true_and, Bool.not_true, Bool.not_false, beq_self_eq_true, List.map_nil, decide_true, Nat.reduceAdd, Int.reduceAdd, Option.bind_some, ti4, decide_eq_false hv]
    refine acall_v s32 rfl rfl ?_
    simp only [w_assign, w_aop, w_anone, w_nil, w_cons, awp, asN, St.ev, St.step, setS, killS, AV.kill, AV.killL, Mem.kill, List.getD_cons_succ, List.getD_cons_zero, List.set_cons_succ, List.set_cons_zero, List.contains_nil, List.isEmpty_nil, Option.getD_some, Bool.false_eq_true, if_false, if_true]
    exact aend_frz rfl ⟨rfl, rfl⟩
end Go.Proofs.Ytkmbbbemmohmcaa
