/-
  Several texts in one: DbE, DbF.
-/
import Derived.Test.YtkmbbbemmohmcaaMj
set_option linter.unusedSimpArgs false
set_option linter.unusedVariables false
namespace Go.Proofs.Ytkmbbbemmohmcaa
open Aw Go.RowKit
set_option linter.unusedSimpArgs false

theorem vJ_zero {n : Int} {c d : List G4} (h : vJ n c d = 0) : vC n c = 0 ∧ vC n d = 0 ∧ c.length + d.length ≤ 10 := by
  unfold vJ at h
  split at h
  · rename_i h2
    obtain ⟨h3, h4⟩ := vC2_zero h2
    split at h
    · cases h
    · exact ⟨h3, h4, by omega⟩
  · exact absurd h (by assumption)
theorem vJ_of {n : Int} {c d : List G4} (h1 : vC n c = 0) (h2 : vC n d = 0) (h : c.length + d.length ≤ 10) : vJ n c d = 0 := by
  unfold vJ vC2
  rw [if_pos h1, h2, if_pos rfl, if_neg (by omega)]
theorem vC_join {n : Int} {c d : List G4} (h1 : vC n c = 0) (h2 : vC n d = 0) (h : c.length + d.length ≤ 10) : vC n (c ++ d) = 0 := by
  obtain ⟨k1, k2, k3⟩ := vC_iff.1 h1
  obtain ⟨_, _, k4⟩ := vC_iff.1 h2
  exact vC_iff.2 ⟨k1, by rw [List.length_append]; exact h, fun g hg => (List.mem_append.1 hg).elim (k3 g) (k4 g)⟩
theorem vC2_of {n : Int} {c d : List G4} (h1 : vC n c = 0) (h2 : vC n d = 0) : vC2 n c d = 0 := by rw [vC2, if_pos h1, h2]
theorem red_if_len {n : Int} {c : List G4} : (if vC n c = 0 then red c else []).length ≤ 10000 := by
  split
  · rename_i h; have := red_ten h; omega
  · simp

theorem ok16 : okFn Try.prog 16 = true := by kernel_rfl
set_option maxRecDepth 20000 in
theorem s16 (n : Int) (c d : List G4) : ASpec Try.prog 16 [I n, .s 4 (gtsA c), .s 4 (gtsA d)] (fun r Ms => r = B true ∧ Ms = []) := by
  refine aspec_of (own := []) Try.func16 rfl ok16 ?_
  simp only [w_move, w_assign, w_callF, w_aop, w_anone, w_nil, w_cons, awp, asN, St.ev, St.step, setS, killS, AV.kill, AV.killL, Mem.kill, ACond_false, List.getD_cons_succ, List.getD_cons_zero, List.set_cons_succ, List.set_cons_zero, List.length_cons, List.length_nil, List.replicate_succ, List.replicate_zero, List.cons_append, List.nil_append, List.contains_nil, List.isEmpty_nil, Option.getD_some, Bool.false_eq_true, if_false, if_true, Nat.zero_add, Nat.add_zero, List.map_cons, List.map_nil, Nat.reduceAdd, Nat.reduceSub, Int.reduceAdd, Int.reduceSub, Try.ntmps16]
  refine acall_v (s19 c) rfl rfl ?_
  by_cases hl : 50 < c.length
  · simp only [w_move, w_pick, w_callF, w_aop, w_aopg, w_gdb, w_some, w_nil, w_cons, awp, asB, St.ev, St.step, setS, killS, AV.kill, AV.killL, Mem.kill, ACond_true, ACond_false, List.getD_cons_succ, List.getD_cons_zero, List.set_cons_succ, List.set_cons_zero, List.getElem?_cons_succ, List.getElem?_cons_zero, List.contains_nil, List.isEmpty_nil, if_true, Bool.not_true, List.map_nil, Nat.reduceAdd, Int.reduceAdd, Option.bind_some, w_bf, decide_eq_true hl]
    refine acall_v s32 rfl rfl ?_
    simp only [w_assign, w_aop, w_anone, w_nil, w_cons, awp, asN, St.ev, St.step, setS, killS, AV.kill, AV.killL, Mem.kill, List.getD_cons_succ, List.getD_cons_zero, List.set_cons_succ, List.set_cons_zero, List.contains_nil, List.isEmpty_nil, Option.getD_some, Bool.false_eq_true, if_false, if_true]
    exact aend_frz rfl ⟨rfl, rfl⟩
  simp only [w_move, w_callF, w_aop, w_aopg, w_gdb, w_some, w_cons, St.ev, St.step, setS, killS, AV.kill, AV.killL, Mem.kill, ACond_true, List.getD_cons_succ, List.getD_cons_zero, List.set_cons_succ, List.set_cons_zero, List.getElem?_cons_succ, List.getElem?_cons_zero, List.isEmpty_nil, if_true, beq_self_eq_true, List.map_cons, List.map_nil, Option.bind_some, decide_eq_false hl]
  refine acall_v (s19 d) rfl rfl ?_
  by_cases hl' : 50 < d.length
  · simp only [w_pick, w_callF, w_aop, w_some, w_nil, w_cons, awp, asB, St.ev, St.step, setS, killS, AV.kill, AV.killL, Mem.kill, ACond_true, ACond_false, List.getD_cons_succ, List.getD_cons_zero, List.set_cons_succ, List.set_cons_zero, List.contains_nil, List.isEmpty_nil, if_true, List.map_nil, Nat.reduceAdd, Int.reduceAdd, decide_eq_true hl']
    refine acall_v s32 rfl rfl ?_
    simp only [w_assign, w_aop, w_anone, w_nil, w_cons, awp, asN, St.ev, St.step, setS, killS, AV.kill, AV.killL, Mem.kill, List.getD_cons_succ, List.getD_cons_zero, List.set_cons_succ, List.set_cons_zero, List.contains_nil, List.isEmpty_nil, Option.getD_some, Bool.false_eq_true, if_false, if_true]
    exact aend_frz rfl ⟨rfl, rfl⟩
  simp only [w_move, w_pick, w_callF, w_aop, w_some, w_nil, w_cons, awp, asB, St.ev, St.step, setS, killS, AV.kill, AV.killL, Mem.kill, ACond_false, List.getD_cons_succ, List.getD_cons_zero, List.set_cons_succ, List.set_cons_zero, List.contains_nil, List.isEmpty_nil, if_true, List.map_cons, List.map_nil, Nat.reduceAdd, Int.reduceAdd, decide_eq_false hl']
  have h1 := s31 n c d (by omega) (by omega)
  have h2 := s54 n c d (by omega) (by omega)
  have h3 := s27 n c (by omega)
  have h4 := s27 n d (by omega)
  by_cases hv : vJ n c d = 0
  · obtain ⟨vc, vd, vl⟩ := vJ_zero hv
    rw [if_pos hv, hv] at h1 h2
    rw [if_pos vc, vc] at h3
    rw [if_pos vd, vd] at h4
    have h5 := s29 (c ++ d) (c ++ d) (by rw [List.length_append]; omega) (by rw [List.length_append]; omega)
    rw [decide_eq_true rfl] at h5
    have r1 := red_len_le (vC_Ok vc)
    have r2 := red_len_le (vC_Ok vd)
    have h6 := s31 n (red c) (red d) (by omega) (by omega)
    have hvj : vJ n (red c) (red d) = 0 := vJ_of (vC_red vc) (vC_red vd) (by omega)
    rw [if_pos hvj, hvj] at h6
    have h7 := s30 n (c ++ d) (red c ++ red d) (by rw [List.length_append]; omega) (by rw [List.length_append]; omega)
    have hv7 : vC2 n (c ++ d) (red c ++ red d) = 0 := vC2_of (vC_join vc vd vl) (vC_join (vC_red vc) (vC_red vd) (by omega))
    rw [hv7, red_join (vC_Ok vc) (vC_Ok vd), decide_eq_true rfl, decide_eq_true rfl] at h7
    have h7 : ASpec Try.prog 30 [I n, .s 4 (gtsA (c ++ d)), .s 4 (gtsA (red c ++ red d))] (fun r Ms => r = .t [B true, I 0] ∧ Ms = []) := h7
    refine acall_v h1 rfl rfl ?_
    simp only [w_move, w_assign, w_extract, w_callF, w_aop, w_some, w_anone, w_nil, w_cons, awp, asT, asN, St.ev, St.step, setS, killS, AV.kill, AV.killL, Mem.kill, ACond_false, List.getD_cons_succ, List.getD_cons_zero, List.set_cons_succ, List.set_cons_zero, List.getElem?_cons_succ, List.getElem?_cons_zero, List.contains_nil, List.isEmpty_nil, Option.getD_some, Bool.false_eq_true, if_false, if_true, List.map_cons, List.map_nil, Nat.reduceAdd, Int.reduceAdd]
    refine acall_v h2 rfl rfl ?_
    simp only [w_move, w_assign, w_binOp, w_extract, w_callF, w_aop, w_aopg, w_gdb, w_some, w_asome, w_anone, w_nil, w_cons, awp, binC, cmpC, asT, asI, asN, St.ev, St.step, setS, killS, AV.kill, AV.killL, Mem.kill, ACond_true, ACond_false, List.getD_cons_succ, List.getD_cons_zero, List.set_cons_succ, List.set_cons_zero, List.getElem?_cons_succ, List.getElem?_cons_zero, List.contains_nil, List.isEmpty_nil, Option.getD_some, Bool.false_eq_true, if_false, if_true, true_and, Bool.true_and, Bool.not_true, beq_self_eq_true, List.map_cons, List.map_nil, decide_true, Nat.reduceAdd, Int.reduceAdd, Option.bind_some]
    refine acall_v h5 rfl rfl ?_
    simp only [w_move, w_pick, w_not, w_callF, w_aop, w_aopg, w_gdb, w_some, w_nil, w_cons, awp, asB, St.ev, St.step, setS, killS, AV.kill, AV.killL, Mem.kill, ACond_true, ACond_false, List.getD_cons_succ, List.getD_cons_zero, List.set_cons_succ, List.set_cons_zero, List.getElem?_cons_succ, List.getElem?_cons_zero, List.contains_nil, List.isEmpty_nil, if_true, Bool.not_true, beq_self_eq_true, List.map_cons, List.map_nil, Nat.reduceAdd, Int.reduceAdd, Option.bind_some]
    refine acall_v h3 rfl rfl ?_
    simp only [w_move, w_assign, w_extract, w_callF, w_aop, w_some, w_anone, w_nil, w_cons, awp, asT, asN, St.ev, St.step, setS, killS, AV.kill, AV.killL, Mem.kill, ACond_false, List.getD_cons_succ, List.getD_cons_zero, List.set_cons_succ, List.set_cons_zero, List.getElem?_cons_succ, List.getElem?_cons_zero, List.contains_nil, List.isEmpty_nil, Option.getD_some, Bool.false_eq_true, if_false, if_true, List.map_cons, List.map_nil, Nat.reduceAdd, Int.reduceAdd]
    refine acall_v h4 rfl rfl ?_
    simp only [w_move, w_assign, w_binOp, w_extract, w_callF, w_aop, w_some, w_asome, w_anone, w_nil, w_cons, awp, binC, cmpC, asT, asB, asI, asN, St.ev, St.step, setS, killS, AV.kill, AV.killL, Mem.kill, ACond_false, List.getD_cons_succ, List.getD_cons_zero, List.set_cons_succ, List.set_cons_zero, List.getElem?_cons_succ, List.getElem?_cons_zero, List.contains_nil, List.isEmpty_nil, Option.getD_some, Bool.false_eq_true, if_false, if_true, true_and, Bool.true_and, Bool.not_true, List.map_cons, List.map_nil, decide_true, Nat.reduceAdd, Int.reduceAdd]
    refine acall_v h6 rfl rfl ?_
    simp only [w_move, w_assign, w_extract, w_callF, w_aop, w_some, w_anone, w_nil, w_cons, awp, asT, asN, St.ev, St.step, setS, killS, AV.kill, AV.killL, Mem.kill, ACond_false, List.getD_cons_succ, List.getD_cons_zero, List.set_cons_succ, List.set_cons_zero, List.getElem?_cons_succ, List.getElem?_cons_zero, List.contains_nil, List.isEmpty_nil, Option.getD_some, Bool.false_eq_true, if_false, if_true, List.map_cons, List.map_nil, Nat.reduceAdd, Int.reduceAdd]
    refine acall_v h7 rfl rfl ?_
    simp only [w_move, w_assign, w_pick, w_binOp, w_extract, w_callF, w_aop, w_aopg, w_gdb, w_some, w_asome, w_anone, w_nil, w_cons, awp, binC, cmpC, asT, asB, asI, asN, St.ev, St.step, setS, killS, AV.kill, AV.killL, Mem.kill, ACond_true, ACond_false, List.getD_cons_succ, List.getD_cons_zero, List.set_cons_succ, List.set_cons_zero, List.getElem?_cons_succ, List.getElem?_cons_zero, List.contains_nil, List.isEmpty_nil, Option.getD_some, Bool.false_eq_true, if_false, if_true, true_and, Bool.true_and, beq_self_eq_true, List.map_nil, decide_true, Nat.reduceAdd, Int.reduceAdd, Option.bind_some]
    refine acall_v s32 rfl rfl ?_
    simp only [w_assign, w_pick, w_aop, w_some, w_anone, w_nil, w_cons, awp, asB, asN, St.ev, St.step, setS, killS, AV.kill, AV.killL, Mem.kill, ACond_true, List.getD_cons_succ, List.getD_cons_zero, List.set_cons_succ, List.set_cons_zero, List.contains_nil, List.isEmpty_nil, Option.getD_some, Bool.false_eq_true, if_false, if_true]
    exact aend_frz rfl ⟨rfl, rfl⟩
  · rw [if_neg hv] at h1 h2
    have h5 := s29 [] [] (by decide) (by decide)
    rw [decide_eq_true rfl] at h5
    generalize vJ n c d = E at h1 h2 hv
    generalize (if vC n c = 0 then red c else []) = L1 at h3
    generalize (if vC n d = 0 then red d else []) = L2 at h4
    generalize vC n c = E1 at h3
    generalize vC n d = E2 at h4
    refine acall_v h1 rfl rfl ?_
    simp only [w_move, w_assign, w_extract, w_callF, w_aop, w_some, w_anone, w_nil, w_cons, awp, asT, asN, St.ev, St.step, setS, killS, AV.kill, AV.killL, Mem.kill, ACond_false, List.getD_cons_succ, List.getD_cons_zero, List.set_cons_succ, List.set_cons_zero, List.getElem?_cons_succ, List.getElem?_cons_zero, List.contains_nil, List.isEmpty_nil, Option.getD_some, Bool.false_eq_true, if_false, if_true, List.map_cons, List.map_nil, Nat.reduceAdd, Int.reduceAdd]
    refine acall_v h2 rfl rfl ?_
    simp only [w_move, w_assign, w_binOp, w_extract, w_callF, w_aop, w_aopg, w_gdb, w_some, w_asome, w_anone, w_nil, w_cons, awp, binC, cmpC, asT, asI, asN, St.ev, St.step, setS, killS, AV.kill, AV.killL, Mem.kill, ACond_true, ACond_false, List.getD_cons_succ, List.getD_cons_zero, List.set_cons_succ, List.set_cons_zero, List.getElem?_cons_succ, List.getElem?_cons_zero, List.contains_nil, List.isEmpty_nil, Option.getD_some, Bool.false_eq_true, if_false, if_true, true_and, Bool.true_and, Bool.not_true, beq_self_eq_true, List.map_cons, List.map_nil, decide_true, Nat.reduceAdd, Int.reduceAdd, Option.bind_some]
    refine acall_v h5 rfl rfl ?_
    simp only [w_move, w_pick, w_not, w_callF, w_aop, w_aopg, w_gdb, w_some, w_nil, w_cons, awp, asB, St.ev, St.step, setS, killS, AV.kill, AV.killL, Mem.kill, ACond_true, ACond_false, List.getD_cons_succ, List.getD_cons_zero, List.set_cons_succ, List.set_cons_zero, List.getElem?_cons_succ, List.getElem?_cons_zero, List.contains_nil, List.isEmpty_nil, if_true, Bool.not_true, beq_self_eq_true, List.map_cons, List.map_nil, Nat.reduceAdd, Int.reduceAdd, Option.bind_some]
    refine acall_v h3 rfl rfl ?_
    simp only [w_move, w_assign, w_extract, w_callF, w_aop, w_some, w_anone, w_nil, w_cons, awp, asT, asN, St.ev, St.step, setS, killS, AV.kill, AV.killL, Mem.kill, ACond_false, List.getD_cons_succ, List.getD_cons_zero, List.set_cons_succ, List.set_cons_zero, List.getElem?_cons_succ, List.getElem?_cons_zero, List.contains_nil, List.isEmpty_nil, Option.getD_some, Bool.false_eq_true, if_false, if_true, List.map_cons, List.map_nil, Nat.reduceAdd, Int.reduceAdd]
    refine acall_v h4 rfl rfl ?_
    simp only [w_move, w_assign, w_binOp, w_extract, w_callF, w_aop, w_some, w_asome, w_anone, w_nil, w_cons, awp, binC, cmpC, asT, asB, asI, asN, St.ev, St.step, setS, killS, AV.kill, AV.killL, Mem.kill, ACond_true, ACond_false, List.getD_cons_succ, List.getD_cons_zero, List.set_cons_succ, List.set_cons_zero, List.getElem?_cons_succ, List.getElem?_cons_zero, List.contains_nil, List.isEmpty_nil, Option.getD_some, Bool.false_eq_true, if_false, if_true, true_and, Bool.true_and, Bool.not_false, List.map_nil, Nat.reduceAdd, Int.reduceAdd, decide_eq_false hv]
    refine acall_v s32 rfl rfl ?_
    simp only [w_assign, w_aop, w_anone, w_nil, w_cons, awp, asN, St.ev, St.step, setS, killS, AV.kill, AV.killL, Mem.kill, List.getD_cons_succ, List.getD_cons_zero, List.set_cons_succ, List.set_cons_zero, List.contains_nil, List.isEmpty_nil, Option.getD_some, Bool.false_eq_true, if_false, if_true]
    exact aend_frz rfl ⟨rfl, rfl⟩

theorem ok14 : okFn Try.prog 14 = true := by kernel_rfl
set_option maxRecDepth 20000 in
theorem s14 (n : Int) (c : List G4) : ASpec Try.prog 14 [I n, .s 4 (gtsA c)] (fun r Ms => r = B true ∧ Ms = []) := by
  refine aspec_of (own := []) Try.func14 rfl ok14 ?_
  simp only [w_move, w_assign, w_callF, w_aop, w_anone, w_nil, w_cons, awp, asN, St.ev, St.step, setS, killS, AV.kill, AV.killL, Mem.kill, ACond_false, List.getD_cons_succ, List.getD_cons_zero, List.set_cons_succ, List.set_cons_zero, List.length_cons, List.length_nil, List.replicate_succ, List.replicate_zero, List.cons_append, List.nil_append, List.contains_nil, List.isEmpty_nil, Option.getD_some, Bool.false_eq_true, if_false, if_true, Nat.zero_add, Nat.add_zero, List.map_cons, List.map_nil, Nat.reduceAdd, Nat.reduceSub, Int.reduceAdd, Int.reduceSub, Try.ntmps14]
  refine acall_v (s19 c) rfl rfl ?_
  by_cases hl : 50 < c.length
  · simp only [w_callF, w_aop, w_some, w_nil, w_cons, awp, asB, St.ev, St.step, setS, killS, AV.kill, AV.killL, Mem.kill, ACond_true, ACond_false, List.getD_cons_succ, List.getD_cons_zero, List.set_cons_succ, List.set_cons_zero, List.contains_nil, List.isEmpty_nil, if_true, List.map_nil, Nat.reduceAdd, Int.reduceAdd, decide_eq_true hl]
    refine acall_v s32 rfl rfl ?_
    simp only [w_assign, w_aop, w_anone, w_nil, w_cons, awp, asN, St.ev, St.step, setS, killS, AV.kill, AV.killL, Mem.kill, List.getD_cons_succ, List.getD_cons_zero, List.set_cons_succ, List.set_cons_zero, List.contains_nil, List.isEmpty_nil, Option.getD_some, Bool.false_eq_true, if_false, if_true]
    exact aend_frz rfl ⟨rfl, rfl⟩
  simp only [w_move, w_callF, w_aop, w_some, w_nil, w_cons, awp, asB, St.ev, St.step, setS, killS, AV.kill, AV.killL, Mem.kill, ACond_false, List.getD_cons_succ, List.getD_cons_zero, List.set_cons_succ, List.set_cons_zero, List.contains_nil, List.isEmpty_nil, if_true, List.map_cons, List.map_nil, Nat.reduceAdd, Int.reduceAdd, decide_eq_false hl]
  have h1 := s28 n c (by omega)
  have h2 := s51 n c (by omega)
  by_cases hv : vC n c = 0
  · have h10 := vC_len hv
    have hil := ivL_len c
    rw [if_pos hv, hv, invL_iv] at h1 h2
    have h3 := s29 (ivL c) (ivL c) (by omega) (by omega)
    rw [decide_eq_true rfl] at h3
    have h4 := s28 n (ivL c) (by omega)
    rw [if_pos (vC_iv hv), vC_iv hv, invL_iv, ivL_iv] at h4
    have h5 := s29 c c (by omega) (by omega)
    rw [decide_eq_true rfl] at h5
    have h6 := s31 n c (ivL c) (by omega) (by omega)
    refine acall_v h1 rfl rfl ?_
    simp only [w_move, w_assign, w_extract, w_callF, w_aop, w_some, w_anone, w_nil, w_cons, awp, asT, asN, St.ev, St.step, setS, killS, AV.kill, AV.killL, Mem.kill, ACond_false, List.getD_cons_succ, List.getD_cons_zero, List.set_cons_succ, List.set_cons_zero, List.getElem?_cons_succ, List.getElem?_cons_zero, List.contains_nil, List.isEmpty_nil, Option.getD_some, Bool.false_eq_true, if_false, if_true, List.map_cons, List.map_nil, Nat.reduceAdd, Int.reduceAdd]
    refine acall_v h2 rfl rfl ?_
    simp only [w_move, w_assign, w_binOp, w_extract, w_callF, w_aop, w_aopg, w_gdb, w_some, w_asome, w_anone, w_nil, w_cons, awp, binC, cmpC, asT, asI, asN, St.ev, St.step, setS, killS, AV.kill, AV.killL, Mem.kill, ACond_true, ACond_false, List.getD_cons_succ, List.getD_cons_zero, List.set_cons_succ, List.set_cons_zero, List.getElem?_cons_succ, List.getElem?_cons_zero, List.contains_nil, List.isEmpty_nil, Option.getD_some, Bool.false_eq_true, if_false, if_true, true_and, Bool.true_and, Bool.not_true, beq_self_eq_true, List.map_cons, List.map_nil, decide_true, Nat.reduceAdd, Int.reduceAdd, Option.bind_some]
    refine acall_v h3 rfl rfl ?_
    simp only [w_move, w_pick, w_binOp, w_not, w_callF, w_aop, w_aopg, w_gdb, w_some, w_asome, w_nil, w_cons, awp, binC, cmpC, asB, asI, St.ev, St.step, setS, killS, AV.kill, AV.killL, Mem.kill, ACond_true, ACond_false, List.getD_cons_succ, List.getD_cons_zero, List.set_cons_succ, List.set_cons_zero, List.getElem?_cons_succ, List.getElem?_cons_zero, List.contains_nil, List.isEmpty_nil, if_true, true_and, Bool.true_and, Bool.not_true, beq_self_eq_true, List.map_cons, List.map_nil, decide_true, Nat.reduceAdd, Int.reduceAdd, Option.bind_some]
    refine acall_v h4 rfl rfl ?_
    simp only [w_move, w_assign, w_binOp, w_extract, w_callF, w_aop, w_aopg, w_gdb, w_some, w_asome, w_anone, w_nil, w_cons, awp, binC, cmpC, asT, asI, asN, St.ev, St.step, setS, killS, AV.kill, AV.killL, Mem.kill, ACond_true, ACond_false, List.getD_cons_succ, List.getD_cons_zero, List.set_cons_succ, List.set_cons_zero, List.getElem?_cons_succ, List.getElem?_cons_zero, List.contains_nil, List.isEmpty_nil, Option.getD_some, Bool.false_eq_true, if_false, if_true, true_and, Bool.true_and, Bool.not_true, beq_self_eq_true, List.map_cons, List.map_nil, decide_true, Nat.reduceAdd, Int.reduceAdd, Option.bind_some]
    refine acall_v h5 rfl rfl ?_
    simp only [w_move, w_pick, w_not, w_callF, w_aop, w_aopg, w_gdb, w_some, w_nil, w_cons, awp, asB, St.ev, St.step, setS, killS, AV.kill, AV.killL, Mem.kill, ACond_true, ACond_false, List.getD_cons_succ, List.getD_cons_zero, List.set_cons_succ, List.set_cons_zero, List.getElem?_cons_succ, List.getElem?_cons_zero, List.contains_nil, List.isEmpty_nil, if_true, Bool.not_true, beq_self_eq_true, List.map_cons, List.map_nil, Nat.reduceAdd, Int.reduceAdd, Option.bind_some]
    by_cases h2l : 10 < c.length + c.length
    · have hj : vJ n c (ivL c) = 3 := by
        unfold vJ vC2
        rw [if_pos hv, vC_iv hv, if_pos rfl, if_pos (by omega)]
      rw [hj, if_neg (by decide)] at h6
      have h2m : (10 : Int) < 2 * (c.length : Int) := by omega
      refine acall_v h6 rfl rfl ?_
      simp only [w_move, w_assign, w_pick, w_binOp, w_extract, w_callF, w_len, w_aop, w_aopg, w_gdb, w_some, w_asome, w_anone, w_nil, w_cons, awp, binC, arithC, cmpC, asT, asB, asI, asN, lenA, St.ev, St.step, setS, killS, AV.kill, AV.killL, Mem.kill, ACond_true, ACond_false, List.getD_cons_succ, List.getD_cons_zero, List.set_cons_succ, List.set_cons_zero, List.getElem?_cons_succ, List.getElem?_cons_zero, List.contains_nil, List.isEmpty_nil, Option.getD_some, Bool.false_eq_true, if_false, if_true, true_and, and_true, Bool.and_true, Bool.true_and, Bool.not_false, Option.isSome_some, beq_self_eq_true, List.map_nil, decide_true, decide_false, Nat.reduceAdd, Int.reduceAdd, Int.reduceEq, Option.bind_some, gtsA_len, ti22, gtsA_len, decide_eq_true h2m]
      refine ⟨by unfold lim; omega, ?_⟩
      refine acall_v s32 rfl rfl ?_
      simp only [w_assign, w_pick, w_aop, w_some, w_anone, w_nil, w_cons, awp, asB, asN, St.ev, St.step, setS, killS, AV.kill, AV.killL, Mem.kill, ACond_true, List.getD_cons_succ, List.getD_cons_zero, List.set_cons_succ, List.set_cons_zero, List.contains_nil, List.isEmpty_nil, Option.getD_some, Bool.false_eq_true, if_false, if_true]
      exact aend_frz rfl ⟨rfl, rfl⟩
    · have hj : vJ n c (ivL c) = 0 := vJ_of hv (vC_iv hv) (by omega)
      rw [hj, if_pos rfl] at h6
      have h7 := s27 n (c ++ ivL c) (by rw [List.length_append]; omega)
      have hv7 := vC_join hv (vC_iv hv) (by omega)
      rw [if_pos hv7, hv7, red_inv (vC_Ok hv)] at h7
      have e0 : (((0 : Nat) : Int) = 0) := rfl
      have e1 : (((([] : List G4).length : Nat) : Int) = 0) := rfl
      refine acall_v h6 rfl rfl ?_
      simp only [w_move, w_assign, w_binOp, w_extract, w_callF, w_aop, w_some, w_asome, w_anone, w_nil, w_cons, awp, binC, cmpC, asT, asB, asI, asN, St.ev, St.step, setS, killS, AV.kill, AV.killL, Mem.kill, ACond_false, List.getD_cons_succ, List.getD_cons_zero, List.set_cons_succ, List.set_cons_zero, List.getElem?_cons_succ, List.getElem?_cons_zero, List.contains_nil, List.isEmpty_nil, Option.getD_some, Bool.false_eq_true, if_false, if_true, true_and, Bool.true_and, Bool.not_true, List.map_cons, List.map_nil, decide_true, Nat.reduceAdd, Int.reduceAdd]
      refine acall_v h7 rfl rfl ?_
      simp only [w_move, w_assign, w_pick, w_binOp, w_extract, w_callF, w_len, w_aop, w_aopg, w_gdb, w_some, w_asome, w_anone, w_nil, w_cons, awp, binC, cmpC, asT, asB, asI, asN, lenA, St.ev, St.step, setS, killS, AV.kill, AV.killL, Mem.kill, ACond_true, ACond_false, List.getD_cons_succ, List.getD_cons_zero, List.set_cons_succ, List.set_cons_zero, List.getElem?_cons_succ, List.getElem?_cons_zero, List.length_nil, List.contains_nil, List.isEmpty_nil, Option.getD_some, Bool.false_eq_true, if_false, if_true, true_and, Bool.true_and, Option.isSome_some, beq_self_eq_true, List.map_nil, decide_true, Nat.reduceAdd, Int.reduceAdd, Option.bind_some, gtsA_len, ti22, gtsA_len, decide_eq_true e0, decide_eq_true e1]
      refine acall_v s32 rfl rfl ?_
      simp only [w_assign, w_pick, w_aop, w_some, w_anone, w_nil, w_cons, awp, asB, asN, St.ev, St.step, setS, killS, AV.kill, AV.killL, Mem.kill, ACond_true, List.getD_cons_succ, List.getD_cons_zero, List.set_cons_succ, List.set_cons_zero, List.contains_nil, List.isEmpty_nil, Option.getD_some, Bool.false_eq_true, if_false, if_true]
      exact aend_frz rfl ⟨rfl, rfl⟩
  · rw [if_neg hv] at h1 h2
    have h3 := s29 [] [] (by decide) (by decide)
    rw [decide_eq_true rfl] at h3
    generalize vC n c = E at h1 h2 hv
    refine acall_v h1 rfl rfl ?_
    simp only [w_move, w_assign, w_extract, w_callF, w_aop, w_some, w_anone, w_nil, w_cons, awp, asT, asN, St.ev, St.step, setS, killS, AV.kill, AV.killL, Mem.kill, ACond_false, List.getD_cons_succ, List.getD_cons_zero, List.set_cons_succ, List.set_cons_zero, List.getElem?_cons_succ, List.getElem?_cons_zero, List.contains_nil, List.isEmpty_nil, Option.getD_some, Bool.false_eq_true, if_false, if_true, List.map_cons, List.map_nil, Nat.reduceAdd, Int.reduceAdd]
    refine acall_v h2 rfl rfl ?_
    simp only [w_move, w_assign, w_binOp, w_extract, w_callF, w_aop, w_aopg, w_gdb, w_some, w_asome, w_anone, w_nil, w_cons, awp, binC, cmpC, asT, asI, asN, St.ev, St.step, setS, killS, AV.kill, AV.killL, Mem.kill, ACond_true, ACond_false, List.getD_cons_succ, List.getD_cons_zero, List.set_cons_succ, List.set_cons_zero, List.getElem?_cons_succ, List.getElem?_cons_zero, List.contains_nil, List.isEmpty_nil, Option.getD_some, Bool.false_eq_true, if_false, if_true, true_and, Bool.true_and, Bool.not_true, beq_self_eq_true, List.map_cons, List.map_nil, decide_true, Nat.reduceAdd, Int.reduceAdd, Option.bind_some]
    refine acall_v h3 rfl rfl ?_
    simp only [w_move, w_pick, w_binOp, w_not, w_callF, w_aop, w_aopg, w_gdb, w_some, w_asome, w_nil, w_cons, awp, binC, cmpC, asB, asI, St.ev, St.step, setS, killS, AV.kill, AV.killL, Mem.kill, ACond_true, ACond_false, List.getD_cons_succ, List.getD_cons_zero, List.set_cons_succ, List.set_cons_zero, List.getElem?_cons_succ, List.getElem?_cons_zero, List.contains_nil, List.isEmpty_nil, if_true, true_and, Bool.true_and, Bool.not_true, Bool.not_false, beq_self_eq_true, List.map_nil, Nat.reduceAdd, Int.reduceAdd, Option.bind_some, decide_eq_false hv]
    refine acall_v s32 rfl rfl ?_
    simp only [w_assign, w_aop, w_anone, w_nil, w_cons, awp, asN, St.ev, St.step, setS, killS, AV.kill, AV.killL, Mem.kill, List.getD_cons_succ, List.getD_cons_zero, List.set_cons_succ, List.set_cons_zero, List.contains_nil, List.isEmpty_nil, Option.getD_some, Bool.false_eq_true, if_false, if_true]
    exact aend_frz rfl ⟨rfl, rfl⟩
end Go.Proofs.Ytkmbbbemmohmcaa

namespace Go.Proofs.Ytkmbbbemmohmcaa
open Aw Go.RowKit
set_option linter.unusedSimpArgs false

theorem ok13 : okFn Try.prog 13 = true := by kernel_rfl
set_option maxRecDepth 20000 in
set_option maxHeartbeats 1000000 in
theorem s13 (n : Int) (c d : List G4) : ASpec Try.prog 13 [I n, .s 4 (gtsA c), .s 4 (gtsA d)] (fun r Ms => r = B true ∧ Ms = []) := by
  refine aspec_of (own := [67]) Try.func13 rfl ok13 ?_
  simp only [w_move, w_assign, w_callF, w_aop, w_anone, w_nil, w_cons, awp, asN, St.ev, St.step, setS, killS, AV.kill, AV.killL, Mem.kill, ACond_false, List.getD_cons_succ, List.getD_cons_zero, List.set_cons_succ, List.set_cons_zero, List.length_cons, List.length_nil, List.replicate_succ, List.replicate_zero, List.cons_append, List.nil_append, List.contains_nil, List.contains_cons, List.isEmpty_nil, Option.getD_some, Bool.false_eq_true, if_false, if_true, Nat.zero_add, Nat.add_zero, List.map_cons, List.map_nil, nbeq, decide_false, Bool.or_false, Nat.reduceAdd, Nat.reduceEqDiff, Nat.reduceSub, Int.reduceAdd, Int.reduceSub, Try.ntmps13]
  refine acall_v (s19 c) rfl rfl ?_
  by_cases hl : 50 < c.length
  · simp only [w_move, w_pick, w_callF, w_aop, w_aopg, w_gdb, w_some, w_nil, w_cons, awp, asB, St.ev, St.step, setS, killS, AV.kill, AV.killL, Mem.kill, ACond_true, ACond_false, List.getD_cons_succ, List.getD_cons_zero, List.set_cons_succ, List.set_cons_zero, List.getElem?_cons_succ, List.getElem?_cons_zero, List.contains_nil, List.contains_cons, List.isEmpty_nil, if_true, Bool.not_true, List.map_nil, nbeq, decide_false, Bool.or_false, Nat.reduceAdd, Nat.reduceEqDiff, Int.reduceAdd, Option.bind_some, w_bf, decide_eq_true hl]
    refine acall_v s32 rfl rfl ?_
    simp only [w_assign, w_aop, w_anone, w_nil, w_cons, awp, asN, St.ev, St.step, setS, killS, AV.kill, AV.killL, Mem.kill, List.getD_cons_succ, List.getD_cons_zero, List.set_cons_succ, List.set_cons_zero, List.contains_nil, List.contains_cons, List.isEmpty_nil, Option.getD_some, Bool.false_eq_true, if_false, if_true, nbeq, decide_false, Bool.or_false, Nat.reduceEqDiff]
    exact aend_frz rfl ⟨rfl, rfl⟩
  simp only [w_move, w_callF, w_aop, w_aopg, w_gdb, w_some, w_cons, St.ev, St.step, setS, killS, AV.kill, AV.killL, Mem.kill, ACond_true, List.getD_cons_succ, List.getD_cons_zero, List.set_cons_succ, List.set_cons_zero, List.getElem?_cons_succ, List.getElem?_cons_zero, List.isEmpty_nil, if_true, beq_self_eq_true, List.map_cons, List.map_nil, Option.bind_some, decide_eq_false hl]
  refine acall_v (s19 d) rfl rfl ?_
  by_cases hl' : 50 < d.length
  · simp only [w_pick, w_callF, w_aop, w_some, w_nil, w_cons, awp, asB, St.ev, St.step, setS, killS, AV.kill, AV.killL, Mem.kill, ACond_true, ACond_false, List.getD_cons_succ, List.getD_cons_zero, List.set_cons_succ, List.set_cons_zero, List.contains_nil, List.contains_cons, List.isEmpty_nil, if_true, List.map_nil, nbeq, decide_false, Bool.or_false, Nat.reduceAdd, Nat.reduceEqDiff, Int.reduceAdd, decide_eq_true hl']
    refine acall_v s32 rfl rfl ?_
    simp only [w_assign, w_aop, w_anone, w_nil, w_cons, awp, asN, St.ev, St.step, setS, killS, AV.kill, AV.killL, Mem.kill, List.getD_cons_succ, List.getD_cons_zero, List.set_cons_succ, List.set_cons_zero, List.contains_nil, List.contains_cons, List.isEmpty_nil, Option.getD_some, Bool.false_eq_true, if_false, if_true, nbeq, decide_false, Bool.or_false, Nat.reduceEqDiff]
    exact aend_frz rfl ⟨rfl, rfl⟩
  simp only [w_move, w_pick, w_callF, w_aop, w_some, w_nil, w_cons, awp, asB, St.ev, St.step, setS, killS, AV.kill, AV.killL, Mem.kill, ACond_false, List.getD_cons_succ, List.getD_cons_zero, List.set_cons_succ, List.set_cons_zero, List.contains_nil, List.contains_cons, List.isEmpty_nil, if_true, List.map_cons, List.map_nil, nbeq, decide_false, Bool.or_false, Nat.reduceAdd, Nat.reduceEqDiff, Int.reduceAdd, decide_eq_false hl']
  have h1 := s30 n c d (by omega) (by omega)
  have h2 := s50 n c d (by omega) (by omega)
  have h3 := s26 n c d (by omega) (by omega)
  by_cases hv : vC2 n c d = 0
  · obtain ⟨vc, vd⟩ := vC2_zero hv
    rw [decide_eq_true hv, Bool.true_and, hv] at h1 h2 h3
    have himp : nmS c = nmS d → red c = red d := fun h => red_eq (vC_Ok vc) (al_gq d ((nmS_iff c d).1 h) (vC_Ok vc))
    obtain ⟨a, ha⟩ : ∃ a, a = c ++ d := ⟨_, rfl⟩
    have hal : a.length = c.length + d.length := by rw [ha, List.length_append]
    by_cases hr : red c = red d
    · rw [decide_eq_true hr] at h1 h2
      refine acall_v h1 rfl rfl ?_
      simp only [w_move, w_assign, w_extract, w_callF, w_aop, w_some, w_anone, w_nil, w_cons, awp, asT, asN, St.ev, St.step, setS, killS, AV.kill, AV.killL, Mem.kill, ACond_false, List.getD_cons_succ, List.getD_cons_zero, List.set_cons_succ, List.set_cons_zero, List.getElem?_cons_succ, List.getElem?_cons_zero, List.contains_nil, List.contains_cons, List.isEmpty_nil, Option.getD_some, Bool.false_eq_true, if_false, if_true, List.map_cons, List.map_nil, nbeq, decide_false, Bool.or_false, Nat.reduceAdd, Nat.reduceEqDiff, Int.reduceAdd]
      refine acall_v h2 rfl rfl ?_
      simp only [w_move, w_assign, w_pick, w_binOp, w_extract, w_callF, w_aop, w_aopg, w_gdb, w_some, w_asome, w_anone, w_nil, w_cons, awp, binC, cmpC, eqC, asT, asB, asI, asN, St.ev, St.step, setS, killS, AV.kill, AV.killL, Mem.kill, ACond_true, ACond_false, List.getD_cons_succ, List.getD_cons_zero, List.set_cons_succ, List.set_cons_zero, List.getElem?_cons_succ, List.getElem?_cons_zero, List.contains_nil, List.contains_cons, List.isEmpty_nil, Option.getD_some, Bool.false_eq_true, if_false, if_true, true_and, Bool.true_and, Bool.not_true, beq_self_eq_true, List.map_cons, List.map_nil, decide_true, nbeq, decide_false, Bool.or_false, Nat.reduceAdd, Nat.reduceEqDiff, Int.reduceAdd, Option.bind_some, ti4]
      refine acall_v h3 rfl rfl ?_
      generalize decide (nmS c = nmS d) = A
      cases A <;> simp only [w_move, w_assign, w_pick, w_binOp, w_not, w_buildSlice, w_extract, w_append, w_aop, w_aopg, w_gdb, w_some, w_asome, w_anone, w_nil, w_cons, awp, binC, cmpC, asO, asS, asT, asB, asI, asN, obA, Aw.newRow, St.ev, St.step, setS, killS, AV.kill, AV.killL, Mem.kill, AV.cells, AV.flat, AV.single, AV.cellular, ACond_true, ACond_false, Value.oneCell', List.getD_cons_succ, List.getD_cons_zero, List.set_cons_succ, List.set_cons_zero, List.getElem?_cons_succ, List.getElem?_cons_zero, List.length_nil, List.nil_append, List.contains_nil, List.contains_cons, List.isEmpty_nil, List.isEmpty_cons, Option.getD_some, Bool.false_eq_true, if_false, if_true, true_and, and_true, List.all_nil, Bool.and_true, Bool.true_and, Bool.not_true, Nat.zero_add, beq_self_eq_true, List.map_cons, List.map_nil, decide_true, nbeq, decide_false, Bool.or_false, Nat.reduceAdd, Nat.reduceEqDiff, Nat.reduceMul, Nat.reduceLeDiff, Int.reduceAdd, Int.reduceMul, Option.bind_some, Option.map_some, w_bt, gtsA_len, ti22, ti24, gtsA_kill, gtsA_join, ← ha]
      all_goals
        refine ⟨⟨by decide, rfl⟩, ⟨by decide, by omega⟩, ⟨by decide, by omega⟩, swp_le (le_frz 0 rfl (gtsA_pure a)) ?_⟩
        refine swp_loop' (fun i : Nat => ⟨[I n, .s 4 (gtsA c), .s 4 (gtsA d), .bot, .bot, .bot, .bot, B true, .bot, .bot, .bot, .bot, .bot, .s 4 (gtsA a), I i, .bot, .bot, .bot, .bot, .bot, .bot, .bot, .bot, .bot, .bot, .bot, .bot, .bot, .bot, .bot, .bot, .bot, .bot, .bot, .bot, .bot, .bot, .bot, .bot, .bot, .bot, .bot, .bot, .bot, .bot, .bot, .bot, .bot, .bot, .bot, .bot, .bot, .bot, .bot, .bot, .bot, .bot, .bot, .bot, .bot, .bot, .bot, .bot, .bot, .bot, .bot, .bot, .bot, .bot, .bot, .bot, .bot, .bot, .bot, .bot, .bot, .bot, .bot, .bot, .bot, .bot, .bot, .bot, .bot, .bot, .bot, .bot, .bot, .bot, .bot, .bot, .bot, .bot, .bot, .bot, .bot, .bot, .bot, .bot, .bot, .bot, .bot, .bot, .bot, .bot, .bot, .bot, .bot, .bot, .bot, .bot, .bot, .bot], [none]⟩) (fun i => i ≤ a.length) (fun i => a.length - i) 0 (le_sl (by simp [leSl, frz1, AV.sub, AV.subL])) (Nat.zero_le _) ?_
        intro i hi
        refine awp_sound (own := [67]) _ _ _ _ _ ?_
        simp only [w_move, w_binOp, w_len, w_aop, w_aopg, w_gdb, w_some, w_asome, w_cons, awp, binC, cmpC, asI, lenA, St.ev, St.step, setS, killS, AV.kill, AV.killL, Mem.kill, ACond_false, List.getD_cons_succ, List.getD_cons_zero, List.set_cons_succ, List.set_cons_zero, List.getElem?_cons_succ, List.getElem?_cons_zero, List.contains_nil, List.contains_cons, List.isEmpty_nil, if_true, true_and, Bool.true_and, Option.isSome_some, nbeq, decide_false, Bool.or_false, Nat.reduceAdd, Nat.reduceEqDiff, Int.reduceAdd, Option.bind_some, w_bt, gtsA_len, ti22, gtsA_len]
        by_cases h : i < a.length
        · have h' : (i : Int) < (a.length : Int) := by omega
          have hok : okG n a[i] = true := by
            have hm : a[i] ∈ c ++ d := ha ▸ List.getElem_mem h
            exact (List.mem_append.1 hm).elim (vC_ok vc _) (vC_ok vd _)
          have q1 := s18 n c a[i] (by omega)
          have q2 := s18 n d a[i] (by omega)
          have e1 : vA n c a[i] = 0 := by unfold vA; rw [if_pos vc, if_pos hok]
          have e2 : vA n d a[i] = 0 := by unfold vA; rw [if_pos vd, if_pos hok]
          rw [if_pos e1, e1] at q1
          rw [if_pos e2, e2, ← anS_gq (gq_of_red (vC_Ok vc) (vC_Ok vd) hr)] at q2
          simp only [w_move, w_pick, w_load, w_indexAddr, w_callF, w_aop, w_some, w_asome, w_nil, w_cons, awp, idxC, asP, asS, asB, asI, loadA, St.ev, St.step, setS, killS, AV.kill, AV.killL, Mem.kill, AV.cells, AV.flat, AV.single, ACond_true, ACond_false, List.getD_cons_succ, List.getD_cons_zero, List.set_cons_succ, List.set_cons_zero, List.getElem?_cons_zero, List.length_cons, List.length_nil, List.contains_nil, List.contains_cons, List.isEmpty_nil, Bool.false_eq_true, if_false, if_true, true_and, and_true, List.all_cons, List.all_nil, Bool.and_true, Bool.true_and, Bool.not_true, Nat.zero_add, beq_self_eq_true, List.map_cons, List.map_nil, decide_true, nbeq, decide_false, Bool.or_false, Nat.reduceAdd, Nat.reduceEqDiff, Nat.reduceLeDiff, Int.reduceAdd, ti22, ti24, decide_eq_true h', aget_gts h, Int.toNat_natCast]
          refine ⟨by omega, acall_v q1 rfl rfl ?_⟩
          simp only [w_move, w_assign, w_load, w_indexAddr, w_extract, w_callF, w_aop, w_some, w_asome, w_anone, w_nil, w_cons, awp, idxC, asP, asS, asT, asI, asN, loadA, St.ev, St.step, setS, killS, AV.kill, AV.killL, Mem.kill, AV.cells, AV.flat, AV.single, ACond_false, List.getD_cons_succ, List.getD_cons_zero, List.set_cons_succ, List.set_cons_zero, List.getElem?_cons_succ, List.getElem?_cons_zero, List.length_cons, List.length_nil, List.contains_nil, List.contains_cons, List.isEmpty_nil, Option.getD_some, Bool.false_eq_true, if_false, if_true, true_and, and_true, List.all_cons, List.all_nil, Bool.and_true, Bool.true_and, Bool.not_true, Nat.zero_add, beq_self_eq_true, List.map_cons, List.map_nil, decide_true, nbeq, decide_false, Bool.or_false, Nat.reduceAdd, Nat.reduceEqDiff, Nat.reduceLeDiff, Int.reduceAdd, ti22, ti24, aget_gts h, Int.toNat_natCast]
          refine ⟨by omega, acall_v q2 rfl rfl ?_⟩
          simp only [w_move, w_assign, w_pick, w_binOp, w_extract, w_aop, w_aopg, w_gdb, w_some, w_asome, w_anone, w_nil, w_cons, awp, binC, arithC, cmpC, asT, asB, asI, asN, St.ev, St.step, setS, killS, AV.kill, AV.killL, Mem.kill, ACond_true, ACond_false, List.getD_cons_succ, List.getD_cons_zero, List.set_cons_succ, List.set_cons_zero, List.getElem?_cons_succ, List.getElem?_cons_zero, List.contains_nil, List.contains_cons, List.isEmpty_nil, Option.getD_some, Bool.false_eq_true, if_false, if_true, true_and, and_true, Bool.and_true, Bool.true_and, Bool.not_true, beq_self_eq_true, decide_true, nbeq, decide_false, Bool.or_false, Nat.reduceAdd, Nat.reduceEqDiff, Int.reduceAdd, Option.bind_some]
          exact ⟨by unfold lim; omega, i + 1, le_sl (by simp [leSl]), by omega, by omega⟩
        · have h' : ¬ (i : Int) < (a.length : Int) := by omega
          simp only [w_pick, w_callF, w_aop, w_some, w_nil, w_cons, awp, asB, St.ev, St.step, setS, killS, AV.kill, AV.killL, Mem.kill, ACond_false, List.getD_cons_succ, List.getD_cons_zero, List.set_cons_succ, List.set_cons_zero, List.contains_nil, List.contains_cons, List.isEmpty_nil, if_true, List.map_nil, nbeq, decide_false, Bool.or_false, Nat.reduceAdd, Nat.reduceEqDiff, Int.reduceAdd, decide_eq_false h']
          refine acall_v s32 rfl rfl ?_
          simp only [w_assign, w_aop, w_anone, w_nil, w_cons, awp, asN, St.ev, St.step, setS, killS, AV.kill, AV.killL, Mem.kill, List.getD_cons_succ, List.getD_cons_zero, List.set_cons_succ, List.set_cons_zero, List.contains_nil, List.contains_cons, List.isEmpty_nil, Option.getD_some, Bool.false_eq_true, if_false, if_true, nbeq, decide_false, Bool.or_false, Nat.reduceEqDiff]
          exact aend_frz rfl ⟨rfl, rfl⟩
    · have hn : ¬ nmS c = nmS d := fun h => hr (himp h)
      rw [decide_eq_false hr] at h1 h2
      rw [decide_eq_false hn] at h3
      refine acall_v h1 rfl rfl ?_
      simp only [w_move, w_assign, w_extract, w_callF, w_aop, w_some, w_anone, w_nil, w_cons, awp, asT, asN, St.ev, St.step, setS, killS, AV.kill, AV.killL, Mem.kill, ACond_false, List.getD_cons_succ, List.getD_cons_zero, List.set_cons_succ, List.set_cons_zero, List.getElem?_cons_succ, List.getElem?_cons_zero, List.contains_nil, List.contains_cons, List.isEmpty_nil, Option.getD_some, Bool.false_eq_true, if_false, if_true, List.map_cons, List.map_nil, nbeq, decide_false, Bool.or_false, Nat.reduceAdd, Nat.reduceEqDiff, Int.reduceAdd]
      refine acall_v h2 rfl rfl ?_
      simp only [w_move, w_assign, w_pick, w_binOp, w_extract, w_callF, w_aop, w_aopg, w_gdb, w_some, w_asome, w_anone, w_nil, w_cons, awp, binC, cmpC, eqC, asT, asB, asI, asN, St.ev, St.step, setS, killS, AV.kill, AV.killL, Mem.kill, ACond_true, ACond_false, List.getD_cons_succ, List.getD_cons_zero, List.set_cons_succ, List.set_cons_zero, List.getElem?_cons_succ, List.getElem?_cons_zero, List.contains_nil, List.contains_cons, List.isEmpty_nil, Option.getD_some, Bool.false_eq_true, if_false, if_true, true_and, Bool.true_and, Bool.not_true, beq_self_eq_true, List.map_cons, List.map_nil, decide_true, nbeq, decide_false, Bool.or_false, Nat.reduceAdd, Nat.reduceEqDiff, Int.reduceAdd, Option.bind_some, ti4]
      refine acall_v h3 rfl rfl ?_
      simp only [w_move, w_assign, w_pick, w_binOp, w_buildSlice, w_extract, w_append, w_aop, w_aopg, w_gdb, w_some, w_asome, w_anone, w_nil, w_cons, awp, binC, cmpC, asO, asS, asT, asB, asI, asN, obA, Aw.newRow, St.ev, St.step, setS, killS, AV.kill, AV.killL, Mem.kill, AV.cells, AV.flat, AV.single, AV.cellular, ACond_true, ACond_false, Value.oneCell', List.getD_cons_succ, List.getD_cons_zero, List.set_cons_succ, List.set_cons_zero, List.getElem?_cons_succ, List.getElem?_cons_zero, List.length_nil, List.nil_append, List.contains_nil, List.contains_cons, List.isEmpty_nil, List.isEmpty_cons, Option.getD_some, Bool.false_eq_true, if_false, if_true, true_and, and_true, List.all_nil, Bool.and_true, Bool.true_and, Bool.not_true, Nat.zero_add, beq_self_eq_true, List.map_cons, List.map_nil, decide_true, nbeq, decide_false, Bool.or_false, Nat.reduceAdd, Nat.reduceEqDiff, Nat.reduceMul, Nat.reduceLeDiff, Int.reduceAdd, Int.reduceMul, Option.bind_some, Option.map_some, w_bt, gtsA_len, ti22, ti24, gtsA_kill, gtsA_join, ← ha]
      refine ⟨⟨by decide, rfl⟩, ⟨by decide, by omega⟩, ⟨by decide, by omega⟩, swp_le (le_frz 0 rfl (gtsA_pure a)) ?_⟩
      refine swp_loop' (fun i : Nat => ⟨[I n, .s 4 (gtsA c), .s 4 (gtsA d), .bot, .bot, .bot, .bot, B false, .bot, .bot, .bot, .bot, .bot, .s 4 (gtsA a), I i, .bot, .bot, .bot, .bot, .bot, .bot, .bot, .bot, .bot, .bot, .bot, .bot, .bot, .bot, .bot, .bot, .bot, .bot, .bot, .bot, .bot, .bot, .bot, .bot, .bot, .bot, .bot, .bot, .bot, .bot, .bot, .bot, .bot, .bot, .bot, .bot, .bot, .bot, .bot, .bot, .bot, .bot, .bot, .bot, .bot, .bot, .bot, .bot, .bot, .bot, .bot, .bot, .bot, .bot, .bot, .bot, .bot, .bot, .bot, .bot, .bot, .bot, .bot, .bot, .bot, .bot, .bot, .bot, .bot, .bot, .bot, .bot, .bot, .bot, .bot, .bot, .bot, .bot, .bot, .bot, .bot, .bot, .bot, .bot, .bot, .bot, .bot, .bot, .bot, .bot, .bot, .bot, .bot, .bot, .bot, .bot, .bot, .bot], [none]⟩) (fun i => i ≤ a.length) (fun i => a.length - i) 0 (le_sl (by simp [leSl, frz1, AV.sub, AV.subL])) (Nat.zero_le _) ?_
      intro i hi
      refine awp_sound (own := [67]) _ _ _ _ _ ?_
      simp only [w_move, w_binOp, w_len, w_aop, w_aopg, w_gdb, w_some, w_asome, w_cons, awp, binC, cmpC, asI, lenA, St.ev, St.step, setS, killS, AV.kill, AV.killL, Mem.kill, ACond_false, List.getD_cons_succ, List.getD_cons_zero, List.set_cons_succ, List.set_cons_zero, List.getElem?_cons_succ, List.getElem?_cons_zero, List.contains_nil, List.contains_cons, List.isEmpty_nil, if_true, true_and, Bool.true_and, Option.isSome_some, nbeq, decide_false, Bool.or_false, Nat.reduceAdd, Nat.reduceEqDiff, Int.reduceAdd, Option.bind_some, w_bt, gtsA_len, ti22, gtsA_len]
      by_cases h : i < a.length
      · have h' : (i : Int) < (a.length : Int) := by omega
        simp only [w_move, w_pick, w_callF, w_aop, w_some, w_nil, w_cons, awp, asB, St.ev, St.step, setS, killS, AV.kill, AV.killL, Mem.kill, ACond_true, ACond_false, List.getD_cons_succ, List.getD_cons_zero, List.set_cons_succ, List.set_cons_zero, List.contains_nil, List.contains_cons, List.isEmpty_nil, if_true, List.map_nil, nbeq, decide_false, Bool.or_false, Nat.reduceAdd, Nat.reduceEqDiff, Int.reduceAdd, decide_eq_true h']
        refine acall_v s32 rfl rfl ?_
        simp only [w_assign, w_aop, w_anone, w_nil, w_cons, awp, asN, St.ev, St.step, setS, killS, AV.kill, AV.killL, Mem.kill, List.getD_cons_succ, List.getD_cons_zero, List.set_cons_succ, List.set_cons_zero, List.contains_nil, List.contains_cons, List.isEmpty_nil, Option.getD_some, Bool.false_eq_true, if_false, if_true, nbeq, decide_false, Bool.or_false, Nat.reduceEqDiff]
        exact aend_frz rfl ⟨rfl, rfl⟩
      · have h' : ¬ (i : Int) < (a.length : Int) := by omega
        simp only [w_pick, w_callF, w_aop, w_some, w_nil, w_cons, awp, asB, St.ev, St.step, setS, killS, AV.kill, AV.killL, Mem.kill, ACond_false, List.getD_cons_succ, List.getD_cons_zero, List.set_cons_succ, List.set_cons_zero, List.contains_nil, List.contains_cons, List.isEmpty_nil, if_true, List.map_nil, nbeq, decide_false, Bool.or_false, Nat.reduceAdd, Nat.reduceEqDiff, Int.reduceAdd, decide_eq_false h']
        refine acall_v s32 rfl rfl ?_
        simp only [w_assign, w_aop, w_anone, w_nil, w_cons, awp, asN, St.ev, St.step, setS, killS, AV.kill, AV.killL, Mem.kill, List.getD_cons_succ, List.getD_cons_zero, List.set_cons_succ, List.set_cons_zero, List.contains_nil, List.contains_cons, List.isEmpty_nil, Option.getD_some, Bool.false_eq_true, if_false, if_true, nbeq, decide_false, Bool.or_false, Nat.reduceEqDiff]
        exact aend_frz rfl ⟨rfl, rfl⟩
  · rw [decide_eq_false hv, Bool.false_and] at h1 h2
    generalize vC2 n c d = F at h1 h2 hv
    refine acall_v h1 rfl rfl ?_
    simp only [w_move, w_assign, w_extract, w_callF, w_aop, w_some, w_anone, w_nil, w_cons, awp, asT, asN, St.ev, St.step, setS, killS, AV.kill, AV.killL, Mem.kill, ACond_false, List.getD_cons_succ, List.getD_cons_zero, List.set_cons_succ, List.set_cons_zero, List.getElem?_cons_succ, List.getElem?_cons_zero, List.contains_nil, List.contains_cons, List.isEmpty_nil, Option.getD_some, Bool.false_eq_true, if_false, if_true, List.map_cons, List.map_nil, nbeq, decide_false, Bool.or_false, Nat.reduceAdd, Nat.reduceEqDiff, Int.reduceAdd]
    refine acall_v h2 rfl rfl ?_
    simp only [w_move, w_assign, w_pick, w_binOp, w_extract, w_callF, w_aop, w_aopg, w_gdb, w_some, w_asome, w_anone, w_nil, w_cons, awp, binC, cmpC, eqC, asT, asB, asI, asN, St.ev, St.step, setS, killS, AV.kill, AV.killL, Mem.kill, ACond_true, ACond_false, List.getD_cons_succ, List.getD_cons_zero, List.set_cons_succ, List.set_cons_zero, List.getElem?_cons_succ, List.getElem?_cons_zero, List.contains_nil, List.contains_cons, List.isEmpty_nil, Option.getD_some, Bool.false_eq_true, if_false, if_true, true_and, Bool.true_and, Bool.not_true, Bool.not_false, beq_self_eq_true, List.map_nil, decide_true, nbeq, decide_false, Bool.or_false, Nat.reduceAdd, Nat.reduceEqDiff, Int.reduceAdd, Option.bind_some, ti4, decide_eq_false hv]
    refine acall_v s32 rfl rfl ?_
    simp only [w_assign, w_aop, w_anone, w_nil, w_cons, awp, asN, St.ev, St.step, setS, killS, AV.kill, AV.killL, Mem.kill, List.getD_cons_succ, List.getD_cons_zero, List.set_cons_succ, List.set_cons_zero, List.contains_nil, List.contains_cons, List.isEmpty_nil, Option.getD_some, Bool.false_eq_true, if_false, if_true, nbeq, decide_false, Bool.or_false, Nat.reduceEqDiff]
    exact aend_frz rfl ⟨rfl, rfl⟩
end Go.Proofs.Ytkmbbbemmohmcaa
