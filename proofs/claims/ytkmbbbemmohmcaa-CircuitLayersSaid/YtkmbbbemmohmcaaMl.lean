/-
  Several texts in one: CuK, DbG.
-/
import Derived.Test.YtkmbbbemmohmcaaMi
import Derived.Test.YtkmbbbemmohmcaaMk
set_option linter.unusedSimpArgs false
set_option linter.unusedVariables false
namespace Go.Proofs.Ytkmbbbemmohmcaa
open Aw Go.RowKit
set_option linter.unusedSimpArgs false

set_option maxHeartbeats 1000000 in
theorem s60o (c : List G4) (hl : c.length ≤ 10000) : ASpec Try.prog 60 [.s 4 (gtsA c)] (fun r Ms => r = .o 0 ∧ Ms = [⟨none, 24, 4, gtsA (nmR G4.less G4.bound c)⟩]) := by
  refine aspec_of (own := [3, 4, 1002, 1006]) Try.func60 rfl ok60 ?_
  simp only [w_move, w_assign, w_alloc, w_store, w_build, w_aop, w_some, w_anone, w_nil, w_cons, awp, asQ, asN, obA, AGet_zero, storeA, fillA, putsA, mkA, Aw.newRow, St.ev, St.step, setS, killS, AV.kill, AV.killL, Mem.kill, AV.cells, AV.flat, AV.single, AV.cellular, ACond_true, ACond_false, List.getD_cons_succ, List.getD_cons_zero, List.set_cons_succ, List.set_cons_zero, List.getElem?_cons_zero, List.length_cons, List.length_nil, List.replicate_succ, List.replicate_zero, List.cons_append, List.nil_append, List.contains_nil, List.contains_cons, List.isEmpty_nil, Option.getD_some, Bool.false_eq_true, if_false, if_true, true_and, and_true, List.all_cons, List.all_nil, Bool.and_true, Bool.true_and, Nat.zero_add, Nat.add_zero, beq_self_eq_true, List.map_cons, List.map_nil, decide_true, nbeq, decide_false, Bool.or_false, Bool.or_true, Nat.reduceAdd, Nat.reduceEqDiff, Nat.reduceSub, Nat.reduceLeDiff, Int.reduceAdd, Int.reduceSub, ti81, Try.ntmps60]
  refine swp_mk (own := [3, 4]) 2 rfl rfl rfl ?_
  simp only [w_move, w_len, w_aop, w_some, w_asome, w_nil, w_cons, lenA, St.ev, St.step, setS, killS, AV.kill, AV.killL, Mem.kill, List.getD_cons_succ, List.getD_cons_zero, List.set_cons_succ, List.set_cons_zero, List.contains_nil, List.isEmpty_nil, Bool.false_eq_true, if_false, if_true, true_and, Bool.true_and, Option.isSome_some, gtsA_len, ti22, gtsA_len, List.take_succ_cons, List.take_zero]
  refine amk c.length rfl (by omega) ?_
  simp only [w_assign, w_aop, w_anone, w_nil, w_cons, awp, asN, St.ev, St.step, setS, killS, AV.kill, AV.killL, Mem.kill, List.getD_cons_succ, List.getD_cons_zero, List.set_cons_succ, List.set_cons_zero, List.length_cons, List.length_nil, List.cons_append, List.nil_append, List.contains_nil, List.contains_cons, List.isEmpty_nil, Option.getD_some, Bool.false_eq_true, if_false, if_true, Nat.zero_add, beq_self_eq_true, nbeq, decide_false, Bool.or_false, Bool.or_true, Nat.reduceAdd, Nat.reduceEqDiff, Int.reduceAdd, List.drop_succ_cons, List.drop_zero]
  refine swp_loop' (fun j : List G4 × List G4 => ⟨[.s 4 (gtsA c), .bot, .bot, .q 0 2 0 0, .o 1, .bot, .bot, .bot, .bot, .bot, .bot, .bot, .bot, .bot, .bot, .bot, .bot, .bot, .bot, .bot, .bot, .bot, .bot, .bot, .bot, .bot, .bot, .bot, .bot, .bot], [some (rdO j.1 j.2.length), some ⟨none, 24, 4, gtsA (outL c.length j.2)⟩]⟩) (fun j => j.1.length + j.2.length = c.length ∧ nmR G4.less G4.bound c = j.2 ++ nmR G4.less G4.bound j.1) (fun j => j.1.length) (c, []) (le_sl (by simp [leSl])) ⟨by simp, by simp⟩ ?_
  rintro ⟨d, out⟩ ⟨hd, hn⟩
  simp only at hd hn
  refine awp_sound (own := [3, 4, 1006]) _ _ _ _ _ ?_
  have hol : (outL c.length out).length = c.length := by unfold outL; simp; omega
  simp only [w_move, w_load, w_fieldAddr, w_binOp, w_len, w_aop, w_some, w_asome, w_anone, w_nil, w_cons, awp, binC, cmpC, asP, asQ, asB, asI, obA, AGet_zero, lenA, loadA, St.ev, St.step, setS, killS, AV.kill, AV.killL, Mem.kill, AV.cells, AV.flat, AV.single, ACond_false, List.getD_cons_succ, List.getD_cons_zero, List.set_cons_succ, List.set_cons_zero, List.getElem?_cons_succ, List.getElem?_cons_zero, List.length_cons, List.length_nil, List.contains_nil, List.contains_cons, List.isEmpty_nil, Bool.false_eq_true, if_false, if_true, true_and, and_true, List.all_cons, List.all_nil, Bool.and_true, Bool.true_and, Bool.not_true, Option.isSome_some, Nat.zero_add, decide_true, nbeq, decide_false, Bool.or_false, Bool.and_false, Nat.reduceAdd, Nat.reduceEqDiff, Nat.reduceLeDiff, Int.reduceAdd, ne_eq, not_false_eq_true, gtsA_len, ti3, ti22, ti81, rdO, gtsA_len, hol]
  by_cases h : out.length < c.length
  · have h' : (out.length : Int) < (c.length : Int) := by omega
    have hdl : 0 < d.length := by omega
    simp only [w_assign, w_load, w_fieldAddr, w_callF, w_aop, w_some, w_anone, w_nil, w_cons, awp, asP, asQ, asN, obA, AGet_zero, loadA, St.ev, St.step, setS, killS, AV.kill, AV.killL, Mem.kill, AV.cells, AV.flat, AV.single, ACond_true, ACond_false, List.getD_cons_succ, List.getD_cons_zero, List.set_cons_succ, List.set_cons_zero, List.getElem?_cons_succ, List.getElem?_cons_zero, List.length_cons, List.length_nil, List.contains_nil, List.contains_cons, List.isEmpty_nil, Option.getD_some, Bool.false_eq_true, if_false, if_true, true_and, and_true, List.all_cons, List.all_nil, Bool.and_true, Bool.true_and, Bool.not_true, Nat.zero_add, Nat.add_zero, beq_self_eq_true, List.map_cons, List.map_nil, decide_true, nbeq, decide_false, Bool.or_false, Bool.and_false, Nat.reduceAdd, Nat.reduceEqDiff, Nat.reduceLeDiff, Int.reduceAdd, ne_eq, not_false_eq_true, ti3, ti60, ti81, decide_eq_true h']
    refine acall_v (s58 d (by omega)) rfl rfl ?_
    simp only [w_makeFunc, w_callF, w_aop, w_cons, St.ev, St.step, setS, killS, AV.kill, AV.killL, Mem.kill, AV.single, AV.cellular, Value.oneCell', List.getD_cons_succ, List.getD_cons_zero, List.set_cons_succ, List.set_cons_zero, List.contains_nil, List.isEmpty_nil, Bool.false_eq_true, if_false, if_true, and_true, List.all_cons, List.all_nil, Bool.and_true, List.map_cons, List.map_nil]
    refine ⟨rfl, acall_l2 (s91 d (fsN G4.bound d d.length) 92 [.p (.g [.s 4 (gtsA d), I out.length]) 0] (List.length_pos_iff.2 (fsN_ne hdl)) (by have := fsI_len G4.bound d d.length; rw [fsI_lenN] at this; omega) (fun x hx => fsN_lt hx) rfl (fun i k hi hk => s92 d out.length i k hi hk)) (by simp [frz2, AV.sub, AV.subL, gtsA_pure, frz, gA, fsI]) rfl rfl ?_⟩
    simp only [w_assign, w_aop, w_anone, w_nil, w_cons, awp, asN, St.ev, St.step, setS, killS, AV.kill, AV.killL, Mem.kill, ACond_true, List.getD_cons_succ, List.getD_cons_zero, List.set_cons_succ, List.set_cons_zero, List.contains_nil, List.contains_cons, List.isEmpty_nil, Option.getD_some, Bool.false_eq_true, if_false, if_true, beq_self_eq_true, nbeq, decide_false, Bool.or_false, Bool.or_true, Nat.reduceAdd, Nat.reduceEqDiff, Int.reduceAdd]
    have hb := bst_lt G4.less G4.bound d hdl
    have hst := nmR_step G4.less G4.bound d hdl
    rw [show bstL G4.less d (fsN G4.bound d d.length) = bst G4.less G4.bound d from rfl]
    generalize bst G4.less G4.bound d = b at hb hst
    refine swp_fm (own := [3, 4]) 3 rfl rfl rfl ?_
    simp only [w_move, w_aop, w_nil, w_cons, St.ev, St.step, setS, killS, AV.kill, AV.killL, Mem.kill, List.getD_cons_succ, List.getD_cons_zero, List.set_cons_succ, List.set_cons_zero, List.contains_nil, List.isEmpty_nil, Bool.false_eq_true, if_false, if_true, List.map_cons, List.map_nil, List.take_succ_cons, List.take_zero]
    refine acall_f (s88f d out.length b hb (by omega) (by unfold lim; omega) [some ⟨none, 24, 4, gtsA (outL c.length out)⟩] (by simp [freeM, freeL_pure, gtsA_pure])) ?_
    simp only [w_store, w_indexAddr, w_aop, w_some, w_asome, w_anone, w_cons, idxC, asQ, asO, asS, asI, obA, St.ev, St.step, setS, killS, AV.kill, AV.killL, Mem.kill, List.getD_cons_succ, List.getD_cons_zero, List.set_cons_succ, List.set_cons_zero, List.getElem?_cons_succ, List.getElem?_cons_zero, List.contains_nil, List.isEmpty_nil, Bool.false_eq_true, if_false, if_true, true_and, and_true, Bool.and_true, Bool.true_and, beq_self_eq_true, List.map_cons, List.map_nil, nbeq, decide_false, Bool.or_false, Bool.and_false, List.getElem?_nil, Nat.reduceAdd, Nat.reduceEqDiff, Int.reduceAdd, gtsA_len, ti22, ti24, rdO, gtsA_len, hol, keepF, keepG, liveI, AV.sub, AV.subL, AV.isO, AV.isQ, List.any_cons, List.any_nil, gA, Int.toNat_natCast, List.drop_succ_cons, List.drop_zero]
    have hat : out.length < (outL c.length out).length := by omega
    have hset : (outL c.length out).set out.length ⟨d[b].k, d[b].a, d[b].b, d[b].t⟩ = outL c.length (out ++ [d[b]]) := by
      unfold outL
      rw [List.set_append_right _ _ (Nat.le_refl _), Nat.sub_self, List.length_append, List.length_singleton]
      obtain ⟨m, hm⟩ : ∃ m, c.length - out.length = m + 1 := ⟨c.length - out.length - 1, by omega⟩
      rw [hm, List.replicate_succ, List.set_cons_zero, show c.length - (out.length + 1) = m by omega]
      simp
    have hwl := wo_len d hb
    simp only [w_some, w_nil, storeA, putsA, St.ev, St.step, setS, killS, AV.kill, AV.killL, Mem.kill, AV.cells, AV.flat, AV.single, AV.cellular, List.getD_cons_succ, List.getD_cons_zero, List.set_cons_succ, List.set_cons_zero, List.length_cons, List.length_nil, List.contains_nil, List.isEmpty_nil, Bool.false_eq_true, if_false, if_true, and_true, List.all_cons, List.all_nil, Bool.and_true, Nat.zero_add, beq_self_eq_true, decide_true, Nat.reduceAdd, Nat.reduceLeDiff, Int.reduceAdd, aget_gts hat, gtsA_set, hset]
    rw [show ((out.length : Int) + 1) = (((out ++ [d[b]]).length : Nat) : Int) from by simp]
    refine ⟨by omega, (wo d b, out ++ [d[b]]), le_sl (by simp [leSl]), ⟨by simp; omega, ?_⟩, by simp only; omega⟩
    rw [hn, hst]
    simp [hb]
  · have h' : ¬ (out.length : Int) < (c.length : Int) := by omega
    simp only [w_move, w_assign, w_aop, w_anone, w_nil, w_cons, awp, asN, St.ev, St.step, setS, killS, AV.kill, AV.killL, Mem.kill, ACond_false, List.getD_cons_succ, List.getD_cons_zero, List.set_cons_succ, List.set_cons_zero, List.contains_nil, List.contains_cons, List.isEmpty_nil, Option.getD_some, Bool.false_eq_true, if_false, if_true, nbeq, decide_false, Bool.or_false, Nat.reduceAdd, Nat.reduceEqDiff, Int.reduceAdd, decide_eq_false h']
    have hdn : d = [] := List.eq_nil_of_length_eq_zero (by omega)
    subst hdn
    have hoe : outL c.length out = out := by unfold outL; rw [show c.length - out.length = 0 by omega]; simp
    rw [hn, nmR_nil, List.append_nil, hoe]
    exact aend_exp 1 rfl rfl (gtsA_pure _) ⟨rfl, rfl⟩

theorem s25o (n : Int) (c : List G4) (hl : c.length ≤ 10000) : ASpec Try.prog 25 [I n, .s 4 (gtsA c)] (fun r Ms => r = .t [.o 0, I (vC n c)] ∧ Ms = [⟨none, 24, 4, gtsA (if vC n c = 0 then nmS c else [])⟩]) := by
  refine aspec_of (own := [4]) Try.func25 rfl ok25 ?_
  simp only [w_move, w_assign, w_callF, w_aop, w_some, w_asome, w_anone, w_nil, w_cons, awp, asN, Aw.newRow, St.ev, St.step, setS, killS, AV.kill, AV.killL, Mem.kill, ACond_false, List.getD_cons_succ, List.getD_cons_zero, List.set_cons_succ, List.set_cons_zero, List.length_cons, List.length_nil, List.replicate_succ, List.replicate_zero, List.cons_append, List.nil_append, List.contains_nil, List.contains_cons, List.isEmpty_nil, Option.getD_some, Bool.false_eq_true, if_false, if_true, Nat.zero_add, Nat.add_zero, beq_self_eq_true, List.map_cons, List.map_nil, nbeq, decide_false, Bool.or_false, Nat.reduceAdd, Nat.reduceEqDiff, Nat.reduceSub, Int.reduceAdd, Int.reduceSub, ti22, ti24, Try.ntmps25]
  refine acall_v (s21 n c (by omega)) rfl rfl ?_
  simp only [w_move, w_assign, w_binOp, w_aop, w_some, w_asome, w_anone, w_nil, w_cons, awp, binC, cmpC, asB, asI, asN, St.ev, St.step, setS, killS, AV.kill, AV.killL, Mem.kill, ACond_false, List.getD_cons_succ, List.getD_cons_zero, List.set_cons_succ, List.set_cons_zero, List.contains_nil, List.contains_cons, List.isEmpty_nil, Option.getD_some, Bool.false_eq_true, if_false, if_true, true_and, Bool.true_and, nbeq, decide_false, Bool.or_false, Nat.reduceAdd, Nat.reduceEqDiff, Int.reduceAdd]
  by_cases hv : vC n c = 0
  · simp only [w_move, w_callF, w_aop, w_cons, awp, St.ev, St.step, setS, killS, AV.kill, AV.killL, Mem.kill, ACond_false, List.getD_cons_succ, List.getD_cons_zero, List.set_cons_succ, List.set_cons_zero, List.contains_nil, List.contains_cons, List.isEmpty_nil, Bool.false_eq_true, if_false, if_true, Bool.not_true, List.map_cons, List.map_nil, nbeq, decide_false, Bool.or_false, Nat.reduceAdd, Nat.reduceEqDiff, Int.reduceAdd, decide_eq_true hv]
    refine acall_o (s60o c hl) (by simp [AV.pureL, AV.pure, gtsA_pure]) (gtsA_pure _) ?_
    simp only [w_assign, w_aop, w_anone, w_nil, w_cons, awp, asN, St.ev, St.step, setS, killS, AV.kill, AV.killL, Mem.kill, List.getD_cons_succ, List.getD_cons_zero, List.set_cons_succ, List.set_cons_zero, List.length_cons, List.length_nil, List.cons_append, List.nil_append, List.contains_nil, List.contains_cons, List.isEmpty_nil, Option.getD_some, Bool.false_eq_true, if_false, if_true, Nat.zero_add, beq_self_eq_true, nbeq, decide_false, Bool.or_false, Nat.reduceEqDiff, AV.up, AV.sub, hv]
    rw [nm_bound (vC_Ok hv)]
    exact aend_exp 1 rfl rfl (gtsA_pure _) ⟨rfl, rfl⟩
  · simp only [w_move, w_assign, w_aop, w_some, w_asome, w_anone, w_nil, w_cons, awp, asN, Aw.newRow, St.ev, St.step, setS, killS, AV.kill, AV.killL, Mem.kill, ACond_true, ACond_false, List.getD_cons_succ, List.getD_cons_zero, List.set_cons_succ, List.set_cons_zero, List.length_cons, List.length_nil, List.cons_append, List.nil_append, List.contains_nil, List.contains_cons, List.isEmpty_nil, Option.getD_some, Bool.false_eq_true, if_false, if_true, Bool.not_false, Nat.zero_add, beq_self_eq_true, nbeq, decide_false, Bool.or_false, Nat.reduceAdd, Nat.reduceEqDiff, Int.reduceAdd, ti22, ti24, decide_eq_false hv]
    rw [if_neg hv]
    exact aend_exp 1 rfl rfl rfl ⟨rfl, rfl⟩
end Go.Proofs.Ytkmbbbemmohmcaa

namespace Go.Proofs.Ytkmbbbemmohmcaa
open Aw Go.RowKit
set_option linter.unusedSimpArgs false

theorem ok9 : okFn Try.prog 9 = true := by kernel_rfl
set_option maxRecDepth 20000 in
set_option maxHeartbeats 1000000 in
theorem s9 (n : Int) (c : List G4) : ASpec Try.prog 9 [I n, .s 4 (gtsA c)] (fun r Ms => r = B true ∧ Ms = []) := by
  refine aspec_of (own := [17]) Try.func9 rfl ok9 ?_
  simp only [w_move, w_assign, w_callF, w_aop, w_anone, w_nil, w_cons, awp, asN, St.ev, St.step, setS, killS, AV.kill, AV.killL, Mem.kill, ACond_false, List.getD_cons_succ, List.getD_cons_zero, List.set_cons_succ, List.set_cons_zero, List.length_cons, List.length_nil, List.replicate_succ, List.replicate_zero, List.cons_append, List.nil_append, List.contains_nil, List.contains_cons, List.isEmpty_nil, Option.getD_some, Bool.false_eq_true, if_false, if_true, Nat.zero_add, Nat.add_zero, List.map_cons, List.map_nil, nbeq, decide_false, Bool.or_false, Nat.reduceAdd, Nat.reduceEqDiff, Nat.reduceSub, Int.reduceAdd, Int.reduceSub, Try.ntmps9]
  refine acall_v (s19 c) rfl rfl ?_
  by_cases hl : 50 < c.length
  · simp only [w_callF, w_aop, w_some, w_nil, w_cons, awp, asB, St.ev, St.step, setS, killS, AV.kill, AV.killL, Mem.kill, ACond_true, ACond_false, List.getD_cons_succ, List.getD_cons_zero, List.set_cons_succ, List.set_cons_zero, List.contains_nil, List.contains_cons, List.isEmpty_nil, if_true, List.map_nil, nbeq, decide_false, Bool.or_false, Nat.reduceAdd, Nat.reduceEqDiff, Int.reduceAdd, decide_eq_true hl]
    refine acall_v s32 rfl rfl ?_
    simp only [w_assign, w_aop, w_anone, w_nil, w_cons, awp, asN, St.ev, St.step, setS, killS, AV.kill, AV.killL, Mem.kill, List.getD_cons_succ, List.getD_cons_zero, List.set_cons_succ, List.set_cons_zero, List.contains_nil, List.contains_cons, List.isEmpty_nil, Option.getD_some, Bool.false_eq_true, if_false, if_true, nbeq, decide_false, Bool.or_false, Nat.reduceEqDiff]
    exact aend_frz rfl ⟨rfl, rfl⟩
  simp only [w_move, w_assign, w_buildSlice, w_callF, w_append, w_aop, w_some, w_asome, w_anone, w_nil, w_cons, awp, asO, asS, asB, asN, obA, Aw.newRow, St.ev, St.step, setS, killS, AV.kill, AV.killL, Mem.kill, AV.cells, AV.flat, AV.single, AV.cellular, ACond_true, ACond_false, Value.oneCell', List.getD_cons_succ, List.getD_cons_zero, List.set_cons_succ, List.set_cons_zero, List.getElem?_cons_zero, List.length_nil, List.nil_append, List.contains_nil, List.contains_cons, List.isEmpty_nil, List.isEmpty_cons, Option.getD_some, Bool.false_eq_true, if_false, if_true, true_and, and_true, List.all_nil, Bool.and_true, Bool.true_and, Nat.zero_add, beq_self_eq_true, List.map_cons, List.map_nil, nbeq, decide_false, Bool.or_false, Nat.reduceAdd, Nat.reduceEqDiff, Nat.reduceMul, Nat.reduceLeDiff, Int.reduceAdd, Int.reduceMul, Option.map_some, gtsA_len, ti22, ti24, decide_eq_false hl, gtsA_len]
  refine ⟨⟨by decide, rfl⟩, ⟨by decide, by omega⟩, ?_⟩
  refine acall_lo (s25o n c (by omega)) (by simp [frz, AV.sub, gtsA_pure]) (gtsA_pure _) rfl (gtsA_tfree _) ?_
  have h2 := s42 n c (by omega)
  have hcc := s29 c c (by omega) (by omega)
  rw [decide_eq_true rfl] at hcc
  by_cases hv : vC n c = 0
  · have h10 := vC_len hv
    have hnl := nmS_len c
    rw [if_pos hv, hv, nm_bdr (vC_Ok hv)] at h2
    have h3 := s29 (nmS c) (nmS c) (by omega) (by omega)
    rw [decide_eq_true rfl] at h3
    have h4 := s26 n c (nmS c) (by omega) (by omega)
    rw [vC2_of hv (vC_nm hv), nmS_idem, decide_eq_true rfl, decide_eq_true rfl] at h4
    have h4 : ASpec Try.prog 26 [I n, .s 4 (gtsA c), .s 4 (gtsA (nmS c))] (fun r Ms => r = .t [B true, I 0] ∧ Ms = []) := h4
    simp only [w_move, w_assign, w_extract, w_callF, w_aop, w_some, w_anone, w_nil, w_cons, awp, asT, asN, St.ev, St.step, setS, killS, AV.kill, AV.killL, Mem.kill, ACond_false, List.getD_cons_succ, List.getD_cons_zero, List.set_cons_succ, List.set_cons_zero, List.getElem?_cons_succ, List.getElem?_cons_zero, List.length_cons, List.length_nil, List.cons_append, List.nil_append, List.contains_nil, List.contains_cons, List.isEmpty_nil, Option.getD_some, Bool.false_eq_true, if_false, if_true, Nat.zero_add, List.map_cons, List.map_nil, nbeq, decide_false, Bool.or_false, Nat.reduceAdd, Nat.reduceEqDiff, Int.reduceAdd, AV.up, AV.sub, AV.subL, if_pos hv, hv]
    refine acall_v h2 rfl rfl ?_
    simp only [w_move, w_assign, w_binOp, w_extract, w_callF, w_aop, w_aopg, w_gdb, w_some, w_asome, w_anone, w_nil, w_cons, awp, binC, cmpC, asT, asI, asN, St.ev, St.step, setS, killS, AV.kill, AV.killL, Mem.kill, ACond_true, ACond_false, List.getD_cons_succ, List.getD_cons_zero, List.set_cons_succ, List.set_cons_zero, List.getElem?_cons_succ, List.getElem?_cons_zero, List.contains_nil, List.contains_cons, List.isEmpty_nil, Option.getD_some, Bool.false_eq_true, if_false, if_true, true_and, Bool.true_and, Bool.not_true, beq_self_eq_true, List.map_cons, List.map_nil, decide_true, nbeq, decide_false, Bool.or_false, Nat.reduceAdd, Nat.reduceEqDiff, Int.reduceAdd, Option.bind_some]
    refine acall_l h3 (by simp [frz, AV.sub, gtsA_pure, hv]) rfl rfl ?_
    simp only [w_move, w_pick, w_not, w_callF, w_aop, w_aopg, w_gdb, w_some, w_nil, w_cons, awp, asB, St.ev, St.step, setS, killS, AV.kill, AV.killL, Mem.kill, ACond_true, ACond_false, List.getD_cons_succ, List.getD_cons_zero, List.set_cons_succ, List.set_cons_zero, List.getElem?_cons_succ, List.getElem?_cons_zero, List.contains_nil, List.contains_cons, List.isEmpty_nil, Bool.false_eq_true, if_false, if_true, Bool.not_true, beq_self_eq_true, List.map_cons, List.map_nil, nbeq, decide_false, Bool.or_false, Nat.reduceAdd, Nat.reduceEqDiff, Int.reduceAdd, Option.bind_some]
    refine acall_l h4 (by simp [frz, AV.sub, gtsA_pure, hv]) rfl rfl ?_
    simp only [w_move, w_assign, w_pick, w_binOp, w_extract, w_aop, w_aopg, w_gdb, w_some, w_asome, w_anone, w_nil, w_cons, awp, binC, cmpC, asT, asB, asI, asN, St.ev, St.step, setS, killS, AV.kill, AV.killL, Mem.kill, ACond_true, ACond_false, List.getD_cons_succ, List.getD_cons_zero, List.set_cons_succ, List.set_cons_zero, List.getElem?_cons_succ, List.getElem?_cons_zero, List.contains_nil, List.contains_cons, List.isEmpty_nil, Option.getD_some, Bool.false_eq_true, if_false, if_true, true_and, Bool.true_and, Bool.not_true, beq_self_eq_true, decide_true, nbeq, decide_false, Bool.or_false, Nat.reduceAdd, Nat.reduceEqDiff, Int.reduceAdd, Int.reduceNeg, Option.bind_some]
    refine swp_loop' (fun p : Nat × List G4 => ⟨[I n, .s 4 (gtsA c), .bot, .bot, .bot, .o 0, .o 1, .bot, .bot, .bot, .bot, .bot, B true, I p.1, .bot, .bot, .bot, .bot, .bot, .bot, .bot, .bot, .bot, .bot, .bot, .bot, .bot, .bot, .bot, .bot, .bot, .bot, .bot, .bot, .bot, .bot, .bot, .bot, .bot, .bot, .bot, .bot, .bot, .bot, .bot, .bot, .bot, .bot, .bot, .bot, .bot, .bot, .bot, .bot, .bot, .bot, .bot, .bot, .bot, .bot, .bot, .bot, .bot, .bot, .bot, .bot, .bot, .bot, .bot, .bot, .bot, .bot, .bot, .bot, .bot, .bot], [some ⟨none, 24, 4, gtsA c⟩, some ⟨none, 24, 4, gtsA p.2⟩]⟩) (fun p => p.1 ≤ p.2.length ∧ p.2.length ≤ 10) (fun p => p.2.length - p.1) (0, nmS c) (le_sl (by simp [leSl])) ⟨Nat.zero_le _, by first | (simp only; omega) | decide⟩ ?_
    rintro ⟨i, d⟩ ⟨hi, hd⟩
    simp only at hi hd
    refine awp_sound (own := [17]) _ _ _ _ _ ?_
    simp only [w_move, w_binOp, w_len, w_aop, w_some, w_asome, w_nil, w_cons, awp, binC, cmpC, asB, asI, lenA, St.ev, St.step, setS, killS, AV.kill, AV.killL, Mem.kill, ACond_false, List.getD_cons_succ, List.getD_cons_zero, List.set_cons_succ, List.set_cons_zero, List.getElem?_cons_succ, List.getElem?_cons_zero, List.contains_nil, List.contains_cons, List.isEmpty_nil, Bool.false_eq_true, if_false, if_true, true_and, Bool.true_and, Option.isSome_some, nbeq, decide_false, Bool.or_false, Nat.reduceAdd, Nat.reduceEqDiff, Int.reduceAdd, gtsA_len, ti22, gtsA_len]
    by_cases h : i < d.length
    · have h' : (i : Int) < (d.length : Int) := by omega
      simp only [w_move, w_assign, w_store, w_fieldAddr, w_indexAddr, w_binOp, w_aop, w_some, w_asome, w_anone, w_nil, w_cons, awp, binC, idxC, arithC, cmpC, asP, asQ, asO, asS, asI, asN, obA, storeA, putsA, St.ev, St.step, setS, killS, AV.kill, AV.killL, Mem.kill, AV.cells, AV.flat, AV.single, AV.cellular, ACond_true, ACond_false, Value.oneCell', List.getD_cons_succ, List.getD_cons_zero, List.set_cons_succ, List.set_cons_zero, List.getElem?_cons_succ, List.getElem?_cons_zero, List.length_cons, List.length_nil, List.contains_nil, List.contains_cons, List.isEmpty_nil, Option.getD_some, Bool.false_eq_true, if_false, if_true, true_and, and_true, List.all_cons, List.all_nil, Bool.and_true, Bool.true_and, Nat.zero_add, beq_self_eq_true, decide_true, nbeq, decide_false, Bool.or_false, Nat.reduceAdd, Nat.reduceEqDiff, Nat.reduceLeDiff, Int.reduceAdd, Int.reduceNeg, ne_eq, not_false_eq_true, gtsA_len, ti3, ti22, ti24, decide_eq_true h', gtsA_len, aget_gts h, Int.toNat_natCast, gtsA_set]
      exact ⟨by omega, by unfold lim; omega, (i + 1, d.set i ⟨d[i].k, d[i].a, d[i].b, -1⟩), le_sl (by simp [leSl]), ⟨by simp; omega, by simp; exact hd⟩, by simp; omega⟩
    · have h' : ¬ (i : Int) < (d.length : Int) := by omega
      simp only [w_move, w_callF, w_aop, w_aopg, w_gdb, w_some, w_cons, awp, St.ev, St.step, setS, killS, AV.kill, AV.killL, Mem.kill, ACond_true, ACond_false, List.getD_cons_succ, List.getD_cons_zero, List.set_cons_succ, List.set_cons_zero, List.getElem?_cons_succ, List.getElem?_cons_zero, List.contains_nil, List.contains_cons, List.isEmpty_nil, Bool.false_eq_true, if_false, if_true, beq_self_eq_true, List.map_cons, List.map_nil, nbeq, decide_false, Bool.or_false, Nat.reduceAdd, Nat.reduceEqDiff, Int.reduceAdd, Option.bind_some, decide_eq_false h']
      refine acall_l hcc (by simp [frz, AV.sub, gtsA_pure]) rfl rfl ?_
      simp only [w_move, w_pick, w_callF, w_aop, w_aopg, w_gdb, w_some, w_cons, asB, St.ev, St.step, setS, killS, AV.kill, AV.killL, Mem.kill, ACond_true, List.getD_cons_succ, List.getD_cons_zero, List.set_cons_succ, List.set_cons_zero, List.getElem?_cons_succ, List.getElem?_cons_zero, List.contains_nil, List.isEmpty_nil, Bool.false_eq_true, if_false, if_true, beq_self_eq_true, List.map_nil, Option.bind_some]
      refine acall_v s32 rfl rfl ?_
      simp only [w_assign, w_pick, w_aop, w_some, w_anone, w_nil, w_cons, awp, asB, asN, St.ev, St.step, setS, killS, AV.kill, AV.killL, Mem.kill, ACond_true, List.getD_cons_succ, List.getD_cons_zero, List.set_cons_succ, List.set_cons_zero, List.contains_nil, List.contains_cons, List.isEmpty_nil, Option.getD_some, Bool.false_eq_true, if_false, if_true, nbeq, decide_false, Bool.or_false, Nat.reduceEqDiff]
      exact aend_frz rfl ⟨rfl, rfl⟩
  · rw [if_neg hv] at h2
    have h3 := s29 [] [] (by decide) (by decide)
    rw [decide_eq_true rfl] at h3
    have h4 := s26 n c [] (by omega) (by decide)
    have hv2 : vC2 n c [] = vC n c := by rw [vC2, if_neg hv]
    rw [hv2, decide_eq_false hv, Bool.false_and] at h4
    simp only [w_move, w_assign, w_extract, w_callF, w_aop, w_some, w_anone, w_nil, w_cons, awp, asT, asN, St.ev, St.step, setS, killS, AV.kill, AV.killL, Mem.kill, ACond_false, List.getD_cons_succ, List.getD_cons_zero, List.set_cons_succ, List.set_cons_zero, List.getElem?_cons_succ, List.getElem?_cons_zero, List.length_cons, List.length_nil, List.cons_append, List.nil_append, List.contains_nil, List.contains_cons, List.isEmpty_nil, Option.getD_some, Bool.false_eq_true, if_false, if_true, Nat.zero_add, List.map_cons, List.map_nil, nbeq, decide_false, Bool.or_false, Nat.reduceAdd, Nat.reduceEqDiff, Int.reduceAdd, AV.up, AV.sub, AV.subL, if_neg hv]
    generalize vC n c = E at h2 h4 hv
    refine acall_v h2 rfl rfl ?_
    simp only [w_move, w_assign, w_binOp, w_extract, w_callF, w_aop, w_aopg, w_gdb, w_some, w_asome, w_anone, w_nil, w_cons, awp, binC, cmpC, asT, asI, asN, St.ev, St.step, setS, killS, AV.kill, AV.killL, Mem.kill, ACond_true, ACond_false, List.getD_cons_succ, List.getD_cons_zero, List.set_cons_succ, List.set_cons_zero, List.getElem?_cons_succ, List.getElem?_cons_zero, List.contains_nil, List.contains_cons, List.isEmpty_nil, Option.getD_some, Bool.false_eq_true, if_false, if_true, true_and, Bool.true_and, Bool.not_true, beq_self_eq_true, List.map_cons, List.map_nil, decide_true, nbeq, decide_false, Bool.or_false, Nat.reduceAdd, Nat.reduceEqDiff, Int.reduceAdd, Option.bind_some]
    refine acall_l h3 (by simp [frz, AV.sub, gtsA_pure]) rfl rfl ?_
    simp only [w_move, w_pick, w_not, w_callF, w_aop, w_aopg, w_gdb, w_some, w_nil, w_cons, awp, asB, St.ev, St.step, setS, killS, AV.kill, AV.killL, Mem.kill, ACond_true, ACond_false, List.getD_cons_succ, List.getD_cons_zero, List.set_cons_succ, List.set_cons_zero, List.getElem?_cons_succ, List.getElem?_cons_zero, List.contains_nil, List.contains_cons, List.isEmpty_nil, Bool.false_eq_true, if_false, if_true, Bool.not_true, beq_self_eq_true, List.map_cons, List.map_nil, nbeq, decide_false, Bool.or_false, Nat.reduceAdd, Nat.reduceEqDiff, Int.reduceAdd, Option.bind_some]
    refine acall_l h4 (by simp [frz, AV.sub, gtsA_pure]) rfl rfl ?_
    simp only [w_move, w_assign, w_pick, w_binOp, w_extract, w_aop, w_aopg, w_gdb, w_gdu, w_some, w_asome, w_anone, w_nil, w_cons, awp, binC, cmpC, asT, asB, asI, asN, St.ev, St.step, setS, killS, AV.kill, AV.killL, Mem.kill, ACond_true, ACond_false, List.getD_cons_succ, List.getD_cons_zero, List.set_cons_succ, List.set_cons_zero, List.getElem?_cons_succ, List.getElem?_cons_zero, List.contains_nil, List.contains_cons, List.isEmpty_nil, Option.getD_some, Bool.false_eq_true, if_false, if_true, true_and, Bool.true_and, Bool.not_true, Bool.not_false, nbeq, decide_false, Bool.or_false, Nat.reduceAdd, Nat.reduceEqDiff, Int.reduceAdd, Int.reduceNeg, Option.bind_some, w_bf, decide_eq_false hv]
    refine swp_loop' (fun p : Nat × List G4 => ⟨[I n, .s 4 (gtsA c), .bot, .bot, .bot, .o 0, .o 1, .bot, .bot, .bot, .bot, .bot, B true, I p.1, .bot, .bot, .bot, .bot, .bot, .bot, .bot, .bot, .bot, .bot, .bot, .bot, .bot, .bot, .bot, .bot, .bot, .bot, .bot, .bot, .bot, .bot, .bot, .bot, .bot, .bot, .bot, .bot, .bot, .bot, .bot, .bot, .bot, .bot, .bot, .bot, .bot, .bot, .bot, .bot, .bot, .bot, .bot, .bot, .bot, .bot, .bot, .bot, .bot, .bot, .bot, .bot, .bot, .bot, .bot, .bot, .bot, .bot, .bot, .bot, .bot, .bot], [some ⟨none, 24, 4, gtsA c⟩, some ⟨none, 24, 4, gtsA p.2⟩]⟩) (fun p => p.1 ≤ p.2.length ∧ p.2.length ≤ 10) (fun p => p.2.length - p.1) (0, ([] : List G4)) (le_sl (by simp [leSl])) ⟨Nat.zero_le _, by first | (simp only; omega) | decide⟩ ?_
    rintro ⟨i, d⟩ ⟨hi, hd⟩
    simp only at hi hd
    refine awp_sound (own := [17]) _ _ _ _ _ ?_
    simp only [w_move, w_binOp, w_len, w_aop, w_some, w_asome, w_nil, w_cons, awp, binC, cmpC, asB, asI, lenA, St.ev, St.step, setS, killS, AV.kill, AV.killL, Mem.kill, ACond_false, List.getD_cons_succ, List.getD_cons_zero, List.set_cons_succ, List.set_cons_zero, List.getElem?_cons_succ, List.getElem?_cons_zero, List.contains_nil, List.contains_cons, List.isEmpty_nil, Bool.false_eq_true, if_false, if_true, true_and, Bool.true_and, Option.isSome_some, nbeq, decide_false, Bool.or_false, Nat.reduceAdd, Nat.reduceEqDiff, Int.reduceAdd, gtsA_len, ti22, gtsA_len]
    by_cases h : i < d.length
    · have h' : (i : Int) < (d.length : Int) := by omega
      simp only [w_move, w_assign, w_store, w_fieldAddr, w_indexAddr, w_binOp, w_aop, w_some, w_asome, w_anone, w_nil, w_cons, awp, binC, idxC, arithC, cmpC, asP, asQ, asO, asS, asI, asN, obA, storeA, putsA, St.ev, St.step, setS, killS, AV.kill, AV.killL, Mem.kill, AV.cells, AV.flat, AV.single, AV.cellular, ACond_true, ACond_false, Value.oneCell', List.getD_cons_succ, List.getD_cons_zero, List.set_cons_succ, List.set_cons_zero, List.getElem?_cons_succ, List.getElem?_cons_zero, List.length_cons, List.length_nil, List.contains_nil, List.contains_cons, List.isEmpty_nil, Option.getD_some, Bool.false_eq_true, if_false, if_true, true_and, and_true, List.all_cons, List.all_nil, Bool.and_true, Bool.true_and, Nat.zero_add, beq_self_eq_true, decide_true, nbeq, decide_false, Bool.or_false, Nat.reduceAdd, Nat.reduceEqDiff, Nat.reduceLeDiff, Int.reduceAdd, Int.reduceNeg, ne_eq, not_false_eq_true, gtsA_len, ti3, ti22, ti24, decide_eq_true h', gtsA_len, aget_gts h, Int.toNat_natCast, gtsA_set]
      exact ⟨by omega, by unfold lim; omega, (i + 1, d.set i ⟨d[i].k, d[i].a, d[i].b, -1⟩), le_sl (by simp [leSl]), ⟨by simp; omega, by simp; exact hd⟩, by simp; omega⟩
    · have h' : ¬ (i : Int) < (d.length : Int) := by omega
      simp only [w_move, w_callF, w_aop, w_aopg, w_gdb, w_some, w_cons, awp, St.ev, St.step, setS, killS, AV.kill, AV.killL, Mem.kill, ACond_true, ACond_false, List.getD_cons_succ, List.getD_cons_zero, List.set_cons_succ, List.set_cons_zero, List.getElem?_cons_succ, List.getElem?_cons_zero, List.contains_nil, List.contains_cons, List.isEmpty_nil, Bool.false_eq_true, if_false, if_true, beq_self_eq_true, List.map_cons, List.map_nil, nbeq, decide_false, Bool.or_false, Nat.reduceAdd, Nat.reduceEqDiff, Int.reduceAdd, Option.bind_some, decide_eq_false h']
      refine acall_l hcc (by simp [frz, AV.sub, gtsA_pure]) rfl rfl ?_
      simp only [w_move, w_pick, w_callF, w_aop, w_aopg, w_gdb, w_some, w_cons, asB, St.ev, St.step, setS, killS, AV.kill, AV.killL, Mem.kill, ACond_true, List.getD_cons_succ, List.getD_cons_zero, List.set_cons_succ, List.set_cons_zero, List.getElem?_cons_succ, List.getElem?_cons_zero, List.contains_nil, List.isEmpty_nil, Bool.false_eq_true, if_false, if_true, beq_self_eq_true, List.map_nil, Option.bind_some]
      refine acall_v s32 rfl rfl ?_
      simp only [w_assign, w_pick, w_aop, w_some, w_anone, w_nil, w_cons, awp, asB, asN, St.ev, St.step, setS, killS, AV.kill, AV.killL, Mem.kill, ACond_true, List.getD_cons_succ, List.getD_cons_zero, List.set_cons_succ, List.set_cons_zero, List.contains_nil, List.contains_cons, List.isEmpty_nil, Option.getD_some, Bool.false_eq_true, if_false, if_true, nbeq, decide_false, Bool.or_false, Nat.reduceEqDiff]
      exact aend_frz rfl ⟨rfl, rfl⟩
end Go.Proofs.Ytkmbbbemmohmcaa
