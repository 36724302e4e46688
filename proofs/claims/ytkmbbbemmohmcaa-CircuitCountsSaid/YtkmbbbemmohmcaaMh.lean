/-
  Several texts in one: CuE, CuF, CuG, CuH.
-/
import Derived.Test.YtkmbbbemmohmcaaMg
import Derived.Test.YtkmbbbemmohmcaaMw
set_option linter.unusedSimpArgs false
set_option linter.unusedVariables false
namespace Go.Proofs.Ytkmbbbemmohmcaa
open Aw Go.RowKit
set_option linter.unusedSimpArgs false

theorem gtsA_sub (F : Nat → AV) (G : Nat → Nat → Nat → Nat → AV) : ∀ l : List G4, AV.subL F G (gtsA l) = gtsA l
  | [] => rfl
  | x :: l => by
    show AV.sub F G (gA x) :: AV.subL F G (gtsA l) = gA x :: gtsA l
    rw [gtsA_sub F G l]
    rfl

theorem s78o (c : List G4) (i : Nat) (hi : i < c.length) (hl : c.length ≤ 10000) : ASpec Try.prog 78 [.s 4 (gtsA c), I i] (fun r Ms => r = .o 0 ∧ Ms = [⟨none, 24, 4, gtsA (wo c i)⟩]) := by
  refine aspec_of (own := [5]) Try.func78 rfl ok78 ?_
  simp only [w_assign, w_aop, w_anone, w_nil, w_cons, awp, asN, St.ev, St.step, setS, killS, AV.kill, AV.killL, Mem.kill, ACond_false, List.set_cons_succ, List.set_cons_zero, List.length_cons, List.length_nil, List.replicate_succ, List.replicate_zero, List.cons_append, List.nil_append, List.contains_nil, List.contains_cons, List.isEmpty_nil, Option.getD_some, Bool.false_eq_true, if_false, if_true, Nat.zero_add, Nat.add_zero, nbeq, decide_false, Bool.or_false, Nat.reduceAdd, Nat.reduceEqDiff, Nat.reduceSub, Int.reduceAdd, Int.reduceSub, Try.ntmps78]
  refine swp_draw (own := [5]) (.take 1 .plain [] (.take 2 .plain [] (.take 3 .plain [] (.take 5 .over [0] (.take 6 .over [1] (.take 7 .over [11] (.take 8 .over [10, 12] (.alt 0 (.alt 4 (.alt 9 (.take 10 .plain [] (.done)) (.nil)) (.nil)) (.nil))))))))) [⟨6, 0, 0, 0, false⟩, ⟨7, 1, 0, 0, true⟩, ⟨8, 2, 0, 0, true⟩, ⟨9, 192, 6, 0, true⟩, ⟨10, 288, 9, 2, false⟩, ⟨11, 1, 0, 0, true⟩, ⟨12, 2, 0, 0, true⟩, ⟨13, 2048, 64, 0, true⟩, ⟨14, 5120, 160, 0, true⟩, ⟨15, 8704, 272, 2, false⟩, ⟨5, 16384, 1023, 0, true⟩] mo (by kernel_rfl) ?_
  simp only [w_move, w_assign, w_binOp, w_buildSlice, w_slice, w_append, w_aop, w_take, w_some, w_asome, w_anone, awp, binC, arithC, cmpC, asO, asS, asI, asN, obA, bndA, Aw.newRow, St.ev, St.step, setS, killS, AV.kill, AV.killL, Mem.kill, AV.cells, AV.flat, AV.single, AV.cellular, AV.pure, ACond_true, Value.oneCell', List.getD_cons_succ, List.getD_cons_zero, List.set_cons_succ, List.set_cons_zero, List.getElem?_cons_succ, List.getElem?_cons_zero, List.length_nil, List.nil_append, List.contains_nil, List.contains_cons, List.isEmpty_nil, List.isEmpty_cons, Option.getD_some, Option.getD_none, Bool.false_eq_true, if_false, if_true, true_and, and_true, List.all_cons, List.all_nil, Bool.and_true, Bool.true_and, Nat.zero_add, beq_self_eq_true, List.map_cons, List.map_nil, nbeq, decide_false, Bool.or_false, Nat.reduceEqDiff, Nat.reduceMul, Nat.reduceLeDiff, Int.reduceMul, Int.reduceLE, Int.toNat_zero, ASch, St.put, Md.mem, Md.need, Option.map_some, gtsA_len, ti22, ti24]
  have e1 : List.drop 0 (List.take (i : Int).toNat (gtsA c)) = gtsA (c.take i) := by rw [List.drop_zero, Int.toNat_natCast, gtsA_take]
  have e2 : List.drop ((i : Int) + 1).toNat (List.take (c.length : Int).toNat (gtsA c)) = gtsA (c.drop (i + 1)) := by
    rw [show ((i : Int) + 1).toNat = i + 1 by omega, Int.toNat_natCast, gtsA_take, List.take_length, gtsA_drop]
  simp only [e1, e2, gtsA_kill, gtsA_join, gtsA_len]
  have hlt : (c.take i).length ≤ 10000 := by simp; omega
  have hld : (c.drop (i + 1)).length ≤ 10000 := by simp; omega
  refine ⟨by omega, by unfold lim; omega, by omega, ⟨by decide, rfl⟩, ⟨by decide, by omega⟩, ⟨by decide, by omega⟩, ?_⟩
  exact aend_exp 0 rfl rfl (gtsA_pure _) ⟨rfl, rfl⟩

theorem ok72 : okFn Try.prog 72 = true := by kernel_rfl
set_option maxHeartbeats 1000000 in
theorem s72 (c : List G4) (hl : c.length ≤ 10000) (ho : Ok c) : ASpec Try.prog 72 [.s 4 (gtsA c)] (fun r Ms => r = .s 4 (gtsA (red c)) ∧ Ms = []) := by
  refine aspec_of (own := [7, 1004]) Try.func72 rfl ok72 ?_
  simp only [w_move, w_assign, w_buildSlice, w_append, w_aop, w_some, w_asome, w_anone, w_nil, w_cons, awp, asO, asS, asN, obA, Aw.newRow, St.ev, St.step, setS, killS, AV.kill, AV.killL, Mem.kill, AV.cells, AV.flat, AV.single, AV.cellular, ACond_true, ACond_false, Value.oneCell', List.getD_cons_succ, List.getD_cons_zero, List.set_cons_succ, List.set_cons_zero, List.getElem?_cons_zero, List.length_cons, List.length_nil, List.replicate_succ, List.replicate_zero, List.cons_append, List.nil_append, List.contains_nil, List.contains_cons, List.isEmpty_nil, List.isEmpty_cons, Option.getD_some, Bool.false_eq_true, if_false, if_true, true_and, and_true, List.all_nil, Bool.and_true, Bool.true_and, Nat.zero_add, Nat.add_zero, beq_self_eq_true, List.map_cons, List.map_nil, nbeq, decide_false, Bool.or_false, Nat.reduceAdd, Nat.reduceEqDiff, Nat.reduceMul, Nat.reduceSub, Nat.reduceLeDiff, Int.reduceAdd, Int.reduceSub, Int.reduceMul, Option.map_some, gtsA_len, ti22, ti24, Try.ntmps72, gtsA_len]
  refine ⟨⟨by decide, rfl⟩, ⟨by decide, by omega⟩, ?_⟩
  refine swp_loop' (fun d : List G4 => ⟨[.o 0, .bot, .bot, .bot, .bot, .bot, .bot, .bot, .bot, .bot, .bot, .bot, .bot, .bot, .bot, .bot, .bot, .bot, .bot, .bot, .bot, .bot, .bot, .bot, .bot, .bot, .bot, .bot, .bot, .bot, .bot, .bot, .bot, .bot, .bot, .bot, .bot, .bot, .bot, .bot, .bot, .bot, .bot, .bot, .bot, .bot, .bot, .bot, .bot], [some ⟨none, 24, 4, gtsA d⟩]⟩) (fun d => Ok d ∧ d.length ≤ c.length ∧ red c = red d) (fun d => d.length) c (le_sl (by simp [leSl])) ⟨ho, Nat.le_refl _, rfl⟩ ?_
  rintro d ⟨hd, hdl, hr⟩
  refine awp_sound (own := [7, 1004]) _ _ _ _ _ ?_
  simp only [w_move, w_callF, w_aop, w_cons, awp, St.ev, St.step, setS, killS, AV.kill, AV.killL, Mem.kill, ACond_false, List.getD_cons_succ, List.getD_cons_zero, List.set_cons_succ, List.set_cons_zero, List.contains_nil, List.contains_cons, List.isEmpty_nil, Bool.false_eq_true, if_false, if_true, List.map_cons, List.map_nil, nbeq, decide_false, Bool.or_false, Nat.reduceAdd, Nat.reduceEqDiff, Int.reduceAdd]
  refine acall_l (s67 d (by omega)) (by simp [frz, AV.sub, gtsA_pure]) (by cases mt d <;> rfl) (by cases mt d <;> rfl) ?_
  cases hm : mt d with
  | none =>
    simp only [w_move, w_assign, w_not, w_extract, w_aop, w_some, w_anone, w_nil, w_cons, awp, asT, asB, asN, St.ev, St.step, setS, killS, AV.kill, AV.killL, Mem.kill, ACond_true, ACond_false, List.getD_cons_succ, List.getD_cons_zero, List.set_cons_succ, List.set_cons_zero, List.getElem?_cons_succ, List.getElem?_cons_zero, List.contains_nil, List.contains_cons, List.isEmpty_nil, Option.getD_some, Bool.false_eq_true, if_false, if_true, Bool.not_false, beq_self_eq_true, nbeq, decide_false, Bool.or_false, Bool.or_true, Nat.reduceAdd, Nat.reduceEqDiff, Int.reduceAdd, mtA]
    refine swp_le (le_frz 0 rfl (gtsA_pure d)) (swp_text (own := [7]) ?_)
    simp only [w_move, w_callF, w_aop, w_cons, St.ev, St.step, setS, killS, AV.kill, AV.killL, Mem.kill, List.getD_cons_succ, List.getD_cons_zero, List.set_cons_succ, List.set_cons_zero, List.isEmpty_nil, if_true, List.map_cons, List.map_nil, Option.map_none, frz1, frzM, AV.sub, AV.subL]
    refine acall_v (s76 d (by omega)) rfl rfl ?_
    simp only [w_assign, w_aop, w_anone, w_nil, w_cons, awp, asN, St.ev, St.step, setS, killS, AV.kill, AV.killL, Mem.kill, List.getD_cons_succ, List.getD_cons_zero, List.set_cons_succ, List.set_cons_zero, List.contains_nil, List.contains_cons, List.isEmpty_nil, Option.getD_some, Bool.false_eq_true, if_false, if_true, nbeq, decide_false, Bool.or_false, Nat.reduceEqDiff]
    refine aend_frz rfl ⟨?_, rfl⟩
    rw [hr, red_none hm, nm_bdr hd]
    rfl
  | some p =>
    obtain ⟨i, k⟩ := p
    have hik := mt_lt hd hm
    have hrs := red_step hd hm
    have hlt := rstep_len hd hm
    have hok := rstep_ok hd hm
    have hi : i < d.length := by omega
    have hk : k < d.length := hik.2
    have hit := hd d[i] (List.getElem_mem hi)
    have hkt := hd d[k] (List.getElem_mem hk)
    unfold okT at hit hkt
    simp only [w_move, w_assign, w_not, w_extract, w_aop, w_some, w_anone, w_nil, w_cons, awp, asT, asB, asN, St.ev, St.step, setS, killS, AV.kill, AV.killL, Mem.kill, ACond_false, List.getD_cons_succ, List.getD_cons_zero, List.set_cons_succ, List.set_cons_zero, List.getElem?_cons_succ, List.getElem?_cons_zero, List.contains_nil, List.contains_cons, List.isEmpty_nil, Option.getD_some, Bool.false_eq_true, if_false, if_true, Bool.not_true, nbeq, decide_false, Bool.or_false, Nat.reduceAdd, Nat.reduceEqDiff, Int.reduceAdd, mtA]
    refine swp_draw (own := [7]) (.take 0 .plain [] (.take 1 .plain [] (.take 2 .plain [] (.take 3 .plain [] (.take 4 .reads [] (.take 5 .plain [] (.take 6 .reads [] (.take 7 .plain [] (.take 8 .plain [] (.take 9 .reads [] (.take 10 .plain [] (.take 11 .reads [] (.take 12 .plain [] (.take 13 .plain [] (.take 14 .reads [] (.take 15 .plain [] (.alt 16 (.done) (.nil)))))))))))))))))) [⟨21, 1, 0, 0, true⟩, ⟨22, 8, 0, 0, true⟩, ⟨23, 1, 0, 0, true⟩, ⟨24, 8, 0, 0, true⟩, ⟨25, 12582912, 12, 0, true⟩, ⟨26, 16777216, 16, 0, true⟩, ⟨27, 33554432, 32, 0, true⟩, ⟨28, 1, 0, 0, true⟩, ⟨29, 16, 0, 0, true⟩, ⟨30, 402653184, 384, 0, true⟩, ⟨31, 536870912, 512, 0, true⟩, ⟨32, 1073741824, 1024, 0, true⟩, ⟨33, 2214592512, 2112, 0, true⟩, ⟨34, 4294967296, 4096, 0, true⟩, ⟨35, 3145728, 16383, 0, true⟩, ⟨36, 17179869184, 32767, 0, true⟩, ⟨0, 42949672960, 49151, 1, false⟩] mo (by kernel_rfl) ?_
    have ht : (d[i].t + d[k].t).tmod 16 = (d[i].t + d[k].t) % 16 := Int.tmod_eq_emod_of_nonneg (by omega)
    have hrE : rstep d i k = if (d[i].t + d[k].t) % 16 = 0 then wo (wo (d.set i ⟨d[i].k, d[i].a, d[i].b, (d[i].t + d[k].t) % 16⟩) k) i else wo (d.set i ⟨d[i].k, d[i].a, d[i].b, (d[i].t + d[k].t) % 16⟩) k := by
      unfold rstep
      rw [getD_at hi, getD_at hk]
    simp only [w_move, w_load, w_store, w_fieldAddr, w_indexAddr, w_binOp, w_aop, w_take, w_some, w_asome, w_anone, w_cons, awp, binC, idxC, arithC, cmpC, asP, asQ, asO, asS, asI, obA, loadA, storeA, putsA, St.ev, St.step, setS, killS, AV.kill, AV.killL, Mem.kill, AV.cells, AV.flat, AV.single, AV.cellular, ACond_false, Value.oneCell', List.getD_cons_succ, List.getD_cons_zero, List.set_cons_succ, List.set_cons_zero, List.getElem?_cons_succ, List.getElem?_cons_zero, List.length_cons, List.length_nil, List.contains_nil, List.contains_cons, List.isEmpty_nil, Bool.false_eq_true, if_false, if_true, true_and, and_true, List.all_cons, List.all_nil, Bool.and_true, Bool.true_and, Bool.not_true, Nat.zero_add, beq_self_eq_true, decide_true, nbeq, decide_false, Bool.or_false, Bool.and_false, Nat.reduceAdd, Nat.reduceEqDiff, Nat.reduceLeDiff, Int.reduceAdd, Int.reduceEq, ASch, St.put, Md.mem, Md.need, ne_eq, not_false_eq_true, gtsA_len, ti3, ti22, ti24, gtsA_len, aget_gts hi, aget_gts hk, Int.toNat_natCast]
    rw [ht, gtsA_set]
    obtain ⟨e, he⟩ : ∃ e, e = d.set i ⟨d[i].k, d[i].a, d[i].b, (d[i].t + d[k].t) % 16⟩ := ⟨_, rfl⟩
    have hel : e.length = d.length := by rw [he]; simp
    rw [← he] at hrE ⊢
    have hek : k < e.length := by omega
    have hie : i < e.length := by omega
    have hwl := wo_len e hek
    have hit2 : (e[i]).t = (d[i].t + d[k].t) % 16 := by simp [he]
    have hi2 : i < (wo e k).length := by omega
    simp only [w_move, w_assign, w_binOp, w_callF, w_aop, w_some, w_asome, w_anone, w_nil, w_cons, awp, binC, cmpC, asI, asN, loadA, St.ev, St.step, setS, killS, AV.kill, AV.killL, Mem.kill, AV.cells, AV.flat, AV.single, ACond_false, List.getD_cons_succ, List.getD_cons_zero, List.set_cons_succ, List.set_cons_zero, List.getElem?_cons_succ, List.getElem?_cons_zero, List.length_cons, List.length_nil, List.contains_nil, List.contains_cons, List.isEmpty_nil, Option.getD_some, Bool.false_eq_true, if_false, if_true, true_and, and_true, List.all_cons, List.all_nil, Bool.and_true, Bool.true_and, Bool.not_true, Nat.zero_add, List.map_cons, List.map_nil, decide_true, nbeq, decide_false, Bool.or_false, Bool.and_false, Nat.reduceAdd, Nat.reduceEqDiff, Nat.reduceLeDiff, Int.reduceAdd, gtsA_len, gtsA_len, aget_gts hie, hit2]
    refine ⟨by omega, by omega, by unfold lim; omega, by omega, by omega, ?_⟩
    refine acall_lo (s78o e k hek (by omega)) (by simp [frz, AV.sub, gtsA_pure]) (gtsA_pure _) rfl (gtsA_tfree _) ?_
    by_cases hz : (d[i].t + d[k].t) % 16 = 0
    · simp only [w_move, w_assign, w_callF, w_aop, w_some, w_anone, w_nil, w_cons, awp, asB, asN, St.ev, St.step, setS, killS, AV.kill, AV.killL, Mem.kill, ACond_true, ACond_false, List.getD_cons_succ, List.getD_cons_zero, List.set_cons_succ, List.set_cons_zero, List.length_cons, List.length_nil, List.cons_append, List.nil_append, List.contains_nil, List.contains_cons, List.isEmpty_nil, Option.getD_some, Bool.false_eq_true, if_false, if_true, Nat.zero_add, List.map_cons, List.map_nil, nbeq, decide_false, Bool.or_false, Nat.reduceAdd, Nat.reduceEqDiff, Int.reduceAdd, decide_eq_true hz, AV.up, AV.sub]
      refine acall_lo (s78o (wo e k) i hi2 (by omega)) (by simp [frz, AV.sub, gtsA_pure]) (gtsA_pure _) rfl (gtsA_tfree _) ?_
      simp only [w_assign, w_aop, w_anone, w_nil, w_cons, asN, St.ev, St.step, setS, killS, AV.kill, AV.killL, Mem.kill, List.getD_cons_succ, List.getD_cons_zero, List.set_cons_succ, List.set_cons_zero, List.length_cons, List.length_nil, List.cons_append, List.nil_append, List.contains_nil, List.contains_cons, List.isEmpty_nil, Option.getD_some, Bool.false_eq_true, if_false, if_true, Nat.zero_add, nbeq, decide_false, Bool.or_false, Nat.reduceAdd, Nat.reduceEqDiff, Int.reduceAdd, decide_eq_true hz, AV.up, AV.sub]
      rw [if_pos hz] at hrE
      rw [← hrE]
      exact ⟨rstep d i k, le_to (sl1 := [.o 2, .bot, .bot, .bot, .bot, .bot, .bot, .bot, .bot, .bot, .bot, .bot, .bot, .bot, .bot, .bot, .bot, .bot, .bot, .bot, .bot, .bot, .bot, .bot, .bot, .bot, .bot, .bot, .bot, .bot, .bot, .bot, .bot, .bot, .bot, .bot, .bot, .bot, .bot, .bot, .bot, .bot, .bot, .bot, .bot, .bot, .bot, .bot, .bot]) [2] (by decide) (by simp [leSl]) rfl (by simp [reM, gtsA_sub]), ⟨hok, by omega, by rw [hr, hrs]⟩, hlt⟩
    · simp only [w_move, w_assign, w_aop, w_some, w_anone, w_nil, w_cons, awp, asB, asN, St.ev, St.step, setS, killS, AV.kill, AV.killL, Mem.kill, ACond_false, List.getD_cons_succ, List.getD_cons_zero, List.set_cons_succ, List.set_cons_zero, List.length_cons, List.length_nil, List.cons_append, List.nil_append, List.contains_nil, List.contains_cons, List.isEmpty_nil, Option.getD_some, Bool.false_eq_true, if_false, if_true, Nat.zero_add, nbeq, decide_false, Bool.or_false, Nat.reduceAdd, Nat.reduceEqDiff, Int.reduceAdd, decide_eq_false hz, AV.up, AV.sub]
      rw [if_neg hz] at hrE
      rw [← hrE]
      exact ⟨rstep d i k, le_to (sl1 := [.o 1, .bot, .bot, .bot, .bot, .bot, .bot, .bot, .bot, .bot, .bot, .bot, .bot, .bot, .bot, .bot, .bot, .bot, .bot, .bot, .bot, .bot, .bot, .bot, .bot, .bot, .bot, .bot, .bot, .bot, .bot, .bot, .bot, .bot, .bot, .bot, .bot, .bot, .bot, .bot, .bot, .bot, .bot, .bot, .bot, .bot, .bot, .bot, .bot]) [1] (by decide) (by simp [leSl]) rfl (by simp [reM, gtsA_sub]), ⟨hok, by omega, by rw [hr, hrs]⟩, hlt⟩
end Go.Proofs.Ytkmbbbemmohmcaa

namespace Go.Proofs.Ytkmbbbemmohmcaa
open Aw Go.RowKit
set_option linter.unusedSimpArgs false

theorem vC2_zero {n : Int} {c d : List G4} (h : vC2 n c d = 0) : vC n c = 0 ∧ vC n d = 0 := by
  unfold vC2 at h
  split at h
  · exact ⟨by assumption, h⟩
  · exact absurd h (by assumption)
theorem red_ten {n : Int} {c : List G4} (h : vC n c = 0) : (red c).length ≤ 10 := Nat.le_trans (red_len_le (vC_Ok h)) (vC_len h)

theorem ok19 : okFn Try.prog 19 = true := by kernel_rfl
theorem s19 (c : List G4) : ASpec Try.prog 19 [.s 4 (gtsA c)] (fun r Ms => r = B (decide (50 < c.length)) ∧ Ms = []) := by
  refine aspec_of (own := []) Try.func19 rfl ok19 ?_
  simp only [w_move, w_assign, w_binOp, w_len, w_aop, w_some, w_asome, w_anone, w_nil, w_cons, awp, binC, cmpC, asI, asN, lenA, St.ev, St.step, setS, killS, AV.kill, AV.killL, Mem.kill, ACond_false, List.getD_cons_succ, List.getD_cons_zero, List.set_cons_succ, List.set_cons_zero, List.length_cons, List.length_nil, List.replicate_succ, List.replicate_zero, List.cons_append, List.nil_append, List.contains_nil, List.isEmpty_nil, Option.getD_some, Bool.false_eq_true, if_false, if_true, true_and, Bool.true_and, Option.isSome_some, Nat.zero_add, Nat.add_zero, Nat.reduceAdd, Nat.reduceSub, Int.reduceAdd, Int.reduceSub, gtsA_len, ti22, Try.ntmps19, gtsA_len]
  exact aend_frz rfl ⟨by rw [show decide (50 < c.length) = decide ((50 : Int) < (c.length : Int)) from decide_eq_decide.2 (by omega)]; rfl, rfl⟩

theorem ok27 : okFn Try.prog 27 = true := by kernel_rfl
theorem s27 (n : Int) (c : List G4) (hl : c.length ≤ 10000) : ASpec Try.prog 27 [I n, .s 4 (gtsA c)] (fun r Ms => r = .t [.s 4 (gtsA (if vC n c = 0 then red c else [])), I (vC n c)] ∧ Ms = []) := by
  refine aspec_of (own := [4]) Try.func27 rfl ok27 ?_
  simp only [w_move, w_assign, w_callF, w_aop, w_some, w_asome, w_anone, w_nil, w_cons, awp, asN, Aw.newRow, St.ev, St.step, setS, killS, AV.kill, AV.killL, Mem.kill, ACond_false, List.getD_cons_succ, List.getD_cons_zero, List.set_cons_succ, List.set_cons_zero, List.length_cons, List.length_nil, List.replicate_succ, List.replicate_zero, List.cons_append, List.nil_append, List.contains_nil, List.contains_cons, List.isEmpty_nil, Option.getD_some, Bool.false_eq_true, if_false, if_true, Nat.zero_add, Nat.add_zero, beq_self_eq_true, List.map_cons, List.map_nil, nbeq, decide_false, Bool.or_false, Nat.reduceAdd, Nat.reduceEqDiff, Nat.reduceSub, Int.reduceAdd, Int.reduceSub, ti22, ti24, Try.ntmps27]
  refine acall_v (s21 n c (by omega)) rfl rfl ?_
  simp only [w_move, w_assign, w_binOp, w_aop, w_some, w_asome, w_anone, w_nil, w_cons, awp, binC, cmpC, asB, asI, asN, St.ev, St.step, setS, killS, AV.kill, AV.killL, Mem.kill, ACond_false, List.getD_cons_succ, List.getD_cons_zero, List.set_cons_succ, List.set_cons_zero, List.contains_nil, List.contains_cons, List.isEmpty_nil, Option.getD_some, Bool.false_eq_true, if_false, if_true, true_and, Bool.true_and, nbeq, decide_false, Bool.or_false, Nat.reduceAdd, Nat.reduceEqDiff, Int.reduceAdd]
  by_cases hv : vC n c = 0
  · simp only [w_move, w_callF, w_aop, w_cons, awp, St.ev, St.step, setS, killS, AV.kill, AV.killL, Mem.kill, ACond_false, List.getD_cons_succ, List.getD_cons_zero, List.set_cons_succ, List.set_cons_zero, List.contains_nil, List.contains_cons, List.isEmpty_nil, Bool.false_eq_true, if_false, if_true, Bool.not_true, List.map_cons, List.map_nil, nbeq, decide_false, Bool.or_false, Nat.reduceAdd, Nat.reduceEqDiff, Int.reduceAdd, decide_eq_true hv]
    refine acall_v (s63 c hl (vC_Ok hv)) rfl rfl ?_
    simp only [w_assign, w_aop, w_anone, w_nil, w_cons, awp, asN, St.ev, St.step, setS, killS, AV.kill, AV.killL, Mem.kill, List.getD_cons_succ, List.getD_cons_zero, List.set_cons_succ, List.set_cons_zero, List.contains_nil, List.contains_cons, List.isEmpty_nil, Option.getD_some, Bool.false_eq_true, if_false, if_true, beq_self_eq_true, nbeq, decide_false, Bool.or_false, Nat.reduceEqDiff]
    exact aend_frz rfl ⟨by simp [frz, AV.sub, AV.subL, hv], rfl⟩
  · simp only [w_move, w_assign, w_aop, w_some, w_asome, w_anone, w_nil, w_cons, awp, asN, Aw.newRow, St.ev, St.step, setS, killS, AV.kill, AV.killL, Mem.kill, ACond_true, ACond_false, List.getD_cons_succ, List.getD_cons_zero, List.set_cons_succ, List.set_cons_zero, List.length_cons, List.length_nil, List.cons_append, List.nil_append, List.contains_nil, List.contains_cons, List.isEmpty_nil, Option.getD_some, Bool.false_eq_true, if_false, if_true, Bool.not_false, Nat.zero_add, beq_self_eq_true, nbeq, decide_false, Bool.or_false, Nat.reduceAdd, Nat.reduceEqDiff, Int.reduceAdd, ti22, ti24, decide_eq_false hv]
    refine aend_frz rfl ⟨?_, rfl⟩
    simp [frz, AV.sub, AV.subL, hv]
    rfl

theorem ok39 : okFn Try.prog 39 = true := by kernel_rfl
theorem s39 (n : Int) (c : List G4) (hl : c.length ≤ 10000) : ASpec Try.prog 39 [I n, .s 4 (gtsA c)] (fun r Ms => r = .t [.s 4 (gtsA (if vC n c = 0 then red c else [])), I (vC n c)] ∧ Ms = []) := by
  refine aspec_of (own := [4]) Try.func39 rfl ok39 ?_
  simp only [w_move, w_assign, w_callF, w_aop, w_some, w_asome, w_anone, w_nil, w_cons, awp, asN, Aw.newRow, St.ev, St.step, setS, killS, AV.kill, AV.killL, Mem.kill, ACond_false, List.getD_cons_succ, List.getD_cons_zero, List.set_cons_succ, List.set_cons_zero, List.length_cons, List.length_nil, List.replicate_succ, List.replicate_zero, List.cons_append, List.nil_append, List.contains_nil, List.contains_cons, List.isEmpty_nil, Option.getD_some, Bool.false_eq_true, if_false, if_true, Nat.zero_add, Nat.add_zero, beq_self_eq_true, List.map_cons, List.map_nil, nbeq, decide_false, Bool.or_false, Nat.reduceAdd, Nat.reduceEqDiff, Nat.reduceSub, Int.reduceAdd, Int.reduceSub, ti22, ti24, Try.ntmps39]
  refine acall_v (s41 n c (by omega)) rfl rfl ?_
  simp only [w_move, w_assign, w_binOp, w_aop, w_some, w_asome, w_anone, w_nil, w_cons, awp, binC, cmpC, asB, asI, asN, St.ev, St.step, setS, killS, AV.kill, AV.killL, Mem.kill, ACond_false, List.getD_cons_succ, List.getD_cons_zero, List.set_cons_succ, List.set_cons_zero, List.contains_nil, List.contains_cons, List.isEmpty_nil, Option.getD_some, Bool.false_eq_true, if_false, if_true, true_and, Bool.true_and, nbeq, decide_false, Bool.or_false, Nat.reduceAdd, Nat.reduceEqDiff, Int.reduceAdd]
  by_cases hv : vC n c = 0
  · simp only [w_move, w_callF, w_aop, w_cons, awp, St.ev, St.step, setS, killS, AV.kill, AV.killL, Mem.kill, ACond_false, List.getD_cons_succ, List.getD_cons_zero, List.set_cons_succ, List.set_cons_zero, List.contains_nil, List.contains_cons, List.isEmpty_nil, Bool.false_eq_true, if_false, if_true, Bool.not_true, List.map_cons, List.map_nil, nbeq, decide_false, Bool.or_false, Nat.reduceAdd, Nat.reduceEqDiff, Int.reduceAdd, decide_eq_true hv]
    refine acall_v (s72 c hl (vC_Ok hv)) rfl rfl ?_
    simp only [w_assign, w_aop, w_anone, w_nil, w_cons, awp, asN, St.ev, St.step, setS, killS, AV.kill, AV.killL, Mem.kill, List.getD_cons_succ, List.getD_cons_zero, List.set_cons_succ, List.set_cons_zero, List.contains_nil, List.contains_cons, List.isEmpty_nil, Option.getD_some, Bool.false_eq_true, if_false, if_true, beq_self_eq_true, nbeq, decide_false, Bool.or_false, Nat.reduceEqDiff]
    exact aend_frz rfl ⟨by simp [frz, AV.sub, AV.subL, hv], rfl⟩
  · simp only [w_move, w_assign, w_aop, w_some, w_asome, w_anone, w_nil, w_cons, awp, asN, Aw.newRow, St.ev, St.step, setS, killS, AV.kill, AV.killL, Mem.kill, ACond_true, ACond_false, List.getD_cons_succ, List.getD_cons_zero, List.set_cons_succ, List.set_cons_zero, List.length_cons, List.length_nil, List.cons_append, List.nil_append, List.contains_nil, List.contains_cons, List.isEmpty_nil, Option.getD_some, Bool.false_eq_true, if_false, if_true, Bool.not_false, Nat.zero_add, beq_self_eq_true, nbeq, decide_false, Bool.or_false, Nat.reduceAdd, Nat.reduceEqDiff, Int.reduceAdd, ti22, ti24, decide_eq_false hv]
    refine aend_frz rfl ⟨?_, rfl⟩
    simp [frz, AV.sub, AV.subL, hv]
    rfl

theorem ok25 : okFn Try.prog 25 = true := by kernel_rfl
theorem s25 (n : Int) (c : List G4) (hl : c.length ≤ 10000) : ASpec Try.prog 25 [I n, .s 4 (gtsA c)] (fun r Ms => r = .t [.s 4 (gtsA (if vC n c = 0 then nmS c else [])), I (vC n c)] ∧ Ms = []) := by
  refine aspec_of (own := [4]) Try.func25 rfl ok25 ?_
  simp only [w_move, w_assign, w_callF, w_aop, w_some, w_asome, w_anone, w_nil, w_cons, awp, asN, Aw.newRow, St.ev, St.step, setS, killS, AV.kill, AV.killL, Mem.kill, ACond_false, List.getD_cons_succ, List.getD_cons_zero, List.set_cons_succ, List.set_cons_zero, List.length_cons, List.length_nil, List.replicate_succ, List.replicate_zero, List.cons_append, List.nil_append, List.contains_nil, List.contains_cons, List.isEmpty_nil, Option.getD_some, Bool.false_eq_true, if_false, if_true, Nat.zero_add, Nat.add_zero, beq_self_eq_true, List.map_cons, List.map_nil, nbeq, decide_false, Bool.or_false, Nat.reduceAdd, Nat.reduceEqDiff, Nat.reduceSub, Int.reduceAdd, Int.reduceSub, ti22, ti24, Try.ntmps25]
  refine acall_v (s21 n c (by omega)) rfl rfl ?_
  simp only [w_move, w_assign, w_binOp, w_aop, w_some, w_asome, w_anone, w_nil, w_cons, awp, binC, cmpC, asB, asI, asN, St.ev, St.step, setS, killS, AV.kill, AV.killL, Mem.kill, ACond_false, List.getD_cons_succ, List.getD_cons_zero, List.set_cons_succ, List.set_cons_zero, List.contains_nil, List.contains_cons, List.isEmpty_nil, Option.getD_some, Bool.false_eq_true, if_false, if_true, true_and, Bool.true_and, nbeq, decide_false, Bool.or_false, Nat.reduceAdd, Nat.reduceEqDiff, Int.reduceAdd]
  by_cases hv : vC n c = 0
  · simp only [w_move, w_callF, w_aop, w_cons, awp, St.ev, St.step, setS, killS, AV.kill, AV.killL, Mem.kill, ACond_false, List.getD_cons_succ, List.getD_cons_zero, List.set_cons_succ, List.set_cons_zero, List.contains_nil, List.contains_cons, List.isEmpty_nil, Bool.false_eq_true, if_false, if_true, Bool.not_true, List.map_cons, List.map_nil, nbeq, decide_false, Bool.or_false, Nat.reduceAdd, Nat.reduceEqDiff, Int.reduceAdd, decide_eq_true hv]
    refine acall_v (s60 c hl) rfl rfl ?_
    simp only [w_assign, w_aop, w_anone, w_nil, w_cons, awp, asN, St.ev, St.step, setS, killS, AV.kill, AV.killL, Mem.kill, List.getD_cons_succ, List.getD_cons_zero, List.set_cons_succ, List.set_cons_zero, List.contains_nil, List.contains_cons, List.isEmpty_nil, Option.getD_some, Bool.false_eq_true, if_false, if_true, beq_self_eq_true, nbeq, decide_false, Bool.or_false, Nat.reduceEqDiff]
    exact aend_frz rfl ⟨by simp [frz, AV.sub, AV.subL, hv, nm_bound (vC_Ok hv)], rfl⟩
  · simp only [w_move, w_assign, w_aop, w_some, w_asome, w_anone, w_nil, w_cons, awp, asN, Aw.newRow, St.ev, St.step, setS, killS, AV.kill, AV.killL, Mem.kill, ACond_true, ACond_false, List.getD_cons_succ, List.getD_cons_zero, List.set_cons_succ, List.set_cons_zero, List.length_cons, List.length_nil, List.cons_append, List.nil_append, List.contains_nil, List.contains_cons, List.isEmpty_nil, Option.getD_some, Bool.false_eq_true, if_false, if_true, Bool.not_false, Nat.zero_add, beq_self_eq_true, nbeq, decide_false, Bool.or_false, Nat.reduceAdd, Nat.reduceEqDiff, Int.reduceAdd, ti22, ti24, decide_eq_false hv]
    refine aend_frz rfl ⟨?_, rfl⟩
    simp [frz, AV.sub, AV.subL, hv]
    rfl

theorem ok30 : okFn Try.prog 30 = true := by kernel_rfl
theorem s30 (n : Int) (c d : List G4) (hl : c.length ≤ 5000) (hl' : d.length ≤ 5000) : ASpec Try.prog 30 [I n, .s 4 (gtsA c), .s 4 (gtsA d)] (fun r Ms => r = .t [B (decide (vC2 n c d = 0) && decide (red c = red d)), I (vC2 n c d)] ∧ Ms = []) := by
  refine aspec_of (own := []) Try.func30 rfl ok30 ?_
  simp only [w_move, w_assign, w_callF, w_aop, w_anone, w_nil, w_cons, awp, asN, St.ev, St.step, setS, killS, AV.kill, AV.killL, Mem.kill, ACond_false, List.getD_cons_succ, List.getD_cons_zero, List.set_cons_succ, List.set_cons_zero, List.length_cons, List.length_nil, List.replicate_succ, List.replicate_zero, List.cons_append, List.nil_append, List.contains_nil, List.isEmpty_nil, Option.getD_some, Bool.false_eq_true, if_false, if_true, Nat.zero_add, Nat.add_zero, List.map_cons, List.map_nil, Nat.reduceAdd, Nat.reduceSub, Int.reduceAdd, Int.reduceSub, Try.ntmps30]
  refine acall_v (s61 n c d (by omega) (by omega)) rfl rfl ?_
  simp only [w_move, w_assign, w_binOp, w_aop, w_some, w_asome, w_anone, w_nil, w_cons, awp, binC, cmpC, asB, asI, asN, St.ev, St.step, setS, killS, AV.kill, AV.killL, Mem.kill, ACond_false, List.getD_cons_succ, List.getD_cons_zero, List.set_cons_succ, List.set_cons_zero, List.contains_nil, List.isEmpty_nil, Option.getD_some, Bool.false_eq_true, if_false, if_true, true_and, Bool.true_and, Nat.reduceAdd, Int.reduceAdd]
  by_cases hv : vC2 n c d = 0
  · obtain ⟨vc, vd⟩ := vC2_zero hv
    simp only [w_move, w_callF, w_aop, w_cons, awp, St.ev, St.step, setS, killS, AV.kill, AV.killL, Mem.kill, ACond_false, List.getD_cons_succ, List.getD_cons_zero, List.set_cons_succ, List.set_cons_zero, List.contains_nil, List.isEmpty_nil, if_true, Bool.not_true, List.map_cons, List.map_nil, Nat.reduceAdd, Int.reduceAdd, decide_eq_true hv]
    refine acall_v (s63 c (by omega) (vC_Ok vc)) rfl rfl ?_
    simp only [w_move, w_callF, w_aop, w_cons, St.ev, St.step, setS, killS, AV.kill, AV.killL, Mem.kill, List.getD_cons_succ, List.getD_cons_zero, List.set_cons_succ, List.set_cons_zero, List.isEmpty_nil, if_true, List.map_cons, List.map_nil]
    refine acall_v (s63 d (by omega) (vC_Ok vd)) rfl rfl ?_
    simp only [w_callF, w_aop, w_cons, St.ev, St.step, setS, killS, AV.kill, AV.killL, Mem.kill, List.getD_cons_succ, List.getD_cons_zero, List.set_cons_succ, List.set_cons_zero, List.isEmpty_nil, if_true, List.map_cons, List.map_nil]
    refine acall_v (s62 _ _ (by have := red_ten vc; have := red_ten vd; omega) (by have := red_ten vc; have := red_ten vd; omega)) rfl rfl ?_
    simp only [w_assign, w_aop, w_anone, w_nil, w_cons, awp, asN, St.ev, St.step, setS, killS, AV.kill, AV.killL, Mem.kill, List.getD_cons_succ, List.getD_cons_zero, List.set_cons_succ, List.set_cons_zero, List.contains_nil, List.isEmpty_nil, Option.getD_some, Bool.false_eq_true, if_false, if_true]
    exact aend_frz rfl ⟨by simp [hv]; rfl, rfl⟩
  · simp only [w_move, w_assign, w_aop, w_anone, w_nil, w_cons, awp, asN, St.ev, St.step, setS, killS, AV.kill, AV.killL, Mem.kill, ACond_true, ACond_false, List.getD_cons_succ, List.getD_cons_zero, List.set_cons_succ, List.set_cons_zero, List.contains_nil, List.isEmpty_nil, Option.getD_some, Bool.false_eq_true, if_false, if_true, Bool.not_false, Bool.false_and, Nat.reduceAdd, Int.reduceAdd, decide_eq_false hv]
    exact aend_frz rfl ⟨by simp [hv]; rfl, rfl⟩

theorem ok50 : okFn Try.prog 50 = true := by kernel_rfl
theorem s50 (n : Int) (c d : List G4) (hl : c.length ≤ 5000) (hl' : d.length ≤ 5000) : ASpec Try.prog 50 [I n, .s 4 (gtsA c), .s 4 (gtsA d)] (fun r Ms => r = .t [B (decide (vC2 n c d = 0) && decide (red c = red d)), I (vC2 n c d)] ∧ Ms = []) := by
  refine aspec_of (own := []) Try.func50 rfl ok50 ?_
  simp only [w_move, w_assign, w_callF, w_aop, w_anone, w_nil, w_cons, awp, asN, St.ev, St.step, setS, killS, AV.kill, AV.killL, Mem.kill, ACond_false, List.getD_cons_succ, List.getD_cons_zero, List.set_cons_succ, List.set_cons_zero, List.length_cons, List.length_nil, List.replicate_succ, List.replicate_zero, List.cons_append, List.nil_append, List.contains_nil, List.isEmpty_nil, Option.getD_some, Bool.false_eq_true, if_false, if_true, Nat.zero_add, Nat.add_zero, List.map_cons, List.map_nil, Nat.reduceAdd, Nat.reduceSub, Int.reduceAdd, Int.reduceSub, Try.ntmps50]
  refine acall_v (s73 n c d (by omega) (by omega)) rfl rfl ?_
  simp only [w_move, w_assign, w_binOp, w_aop, w_some, w_asome, w_anone, w_nil, w_cons, awp, binC, cmpC, asB, asI, asN, St.ev, St.step, setS, killS, AV.kill, AV.killL, Mem.kill, ACond_false, List.getD_cons_succ, List.getD_cons_zero, List.set_cons_succ, List.set_cons_zero, List.contains_nil, List.isEmpty_nil, Option.getD_some, Bool.false_eq_true, if_false, if_true, true_and, Bool.true_and, Nat.reduceAdd, Int.reduceAdd]
  by_cases hv : vC2 n c d = 0
  · obtain ⟨vc, vd⟩ := vC2_zero hv
    simp only [w_move, w_callF, w_aop, w_cons, awp, St.ev, St.step, setS, killS, AV.kill, AV.killL, Mem.kill, ACond_false, List.getD_cons_succ, List.getD_cons_zero, List.set_cons_succ, List.set_cons_zero, List.contains_nil, List.isEmpty_nil, if_true, Bool.not_true, List.map_cons, List.map_nil, Nat.reduceAdd, Int.reduceAdd, decide_eq_true hv]
    refine acall_v (s72 c (by omega) (vC_Ok vc)) rfl rfl ?_
    simp only [w_move, w_callF, w_aop, w_cons, St.ev, St.step, setS, killS, AV.kill, AV.killL, Mem.kill, List.getD_cons_succ, List.getD_cons_zero, List.set_cons_succ, List.set_cons_zero, List.isEmpty_nil, if_true, List.map_cons, List.map_nil]
    refine acall_v (s72 d (by omega) (vC_Ok vd)) rfl rfl ?_
    simp only [w_callF, w_aop, w_cons, St.ev, St.step, setS, killS, AV.kill, AV.killL, Mem.kill, List.getD_cons_succ, List.getD_cons_zero, List.set_cons_succ, List.set_cons_zero, List.isEmpty_nil, if_true, List.map_cons, List.map_nil]
    refine acall_v (s29 _ _ (by have := red_ten vc; have := red_ten vd; omega) (by have := red_ten vc; have := red_ten vd; omega)) rfl rfl ?_
    simp only [w_assign, w_aop, w_anone, w_nil, w_cons, awp, asN, St.ev, St.step, setS, killS, AV.kill, AV.killL, Mem.kill, List.getD_cons_succ, List.getD_cons_zero, List.set_cons_succ, List.set_cons_zero, List.contains_nil, List.isEmpty_nil, Option.getD_some, Bool.false_eq_true, if_false, if_true]
    exact aend_frz rfl ⟨by simp [hv]; rfl, rfl⟩
  · simp only [w_move, w_assign, w_aop, w_anone, w_nil, w_cons, awp, asN, St.ev, St.step, setS, killS, AV.kill, AV.killL, Mem.kill, ACond_true, ACond_false, List.getD_cons_succ, List.getD_cons_zero, List.set_cons_succ, List.set_cons_zero, List.contains_nil, List.isEmpty_nil, Option.getD_some, Bool.false_eq_true, if_false, if_true, Bool.not_false, Bool.false_and, Nat.reduceAdd, Int.reduceAdd, decide_eq_false hv]
    exact aend_frz rfl ⟨by simp [hv]; rfl, rfl⟩

theorem ok26 : okFn Try.prog 26 = true := by kernel_rfl
theorem s26 (n : Int) (c d : List G4) (hl : c.length ≤ 5000) (hl' : d.length ≤ 5000) : ASpec Try.prog 26 [I n, .s 4 (gtsA c), .s 4 (gtsA d)] (fun r Ms => r = .t [B (decide (vC2 n c d = 0) && decide (nmS c = nmS d)), I (vC2 n c d)] ∧ Ms = []) := by
  refine aspec_of (own := []) Try.func26 rfl ok26 ?_
  simp only [w_move, w_assign, w_callF, w_aop, w_anone, w_nil, w_cons, awp, asN, St.ev, St.step, setS, killS, AV.kill, AV.killL, Mem.kill, ACond_false, List.getD_cons_succ, List.getD_cons_zero, List.set_cons_succ, List.set_cons_zero, List.length_cons, List.length_nil, List.replicate_succ, List.replicate_zero, List.cons_append, List.nil_append, List.contains_nil, List.isEmpty_nil, Option.getD_some, Bool.false_eq_true, if_false, if_true, Nat.zero_add, Nat.add_zero, List.map_cons, List.map_nil, Nat.reduceAdd, Nat.reduceSub, Int.reduceAdd, Int.reduceSub, Try.ntmps26]
  refine acall_v (s61 n c d (by omega) (by omega)) rfl rfl ?_
  simp only [w_move, w_assign, w_binOp, w_aop, w_some, w_asome, w_anone, w_nil, w_cons, awp, binC, cmpC, asB, asI, asN, St.ev, St.step, setS, killS, AV.kill, AV.killL, Mem.kill, ACond_false, List.getD_cons_succ, List.getD_cons_zero, List.set_cons_succ, List.set_cons_zero, List.contains_nil, List.isEmpty_nil, Option.getD_some, Bool.false_eq_true, if_false, if_true, true_and, Bool.true_and, Nat.reduceAdd, Int.reduceAdd]
  by_cases hv : vC2 n c d = 0
  · obtain ⟨vc, vd⟩ := vC2_zero hv
    simp only [w_move, w_callF, w_aop, w_cons, awp, St.ev, St.step, setS, killS, AV.kill, AV.killL, Mem.kill, ACond_false, List.getD_cons_succ, List.getD_cons_zero, List.set_cons_succ, List.set_cons_zero, List.contains_nil, List.isEmpty_nil, if_true, Bool.not_true, List.map_cons, List.map_nil, Nat.reduceAdd, Int.reduceAdd, decide_eq_true hv]
    refine acall_v (s60 c (by omega)) rfl rfl ?_
    simp only [w_move, w_callF, w_aop, w_cons, St.ev, St.step, setS, killS, AV.kill, AV.killL, Mem.kill, List.getD_cons_succ, List.getD_cons_zero, List.set_cons_succ, List.set_cons_zero, List.isEmpty_nil, if_true, List.map_cons, List.map_nil]
    refine acall_v (s60 d (by omega)) rfl rfl ?_
    simp only [w_callF, w_aop, w_cons, St.ev, St.step, setS, killS, AV.kill, AV.killL, Mem.kill, List.getD_cons_succ, List.getD_cons_zero, List.set_cons_succ, List.set_cons_zero, List.isEmpty_nil, if_true, List.map_cons, List.map_nil]
    refine acall_v (s62 _ _ (by rw [nmR_len _ _ _ _ rfl]; omega) (by rw [nmR_len _ _ _ _ rfl]; omega)) rfl rfl ?_
    simp only [w_assign, w_aop, w_anone, w_nil, w_cons, awp, asN, St.ev, St.step, setS, killS, AV.kill, AV.killL, Mem.kill, List.getD_cons_succ, List.getD_cons_zero, List.set_cons_succ, List.set_cons_zero, List.contains_nil, List.isEmpty_nil, Option.getD_some, Bool.false_eq_true, if_false, if_true]
    exact aend_frz rfl ⟨by simp [hv, nm_bound (vC_Ok vc), nm_bound (vC_Ok vd)]; rfl, rfl⟩
  · simp only [w_move, w_assign, w_aop, w_anone, w_nil, w_cons, awp, asN, St.ev, St.step, setS, killS, AV.kill, AV.killL, Mem.kill, ACond_true, ACond_false, List.getD_cons_succ, List.getD_cons_zero, List.set_cons_succ, List.set_cons_zero, List.contains_nil, List.isEmpty_nil, Option.getD_some, Bool.false_eq_true, if_false, if_true, Bool.not_false, Bool.false_and, Nat.reduceAdd, Int.reduceAdd, decide_eq_false hv]
    exact aend_frz rfl ⟨by simp [hv]; rfl, rfl⟩

end Go.Proofs.Ytkmbbbemmohmcaa

namespace Go.Proofs.Ytkmbbbemmohmcaa
open Aw Go.RowKit
set_option linter.unusedSimpArgs false

/-- the gate j goes down. -/
def swpG (l : List G4) (j : Nat) : List G4 := (l.set j (l.getD (j - 1) default)).set (j - 1) (l.getD j default)
def bub : Nat → List G4 → List G4
  | 0, l => l
  | j + 1, l => if G4.less (l.getD (j + 1) default) (l.getD j default) then bub j (swpG l (j + 1)) else l
def srtK : Nat → List G4 → List G4
  | 0, l => l
  | k + 1, l => bub (k + 1) (srtK k l)
/-- gates in ascending order. -/
def srt (l : List G4) : List G4 := srtK (l.length - 1) l
theorem swpG_len (l : List G4) (j : Nat) : (swpG l j).length = l.length := by simp [swpG]
theorem bub_len : ∀ (j : Nat) (l : List G4), (bub j l).length = l.length
  | 0, l => rfl
  | j + 1, l => by
    unfold bub
    split
    · rw [bub_len j, swpG_len]
    · rfl
theorem srtK_len : ∀ (k : Nat) (l : List G4), (srtK k l).length = l.length
  | 0, l => rfl
  | k + 1, l => by rw [srtK, bub_len, srtK_len k l]
theorem srt_len (l : List G4) : (srt l).length = l.length := srtK_len _ _

theorem ok109 : okFn Try.prog 109 = true := by kernel_rfl
set_option maxHeartbeats 1000000 in
theorem s109 (l : List G4) (hl : l.length ≤ 10000) : MSpec Try.prog 109 [.o 0, I 0, I l.length, .f (.func 90) []] [some ⟨none, 24, 4, gtsA l⟩] (fun r M' => r = .t [] ∧ M' = [some ⟨none, 24, 4, gtsA (srt l)⟩]) := by
  refine mspec_of2 (own := []) Try.func109 rfl ok109 fun vs => ?_
  simp only [w_move, w_assign, w_binOp, w_aop, w_some, w_asome, w_anone, w_nil, w_cons, awp, binC, arithC, cmpC, asI, asN, St.ev, St.step, setS, killS, AV.kill, AV.killL, Mem.kill, ACond_false, List.getD_cons_succ, List.getD_cons_zero, List.set_cons_succ, List.set_cons_zero, List.length_cons, List.length_nil, List.replicate_succ, List.replicate_zero, List.cons_append, List.nil_append, List.contains_nil, List.isEmpty_nil, Option.getD_some, Bool.false_eq_true, if_false, if_true, true_and, and_true, Bool.and_true, Bool.true_and, Nat.zero_add, Nat.add_zero, Nat.reduceAdd, Nat.reduceSub, Int.reduceAdd, Int.reduceSub, Try.ntmps109, ghost]
  refine ⟨by unfold lim; omega, ?_⟩
  refine swp_loop' (fun i : Nat => ⟨[.o 0, I 0, I l.length, .f (.func 90) [], .bot, .bot, .bot, .bot, I i, .bot, .bot, .bot, .bot, .bot, .bot, .bot, .bot, .bot, .bot, .bot, .bot, .bot, .bot, .bot, .bot, .bot, .bot, .bot, .bot, .bot, .bot, .bot, .bot, .bot, .bot, .bot, .bot, .bot, .bot, .bot, .bot, .bot, .bot, .bot, .bot, .bot, .bot, .bot, .bot, .bot, .bot, .bot, .bot], [some ⟨none, 24, 4, gtsA (srtK (i - 1) l)⟩, some (ghost vs [.o 0, I 0, I l.length, .f (.func 90) []])]⟩) (fun i => 1 ≤ i ∧ (i ≤ l.length ∨ i = 1)) (fun i => l.length - i) 1 (le_sl (by simp [leSl, srtK])) ⟨Nat.le_refl _, .inr rfl⟩ ?_
  rintro i ⟨hi1, hi⟩
  refine awp_sound (own := []) _ _ _ _ _ ?_
  simp only [w_move, w_binOp, w_aop, w_some, w_asome, w_nil, w_cons, awp, binC, cmpC, asB, asI, St.ev, St.step, setS, killS, AV.kill, AV.killL, Mem.kill, ACond_false, List.getD_cons_succ, List.getD_cons_zero, List.set_cons_succ, List.set_cons_zero, List.contains_nil, List.isEmpty_nil, Bool.false_eq_true, if_false, if_true, true_and, Bool.true_and, Nat.reduceAdd, Int.reduceAdd, ghost]
  by_cases h : i < l.length
  · have h' : (i : Int) < (l.length : Int) := by omega
    simp only [w_move, w_assign, w_aop, w_anone, w_nil, w_cons, awp, asN, St.ev, St.step, setS, killS, AV.kill, AV.killL, Mem.kill, ACond_true, ACond_false, List.getD_cons_succ, List.getD_cons_zero, List.set_cons_succ, List.set_cons_zero, List.contains_nil, List.isEmpty_nil, Option.getD_some, Bool.false_eq_true, if_false, if_true, Nat.reduceAdd, Int.reduceAdd, decide_eq_true h']
    refine swp_loop' (fun p : Nat × List G4 => ⟨[.o 0, I 0, I l.length, .f (.func 90) [], .bot, .bot, .bot, .bot, I i, I p.1, .bot, .bot, .bot, .bot, .bot, .bot, .bot, .bot, .bot, .bot, .bot, .bot, .bot, .bot, .bot, .bot, .bot, .bot, .bot, .bot, .bot, .bot, .bot, .bot, .bot, .bot, .bot, .bot, .bot, .bot, .bot, .bot, .bot, .bot, .bot, .bot, .bot, .bot, .bot, .bot, .bot, .bot, .bot], [some ⟨none, 24, 4, gtsA p.2⟩, some (ghost vs [.o 0, I 0, I l.length, .f (.func 90) []])]⟩) (fun p => p.1 ≤ i ∧ p.2.length = l.length ∧ bub p.1 p.2 = srtK i l) (fun p => p.1) (i, srtK (i - 1) l) (le_sl (by simp [leSl])) ⟨Nat.le_refl _, srtK_len _ _, by
      obtain ⟨m, rfl⟩ : ∃ m, i = m + 1 := ⟨i - 1, by omega⟩
      rfl⟩ ?_
    rintro ⟨j, d⟩ ⟨hj, hdl, hb⟩
    simp only at hj hdl hb
    refine awp_sound (own := []) _ _ _ _ _ ?_
    simp only [awp, ghost]
    refine swp_draw (own := []) (.take 0 .plain [] (.take 1 .plain [] (.take 2 .plain [] (.take 3 .plain [] (.take 4 .plain [] (.take 5 .plain [] (.take 6 .plain [] (.take 7 .reads [] (.take 8 .reads [] (.take 9 .plain [] (.take 10 .plain [] (.take 11 .plain [] (.take 12 .reads [] (.take 13 .reads [] (.alt 14 (.take 15 .plain [] (.take 16 .plain [] (.done))) (.nil)))))))))))))))) [⟨19, 512, 0, 0, true⟩, ⟨20, 2, 0, 0, true⟩, ⟨21, 786432, 3, 0, true⟩, ⟨22, 1048576, 4, 0, true⟩, ⟨23, 2097160, 8, 0, true⟩, ⟨24, 2097153, 8, 0, true⟩, ⟨25, 2097664, 8, 0, true⟩, ⟨26, 27262976, 104, 0, true⟩, ⟨27, 35651584, 136, 0, true⟩, ⟨28, 2097153, 8, 0, true⟩, ⟨29, 2097664, 8, 0, true⟩, ⟨30, 270532608, 1032, 0, true⟩, ⟨31, 673185792, 2568, 0, true⟩, ⟨32, 1075838976, 4104, 0, true⟩, ⟨33, 2220883968, 8472, 0, false⟩, ⟨34, 4297064448, 16392, 0, true⟩, ⟨35, 8592031744, 32776, 0, true⟩] mo (by kernel_rfl) ?_
    simp only [w_move, w_binOp, w_gdb, w_take, w_takeg, w_some, w_asome, binC, cmpC, asI, St.ev, setS, List.getD_cons_succ, List.getD_cons_zero, List.set_cons_succ, List.set_cons_zero, List.getElem?_cons_succ, List.getElem?_cons_zero, true_and, Bool.true_and, Option.bind_some, ASch, St.put, Md.mem, Md.need, w_bt]
    cases j with
    | zero =>
      have h0 : ¬ (0 : Int) < ((0 : Nat) : Int) := by omega
      simp only [w_move, w_assign, w_pick, w_binOp, w_aop, w_aopg, w_gdb, w_take, w_takeg, w_some, w_asome, w_anone, w_nil, w_cons, awp, binC, arithC, cmpC, asB, asI, asN, St.ev, St.step, setS, killS, AV.kill, AV.killL, Mem.kill, ACond_false, List.getD_cons_succ, List.getD_cons_zero, List.set_cons_succ, List.set_cons_zero, List.getElem?_cons_succ, List.getElem?_cons_zero, List.contains_nil, List.isEmpty_nil, Option.getD_some, Bool.false_eq_true, if_false, if_true, true_and, and_true, Bool.and_true, Bool.true_and, Nat.reduceAdd, Nat.reduceEqDiff, Int.reduceAdd, Option.bind_some, ASch, St.put, Md.mem, Md.need, w_bt, decide_eq_false h0]
      simp only [bub] at hb
      refine ⟨by unfold lim; omega, i + 1, ?_, ⟨by omega, by omega⟩, by omega⟩
      rw [hb]
      exact le_sl (by simp [leSl])
    | succ m =>
      have h0 : (0 : Int) < ((m + 1 : Nat) : Int) := by omega
      have hm1 : m + 1 < d.length := by omega
      have hm0 : m < d.length := by omega
      have ht1 : ((m + 1 : Nat) : Int).toNat = m + 1 := by omega
      have ht0 : (((m + 1 : Nat) : Int) - 1).toNat = m := by omega
      simp only [w_move, w_load, w_indexAddr, w_binOp, w_callT, w_aopg, w_gdb, w_takeg, w_some, w_asome, w_anone, binC, idxC, arithC, cmpC, asP, asQ, asO, asS, asF, asI, obA, loadA, St.ev, setS, AV.cells, AV.flat, AV.single, ACond_true, List.getD_cons_succ, List.getD_cons_zero, List.set_cons_succ, List.set_cons_zero, List.getElem?_cons_succ, List.getElem?_cons_zero, List.length_cons, List.length_nil, List.cons_append, List.nil_append, Bool.false_eq_true, if_false, if_true, true_and, and_true, List.all_cons, List.all_nil, Bool.and_true, Bool.true_and, Bool.not_true, Nat.zero_add, beq_self_eq_true, List.map_cons, List.map_nil, decide_true, Nat.reduceAdd, Nat.reduceLeDiff, Int.reduceAdd, Option.bind_some, ASch, St.put, Md.mem, Md.need, gtsA_len, ti22, ti24, decide_eq_true h0, gtsA_len, ht1, ht0, aget_gts hm1, aget_gts hm0]
      refine ⟨by omega, by unfold lim; omega, by omega, acall_v (s90 d[m + 1] d[m]) rfl rfl ?_⟩
      have hbs : bub (m + 1) d = if G4.less d[m + 1] d[m] then bub m (swpG d (m + 1)) else d := by
        rw [bub, getD_at hm1, getD_at hm0]
      rw [← cmpG_less] at hbs
      by_cases hc : cmpG d[m + 1] d[m] < 0
      · simp only [w_pick, w_binOp, w_gdb, w_take, w_takeg, w_some, w_asome, awp, binC, cmpC, asB, asI, St.ev, St.step, setS, killS, AV.kill, AV.killL, Mem.kill, ACond_true, List.getD_cons_succ, List.getD_cons_zero, List.set_cons_succ, List.set_cons_zero, List.getElem?_cons_succ, List.getElem?_cons_zero, List.contains_nil, List.isEmpty_nil, Bool.false_eq_true, if_false, if_true, true_and, Bool.true_and, beq_self_eq_true, Option.bind_some, ASch, St.put, Md.mem, Md.need, decide_eq_true hc]
        refine swp_draw (own := []) (.take 0 .plain [] (.take 1 .plain [] (.take 2 .plain [] (.take 3 .plain [] (.take 4 .plain [] (.take 5 .plain [] (.take 6 .plain [] (.take 7 .plain [] (.take 8 .reads [] (.take 9 .reads [] (.take 10 .plain [] (.take 11 .plain [] (.take 12 .reads [] (.take 13 .reads [] (.take 14 .reads [] (.alt 15 (.take 16 .reads [] (.alt 17 (.done) (.nil))) (.nil))))))))))))))))) [⟨38, 1, 0, 0, true⟩, ⟨39, 512, 0, 0, true⟩, ⟨40, 1, 0, 0, true⟩, ⟨41, 512, 0, 0, true⟩, ⟨42, 1099511627776, 8, 0, true⟩, ⟨43, 1, 0, 0, true⟩, ⟨44, 512, 0, 0, true⟩, ⟨45, 8796093022208, 64, 0, true⟩, ⟨46, 21990232555520, 160, 0, true⟩, ⟨47, 35184372088832, 256, 0, true⟩, ⟨48, 1, 0, 0, true⟩, ⟨49, 512, 0, 0, true⟩, ⟨50, 422212465065984, 3072, 0, true⟩, ⟨51, 562949953421312, 4096, 0, true⟩, ⟨52, 412316860416, 9187, 0, true⟩, ⟨0, 2322168557862912, 25571, 1, false⟩, ⟨53, 2748779069440, 65535, 0, true⟩, ⟨0, 5629499534213120, 131071, 1, false⟩] mo (by kernel_rfl) ?_
        simp only [w_move, w_load, w_store, w_indexAddr, w_binOp, w_aop, w_take, w_some, w_asome, w_anone, binC, idxC, arithC, cmpC, asP, asQ, asO, asS, asI, obA, loadA, storeA, putsA, St.ev, St.step, setS, killS, AV.kill, AV.killL, Mem.kill, AV.cells, AV.flat, AV.single, AV.cellular, List.getD_cons_succ, List.getD_cons_zero, List.set_cons_succ, List.set_cons_zero, List.getElem?_cons_succ, List.getElem?_cons_zero, List.length_cons, List.length_nil, List.contains_nil, List.isEmpty_nil, Bool.false_eq_true, if_false, if_true, true_and, and_true, List.all_cons, List.all_nil, Bool.and_true, Bool.true_and, Bool.not_true, Nat.zero_add, beq_self_eq_true, decide_true, Nat.reduceAdd, Nat.reduceLeDiff, Int.reduceAdd, ASch, St.put, Md.mem, Md.need, gtsA_len, ti22, ti24, gtsA_len, ht1, ht0, aget_gts hm1, aget_gts hm0]
        obtain ⟨e, he⟩ : ∃ e, e = d.set (m + 1) ⟨d[m].k, d[m].a, d[m].b, d[m].t⟩ := ⟨_, rfl⟩
        have hel : e.length = d.length := by rw [he]; simp
        have hme : m < e.length := by omega
        have hsw : e.set m ⟨d[m + 1].k, d[m + 1].a, d[m + 1].b, d[m + 1].t⟩ = swpG d (m + 1) := by
          unfold swpG
          rw [getD_at hm1, Nat.add_sub_cancel, getD_at hm0, he]
        rw [gtsA_set, ← he]
        simp only [w_move, w_assign, w_binOp, w_aop, w_some, w_asome, w_anone, w_nil, w_cons, awp, binC, arithC, cmpC, asI, asN, storeA, putsA, St.ev, St.step, setS, killS, AV.kill, AV.killL, Mem.kill, AV.cells, AV.flat, AV.single, AV.cellular, ACond_false, List.getD_cons_succ, List.getD_cons_zero, List.set_cons_succ, List.set_cons_zero, List.length_cons, List.length_nil, List.contains_nil, List.isEmpty_nil, Option.getD_some, Bool.false_eq_true, if_false, if_true, true_and, and_true, List.all_cons, List.all_nil, Bool.and_true, Bool.true_and, Nat.zero_add, beq_self_eq_true, decide_true, Nat.reduceAdd, Nat.reduceLeDiff, Int.reduceAdd, ASch, gtsA_len, gtsA_len, aget_gts hme, gtsA_set, hsw]
        rw [show ((m + 1 : Nat) : Int) - 1 = ((m : Nat) : Int) by omega]
        refine ⟨by unfold lim; omega, by unfold lim; omega, by omega, by omega, by omega, by omega, by unfold lim; omega, (m, swpG d (m + 1)), le_sl (by simp [leSl]), ⟨by simp only; omega, by simp only [swpG_len]; exact hdl, ?_⟩, by simp only; omega⟩
        rw [← hb, hbs, if_pos (by simpa using hc)]
      · simp only [w_move, w_assign, w_pick, w_binOp, w_aop, w_gdb, w_take, w_takeg, w_some, w_asome, w_anone, w_nil, w_cons, awp, binC, arithC, cmpC, asB, asI, asN, St.ev, St.step, setS, killS, AV.kill, AV.killL, Mem.kill, ACond_true, ACond_false, List.getD_cons_succ, List.getD_cons_zero, List.set_cons_succ, List.set_cons_zero, List.getElem?_cons_succ, List.getElem?_cons_zero, List.contains_nil, List.isEmpty_nil, Option.getD_some, Bool.false_eq_true, if_false, if_true, true_and, and_true, Bool.and_true, Bool.true_and, beq_self_eq_true, Nat.reduceAdd, Nat.reduceEqDiff, Int.reduceAdd, Option.bind_some, ASch, St.put, Md.mem, Md.need, decide_eq_false hc]
        have hbd : d = srtK i l := by rw [← hb, hbs, if_neg (by simpa using hc)]
        refine ⟨by unfold lim; omega, i + 1, ?_, ⟨by omega, by omega⟩, by omega⟩
        rw [show srtK (i + 1 - 1) l = d from hbd.symm]
        exact le_sl (by simp [leSl])
  · have h' : ¬ (i : Int) < (l.length : Int) := by omega
    simp only [awp, ACond_false, if_true, decide_eq_false h']
    refine ⟨_, .t [], [some ⟨none, 24, 4, gtsA (srt l)⟩], [], fun _ _ _ h => h, rfl, ?_, rfl, rfl, ?_, ⟨rfl, rfl⟩⟩
    · unfold srt
      rw [show i - 1 = l.length - 1 by omega]
      rfl
    · simp [freeM, freeL_pure, gtsA_pure]

theorem ok105 : okFn Try.prog 105 = true := by kernel_rfl
set_option maxRecDepth 100000 in
theorem s105 (l : List G4) (hl : l.length ≤ 10) (lm : Int) : MSpec Try.prog 105 [.o 0, I 0, I l.length, I lm, .f (.func 90) []] [some ⟨none, 24, 4, gtsA l⟩] (fun r M' => r = .t [] ∧ M' = [some ⟨none, 24, 4, gtsA (srt l)⟩]) := by
  refine mspec_of2 (own := [1004]) Try.func105 rfl ok105 fun vs => ?_
  have h12 : (l.length : Int) - 0 ≤ 12 := by omega
  simp only [w_assign, w_aop, w_anone, w_nil, w_cons, awp, asN, St.ev, St.step, setS, killS, AV.kill, AV.killL, Mem.kill, ACond_false, List.set_cons_succ, List.set_cons_zero, List.length_cons, List.length_nil, List.replicate_succ, List.replicate_zero, List.cons_append, List.nil_append, List.contains_nil, List.contains_cons, List.isEmpty_nil, Option.getD_some, Bool.false_eq_true, if_false, if_true, Nat.zero_add, Nat.add_zero, nbeq, decide_false, Bool.or_false, Nat.reduceAdd, Nat.reduceEqDiff, Nat.reduceSub, Int.reduceAdd, Int.reduceSub, Try.ntmps105, ghost]
  refine swp_loop' (fun _ : Unit => ⟨[.o 0, I 0, I l.length, I lm, .f (.func 90) [], .bot, .bot, .bot, .bot, .bot, .bot, .bot, .bot, .bot, .bot, .bot, .bot, .bot, .bot, .bot, .bot, .bot, .bot, .bot, .bot, .bot, .bot, .bot, .bot, .bot, .bot, .bot, .bot, .bot, .bot, .bot, .bot, .bot, .bot, .bot, .bot, .bot, .bot, .bot, .bot, .bot, .bot, .bot, .bot, .bot, .bot, .bot, .bot, .bot, .bot, .bot, .bot, .bot, .bot, .bot, .bot, .bot, .bot, .bot, .bot, .bot, .bot, .bot, .bot, .bot, .bot, .bot, .bot, .bot, .bot, .bot, .bot, .bot, .bot, .bot, .bot, .bot, .bot, .bot, .bot, .bot, .bot, .bot, .bot, .bot, .bot, .bot, .bot, .bot, .bot, .bot, .bot, .bot, .bot, .bot, .bot, .bot, .bot, .bot, .bot, .bot, .bot, .bot, .bot, .bot, .bot, .bot, .bot, .bot, .bot, .bot, .bot, .bot, .bot, .bot, .bot, .bot, .bot, .bot, .bot, .bot, .bot, .bot, .bot, .bot, .bot, .bot, .bot, .bot, .bot, .bot, .bot, .bot, .bot, .bot, .bot, .bot, .bot, .bot, .bot, .bot, .bot, .bot], [some ⟨none, 24, 4, gtsA l⟩, some (ghost vs [.o 0, I 0, I l.length, I lm, .f (.func 90) []])]⟩) (fun _ => True) (fun _ => 0) () (le_sl (by simp [leSl])) trivial ?_
  rintro _ _
  refine awp_sound (own := [1004]) _ _ _ _ _ ?_
  simp only [w_move, w_assign, w_binOp, w_aop, w_some, w_asome, w_anone, w_nil, w_cons, awp, binC, arithC, cmpC, asB, asI, asN, St.ev, St.step, setS, killS, AV.kill, AV.killL, Mem.kill, ACond_true, ACond_false, List.getD_cons_succ, List.getD_cons_zero, List.set_cons_succ, List.set_cons_zero, List.contains_nil, List.contains_cons, List.isEmpty_nil, Option.getD_some, Bool.false_eq_true, if_false, if_true, true_and, and_true, Bool.and_true, Bool.true_and, beq_self_eq_true, nbeq, decide_false, Bool.or_false, Nat.reduceAdd, Nat.reduceEqDiff, Int.reduceAdd, ghost, decide_eq_true h12]
  refine ⟨by unfold lim; omega, swp_fm (own := []) 4 rfl rfl rfl ?_⟩
  simp only [w_move, w_aop, w_nil, w_cons, St.ev, St.step, setS, killS, AV.kill, AV.killL, Mem.kill, List.getD_cons_succ, List.getD_cons_zero, List.set_cons_succ, List.set_cons_zero, List.contains_nil, List.isEmpty_nil, Bool.false_eq_true, if_false, if_true, List.map_cons, List.map_nil, List.take_succ_cons, List.take_zero]
  refine acall_f (mspec_first2 (s109 l (by omega)) [some ⟨some vs, 0, 1, [.o 0, I 0, I l.length, I lm, .f (.func 90) []]⟩] (by simp [AV.freeL, AV.free, Zr, List.range_succ]) (freeL_pure _ (gtsA_pure l)) ?_) ?_
  · intro o ho
    simp only [List.mem_singleton, Option.some.injEq] at ho
    subst ho
    rfl
  simp only [w_nil, awp, St.ev, setS, List.getD_cons_succ, List.getD_cons_zero, List.set_cons_succ, List.set_cons_zero, List.getElem?_cons_zero, if_true, beq_self_eq_true, List.map_cons, List.map_nil, Bool.or_false, Nat.reduceAdd, Int.reduceAdd, keepF, liveI, AV.sub, AV.subL, AV.isO, List.any_cons, List.any_nil, List.drop_succ_cons, List.drop_zero]
  refine ⟨_, .t [], [some ⟨none, 24, 4, gtsA (srt l)⟩], [], fun _ _ _ h => h, rfl, rfl, rfl, rfl, ?_, ⟨rfl, rfl⟩⟩
  simp [freeM, freeL_pure, gtsA_pure]
end Go.Proofs.Ytkmbbbemmohmcaa

namespace Go.Proofs.Ytkmbbbemmohmcaa
open Aw Go.RowKit
set_option linter.unusedSimpArgs false

set_option maxRecDepth 100000 in
set_option maxHeartbeats 4000000 in
theorem len64_calls (n : Int) (hn : n = 0 ∨ n = 1 ∨ n = 2 ∨ n = 3 ∨ n = 4 ∨ n = 5 ∨ n = 6 ∨ n = 7 ∨ n = 8 ∨ n = 9 ∨ n = 10) (w : World) : Calls Try.prog 118 #[.int .u64 n] w fun e w' => (∃ L : Int, e = .returned (.int .i64 L)) ∧ w' = w := by
  rcases hn with rfl | rfl | rfl | rfl | rfl | rfl | rfl | rfl | rfl | rfl | rfl
  all_goals
    go_enter Try.func118, Try.ntmps118
    go_wp2
    go_ret
    exact ⟨⟨_, rfl⟩, rfl⟩

theorem len_calls (n : Int) (hn : n = 0 ∨ n = 1 ∨ n = 2 ∨ n = 3 ∨ n = 4 ∨ n = 5 ∨ n = 6 ∨ n = 7 ∨ n = 8 ∨ n = 9 ∨ n = 10) (w : World) : Calls Try.prog 106 #[.int .u64 n] w fun e w' => (∃ L : Int, e = .returned (.int .i64 L)) ∧ w' = w := by
  have h := len64_calls n hn w
  clear hn
  go_enter Try.func106, Try.ntmps106
  go_wp2_with (go_at_call 118; refine h.mono ?_; rintro e w' ⟨⟨L, rfl⟩, rfl⟩)
  go_ret
  exact ⟨⟨_, rfl⟩, rfl⟩

theorem ok106 : okFn Try.prog 106 = true := by kernel_rfl
theorem s106 (n : Nat) (hn : n ≤ 10) : ASpec Try.prog 106 [.v (.int .u64 n)] (fun r Ms => (∃ L, r = I L) ∧ Ms = []) := by
  refine ⟨ok106, fun w vs A hA hvs => ?_⟩
  simp only [RVL, RV] at hvs
  obtain ⟨v, vs', rfl, rfl, rfl⟩ := hvs
  refine (len_calls n (by omega) w).mono ?_
  rintro e w' ⟨⟨L, rfl⟩, rfl⟩
  refine ⟨I L, [], _, noHv, rfl, ⟨⟨L, rfl⟩, rfl⟩, ⟨fun i ob h => by simp at h, fun i v h => by simp [noHv] at h, fun i j vi vj b h => by simp [noHv] at h, hA⟩, by simp [RV], fun b hb => ?_, Below.refl _ _⟩
  obtain ⟨i, v, h, _⟩ := hb
  simp [noHv] at h

theorem conv_sound {ops : Array Oper} {k : Nat} {σ : St} {o : Oper} {x : Operand} {n : Nat} (ho : ops[k]? = some o) (hg : o.guard = none) (hop : o.op = .convert 3 74 x) (hx : σ.ev x = I n) (hn : n ≤ 10) : HOp Try.prog ops k σ (σ.step o.dst (.v (.int .u64 n)) [] σ.M) := by
  intro C a w Q hS
  obtain ⟨hv, hd, hsz, hsl, hM, hF⟩ := hS
  unfold wpOp
  simp only [ho]
  rw [if_pos (wanted_none hg _)]
  left
  have hlv := ev_ok hsl x
  rw [hx] at hlv
  simp only [RV] at hlv
  have u3 : Try.prog.underlying 3 = some (.int .i64) := by kernel_rfl
  have u74 : Try.prog.underlying 74 = some (.int .u64) := by kernel_rfl
  have hw : IntKind.u64.wrap (n : Int) = n := by simp [IntKind.wrap, IntKind.bits, IntKind.signed]; omega
  refine wp_value (v := .int .u64 n) (w' := w) ?_ ?_
  · simp [execOp, hop, hlv, convert, run_underlying u3, run_underlying u74, Conv.intToInt, hw]
  · refine StR.next hd hsz hsl hF (Z := []) (w' := w) (hv' := hv) ?_ ?_ ?_
    · exact hM
    · simp [RV]
    · exact ⟨Keeps.refl _ _, fun _ _ _ h => h, rfl, rfl, rfl⟩

theorem ok89 : okFn Try.prog 89 = true := by kernel_rfl
theorem s89 (l : List G4) (hl : l.length ≤ 10) : MSpec Try.prog 89 [.o 0, .f (.func 90) []] [some ⟨none, 24, 4, gtsA l⟩] (fun r M' => r = .t [] ∧ M' = [some ⟨none, 24, 4, gtsA (srt l)⟩]) := by
  refine mspec_of2 (own := [1001]) Try.func89 rfl ok89 fun vs => ?_
  simp only [w_move, w_assign, w_len, w_aop, w_some, w_asome, w_anone, w_nil, w_cons, awp, asN, lenA, St.ev, St.step, setS, killS, AV.kill, AV.killL, Mem.kill, ACond_true, ACond_false, List.getD_cons_succ, List.getD_cons_zero, List.set_cons_succ, List.set_cons_zero, List.getElem?_cons_zero, List.length_cons, List.length_nil, List.replicate_succ, List.replicate_zero, List.cons_append, List.nil_append, List.contains_nil, List.contains_cons, List.isEmpty_nil, Option.getD_some, Bool.false_eq_true, if_false, if_true, true_and, Bool.true_and, Option.isSome_some, Nat.zero_add, Nat.add_zero, beq_self_eq_true, nbeq, decide_false, Bool.or_false, Nat.reduceAdd, Nat.reduceEqDiff, Nat.reduceSub, Int.reduceAdd, Int.reduceSub, gtsA_len, ti22, Try.ntmps89, ghost, gtsA_len]
  refine swp_s (sops_pre (own := []) (pre := [_, _, _]) rfl ?_)
  simp only [w_move, w_aop, w_nil, w_cons, St.ev, St.step, setS, killS, AV.kill, AV.killL, Mem.kill, List.getD_cons_succ, List.getD_cons_zero, List.set_cons_succ, List.set_cons_zero, List.length_cons, List.length_nil, List.contains_nil, List.isEmpty_nil, Bool.false_eq_true, if_false, if_true, Nat.zero_add, Nat.reduceAdd, Int.reduceAdd]
  refine sops_op (conv_sound (n := l.length) rfl rfl rfl rfl hl) ?_
  dsimp only [List.drop_succ_cons, List.drop_zero, List.getElem_toArray, List.getElem_cons_succ, List.getElem_cons_zero]
  simp only [St.step, setS, killS, AV.kill, AV.killL, Mem.kill, List.set_cons_succ, List.set_cons_zero, List.contains_nil, List.isEmpty_nil, Bool.false_eq_true, if_false, if_true, Nat.reduceAdd, Int.reduceAdd]
  refine sops_pre (own := []) (pre := [_, _]) rfl ?_
  simp only [w_callF, w_aop, w_cons, St.ev, List.getD_cons_succ, List.getD_cons_zero, List.map_cons, List.map_nil]
  refine ⟨false, _, _, coel_pure rfl, s106 l.length hl, ?_⟩
  rintro r Ms ⟨⟨L, rfl⟩, rfl⟩
  refine ⟨fun e => (by cases e), ?_⟩
  simp only [w_move, w_aop, w_nil, w_cons, St.ev, St.step, setS, killS, AV.kill, AV.killL, Mem.kill, List.getD_cons_succ, List.getD_cons_zero, List.set_cons_succ, List.set_cons_zero, List.length_cons, List.length_nil, List.cons_append, List.nil_append, List.contains_nil, List.isEmpty_nil, Bool.false_eq_true, if_false, if_true, Nat.zero_add, List.map_nil, Nat.reduceAdd, Int.reduceAdd, AV.up, AV.sub]
  refine sops_op (hop_f (M := [some ⟨none, 24, 4, gtsA l⟩]) (x := .t []) (N := [some ⟨none, 24, 4, gtsA (srt l)⟩, some ⟨some vs, 0, 1, [.o 0, .f (.func 90) []]⟩]) rfl rfl rfl (mspec_first2 (s105 l hl L) [some ⟨some vs, 0, 1, [.o 0, .f (.func 90) []]⟩] (by simp [AV.freeL, AV.free, Zr, List.range_succ]) (freeL_pure _ (gtsA_pure l)) ?_)) (sops_end ?_)
  · intro o ho
    simp only [List.mem_singleton, Option.some.injEq] at ho
    subst ho
    rfl
  refine ⟨_, .t [], [some ⟨none, 24, 4, gtsA (srt l)⟩], [], fun _ _ _ h => h, rfl, rfl, rfl, rfl, ?_, ⟨rfl, rfl⟩⟩
  simp [freeM, freeL_pure, gtsA_pure]
end Go.Proofs.Ytkmbbbemmohmcaa
