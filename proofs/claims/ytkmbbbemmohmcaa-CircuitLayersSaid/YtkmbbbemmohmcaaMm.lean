/-
  Several texts in one: CuL, CuM, PlF, DbH.
-/
import Derived.Test.YtkmbbbemmohmcaaMl
import Derived.Test.YtkmbbbemmohmcaaMf
set_option linter.unusedSimpArgs false
set_option linter.unusedVariables false
namespace Go.Proofs.Ytkmbbbemmohmcaa
open Aw Go.RowKit
set_option linter.unusedSimpArgs false

theorem ok79 : okFn Try.prog 79 = true := by kernel_rfl
set_option maxHeartbeats 1000000 in
set_option maxRecDepth 10000 in
theorem s79 (l : List G4) (hl : l.length ≤ 10000) : ASpec Try.prog 79 [.s 4 (gtsA l)] (fun r Ms => r = .s 4 (gtsA (srt l)) ∧ Ms = []) := by
  refine aspec_of (own := [6, 7]) Try.func79 rfl ok79 ?_
  simp only [w_move, w_assign, w_buildSlice, w_append, w_aop, w_some, w_asome, w_anone, w_nil, w_cons, awp, asO, asS, asN, obA, Aw.newRow, St.ev, St.step, setS, killS, AV.kill, AV.killL, Mem.kill, AV.cells, AV.flat, AV.single, AV.cellular, ACond_true, ACond_false, Value.oneCell', List.getD_cons_succ, List.getD_cons_zero, List.set_cons_succ, List.set_cons_zero, List.getElem?_cons_zero, List.length_cons, List.length_nil, List.replicate_succ, List.replicate_zero, List.cons_append, List.nil_append, List.contains_nil, List.contains_cons, List.isEmpty_nil, List.isEmpty_cons, Option.getD_some, Bool.false_eq_true, if_false, if_true, true_and, and_true, List.all_nil, Bool.and_true, Bool.true_and, Nat.zero_add, Nat.add_zero, beq_self_eq_true, List.map_cons, List.map_nil, nbeq, decide_false, Bool.or_false, Bool.or_true, Nat.reduceAdd, Nat.reduceEqDiff, Nat.reduceMul, Nat.reduceSub, Nat.reduceLeDiff, Int.reduceAdd, Int.reduceSub, Int.reduceMul, Option.map_some, gtsA_len, ti22, ti24, Try.ntmps79, gtsA_len]
  refine ⟨⟨by decide, rfl⟩, ⟨by decide, by omega⟩, ?_⟩
  refine swp_loop' (fun i : Nat => ⟨[.bot, .bot, .bot, .o 0, I i, .bot, .bot, .bot, .bot, .bot, .bot, .bot, .bot, .bot, .bot, .bot, .bot, .bot, .bot, .bot, .bot, .bot, .bot, .bot, .bot, .bot, .bot, .bot, .bot, .bot, .bot, .bot, .bot, .bot, .bot, .bot, .bot, .bot, .bot, .bot, .bot, .bot, .bot, .bot, .bot, .bot, .bot, .bot, .bot, .bot, .bot], [some ⟨none, 24, 4, gtsA (srtK (i - 1) l)⟩]⟩) (fun i => 1 ≤ i ∧ (i ≤ l.length ∨ i = 1)) (fun i => l.length - i) 1 (le_sl (by simp [leSl, srtK])) ⟨Nat.le_refl _, .inr rfl⟩ ?_
  rintro i ⟨hi1, hi⟩
  refine awp_sound (own := [6, 7]) _ _ _ _ _ ?_
  simp only [w_move, w_binOp, w_len, w_aop, w_some, w_asome, w_nil, w_cons, awp, binC, cmpC, asB, asI, lenA, St.ev, St.step, setS, killS, AV.kill, AV.killL, Mem.kill, ACond_false, List.getD_cons_succ, List.getD_cons_zero, List.set_cons_succ, List.set_cons_zero, List.getElem?_cons_zero, List.contains_nil, List.contains_cons, List.isEmpty_nil, Bool.false_eq_true, if_false, if_true, true_and, Bool.true_and, Option.isSome_some, nbeq, decide_false, Bool.or_false, Nat.reduceAdd, Nat.reduceEqDiff, Int.reduceAdd, gtsA_len, ti22, gtsA_len, srtK_len]
  by_cases h : i < l.length
  · have h' : (i : Int) < (l.length : Int) := by omega
    simp only [w_move, w_assign, w_aop, w_anone, w_nil, w_cons, awp, asN, St.ev, St.step, setS, killS, AV.kill, AV.killL, Mem.kill, ACond_true, ACond_false, List.getD_cons_succ, List.getD_cons_zero, List.set_cons_succ, List.set_cons_zero, List.contains_nil, List.contains_cons, List.isEmpty_nil, Option.getD_some, Bool.false_eq_true, if_false, if_true, nbeq, decide_false, Bool.or_false, Nat.reduceAdd, Nat.reduceEqDiff, Int.reduceAdd, decide_eq_true h']
    refine swp_loop' (fun p : Nat × List G4 => ⟨[.bot, .bot, .bot, .o 0, I i, I p.1, .bot, .bot, .bot, .bot, .bot, .bot, .bot, .bot, .bot, .bot, .bot, .bot, .bot, .bot, .bot, .bot, .bot, .bot, .bot, .bot, .bot, .bot, .bot, .bot, .bot, .bot, .bot, .bot, .bot, .bot, .bot, .bot, .bot, .bot, .bot, .bot, .bot, .bot, .bot, .bot, .bot, .bot, .bot, .bot, .bot], [some ⟨none, 24, 4, gtsA p.2⟩]⟩) (fun p => p.1 ≤ i ∧ p.2.length = l.length ∧ bub p.1 p.2 = srtK i l) (fun p => p.1) (i, srtK (i - 1) l) (le_sl (by simp [leSl])) ⟨Nat.le_refl _, srtK_len _ _, by
      obtain ⟨m, rfl⟩ : ∃ m, i = m + 1 := ⟨i - 1, by omega⟩
      rfl⟩ ?_
    rintro ⟨j, d⟩ ⟨hj, hdl, hb⟩
    simp only at hj hdl hb
    refine awp_sound (own := [6, 7]) _ _ _ _ _ ?_
    simp only [awp]
    refine swp_draw (own := [6, 7]) (.take 0 .plain [] (.take 1 .plain [] (.take 2 .plain [] (.take 3 .plain [] (.take 4 .plain [] (.take 5 .reads [] (.take 6 .reads [] (.take 7 .plain [] (.take 8 .plain [] (.take 9 .plain [] (.take 10 .reads [] (.take 11 .reads [] (.alt 12 (.take 13 .plain [] (.done)) (.nil)))))))))))))) [⟨18, 32, 0, 0, true⟩, ⟨19, 131072, 1, 0, true⟩, ⟨20, 262144, 2, 0, true⟩, ⟨21, 524296, 4, 0, true⟩, ⟨22, 524320, 4, 0, true⟩, ⟨23, 3670016, 28, 0, true⟩, ⟨24, 4718592, 36, 0, true⟩, ⟨25, 524296, 4, 0, true⟩, ⟨26, 524320, 4, 0, true⟩, ⟨27, 34078720, 260, 0, true⟩, ⟨28, 84410368, 644, 0, true⟩, ⟨29, 134742016, 1028, 0, true⟩, ⟨30, 277348352, 2116, 0, false⟩, ⟨31, 537395200, 4100, 0, true⟩] mo (by kernel_rfl) ?_
    simp only [w_move, w_binOp, w_gdb, w_take, w_takeg, w_some, w_asome, binC, cmpC, asI, St.ev, setS, List.getD_cons_succ, List.getD_cons_zero, List.set_cons_succ, List.set_cons_zero, List.getElem?_cons_succ, List.getElem?_cons_zero, true_and, Bool.true_and, Option.bind_some, ASch, St.put, Md.mem, Md.need, w_bt]
    cases j with
    | zero =>
      have h0 : ¬ (0 : Int) < ((0 : Nat) : Int) := by omega
      simp only [w_move, w_assign, w_pick, w_binOp, w_aop, w_aopg, w_gdb, w_take, w_takeg, w_some, w_asome, w_anone, w_nil, w_cons, awp, binC, arithC, cmpC, asB, asI, asN, St.ev, St.step, setS, killS, AV.kill, AV.killL, Mem.kill, ACond_false, List.getD_cons_succ, List.getD_cons_zero, List.set_cons_succ, List.set_cons_zero, List.getElem?_cons_succ, List.getElem?_cons_zero, List.contains_nil, List.contains_cons, List.isEmpty_nil, Option.getD_some, Bool.false_eq_true, if_false, if_true, true_and, and_true, Bool.and_true, Bool.true_and, nbeq, decide_false, Bool.or_false, Nat.reduceAdd, Nat.reduceEqDiff, Int.reduceAdd, Option.bind_some, ASch, St.put, Md.mem, Md.need, w_bt, decide_eq_false h0]
      simp only [bub] at hb
      refine ⟨by unfold lim; omega, i + 1, ?_, ⟨by omega, by omega⟩, by omega⟩
      rw [hb]
      exact le_sl (by simp [leSl])
    | succ m =>
      have h0 : (0 : Int) < ((m + 1 : Nat) : Int) := by omega
      have hm1 : m + 1 < d.length := by omega
      have hm0 : m < d.length := by omega
      have ht1 : ((m + 1 : Nat) : Int).toNat = m + 1 := by omega
      have ht0 : (((m + 1 : Nat) : Int) - 1).toNat = m := by omega
      simp only [w_move, w_load, w_indexAddr, w_binOp, w_callF, w_aopg, w_gdb, w_takeg, w_some, w_asome, w_anone, binC, idxC, arithC, cmpC, asP, asQ, asO, asS, asI, obA, loadA, St.ev, setS, AV.cells, AV.flat, AV.single, ACond_true, List.getD_cons_succ, List.getD_cons_zero, List.set_cons_succ, List.set_cons_zero, List.getElem?_cons_succ, List.getElem?_cons_zero, List.length_cons, List.length_nil, Bool.false_eq_true, if_false, if_true, true_and, and_true, List.all_cons, List.all_nil, Bool.and_true, Bool.true_and, Bool.not_true, Nat.zero_add, beq_self_eq_true, List.map_cons, List.map_nil, decide_true, Nat.reduceAdd, Nat.reduceLeDiff, Int.reduceAdd, Option.bind_some, ASch, St.put, Md.mem, Md.need, gtsA_len, ti22, ti24, decide_eq_true h0, gtsA_len, ht1, ht0, aget_gts hm1, aget_gts hm0]
      refine ⟨by omega, by unfold lim; omega, by omega, acall_v (s99 d[m + 1] d[m]) rfl rfl ?_⟩
      have hbs : bub (m + 1) d = if G4.less d[m + 1] d[m] then bub m (swpG d (m + 1)) else d := by
        rw [bub, getD_at hm1, getD_at hm0]
      cases hc : G4.less d[m + 1] d[m] with
      | true =>
        simp only [w_move, w_pick, w_alloc, w_load, w_store, w_indexAddr, w_binOp, w_aop, w_take, w_some, w_asome, w_anone, w_nil, w_cons, awp, binC, idxC, arithC, cmpC, asP, asQ, asO, asS, asB, asI, obA, AGet_zero, loadA, storeA, putsA, mkA, Aw.newRow, St.ev, St.step, setS, killS, AV.kill, AV.killL, Mem.kill, AV.cells, AV.flat, AV.single, AV.cellular, ACond_true, ACond_false, List.getD_cons_succ, List.getD_cons_zero, List.set_cons_succ, List.set_cons_zero, List.getElem?_cons_succ, List.getElem?_cons_zero, List.length_cons, List.length_nil, List.cons_append, List.nil_append, List.contains_nil, List.contains_cons, List.isEmpty_nil, Bool.false_eq_true, if_false, if_true, true_and, and_true, List.all_cons, List.all_nil, Bool.and_true, Bool.true_and, Bool.not_true, Nat.zero_add, beq_self_eq_true, List.map_cons, List.map_nil, decide_true, nbeq, decide_false, Bool.or_false, Nat.reduceAdd, Nat.reduceEqDiff, Nat.reduceLeDiff, Int.reduceAdd, ASch, St.put, Md.mem, Md.need, gtsA_len, ti22, ti24, gtsA_len, ht1, ht0, aget_gts hm1, aget_gts hm0]
        obtain ⟨e, he⟩ : ∃ e, e = d.set (m + 1) ⟨d[m].k, d[m].a, d[m].b, d[m].t⟩ := ⟨_, rfl⟩
        have hel : e.length = d.length := by rw [he]; simp
        have hme : m < e.length := by omega
        have hsw : e.set m ⟨d[m + 1].k, d[m + 1].a, d[m + 1].b, d[m + 1].t⟩ = swpG d (m + 1) := by
          unfold swpG
          rw [getD_at hm1, Nat.add_sub_cancel, getD_at hm0, he]
        rw [gtsA_set, ← he]
        simp only [w_move, w_assign, w_binOp, w_aop, w_some, w_asome, w_anone, w_nil, w_cons, awp, binC, arithC, cmpC, asI, asN, storeA, putsA, St.ev, St.step, setS, killS, AV.kill, AV.killL, Mem.kill, AV.cells, AV.flat, AV.single, AV.cellular, ACond_false, List.getD_cons_succ, List.getD_cons_zero, List.set_cons_succ, List.set_cons_zero, List.length_cons, List.length_nil, List.contains_nil, List.contains_cons, List.isEmpty_nil, Option.getD_some, Bool.false_eq_true, if_false, if_true, true_and, and_true, List.all_cons, List.all_nil, Bool.and_true, Bool.true_and, Nat.zero_add, beq_self_eq_true, decide_true, nbeq, decide_false, Bool.or_false, Nat.reduceAdd, Nat.reduceEqDiff, Nat.reduceLeDiff, Int.reduceAdd, gtsA_len, gtsA_len, aget_gts hme, gtsA_set, hsw]
        rw [show ((m + 1 : Nat) : Int) - 1 = ((m : Nat) : Int) by omega]
        refine ⟨by omega, by unfold lim; omega, by omega, by omega, by unfold lim; omega, by omega, by unfold lim; omega, (m, swpG d (m + 1)), ?_, ⟨by simp only; omega, by simp only [swpG_len]; exact hdl, ?_⟩, by simp only; omega⟩
        · exact le_cut (Mx := [_]) (M' := [_]) (by simp [leSl]) rfl (by simp [AV.freeL, AV.free]) (by simp [freeM, freeL_pure, gtsA_pure])
        · rw [← hb, hbs, if_pos hc]
      | false =>
        simp only [w_move, w_assign, w_pick, w_binOp, w_aop, w_take, w_some, w_asome, w_anone, w_nil, w_cons, awp, binC, arithC, cmpC, asB, asI, asN, St.ev, St.step, setS, killS, AV.kill, AV.killL, Mem.kill, ACond_true, ACond_false, List.getD_cons_succ, List.getD_cons_zero, List.set_cons_succ, List.set_cons_zero, List.getElem?_cons_succ, List.getElem?_cons_zero, List.contains_nil, List.contains_cons, List.isEmpty_nil, Option.getD_some, Bool.false_eq_true, if_false, if_true, true_and, and_true, Bool.and_true, Bool.true_and, nbeq, decide_false, Bool.or_false, Nat.reduceAdd, Nat.reduceEqDiff, Int.reduceAdd, ASch, St.put, Md.mem, Md.need]
        have hbd : d = srtK i l := by rw [← hb, hbs, hc]; simp
        refine ⟨by unfold lim; omega, i + 1, ?_, ⟨by omega, by omega⟩, by omega⟩
        rw [show srtK (i + 1 - 1) l = d from hbd.symm]
        exact le_sl (by simp [leSl])
  · have h' : ¬ (i : Int) < (l.length : Int) := by omega
    simp only [w_move, w_assign, w_aop, w_anone, w_nil, w_cons, awp, asN, St.ev, St.step, setS, killS, AV.kill, AV.killL, Mem.kill, ACond_false, List.getD_cons_succ, List.getD_cons_zero, List.set_cons_succ, List.set_cons_zero, List.contains_nil, List.contains_cons, List.isEmpty_nil, Option.getD_some, Bool.false_eq_true, if_false, if_true, nbeq, decide_false, Bool.or_false, Nat.reduceAdd, Nat.reduceEqDiff, Int.reduceAdd, decide_eq_false h']
    refine aend_frz rfl ⟨?_, rfl⟩
    unfold srt
    rw [show i - 1 = l.length - 1 by omega]
    simp [frz, AV.sub, gtsA_pure]
end Go.Proofs.Ytkmbbbemmohmcaa

namespace Go.Proofs.Ytkmbbbemmohmcaa
open Aw Go.RowKit
set_option linter.unusedSimpArgs false

theorem fsI_rev {bd : G4 → G4 → Bool} {d : List G4} {k : Nat} (hk : k < (fsR bd d).length) : ∃ h : (fsI bd d d.length).length - 1 - k < (fsI bd d d.length).length, (fsI bd d d.length)[(fsI bd d d.length).length - 1 - k] = (((fsR bd d)[k] : Nat) : Int) := by
  have hzl : (fsI bd d d.length).length = (fsR bd d).length := by rw [fsI_lenN]; unfold fsR; simp
  have h1 : (fsI bd d d.length).length - 1 - k < (fsI bd d d.length).length := by omega
  have h2 : (fsI bd d d.length).length - 1 - k < (fsN bd d d.length).length := by rw [fsI_lenN] at h1 ⊢; exact h1
  refine ⟨h1, ?_⟩
  rw [fsI_at h2 h1]
  have h4 : (fsR bd d)[k]? = (fsN bd d d.length)[(fsI bd d d.length).length - 1 - k]? := by
    rw [hzl]
    unfold fsR at hk ⊢
    rw [List.getElem?_reverse (by simpa using hk), List.length_reverse]
  rw [List.getElem?_eq_getElem hk, List.getElem?_eq_getElem h2] at h4
  injection h4 with h4
  rw [h4]

theorem ok45 : okFn Try.prog 45 = true := by kernel_rfl
set_option maxHeartbeats 1000000 in
set_option maxRecDepth 10000 in
theorem s45 (n : Int) (c : List G4) (hl : c.length ≤ 10000) : ASpec Try.prog 45 [I n, .s 4 (gtsA c)] (fun r Ms => r = .t [.s 1 (rowsA (if vC n c = 0 then lyR bdr c else [])), I (vC n c)] ∧ Ms = []) := by
  refine aspec_of (own := [4, 7, 9, 1013]) Try.func45 rfl ok45 ?_
  simp only [w_move, w_assign, w_callF, w_aop, w_some, w_asome, w_anone, w_nil, w_cons, awp, asN, Aw.newRow, St.ev, St.step, setS, killS, AV.kill, AV.killL, Mem.kill, ACond_false, List.getD_cons_succ, List.getD_cons_zero, List.set_cons_succ, List.set_cons_zero, List.length_cons, List.length_nil, List.replicate_succ, List.replicate_zero, List.cons_append, List.nil_append, List.contains_nil, List.contains_cons, List.isEmpty_nil, Option.getD_some, Bool.false_eq_true, if_false, if_true, Nat.zero_add, Nat.add_zero, beq_self_eq_true, List.map_cons, List.map_nil, nbeq, decide_false, Bool.or_false, Nat.reduceAdd, Nat.reduceEqDiff, Nat.reduceSub, Int.reduceAdd, Int.reduceSub, ti22, ti34, Try.ntmps45]
  refine acall_v (s41 n c (by omega)) rfl rfl ?_
  simp only [w_move, w_assign, w_binOp, w_aop, w_some, w_asome, w_anone, w_nil, w_cons, awp, binC, cmpC, asB, asI, asN, St.ev, St.step, setS, killS, AV.kill, AV.killL, Mem.kill, ACond_false, List.getD_cons_succ, List.getD_cons_zero, List.set_cons_succ, List.set_cons_zero, List.contains_nil, List.contains_cons, List.isEmpty_nil, Option.getD_some, Bool.false_eq_true, if_false, if_true, true_and, Bool.true_and, nbeq, decide_false, Bool.or_false, Nat.reduceAdd, Nat.reduceEqDiff, Int.reduceAdd]
  by_cases hv : vC n c = 0
  · simp only [w_assign, w_aop, w_some, w_asome, w_nil, w_cons, awp, asN, Aw.newRow, St.ev, St.step, setS, killS, AV.kill, AV.killL, Mem.kill, ACond_false, List.set_cons_succ, List.set_cons_zero, List.length_cons, List.length_nil, List.cons_append, List.nil_append, List.contains_nil, List.contains_cons, List.isEmpty_nil, Option.getD_some, Bool.false_eq_true, if_false, if_true, Bool.not_true, Nat.zero_add, beq_self_eq_true, nbeq, decide_false, Bool.or_false, Bool.or_true, Nat.reduceAdd, Nat.reduceEqDiff, Int.reduceAdd, ti22, ti34, decide_eq_true hv]
    refine swp_loop' (fun p : List G4 × List (List G4) => ⟨[I n, .s 4 (gtsA p.1), .bot, .bot, .bot, .bot, .bot, .o 1, .bot, .bot, .bot, .bot, .bot, .bot, .bot, .bot, .bot, .bot, .bot, .bot, .bot, .bot, .bot, .bot, .bot, .bot, .bot, .bot, .bot, .bot, .bot, .bot, .bot, .bot, .bot, .bot, .bot, .bot, .bot, .bot, .bot, .bot, .bot, .bot, .bot, .bot, .bot, .bot, .bot, .bot, .bot], [some ⟨none, 22, 1, []⟩, some ⟨none, 22, 1, rowsA p.2⟩]⟩) (fun p => p.1.length ≤ c.length ∧ p.2.length ≤ 10000 - p.1.length ∧ lyR bdr c = p.2 ++ lyR bdr p.1) (fun p => p.1.length) (c, []) (le_sl (by simp [leSl])) ⟨Nat.le_refl _, by simp, by simp⟩ ?_
    rintro ⟨d, lss⟩ ⟨hd, hls, hn⟩
    simp only at hd hls hn
    refine awp_sound (own := [4, 7, 9, 1013]) _ _ _ _ _ ?_
    simp only [w_move, w_binOp, w_len, w_aop, w_some, w_asome, w_nil, w_cons, awp, binC, cmpC, asB, asI, lenA, St.ev, St.step, setS, killS, AV.kill, AV.killL, Mem.kill, ACond_false, List.getD_cons_succ, List.getD_cons_zero, List.set_cons_succ, List.set_cons_zero, List.contains_nil, List.contains_cons, List.isEmpty_nil, Bool.false_eq_true, if_false, if_true, true_and, Bool.true_and, Option.isSome_some, nbeq, decide_false, Bool.or_false, Nat.reduceAdd, Nat.reduceEqDiff, Int.reduceAdd, gtsA_len, ti22, gtsA_len]
    by_cases h : 0 < d.length
    · have h' : (0 : Int) < (d.length : Int) := by omega
      simp only [w_move, w_callF, w_aop, w_cons, awp, St.ev, St.step, setS, killS, AV.kill, AV.killL, Mem.kill, ACond_true, ACond_false, List.getD_cons_succ, List.getD_cons_zero, List.set_cons_succ, List.set_cons_zero, List.contains_nil, List.contains_cons, List.isEmpty_nil, Bool.false_eq_true, if_false, if_true, List.map_cons, List.map_nil, nbeq, decide_false, Bool.or_false, Nat.reduceAdd, Nat.reduceEqDiff, Int.reduceAdd, decide_eq_true h']
      refine acall_v (s71 d (by omega)) rfl rfl ?_
      simp only [w_move, w_assign, w_binOp, w_len, w_aop, w_some, w_asome, w_anone, w_nil, w_cons, awp, binC, arithC, cmpC, asI, asN, lenA, Aw.newRow, St.ev, St.step, setS, killS, AV.kill, AV.killL, Mem.kill, ACond_false, List.getD_cons_succ, List.getD_cons_zero, List.set_cons_succ, List.set_cons_zero, List.length_cons, List.length_nil, List.cons_append, List.nil_append, List.contains_nil, List.contains_cons, List.isEmpty_nil, Option.getD_some, Bool.false_eq_true, if_false, if_true, true_and, and_true, Bool.and_true, Bool.true_and, Option.isSome_some, Nat.zero_add, beq_self_eq_true, nbeq, decide_false, Bool.or_false, Bool.or_true, Nat.reduceAdd, Nat.reduceEqDiff, Int.reduceAdd, intsA_len, ti22, ti24, ti31]
      have hzl : (fsI bdr d d.length).length = (fsR bdr d).length := by rw [fsI_lenN]; unfold fsR; simp
      have hfl := fsR_len bdr d
      have hrev := fun k hk => fsI_rev (bd := bdr) (d := d) (k := k) hk
      generalize fsI bdr d d.length = zs at hzl hrev ⊢
      have hpos := fsR_pos (bd := bdr) h
      refine ⟨by unfold lim; omega, ?_⟩
      refine swp_loop' (fun k : Nat => ⟨[I n, .s 4 (gtsA (rstG bdr d k)), .bot, .bot, .bot, .bot, .bot, .o 1, .s 1 (intsA zs), .o 2, I ((zs.length : Int) - 1 - k), .bot, .bot, .bot, .bot, .bot, .bot, .bot, .bot, .bot, .bot, .bot, .bot, .bot, .bot, .bot, .bot, .bot, .bot, .bot, .bot, .bot, .bot, .bot, .bot, .bot, .bot, .bot, .bot, .bot, .bot, .bot, .bot, .bot, .bot, .bot, .bot, .bot, .bot, .bot, .bot], [some ⟨none, 22, 1, []⟩, some ⟨none, 22, 1, rowsA lss⟩, some ⟨none, 24, 4, gtsA (layG bdr d k)⟩]⟩) (fun k => k ≤ (fsR bdr d).length) (fun k => (fsR bdr d).length - k) 0 (by
        rw [show ((zs.length : Int) - 1 - ((0 : Nat) : Int)) = (zs.length : Int) - 1 by omega]
        exact le_sl (by simp [leSl, rstG])) (Nat.zero_le _) ?_
      intro k hk
      refine awp_sound (own := [4, 7, 9, 1013]) _ _ _ _ _ ?_
      simp only [w_move, w_binOp, w_aop, w_some, w_asome, w_nil, w_cons, awp, binC, cmpC, asB, asI, St.ev, St.step, setS, killS, AV.kill, AV.killL, Mem.kill, ACond_false, List.getD_cons_succ, List.getD_cons_zero, List.set_cons_succ, List.set_cons_zero, List.contains_nil, List.contains_cons, List.isEmpty_nil, Bool.false_eq_true, if_false, if_true, true_and, Bool.true_and, nbeq, decide_false, Bool.or_false, Nat.reduceAdd, Nat.reduceEqDiff, Int.reduceAdd]
      by_cases hkl : k < (fsR bdr d).length
      · have hk' : (0 : Int) ≤ (zs.length : Int) - 1 - (k : Int) := by omega
        obtain ⟨hz1, hz2⟩ := hrev k hkl
        obtain ⟨hr1, hr2⟩ := rstG_at (bd := bdr) (d := d) hkl
        have ht : ((zs.length : Int) - 1 - (k : Int)).toNat = zs.length - 1 - k := by omega
        have hrl := rstG_len (bd := bdr) (d := d) (Nat.le_of_lt hkl)
        have hll := layG_len bdr d (Nat.le_of_lt hkl)
        simp only [w_move, w_assign, w_load, w_indexAddr, w_buildSlice, w_callF, w_append, w_aop, w_some, w_asome, w_anone, w_nil, w_cons, awp, idxC, asP, asO, asS, asI, asN, obA, loadA, St.ev, St.step, setS, killS, AV.kill, AV.killL, Mem.kill, AV.cells, AV.flat, AV.single, AV.cellular, AV.size, AV.sizeL, AV.pure, AV.pureL, ACond_true, ACond_false, Value.oneCell', List.getD_cons_succ, List.getD_cons_zero, List.set_cons_succ, List.set_cons_zero, List.getElem?_cons_succ, List.getElem?_cons_zero, List.length_cons, List.length_nil, List.contains_nil, List.contains_cons, List.isEmpty_nil, List.isEmpty_cons, Option.getD_some, Bool.false_eq_true, if_false, if_true, true_and, and_true, List.all_cons, List.all_nil, Bool.and_true, Bool.true_and, Bool.not_true, Nat.zero_add, Nat.add_zero, beq_self_eq_true, List.map_cons, List.map_nil, decide_true, nbeq, decide_false, Bool.or_false, Bool.or_true, Nat.reduceAdd, Nat.reduceEqDiff, Nat.reduceMul, Nat.reduceLeDiff, Int.reduceAdd, Int.reduceMul, Option.map_some, gtsA_len, ti3, ti22, ti24, ti31, decide_eq_true hk', gtsA_len, aget_ints hz1, ht, hz2, aget_gts hr1, Int.toNat_natCast, gtsA_kill, rowsA_kill, gtsA_app]
        have e1 := rstG_succ (bd := bdr) (d := d) hkl
        have e2 := layG_succ (bd := bdr) (d := d) hkl
        rw [← hr2] at e2
        have hgk : layG bdr d k ++ [⟨((rstG bdr d k)[(fsR bdr d)[k]]).k, ((rstG bdr d k)[(fsR bdr d)[k]]).a, ((rstG bdr d k)[(fsR bdr d)[k]]).b, ((rstG bdr d k)[(fsR bdr d)[k]]).t⟩] = layG bdr d (k + 1) := e2.symm
        rw [hgk]
        refine ⟨by omega, by omega, ⟨by decide, rfl⟩, ⟨by decide, by omega⟩, by omega, acall_v (s78 (rstG bdr d k) (fsR bdr d)[k] hr1 (by omega)) rfl rfl ?_⟩
        rw [← e1]
        simp only [w_move, w_assign, w_binOp, w_aop, w_some, w_asome, w_anone, w_nil, w_cons, awp, binC, arithC, cmpC, asI, asN, St.ev, St.step, setS, killS, AV.kill, AV.killL, Mem.kill, ACond_false, List.getD_cons_succ, List.getD_cons_zero, List.set_cons_succ, List.set_cons_zero, List.contains_nil, List.contains_cons, List.isEmpty_nil, Option.getD_some, Bool.false_eq_true, if_false, if_true, true_and, and_true, Bool.and_true, Bool.true_and, nbeq, decide_false, Bool.or_false, Nat.reduceAdd, Nat.reduceEqDiff, Int.reduceAdd]
        refine ⟨by unfold lim; omega, k + 1, ?_, hkl, by omega⟩
        rw [show (zs.length : Int) - 1 - (k : Int) - 1 = (zs.length : Int) - 1 - ((k + 1 : Nat) : Int) by omega]
        exact le_sl (by simp [leSl])
      · have hk' : ¬ (0 : Int) ≤ (zs.length : Int) - 1 - (k : Int) := by omega
        have hke : k = (fsR bdr d).length := by omega
        subst hke
        simp only [w_move, w_assign, w_aop, w_anone, w_nil, w_cons, awp, asN, St.ev, St.step, setS, killS, AV.kill, AV.killL, Mem.kill, ACond_true, ACond_false, List.getD_cons_succ, List.getD_cons_zero, List.set_cons_succ, List.set_cons_zero, List.contains_nil, List.contains_cons, List.isEmpty_nil, Option.getD_some, Bool.false_eq_true, if_false, if_true, beq_self_eq_true, nbeq, decide_false, Bool.or_false, Bool.or_true, Nat.reduceAdd, Nat.reduceEqDiff, Int.reduceAdd, decide_eq_false hk']
        have hrl : (rstT bdr d).length = d.length - (fsR bdr d).length := rstG_len (Nat.le_refl _)
        have hll : (layT bdr d).length = (fsR bdr d).length := layG_len bdr d (Nat.le_refl _)
        have hst := lyR_step (bd := bdr) h
        rw [show rstG bdr d (fsR bdr d).length = rstT bdr d from rfl, show layG bdr d (fsR bdr d).length = layT bdr d from rfl]
        generalize rstT bdr d = rs at *
        generalize layT bdr d = ly at *
        refine swp_le (le_frz 2 rfl (gtsA_pure ly)) (swp_text (own := [4, 7, 9]) ?_)
        simp only [w_move, w_callF, w_aop, w_cons, St.ev, St.step, setS, killS, AV.kill, AV.killL, Mem.kill, List.getD_cons_succ, List.getD_cons_zero, List.set_cons_succ, List.set_cons_zero, List.contains_nil, List.isEmpty_nil, Bool.false_eq_true, if_false, if_true, List.map_cons, List.map_nil, Nat.reduceEqDiff, Option.map_some, Option.map_none, frz1, frzM, AV.sub, AV.subL, rowsA_sub]
        refine acall_v (s79 ly (by omega)) rfl rfl ?_
        simp only [w_assign, w_buildSlice, w_append, w_aop, w_some, w_asome, w_anone, w_nil, w_cons, asO, asS, asN, obA, St.ev, St.step, setS, killS, AV.kill, AV.killL, Mem.kill, AV.cells, AV.flat, AV.single, AV.cellular, AV.size, AV.pure, AV.pureL, ACond_false, Value.oneCell', List.getD_cons_succ, List.getD_cons_zero, List.set_cons_succ, List.set_cons_zero, List.getElem?_cons_succ, List.getElem?_cons_zero, List.length_cons, List.length_nil, List.contains_nil, List.contains_cons, List.isEmpty_nil, List.isEmpty_cons, Option.getD_some, Bool.false_eq_true, if_false, if_true, true_and, and_true, List.all_cons, List.all_nil, Bool.and_true, Bool.true_and, Nat.zero_add, beq_self_eq_true, List.map_cons, List.map_nil, decide_true, nbeq, decide_false, Bool.or_false, Bool.or_true, Nat.reduceEqDiff, Nat.reduceMul, Nat.reduceLeDiff, Int.reduceMul, Option.map_some, Option.map_none, ti22, ti34, rowsA_kill, rowsA_len]
        have hra : rowsA lss ++ [.s 4 (gtsA (srt ly))] = rowsA (lss ++ [srt ly]) := by simp [rowsA]
        rw [hra]
        refine ⟨⟨by decide, rfl⟩, ⟨by decide, by omega⟩, (rs, lss ++ [srt ly]), ?_, ⟨by simp only; omega, by simp only [List.length_append, List.length_singleton]; omega, by rw [hn, hst]; simp⟩, by simp only; omega⟩
        exact le_to [0, 1] (sl1 := [I n, .s 4 (gtsA rs), .bot, .bot, .bot, .bot, .bot, .o 1, .bot, .bot, .bot, .bot, .bot, .bot, .bot, .bot, .bot, .bot, .bot, .bot, .bot, .bot, .bot, .bot, .bot, .bot, .bot, .bot, .bot, .bot, .bot, .bot, .bot, .bot, .bot, .bot, .bot, .bot, .bot, .bot, .bot, .bot, .bot, .bot, .bot, .bot, .bot, .bot, .bot, .bot, .bot]) (by decide) (by simp [leSl]) rfl (by simp [reM, rowsA_sub, AV.subL])
    · have h' : ¬ (0 : Int) < (d.length : Int) := by omega
      simp only [w_move, w_assign, w_aop, w_anone, w_nil, w_cons, awp, asN, St.ev, St.step, setS, killS, AV.kill, AV.killL, Mem.kill, ACond_false, List.getD_cons_succ, List.getD_cons_zero, List.set_cons_succ, List.set_cons_zero, List.contains_nil, List.contains_cons, List.isEmpty_nil, Option.getD_some, Bool.false_eq_true, if_false, if_true, beq_self_eq_true, nbeq, decide_false, Bool.or_false, Nat.reduceAdd, Nat.reduceEqDiff, Int.reduceAdd, decide_eq_false h']
      have hdn : d = [] := List.eq_nil_of_length_eq_zero (by omega)
      subst hdn
      rw [lyR_nil, List.append_nil] at hn
      refine aend_frz rfl ⟨?_, rfl⟩
      simp [frz, AV.sub, AV.subL, hv, hn, rowsA_pure]
  · simp only [w_move, w_assign, w_aop, w_some, w_asome, w_anone, w_nil, w_cons, awp, asN, Aw.newRow, St.ev, St.step, setS, killS, AV.kill, AV.killL, Mem.kill, ACond_true, ACond_false, List.getD_cons_succ, List.getD_cons_zero, List.set_cons_succ, List.set_cons_zero, List.length_cons, List.length_nil, List.cons_append, List.nil_append, List.contains_nil, List.contains_cons, List.isEmpty_nil, Option.getD_some, Bool.false_eq_true, if_false, if_true, Bool.not_false, Nat.zero_add, beq_self_eq_true, nbeq, decide_false, Bool.or_false, Nat.reduceAdd, Nat.reduceEqDiff, Int.reduceAdd, ti22, ti34, decide_eq_false hv]
    refine aend_frz rfl ⟨?_, rfl⟩
    simp [frz, AV.sub, AV.subL, hv]
    rfl
end Go.Proofs.Ytkmbbbemmohmcaa

namespace Go.Proofs.Ytkmbbbemmohmcaa
open Tr
set_option linter.unusedSimpArgs false

/-! the insertion sort. -/
theorem swpG_at {l : List G4} {j : Nat} (h : j + 1 < l.length) (i : Nat) : (swpG l (j + 1)).getD i default = if i = j then l.getD (j + 1) default else if i = j + 1 then l.getD j default else l.getD i default := by
  unfold swpG
  rw [Nat.add_sub_cancel, List.getD_eq_getElem?_getD, List.getElem?_set, List.getElem?_set]
  by_cases h1 : i = j
  · subst h1
    rw [if_pos rfl, if_pos rfl, if_pos (by simp; omega)]
    rfl
  · rw [if_neg (Ne.symm h1), if_neg h1]
    by_cases h2 : i = j + 1
    · subst h2
      rw [if_pos rfl, if_pos rfl, if_pos h]
      rfl
    · rw [if_neg (Ne.symm h2), if_neg h2, ← List.getD_eq_getElem?_getD]
theorem swpG_perm {l : List G4} {j : Nat} (h : j + 1 < l.length) : (swpG l (j + 1)).Perm l := by
  have e : l = l.take j ++ l[j] :: l[j + 1] :: l.drop (j + 2) := by
    conv => lhs; rw [← List.take_append_drop j l, List.drop_eq_getElem_cons (by omega), List.drop_eq_getElem_cons h]
  have e2 : swpG l (j + 1) = l.take j ++ l[j + 1] :: l[j] :: l.drop (j + 2) := by
    apply List.ext_getElem
    · rw [swpG_len]
      simp
      omega
    · intro i h1 h2
      have h3 := swpG_at h i
      rw [getD_at h1] at h3
      rw [h3]
      have hl : (l.take j).length = j := by simp; omega
      by_cases hi : i < j
      · rw [if_neg (by omega), if_neg (by omega), List.getElem_append_left (by omega), getD_at (by omega)]
        simp
      · rw [List.getElem_append_right (by omega)]
        by_cases h4 : i = j
        · subst h4
          simp only [hl, Nat.sub_self, if_true, List.getElem_cons_zero]
          exact getD_at h
        · rw [if_neg h4]
          by_cases h5 : i = j + 1
          · subst h5
            simp only [hl, show j + 1 - j = 1 by omega, if_true, List.getElem_cons_succ, List.getElem_cons_zero]
            exact getD_at (by omega)
          · rw [if_neg h5]
            obtain ⟨m, rfl⟩ : ∃ m, i = j + 2 + m := ⟨i - (j + 2), by omega⟩
            simp only [hl, show j + 2 + m - j = m + 1 + 1 by omega, List.getElem_cons_succ, List.getElem_drop]
            rw [swpG_len] at h1
            exact getD_at (by omega)
  rw [e2]
  conv => rhs; rw [e]
  exact List.Perm.append_left _ (List.Perm.swap _ _ _)
theorem bub_perm : ∀ (j : Nat) {l : List G4}, j < l.length → (bub j l).Perm l
  | 0, l, _ => List.Perm.refl _
  | j + 1, l, h => by
    unfold bub
    split
    · exact (bub_perm j (by rw [swpG_len]; omega)).trans (swpG_perm h)
    · exact List.Perm.refl _
theorem srtK_perm : ∀ (k : Nat) {l : List G4}, k < l.length → (srtK k l).Perm l
  | 0, l, _ => List.Perm.refl _
  | k + 1, l, h => by
    unfold srtK
    exact (bub_perm (k + 1) (by rw [srtK_len]; exact h)).trans (srtK_perm k (by omega))
theorem srt_perm (l : List G4) : (srt l).Perm l := by
  unfold srt
  cases l with
  | nil => exact List.Perm.refl _
  | cons x l => exact srtK_perm _ (by simp)

def okP (l : List G4) (a b : Nat) : Prop := G4.less (l.getD b default) (l.getD a default) = false
theorem bub_sorted (k : Nat) : ∀ (j : Nat) {l : List G4}, k < l.length → j ≤ k → (∀ a b, a < b → b ≤ k → a ≠ j → b ≠ j → okP l a b) → (∀ b, j < b → b ≤ k → okP l j b) → ∀ a b, a < b → b ≤ k → okP (bub j l) a b
  | 0, l, hk, _, h1, h2 => fun a b hab hb => by
    unfold bub
    by_cases ha : a = 0
    · subst ha; exact h2 b hab hb
    · exact h1 a b hab hb ha (by omega)
  | j + 1, l, hk, hj, h1, h2 => by
    unfold bub
    cases hc : G4.less (l.getD (j + 1) default) (l.getD j default) with
    | true =>
      rw [if_pos rfl]
      have hat := swpG_at (l := l) (j := j) (by omega)
      refine bub_sorted k j (by rw [swpG_len]; exact hk) (by omega) (fun a b hab hb ha hb' => ?_) (fun b hb hbk => ?_)
      · unfold okP
        rw [hat a, hat b, if_neg ha, if_neg hb']
        by_cases hb2 : b = j + 1
        · subst hb2
          rw [if_pos rfl, if_neg (by omega)]
          exact h1 a j (by omega) (by omega) (by omega) (by omega)
        · rw [if_neg hb2]
          by_cases ha2 : a = j + 1
          · subst ha2
            rw [if_pos rfl]
            exact h1 j b (by omega) hb (by omega) hb2
          · rw [if_neg ha2]
            exact h1 a b hab hb ha2 hb2
      · unfold okP
        rw [hat j, hat b, if_pos rfl, if_neg (by omega)]
        by_cases hb2 : b = j + 1
        · rw [if_pos hb2]
          exact less_as hc
        · rw [if_neg hb2]
          exact h2 b (by omega) hbk
    | false =>
      rw [if_neg (by simp)]
      intro a b hab hb
      by_cases hb2 : b = j + 1
      · subst hb2
        by_cases ha : a = j
        · subst ha; exact hc
        · exact less_nt hc (h1 a j (by omega) (by omega) (by omega) (by omega))
      · by_cases ha2 : a = j + 1
        · subst ha2; exact h2 b hab hb
        · exact h1 a b hab hb ha2 hb2
theorem srtK_sorted : ∀ (k : Nat) {l : List G4}, k < l.length → ∀ a b, a < b → b ≤ k → okP (srtK k l) a b
  | 0, l, _ => fun a b hab hb => by omega
  | k + 1, l, h => by
    unfold srtK
    refine bub_sorted (k + 1) (k + 1) (by rw [srtK_len]; exact h) (Nat.le_refl _) (fun a b hab hb ha hb' => srtK_sorted k (by omega) a b hab (by omega)) (fun b hb hbk => by omega)
theorem srt_sorted (l : List G4) : (srt l).Pairwise fun a b => G4.less b a = false := by
  rw [List.pairwise_iff_getElem]
  intro a b ha hb hab
  rw [srt_len] at ha hb
  have := srtK_sorted (l.length - 1) (l := l) (by omega) a b hab (by omega)
  unfold okP at this
  have e1 : (srtK (l.length - 1) l).getD a default = (srt l)[a]'(by rw [srt_len]; exact ha) := getD_at (by rw [srtK_len]; exact ha)
  have e2 : (srtK (l.length - 1) l).getD b default = (srt l)[b]'(by rw [srt_len]; exact hb) := getD_at (by rw [srtK_len]; exact hb)
  rw [e1, e2] at this
  exact this

/-! the first gates. -/
def unb (a b : G4) : Prop := bS a b = false
theorem layG_take {c : List G4} : layT bS c = (fsR bS c).map (c.getD · default) := by
  unfold layT layG
  rw [List.take_length]
theorem fst_unb {c : List G4} {i : Nat} (h : i ∈ fsN bS c c.length) : ∀ x ∈ c.take i, bS x (c.getD i default) = false := by
  obtain ⟨hi, h1⟩ := mem_fsN.1 h
  intro x hx
  unfold fst1 at h1
  rw [List.all_eq_true] at h1
  have := h1 x hx
  rw [bS_sym]
  simpa using this
theorem fsR_mem {c : List G4} {i : Nat} : i ∈ fsR bS c ↔ i ∈ fsN bS c c.length := by unfold fsR; simp
theorem lay_unb (c : List G4) : (layT bS c).Pairwise unb := by
  rw [layG_take, List.pairwise_map]
  unfold fsR
  rw [List.pairwise_reverse]
  refine List.Pairwise.imp_of_mem ?_ (fsN_sorted bS c c.length)
  intro a b ha hb hab
  have hal := fsN_lt ha
  have := fst_unb hb (c.getD a default) (by
    rw [getD_at hal]
    exact List.mem_take_iff_getElem.2 ⟨a, by have := fsN_lt hb; omega, rfl⟩)
  unfold unb
  rw [bS_sym]
  exact this
theorem lay_al {c : List G4} : ∀ {k : Nat}, k ≤ (fsR bS c).length → Al c (layG bS c k ++ rstG bS c k)
  | 0, _ => Alk.refl _
  | k + 1, h => by
    have hk : k < (fsR bS c).length := by omega
    obtain ⟨h1, h2⟩ := rstG_at (bd := bS) (d := c) hk
    refine (lay_al (Nat.le_of_lt hk)).trans ?_
    rw [layG_succ hk, rstG_succ hk, ← h2, List.append_assoc]
    refine Alk.pre _ ?_
    have hm : (fsR bS c)[k] ∈ fsN bS c c.length := fsR_mem.1 (List.getElem_mem hk)
    have ht : (rstG bS c k).take (fsR bS c)[k] = c.take (fsR bS c)[k] := foldl_wo_take _ _ _ fun r hr => by
      have := fsR_down hk r hr
      omega
    have hu := fst_unb hm
    rw [← h2, ← ht] at hu
    have := alk_front (ty := tyG) (bd := bT) bT_bd (g := (rstG bS c k)[(fsR bS c)[k]]) ((rstG bS c k).take (fsR bS c)[k]) ((rstG bS c k).drop ((fsR bS c)[k] + 1)) fun x hx => hu x hx
    rw [← split_at h1] at this
    exact this
theorem lay_rst (c : List G4) : Al c (layT bS c ++ rstT bS c) := lay_al (Nat.le_refl _)

theorem perm_al {l m : List G4} (h : l.Perm m) (hu : l.Pairwise unb) : Al l m := by
  intro x y hb
  have hp : (pj tyG x y l).Perm (pj tyG x y m) := h.filter _
  have hl : (pj tyG x y l).Pairwise unb := hu.filter _
  have hin : ∀ z ∈ pj tyG x y l, tyG z = x ∨ tyG z = y := fun z hz => by
    have := (List.mem_filter.1 hz).2
    simpa using this
  generalize pj tyG x y l = L at *
  cases L with
  | nil => exact (List.Perm.nil_eq hp)
  | cons a L =>
    cases L with
    | nil => exact (List.Perm.singleton_eq hp)
    | cons b L =>
      exfalso
      rw [List.pairwise_cons] at hl
      have h1 : bS a b = false := hl.1 b (by simp)
      unfold bS at h1
      have ha := hin a (by simp)
      have hb' := hin b (by simp)
      rcases ha with ha | ha <;> rcases hb' with hb' | hb' <;> rw [ha, hb'] at h1
      · rw [bT_bd.refl] at h1; cases h1
      · rw [hb] at h1; cases h1
      · rw [bT_bd.sym, hb] at h1; cases h1
      · rw [bT_bd.refl] at h1; cases h1
theorem srt_al {l : List G4} (hu : l.Pairwise unb) : Al (srt l) l := (perm_al (srt_perm l).symm hu).symm

theorem ly_al : ∀ (n : Nat) {c : List G4}, c.length ≤ n → Al (lyR bS c).flatten c
  | 0, c, h => by
    have : c = [] := List.eq_nil_of_length_eq_zero (by omega)
    subst this
    exact Alk.refl _
  | n + 1, c, h => by
    by_cases h0 : 0 < c.length
    · rw [lyR_step h0, List.flatten_cons]
      have h1 := rstT_len (bd := bS) h0
      have h2 := ly_al n (c := rstT bS c) (by omega)
      exact ((srt_al (lay_unb c)).post _).trans ((h2.pre _).trans (lay_rst c).symm)
    · have : c = [] := List.eq_nil_of_length_eq_zero (by omega)
      subst this
      exact Alk.refl _

theorem rstG_mem {bd : G4 → G4 → Bool} {c : List G4} : ∀ (rs : List Nat) (d : List G4), (∀ g ∈ d, g ∈ c) → ∀ g ∈ rs.foldl wo d, g ∈ c
  | [], d, h => h
  | r :: rs, d, h => rstG_mem (bd := bd) rs (wo d r) fun g hg => h g (wo_mem hg)
theorem fsR_congr {bd bd' : G4 → G4 → Bool} {c : List G4} (h : Cg bd bd' c) : fsR bd c = fsR bd' c := by
  unfold fsR
  rw [fsN_congr h]
theorem lyF_congr {bd bd' : G4 → G4 → Bool} : ∀ (n : Nat) {c : List G4}, Cg bd bd' c → lyF bd n c = lyF bd' n c
  | 0, c, _ => rfl
  | n + 1, c, h => by
    have e1 : layT bd c = layT bd' c := by unfold layT layG; rw [fsR_congr h]
    have e2 : rstT bd c = rstT bd' c := by unfold rstT rstG; rw [fsR_congr h]
    have h2 : Cg bd bd' (rstT bd' c) := fun g hg x hx => by
      unfold rstT rstG at hg hx
      exact h g (rstG_mem (bd := bd) _ c (fun _ h => h) g hg) x (rstG_mem (bd := bd) _ c (fun _ h => h) x hx)
    unfold lyF
    rw [e1, e2, lyF_congr n h2]
theorem ly_bound {c : List G4} (h : Ok c) : lyR G4.bound c = lyR bS c := lyF_congr _ (cg_bound h)
theorem ly_bdr {c : List G4} (h : Ok c) : lyR bdr c = lyR bS c := lyF_congr _ (cg_bdr h)

/-! alike circuits have one list of layers. -/
theorem lay_mem {c : List G4} {g : G4} : g ∈ layT bS c ↔ ∃ r, Al c (g :: r) := by
  rw [layG_take, List.mem_map]
  constructor
  · rintro ⟨i, hi, rfl⟩
    obtain ⟨hil, h⟩ := fst_alk bT_bd (fst_iff.2 (fsR_mem.1 hi))
    exact ⟨_, by rw [getD_at hil]; exact h⟩
  · rintro ⟨r, h⟩
    obtain ⟨i, hi, h1, h2, _⟩ := alk_fst bT_bd h
    exact ⟨i, fsR_mem.2 (fst_iff.1 h1), by rw [getD_at hi, h2]⟩
theorem strict_eq : ∀ {l m : List G4}, l.Pairwise (fun a b => G4.less a b = true) → m.Pairwise (fun a b => G4.less a b = true) → (∀ g, g ∈ l ↔ g ∈ m) → l = m
  | [], [], _, _, _ => rfl
  | [], b :: m, _, _, h => by have := (h b).2 (by simp); cases this
  | a :: l, [], _, _, h => by have := (h a).1 (by simp); cases this
  | a :: l, b :: m, hl, hm, h => by
    rw [List.pairwise_cons] at hl hm
    have hab : a = b := by
      have h1 := (h a).1 (by simp)
      have h2 := (h b).2 (by simp)
      rcases List.mem_cons.1 h1 with e | h1
      · exact e
      · rcases List.mem_cons.1 h2 with e | h2
        · exact e.symm
        · have k1 := hm.1 a h1
          have k2 := hl.1 b h2
          have := less_as k1
          rw [k2] at this
          cases this
    subst hab
    congr 1
    refine strict_eq hl.2 hm.2 fun g => ?_
    constructor
    · intro hg
      rcases List.mem_cons.1 ((h g).1 (by simp [hg])) with e | e
      · subst e
        have := hl.1 g hg
        rw [less_irr] at this
        cases this
      · exact e
    · intro hg
      rcases List.mem_cons.1 ((h g).2 (by simp [hg])) with e | e
      · subst e
        have := hm.1 g hg
        rw [less_irr] at this
        cases this
      · exact e
theorem srt_strict {l : List G4} (hu : l.Pairwise unb) : (srt l).Pairwise fun a b => G4.less a b = true := by
  have h2 : (srt l).Pairwise (fun a b => a ≠ b) := (srt_perm l).symm.pairwise (hu.imp fun {a b} h e => by
    subst e
    unfold unb bS at h
    rw [bT_bd.refl] at h
    cases h) (fun {a b} h e => h e.symm)
  refine ((srt_sorted l).and h2).imp fun {a b} h => ?_
  cases hc : G4.less a b with
  | true => rfl
  | false => exact absurd (less_tot hc h.1) h.2
theorem ly_same : ∀ (n : Nat) {c d : List G4}, c.length ≤ n → Al c d → lyR bS c = lyR bS d
  | 0, c, d, h, hA => by
    have : c = [] := List.eq_nil_of_length_eq_zero (by omega)
    subst this
    rw [alk_nil bT_bd hA]
  | n + 1, c, d, h, hA => by
    have hl := alk_len bT_bd c hA
    by_cases h0 : 0 < c.length
    · rw [lyR_step h0, lyR_step (by omega : 0 < d.length)]
      have e : srt (layT bS c) = srt (layT bS d) := by
        refine strict_eq (srt_strict (lay_unb c)) (srt_strict (lay_unb d)) fun g => ?_
        rw [(srt_perm _).mem_iff, (srt_perm _).mem_iff, lay_mem, lay_mem]
        exact ⟨fun ⟨r, hr⟩ => ⟨r, hA.symm.trans hr⟩, fun ⟨r, hr⟩ => ⟨r, hA.trans hr⟩⟩
      have h1 := rstT_len (bd := bS) h0
      have a1 := (lay_rst c).trans ((srt_al (lay_unb c)).symm.post (rstT bS c))
      have a2 := (lay_rst d).trans ((srt_al (lay_unb d)).symm.post (rstT bS d))
      rw [← e] at a2
      have a3 : Al (rstT bS c) (rstT bS d) := Alk.cut (srt (layT bS c)) (a1.symm.trans (hA.trans a2))
      rw [e, ly_same n (by omega) a3]
    · have : c = [] := List.eq_nil_of_length_eq_zero (by omega)
      subst this
      rw [alk_nil bT_bd hA]
end Go.Proofs.Ytkmbbbemmohmcaa

namespace Go.Proofs.Ytkmbbbemmohmcaa
open Aw Go.RowKit
set_option linter.unusedSimpArgs false

theorem flat_succ {l : List (List G4)} {i : Nat} (h : i < l.length) : (l.take (i + 1)).flatten = (l.take i).flatten ++ l[i] := flat_take h

theorem ly_len (bd : G4 → G4 → Bool) : ∀ (n : Nat) (c : List G4), (lyF bd n c).length ≤ n
  | 0, _ => Nat.le_refl _
  | n + 1, c => by
    unfold lyF
    split
    · simp
    · have := ly_len bd n (rstT bd c)
      simp
      exact this
theorem mem_flat {l : List (List G4)} {x : List G4} (h : x ∈ l) : x.length ≤ l.flatten.length := by
  induction l with
  | nil => cases h
  | cons y l ih =>
    rw [List.flatten_cons, List.length_append]
    rcases List.mem_cons.1 h with rfl | h
    · omega
    · have := ih h; omega

theorem ok11 : okFn Try.prog 11 = true := by kernel_rfl
set_option maxRecDepth 20000 in
set_option maxHeartbeats 1000000 in
theorem s11 (n : Int) (c : List G4) : ASpec Try.prog 11 [I n, .s 4 (gtsA c)] (fun r Ms => r = B true ∧ Ms = []) := by
  refine aspec_of (own := [11, 1015]) Try.func11 rfl ok11 ?_
  simp only [w_move, w_assign, w_callF, w_aop, w_anone, w_nil, w_cons, awp, asN, St.ev, St.step, setS, killS, AV.kill, AV.killL, Mem.kill, ACond_false, List.getD_cons_succ, List.getD_cons_zero, List.set_cons_succ, List.set_cons_zero, List.length_cons, List.length_nil, List.replicate_succ, List.replicate_zero, List.cons_append, List.nil_append, List.contains_nil, List.contains_cons, List.isEmpty_nil, Option.getD_some, Bool.false_eq_true, if_false, if_true, Nat.zero_add, Nat.add_zero, List.map_cons, List.map_nil, nbeq, decide_false, Bool.or_false, Nat.reduceAdd, Nat.reduceEqDiff, Nat.reduceSub, Int.reduceAdd, Int.reduceSub, Try.ntmps11]
  refine acall_v (s19 c) rfl rfl ?_
  by_cases hl : 50 < c.length
  · simp only [w_callF, w_aop, w_some, w_nil, w_cons, awp, asB, St.ev, St.step, setS, killS, AV.kill, AV.killL, Mem.kill, ACond_true, ACond_false, List.getD_cons_succ, List.getD_cons_zero, List.set_cons_succ, List.set_cons_zero, List.contains_nil, List.contains_cons, List.isEmpty_nil, if_true, List.map_nil, nbeq, decide_false, Bool.or_false, Nat.reduceAdd, Nat.reduceEqDiff, Int.reduceAdd, decide_eq_true hl]
    refine acall_v s32 rfl rfl ?_
    simp only [w_assign, w_aop, w_anone, w_nil, w_cons, awp, asN, St.ev, St.step, setS, killS, AV.kill, AV.killL, Mem.kill, List.getD_cons_succ, List.getD_cons_zero, List.set_cons_succ, List.set_cons_zero, List.contains_nil, List.contains_cons, List.isEmpty_nil, Option.getD_some, Bool.false_eq_true, if_false, if_true, nbeq, decide_false, Bool.or_false, Nat.reduceEqDiff]
    exact aend_frz rfl ⟨rfl, rfl⟩
  simp only [w_move, w_callF, w_aop, w_some, w_nil, w_cons, awp, asB, St.ev, St.step, setS, killS, AV.kill, AV.killL, Mem.kill, ACond_false, List.getD_cons_succ, List.getD_cons_zero, List.set_cons_succ, List.set_cons_zero, List.contains_nil, List.contains_cons, List.isEmpty_nil, if_true, List.map_cons, List.map_nil, nbeq, decide_false, Bool.or_false, Nat.reduceAdd, Nat.reduceEqDiff, Int.reduceAdd, decide_eq_false hl]
  have h1 := s23 n c (by omega)
  have h2 := s45 n c (by omega)
  have h3 := s24 n c (by omega)
  by_cases hv : vC n c = 0
  · have h10 := vC_len hv
    rw [if_pos hv, hv, ly_bound (vC_Ok hv)] at h1 h3
    rw [if_pos hv, hv, ly_bdr (vC_Ok hv)] at h2
    have hfl := ly_al c.length (Nat.le_refl _)
    have hfn := Tr.alk_len bT_bd _ hfl
    have hcx : vC n (lyR bS c).flatten = 0 := vC_al hv hfl.symm
    have hll : (lyR bS c).length ≤ 10000 := by have := ly_len bS c.length c; unfold lyR; omega
    have hle : ∀ x ∈ lyR bS c, x.length ≤ 10000 := fun x hx => by have := mem_flat hx; omega
    have hnm : nmS c = nmS (lyR bS c).flatten := (nmS_iff _ _).2 hfl.symm
    have h5 := s26 n c (lyR bS c).flatten (by omega) (by omega)
    rw [vC2_of hv hcx, hnm, decide_eq_true rfl, decide_eq_true rfl] at h5
    have h5 : ASpec Try.prog 26 [I n, .s 4 (gtsA c), .s 4 (gtsA (lyR bS c).flatten)] (fun r Ms => r = .t [B true, I 0] ∧ Ms = []) := h5
    generalize lyR bS c = ly at *
    have h4 := s46 ly ly hll hll hle hle
    rw [decide_eq_true rfl] at h4
    refine acall_v h1 rfl rfl ?_
    simp only [w_move, w_assign, w_extract, w_callF, w_aop, w_some, w_anone, w_nil, w_cons, awp, asT, asN, St.ev, St.step, setS, killS, AV.kill, AV.killL, Mem.kill, ACond_false, List.getD_cons_succ, List.getD_cons_zero, List.set_cons_succ, List.set_cons_zero, List.getElem?_cons_succ, List.getElem?_cons_zero, List.contains_nil, List.contains_cons, List.isEmpty_nil, Option.getD_some, Bool.false_eq_true, if_false, if_true, List.map_cons, List.map_nil, nbeq, decide_false, Bool.or_false, Nat.reduceAdd, Nat.reduceEqDiff, Int.reduceAdd]
    refine acall_v h2 rfl rfl ?_
    simp only [w_move, w_assign, w_extract, w_callF, w_aop, w_some, w_anone, w_nil, w_cons, awp, asT, asN, St.ev, St.step, setS, killS, AV.kill, AV.killL, Mem.kill, ACond_false, List.getD_cons_succ, List.getD_cons_zero, List.set_cons_succ, List.set_cons_zero, List.getElem?_cons_succ, List.getElem?_cons_zero, List.contains_nil, List.contains_cons, List.isEmpty_nil, Option.getD_some, Bool.false_eq_true, if_false, if_true, List.map_cons, List.map_nil, nbeq, decide_false, Bool.or_false, Nat.reduceAdd, Nat.reduceEqDiff, Int.reduceAdd]
    refine acall_v h3 rfl rfl ?_
    simp only [w_move, w_assign, w_binOp, w_extract, w_callF, w_aop, w_aopg, w_gdb, w_some, w_asome, w_anone, w_nil, w_cons, awp, binC, cmpC, asT, asI, asN, St.ev, St.step, setS, killS, AV.kill, AV.killL, Mem.kill, ACond_true, ACond_false, List.getD_cons_succ, List.getD_cons_zero, List.set_cons_succ, List.set_cons_zero, List.getElem?_cons_succ, List.getElem?_cons_zero, List.contains_nil, List.contains_cons, List.isEmpty_nil, Option.getD_some, Bool.false_eq_true, if_false, if_true, true_and, Bool.true_and, Bool.not_true, beq_self_eq_true, List.map_cons, List.map_nil, decide_true, nbeq, decide_false, Bool.or_false, Nat.reduceAdd, Nat.reduceEqDiff, Int.reduceAdd, Option.bind_some]
    refine acall_v h4 rfl rfl ?_
    simp only [w_move, w_assign, w_pick, w_binOp, w_not, w_len, w_aop, w_aopg, w_gdb, w_some, w_asome, w_anone, w_nil, w_cons, awp, binC, cmpC, asB, asI, asN, lenA, Aw.newRow, St.ev, St.step, setS, killS, AV.kill, AV.killL, Mem.kill, ACond_true, ACond_false, List.getD_cons_succ, List.getD_cons_zero, List.set_cons_succ, List.set_cons_zero, List.getElem?_cons_succ, List.getElem?_cons_zero, List.length_nil, List.nil_append, List.contains_nil, List.contains_cons, List.isEmpty_nil, Option.getD_some, Bool.false_eq_true, if_false, if_true, true_and, Bool.true_and, Bool.not_true, Option.isSome_some, beq_self_eq_true, decide_true, nbeq, decide_false, Bool.or_false, Nat.reduceAdd, Nat.reduceEqDiff, Int.reduceAdd, Option.bind_some, ti22, ti24, ti34, rowsA_len]
    refine swp_loop' (fun i : Nat => ⟨[I n, .s 4 (gtsA c), .bot, .bot, .bot, .s 1 (rowsA ly), .bot, .bot, .bot, .bot, .bot, .o 0, I i, .bot, .bot, .bot, .bot, .bot, .bot, .bot, .bot, .bot, .bot, .bot, .bot, .bot, .bot, .bot, .bot, .bot, .bot, .bot, .bot, .bot, .bot, .bot, .bot, .bot, .bot, .bot, .bot, .bot, .bot, .bot, .bot, .bot, .bot, .bot, .bot, .bot, .bot, .bot, .bot, .bot, .bot, .bot, .bot, .bot, .bot, .bot, .bot, .bot, .bot, .bot, .bot, .bot, .bot, .bot, .bot, .bot, .bot, .bot, .bot, .bot, .bot, .bot, .bot, .bot, .bot, .bot, .bot, .bot, .bot, .bot, .bot, .bot], [some ⟨none, 24, 4, gtsA (ly.take i).flatten⟩]⟩) (fun i => i ≤ ly.length) (fun i => ly.length - i) 0 (le_sl (by simp [leSl])) (Nat.zero_le _) ?_
    intro i hi
    refine awp_sound (own := [11, 1015]) _ _ _ _ _ ?_
    simp only [w_move, w_binOp, w_len, w_aop, w_some, w_asome, w_nil, w_cons, awp, binC, cmpC, asB, asI, lenA, St.ev, St.step, setS, killS, AV.kill, AV.killL, Mem.kill, ACond_false, List.getD_cons_succ, List.getD_cons_zero, List.set_cons_succ, List.set_cons_zero, List.contains_nil, List.contains_cons, List.isEmpty_nil, Bool.false_eq_true, if_false, if_true, true_and, Bool.true_and, Option.isSome_some, nbeq, decide_false, Bool.or_false, Nat.reduceAdd, Nat.reduceEqDiff, Int.reduceAdd, ti34, rowsA_len]
    by_cases h : i < ly.length
    · have h' : (i : Int) < (ly.length : Int) := by omega
      have hf1 := flat_le ly i
      have hf2 := flat_le ly (i + 1)
      rw [flat_succ h, List.length_append] at hf2
      simp only [w_move, w_assign, w_load, w_indexAddr, w_binOp, w_append, w_aop, w_some, w_asome, w_anone, w_nil, w_cons, awp, binC, idxC, arithC, cmpC, asP, asO, asS, asI, asN, obA, loadA, St.ev, St.step, setS, killS, AV.kill, AV.killL, Mem.kill, AV.cells, AV.flat, AV.single, ACond_true, ACond_false, List.getD_cons_succ, List.getD_cons_zero, List.set_cons_succ, List.set_cons_zero, List.getElem?_cons_zero, List.contains_nil, List.contains_cons, List.isEmpty_nil, List.isEmpty_cons, Option.getD_some, Bool.false_eq_true, if_false, if_true, true_and, and_true, List.all_cons, List.all_nil, Bool.and_true, Bool.true_and, Bool.not_true, beq_self_eq_true, List.map_cons, List.map_nil, nbeq, decide_false, Bool.or_false, Nat.reduceAdd, Nat.reduceEqDiff, Nat.reduceLeDiff, Int.reduceAdd, Option.map_some, gtsA_len, ti22, ti24, ti34, decide_eq_true h', aget_rowsA h, Int.toNat_natCast, gtsA_len, gtsA_kill, gtsA_join]
      rw [← flat_succ h]
      exact ⟨by omega, ⟨by decide, by omega⟩, by unfold lim; omega, i + 1, le_sl (by simp [leSl]), h, by omega⟩
    · have h' : ¬ (i : Int) < (ly.length : Int) := by omega
      have hie : i = ly.length := by omega
      subst hie
      simp only [awp, ACond_true, ACond_false, List.contains_nil, List.contains_cons, if_true, beq_self_eq_true, nbeq, decide_false, Bool.or_false, Bool.or_true, Nat.reduceAdd, Nat.reduceEqDiff, Int.reduceAdd, decide_eq_false h', List.take_length]
      refine swp_le (le_frz 0 rfl (gtsA_pure _)) (swp_text (own := [11]) ?_)
      simp only [w_move, w_callF, w_aop, w_cons, St.ev, St.step, setS, killS, AV.kill, AV.killL, Mem.kill, List.getD_cons_succ, List.getD_cons_zero, List.set_cons_succ, List.set_cons_zero, List.isEmpty_nil, if_true, List.map_cons, List.map_nil, Option.map_none, frz1, frzM, AV.sub]
      refine acall_v h5 rfl rfl ?_
      simp only [w_move, w_assign, w_pick, w_binOp, w_extract, w_callF, w_aop, w_aopg, w_gdb, w_some, w_asome, w_anone, w_nil, w_cons, awp, binC, cmpC, asT, asB, asI, asN, St.ev, St.step, setS, killS, AV.kill, AV.killL, Mem.kill, ACond_true, ACond_false, List.getD_cons_succ, List.getD_cons_zero, List.set_cons_succ, List.set_cons_zero, List.getElem?_cons_succ, List.getElem?_cons_zero, List.contains_nil, List.contains_cons, List.isEmpty_nil, Option.getD_some, Bool.false_eq_true, if_false, if_true, true_and, Bool.true_and, beq_self_eq_true, List.map_nil, decide_true, nbeq, decide_false, Bool.or_false, Nat.reduceAdd, Nat.reduceEqDiff, Int.reduceAdd, Option.bind_some]
      refine acall_v s32 rfl rfl ?_
      simp only [w_assign, w_pick, w_aop, w_some, w_anone, w_nil, w_cons, awp, asB, asN, St.ev, St.step, setS, killS, AV.kill, AV.killL, Mem.kill, ACond_true, List.getD_cons_succ, List.getD_cons_zero, List.set_cons_succ, List.set_cons_zero, List.contains_nil, List.contains_cons, List.isEmpty_nil, Option.getD_some, Bool.false_eq_true, if_false, if_true, nbeq, decide_false, Bool.or_false, Nat.reduceEqDiff]
      exact aend_frz rfl ⟨rfl, rfl⟩
  · rw [if_neg hv] at h1 h2 h3
    have h4 := s46 [] [] (by decide) (by decide) (by simp) (by simp)
    rw [decide_eq_true rfl] at h4
    generalize vC n c = E at h1 h2 h3 hv
    refine acall_v h1 rfl rfl ?_
    simp only [w_move, w_assign, w_extract, w_callF, w_aop, w_some, w_anone, w_nil, w_cons, awp, asT, asN, St.ev, St.step, setS, killS, AV.kill, AV.killL, Mem.kill, ACond_false, List.getD_cons_succ, List.getD_cons_zero, List.set_cons_succ, List.set_cons_zero, List.getElem?_cons_succ, List.getElem?_cons_zero, List.contains_nil, List.contains_cons, List.isEmpty_nil, Option.getD_some, Bool.false_eq_true, if_false, if_true, List.map_cons, List.map_nil, nbeq, decide_false, Bool.or_false, Nat.reduceAdd, Nat.reduceEqDiff, Int.reduceAdd]
    refine acall_v h2 rfl rfl ?_
    simp only [w_move, w_assign, w_extract, w_callF, w_aop, w_some, w_anone, w_nil, w_cons, awp, asT, asN, St.ev, St.step, setS, killS, AV.kill, AV.killL, Mem.kill, ACond_false, List.getD_cons_succ, List.getD_cons_zero, List.set_cons_succ, List.set_cons_zero, List.getElem?_cons_succ, List.getElem?_cons_zero, List.contains_nil, List.contains_cons, List.isEmpty_nil, Option.getD_some, Bool.false_eq_true, if_false, if_true, List.map_cons, List.map_nil, nbeq, decide_false, Bool.or_false, Nat.reduceAdd, Nat.reduceEqDiff, Int.reduceAdd]
    refine acall_v h3 rfl rfl ?_
    simp only [w_move, w_assign, w_binOp, w_extract, w_callF, w_aop, w_aopg, w_gdb, w_some, w_asome, w_anone, w_nil, w_cons, awp, binC, cmpC, asT, asI, asN, St.ev, St.step, setS, killS, AV.kill, AV.killL, Mem.kill, ACond_true, ACond_false, List.getD_cons_succ, List.getD_cons_zero, List.set_cons_succ, List.set_cons_zero, List.getElem?_cons_succ, List.getElem?_cons_zero, List.contains_nil, List.contains_cons, List.isEmpty_nil, Option.getD_some, Bool.false_eq_true, if_false, if_true, true_and, Bool.true_and, Bool.not_true, beq_self_eq_true, List.map_cons, List.map_nil, decide_true, nbeq, decide_false, Bool.or_false, Nat.reduceAdd, Nat.reduceEqDiff, Int.reduceAdd, Option.bind_some]
    refine acall_v h4 rfl rfl ?_
    have e0 : ((0 : Int) = ((0 : Nat) : Int)) := rfl
    simp only [w_move, w_pick, w_binOp, w_not, w_callF, w_len, w_aop, w_aopg, w_gdb, w_some, w_asome, w_nil, w_cons, awp, binC, cmpC, asB, asI, lenA, St.ev, St.step, setS, killS, AV.kill, AV.killL, Mem.kill, ACond_true, ACond_false, List.getD_cons_succ, List.getD_cons_zero, List.set_cons_succ, List.set_cons_zero, List.getElem?_cons_succ, List.getElem?_cons_zero, List.length_nil, List.contains_nil, List.contains_cons, List.isEmpty_nil, if_true, true_and, Bool.true_and, Bool.not_true, Bool.not_false, Option.isSome_some, beq_self_eq_true, List.map_nil, decide_true, nbeq, decide_false, Bool.or_false, Nat.reduceAdd, Nat.reduceEqDiff, Int.reduceAdd, Option.bind_some, ti34, rowsA_len, decide_eq_false hv, decide_eq_true e0]
    refine acall_v s32 rfl rfl ?_
    simp only [w_assign, w_aop, w_anone, w_nil, w_cons, awp, asN, St.ev, St.step, setS, killS, AV.kill, AV.killL, Mem.kill, List.getD_cons_succ, List.getD_cons_zero, List.set_cons_succ, List.set_cons_zero, List.contains_nil, List.contains_cons, List.isEmpty_nil, Option.getD_some, Bool.false_eq_true, if_false, if_true, nbeq, decide_false, Bool.or_false, Nat.reduceEqDiff]
    exact aend_frz rfl ⟨rfl, rfl⟩
end Go.Proofs.Ytkmbbbemmohmcaa
