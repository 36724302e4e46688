/-
  Several texts in one: CtQ, CtR, CtS, CtT, CtU, CtV, CtW, CtX.
-/
import Derived.Test.YtkmbbbemmohmcaaMd
import Derived.Test.YtkmbbbemmohmcaaMw
import Derived.Lib.SliceRun
set_option linter.unusedSimpArgs false
set_option linter.unusedVariables false
namespace Go.Proofs.Ytkmbbbemmohmcaa
open Aw Go.RowKit
set_option linter.unusedSimpArgs false

theorem ok33 : okFn Try.prog 33 = true := by kernel_rfl
theorem s33 (n : Int) (c : List G4) (hl : c.length ≤ 10000) : ASpec Try.prog 33 [I n, .s 4 (gtsA c)] (fun r Ms => r = .t [B (decide (vC n c = 0) && (pm c).isNone), I (vC n c)] ∧ Ms = []) := by
  refine aspec_of (own := []) Try.func33 rfl ok33 ?_
  simp only [w_move, w_assign, w_callF, w_aop, w_anone, w_nil, w_cons, awp, asN, St.ev, St.step, setS, killS, AV.kill, AV.killL, Mem.kill, ACond_false, List.getD_cons_succ, List.getD_cons_zero, List.set_cons_succ, List.set_cons_zero, List.length_cons, List.length_nil, List.replicate_succ, List.replicate_zero, List.cons_append, List.nil_append, List.contains_nil, List.isEmpty_nil, Option.getD_some, Bool.false_eq_true, if_false, if_true, Nat.zero_add, Nat.add_zero, List.map_cons, List.map_nil, Nat.reduceAdd, Nat.reduceSub, Int.reduceAdd, Int.reduceSub, Try.ntmps33]
  refine acall_v (s21 n c (by omega)) rfl rfl ?_
  simp only [w_move, w_assign, w_binOp, w_aop, w_some, w_asome, w_anone, w_nil, w_cons, awp, binC, cmpC, asB, asI, asN, St.ev, St.step, setS, killS, AV.kill, AV.killL, Mem.kill, ACond_false, List.getD_cons_succ, List.getD_cons_zero, List.set_cons_succ, List.set_cons_zero, List.contains_nil, List.isEmpty_nil, Option.getD_some, Bool.false_eq_true, if_false, if_true, true_and, Bool.true_and, Nat.reduceAdd, Int.reduceAdd]
  by_cases hv : vC n c = 0
  · simp only [w_move, w_callF, w_aop, w_cons, awp, St.ev, St.step, setS, killS, AV.kill, AV.killL, Mem.kill, ACond_false, List.getD_cons_succ, List.getD_cons_zero, List.set_cons_succ, List.set_cons_zero, List.contains_nil, List.isEmpty_nil, if_true, Bool.not_true, List.map_cons, List.map_nil, Nat.reduceAdd, Int.reduceAdd, decide_eq_true hv]
    refine acall_v (s66 c hl) rfl (by cases pm c <;> rfl) ?_
    cases hm : pm c with
    | none =>
      simp only [w_move, w_assign, w_not, w_extract, w_aop, w_some, w_anone, w_nil, w_cons, awp, asT, asB, asN, St.ev, St.step, setS, killS, AV.kill, AV.killL, Mem.kill, ACond_false, List.getD_cons_succ, List.getD_cons_zero, List.set_cons_succ, List.set_cons_zero, List.getElem?_cons_succ, List.getElem?_cons_zero, List.contains_nil, List.isEmpty_nil, Option.getD_some, Bool.false_eq_true, if_false, if_true, Bool.not_false, Nat.reduceAdd, Int.reduceAdd, mtA]
      exact aend_frz rfl ⟨by simp [hv]; rfl, rfl⟩
    | some p =>
      simp only [w_move, w_assign, w_not, w_extract, w_aop, w_some, w_anone, w_nil, w_cons, awp, asT, asB, asN, St.ev, St.step, setS, killS, AV.kill, AV.killL, Mem.kill, ACond_false, List.getD_cons_succ, List.getD_cons_zero, List.set_cons_succ, List.set_cons_zero, List.getElem?_cons_succ, List.getElem?_cons_zero, List.contains_nil, List.isEmpty_nil, Option.getD_some, Bool.false_eq_true, if_false, if_true, Bool.not_true, Nat.reduceAdd, Int.reduceAdd, mtA]
      exact aend_frz rfl ⟨by simp [hv]; rfl, rfl⟩
  · simp only [w_move, w_assign, w_aop, w_anone, w_nil, w_cons, awp, asN, St.ev, St.step, setS, killS, AV.kill, AV.killL, Mem.kill, ACond_true, ACond_false, List.getD_cons_succ, List.getD_cons_zero, List.set_cons_succ, List.set_cons_zero, List.contains_nil, List.isEmpty_nil, Option.getD_some, Bool.false_eq_true, if_false, if_true, Bool.not_false, Bool.false_and, Nat.reduceAdd, Int.reduceAdd, decide_eq_false hv]
    exact aend_frz rfl ⟨rfl, rfl⟩
end Go.Proofs.Ytkmbbbemmohmcaa

namespace Go.Proofs.Ytkmbbbemmohmcaa
open Aw Go.RowKit
set_option linter.unusedSimpArgs false

/-- two gates, seen in two circuits. -/
def alk1 (c d : List G4) (i k : Nat) : Bool := !((c ++ d).getD i default).bound' ((c ++ d).getD k default) || decide (prL c ((c ++ d).getD i default) ((c ++ d).getD k default) = prL d ((c ++ d).getD i default) ((c ++ d).getD k default))
def alkB (c d : List G4) : Bool := (List.range (c ++ d).length).all fun i => (List.range (i + 1)).all fun k => alk1 c d i k
theorem alkB_iff (c d : List G4) : alkB c d = true ↔ ∀ i, i < (c ++ d).length → ∀ k, k < i + 1 → alk1 c d i k = true := by
  unfold alkB; simp [List.all_eq_true]
theorem alkB_true {c d : List G4} (h : ∀ i, i < (c ++ d).length → ∀ k, k < i + 1 → alk1 c d i k = true) : alkB c d = true := (alkB_iff c d).2 h
theorem alkB_false {c d : List G4} {i k : Nat} (hi : i < (c ++ d).length) (hk : k < i + 1) (h : alk1 c d i k = false) : alkB c d = false := by
  cases hb : alkB c d with
  | false => rfl
  | true => have := (alkB_iff c d).1 hb i hi k hk; rw [h] at this; cases this

theorem ok74 : okFn Try.prog 74 = true := by kernel_rfl
set_option maxHeartbeats 2000000 in
set_option maxRecDepth 10000 in
theorem s74 (c d : List G4) (hl : c.length ≤ 5000) (hl' : d.length ≤ 5000) : ASpec Try.prog 74 [.s 4 (gtsA c), .s 4 (gtsA d)] (fun r Ms => r = B (alkB c d) ∧ Ms = []) := by
  refine aspec_of (own := [8]) Try.func74 rfl ok74 ?_
  simp only [w_move, w_assign, w_buildSlice, w_append, w_aop, w_some, w_asome, w_anone, w_nil, w_cons, awp, asO, asS, asN, obA, Aw.newRow, St.ev, St.step, setS, killS, AV.kill, AV.killL, Mem.kill, AV.cells, AV.flat, AV.single, AV.cellular, ACond_true, ACond_false, Value.oneCell', List.getD_cons_succ, List.getD_cons_zero, List.set_cons_succ, List.set_cons_zero, List.getElem?_cons_zero, List.length_cons, List.length_nil, List.replicate_succ, List.replicate_zero, List.cons_append, List.nil_append, List.contains_nil, List.contains_cons, List.isEmpty_nil, List.isEmpty_cons, Option.getD_some, Bool.false_eq_true, if_false, if_true, true_and, and_true, List.all_nil, Bool.and_true, Bool.true_and, Nat.zero_add, Nat.add_zero, beq_self_eq_true, List.map_cons, List.map_nil, nbeq, decide_false, Bool.or_false, Nat.reduceAdd, Nat.reduceEqDiff, Nat.reduceMul, Nat.reduceSub, Nat.reduceLeDiff, Int.reduceAdd, Int.reduceSub, Int.reduceMul, Option.map_some, gtsA_len, ti22, ti24, Try.ntmps74, gtsA_kill, gtsA_join]
  refine ⟨⟨by decide, rfl⟩, ⟨by decide, by omega⟩, ⟨by decide, by omega⟩, ?_⟩
  obtain ⟨a, ha⟩ : ∃ a, a = c ++ d := ⟨_, rfl⟩
  have hal : a.length ≤ 10000 := by rw [ha, List.length_append]; omega
  rw [← ha]
  refine swp_le (le_frz 0 rfl (gtsA_pure a)) ?_
  refine swp_loop' (fun i : Nat => ⟨[.s 4 (gtsA c), .s 4 (gtsA d), .bot, .bot, .bot, .s 4 (gtsA a), I i, .bot, .bot, .bot, .bot, .bot, .bot, .bot, .bot, .bot, .bot, .bot, .bot, .bot, .bot, .bot, .bot, .bot, .bot, .bot, .bot, .bot, .bot, .bot, .bot, .bot, .bot, .bot, .bot, .bot, .bot, .bot, .bot, .bot, .bot, .bot, .bot, .bot, .bot, .bot, .bot, .bot, .bot, .bot, .bot, .bot, .bot, .bot, .bot, .bot, .bot], [none]⟩) (fun i => i ≤ a.length ∧ ∀ i', i' < i → ∀ k, k < i' + 1 → alk1 c d i' k = true) (fun i => a.length - i) 0 (le_sl (by simp [leSl, frz1, AV.sub, AV.subL])) ⟨Nat.zero_le _, by omega⟩ ?_
  rintro i ⟨hi, hno⟩
  refine awp_sound (own := [8]) _ _ _ _ _ ?_
  simp only [w_move, w_binOp, w_len, w_aop, w_some, w_asome, w_nil, w_cons, awp, binC, cmpC, asB, asI, lenA, St.ev, St.step, setS, killS, AV.kill, AV.killL, Mem.kill, ACond_false, List.getD_cons_succ, List.getD_cons_zero, List.set_cons_succ, List.set_cons_zero, List.contains_nil, List.contains_cons, List.isEmpty_nil, if_true, true_and, Bool.true_and, Option.isSome_some, nbeq, decide_false, Bool.or_false, Nat.reduceAdd, Nat.reduceEqDiff, Int.reduceAdd, gtsA_len, ti22]
  by_cases h : i < a.length
  · have h' : (i : Int) < (a.length : Int) := by omega
    simp only [w_assign, w_aop, w_anone, w_nil, w_cons, awp, asN, St.ev, St.step, setS, killS, AV.kill, AV.killL, Mem.kill, ACond_true, ACond_false, List.set_cons_succ, List.set_cons_zero, List.contains_nil, List.contains_cons, List.isEmpty_nil, Option.getD_some, Bool.false_eq_true, if_false, if_true, nbeq, decide_false, Bool.or_false, Nat.reduceAdd, Nat.reduceEqDiff, Int.reduceAdd, decide_eq_true h']
    refine swp_loop' (fun k : Nat => ⟨[.s 4 (gtsA c), .s 4 (gtsA d), .bot, .bot, .bot, .s 4 (gtsA a), I i, I k, .bot, .bot, .bot, .bot, .bot, .bot, .bot, .bot, .bot, .bot, .bot, .bot, .bot, .bot, .bot, .bot, .bot, .bot, .bot, .bot, .bot, .bot, .bot, .bot, .bot, .bot, .bot, .bot, .bot, .bot, .bot, .bot, .bot, .bot, .bot, .bot, .bot, .bot, .bot, .bot, .bot, .bot, .bot, .bot, .bot, .bot, .bot, .bot, .bot], [none]⟩) (fun k => k ≤ i + 1 ∧ ∀ k', k' < k → alk1 c d i k' = true) (fun k => i + 1 - k) 0 (le_sl (by simp [leSl])) ⟨Nat.zero_le _, by omega⟩ ?_
    rintro k ⟨hk, hnk⟩
    refine awp_sound (own := [8]) _ _ _ _ _ ?_
    simp only [w_move, w_binOp, w_aop, w_some, w_asome, w_nil, w_cons, awp, binC, cmpC, asB, asI, St.ev, St.step, setS, killS, AV.kill, AV.killL, Mem.kill, ACond_false, List.getD_cons_succ, List.getD_cons_zero, List.set_cons_succ, List.set_cons_zero, List.contains_nil, List.contains_cons, List.isEmpty_nil, if_true, true_and, Bool.true_and, nbeq, decide_false, Bool.or_false, Nat.reduceAdd, Nat.reduceEqDiff, Int.reduceAdd]
    by_cases hki : k ≤ i
    · have hk' : (k : Int) ≤ (i : Int) := by omega
      have hkl : k < a.length := by omega
      simp only [awp, ACond_true, decide_eq_true hk']
      refine swp_draw (own := [8]) (.take 0 .plain [] (.take 1 .plain [] (.take 2 .reads [] (.take 3 .reads [] (.take 4 .plain [] (.take 5 .plain [] (.take 6 .reads [] (.take 7 .reads [] (.alt 8 (.take 9 .plain [] (.take 10 .plain [] (.take 11 .plain [] (.take 12 .plain [] (.take 13 .reads [] (.take 14 .reads [] (.take 15 .plain [] (.take 16 .plain [] (.take 17 .reads [] (.take 18 .reads [] (.take 20 .plain [] (.take 21 .plain [] (.take 22 .plain [] (.take 23 .reads [] (.take 24 .reads [] (.take 25 .plain [] (.take 26 .plain [] (.take 27 .reads [] (.take 28 .reads [] (.alt 19 (.alt 29 (.alt 30 (.take 31 .plain [] (.take 32 .plain [] (.done))) (.nil)) (.nil)) (.nil))))))))))))))))))))) (.nil)))))))))) [⟨25, 32, 0, 0, true⟩, ⟨26, 64, 0, 0, true⟩, ⟨27, 50331648, 3, 0, true⟩, ⟨28, 67108864, 4, 0, true⟩, ⟨29, 32, 0, 0, true⟩, ⟨30, 128, 0, 0, true⟩, ⟨31, 805306368, 48, 0, true⟩, ⟨32, 1073741824, 64, 0, true⟩, ⟨33, 2281701376, 136, 0, false⟩, ⟨34, 4294967296, 256, 0, true⟩, ⟨35, 8589934593, 512, 0, true⟩, ⟨36, 8589934624, 512, 0, true⟩, ⟨37, 8589934656, 512, 0, true⟩, ⟨38, 111669149696, 6656, 0, true⟩, ⟨39, 146028888064, 8704, 0, true⟩, ⟨40, 8589934624, 512, 0, true⟩, ⟨41, 8589934720, 512, 0, true⟩, ⟨42, 1657857376256, 98816, 0, true⟩, ⟨43, 2207613190144, 131584, 0, true⟩, ⟨44, 4698694221824, 280064, 0, false⟩, ⟨45, 8589934594, 512, 0, true⟩, ⟨46, 8589934624, 512, 0, true⟩, ⟨47, 8589934656, 512, 0, true⟩, ⟨48, 105561706201088, 6291968, 0, true⟩, ⟨49, 140746078289920, 8389120, 0, true⟩, ⟨50, 8589934624, 512, 0, true⟩, ⟨51, 8589934720, 512, 0, true⟩, ⟨52, 1688858450198528, 100663808, 0, true⟩, ⟨53, 2251808403619840, 134218240, 0, true⟩, ⟨54, 4802675380060160, 286786048, 0, false⟩, ⟨55, 9016003937697792, 537395712, 0, false⟩, ⟨56, 18014407099416576, 1073742336, 0, true⟩, ⟨57, 36028805608898560, 2147484160, 0, true⟩] mo (by kernel_rfl) ?_
      simp only [w_move, w_load, w_indexAddr, w_callF, w_aop, w_take, w_some, w_asome, idxC, asP, asS, asI, loadA, St.ev, setS, AV.cells, AV.flat, AV.single, List.getD_cons_succ, List.getD_cons_zero, List.set_cons_succ, List.set_cons_zero, List.getElem?_cons_succ, List.getElem?_cons_zero, List.length_cons, List.length_nil, Bool.false_eq_true, if_false, if_true, true_and, and_true, List.all_cons, List.all_nil, Bool.and_true, Bool.true_and, Bool.not_true, Nat.zero_add, beq_self_eq_true, List.map_cons, List.map_nil, decide_true, Nat.reduceAdd, Nat.reduceLeDiff, Int.reduceAdd, ASch, St.put, Md.mem, Md.need, ti22, ti24, aget_gts h, aget_gts hkl, Int.toNat_natCast]
      refine ⟨by omega, by omega, acall_v (s77 a[i] a[k]) rfl rfl ?_⟩
      have g1 : (c ++ d).getD i default = a[i] := by rw [← ha]; simp [h]
      have g2 : (c ++ d).getD k default = a[k] := by rw [← ha]; simp [hkl]
      have ek : alk1 c d i k = (!(a[i]).bound' a[k] || decide (prL c a[i] a[k] = prL d a[i] a[k])) := by unfold alk1; rw [g1, g2]
      cases hb : (a[i]).bound' a[k] with
      | false =>
        simp only [w_move, w_assign, w_pick, w_binOp, w_aop, w_aopg, w_gdb, w_take, w_takeg, w_some, w_asome, w_anone, w_nil, w_cons, awp, binC, arithC, cmpC, asB, asI, asN, St.ev, St.step, setS, killS, AV.kill, AV.killL, Mem.kill, ACond_false, List.getD_cons_succ, List.getD_cons_zero, List.set_cons_succ, List.set_cons_zero, List.getElem?_cons_succ, List.getElem?_cons_zero, List.contains_nil, List.contains_cons, List.isEmpty_nil, Option.getD_some, Bool.false_eq_true, if_false, if_true, true_and, and_true, Bool.and_true, Bool.true_and, nbeq, decide_false, Bool.or_false, Nat.reduceAdd, Nat.reduceEqDiff, Int.reduceAdd, Option.bind_some, ASch, St.put, Md.mem, Md.need, w_bt]
        rw [hb] at ek
        refine ⟨by unfold lim; omega, k + 1, le_sl (by simp [leSl]), ⟨by omega, fun k' hk' => ?_⟩, by omega⟩
        rcases Nat.lt_or_ge k' k with h1 | h1
        · exact hnk k' h1
        · obtain rfl : k' = k := by omega
          rw [ek]; rfl
      | true =>
        rw [hb] at ek
        simp only [w_move, w_load, w_indexAddr, w_callF, w_aopg, w_gdb, w_take, w_takeg, w_some, w_asome, idxC, asP, asS, asI, loadA, St.ev, St.step, setS, killS, AV.kill, AV.killL, Mem.kill, AV.cells, AV.flat, AV.single, ACond_true, List.getD_cons_succ, List.getD_cons_zero, List.set_cons_succ, List.set_cons_zero, List.getElem?_cons_succ, List.getElem?_cons_zero, List.length_cons, List.length_nil, List.isEmpty_nil, Bool.false_eq_true, if_false, if_true, true_and, and_true, List.all_cons, List.all_nil, Bool.and_true, Bool.true_and, Bool.not_true, Nat.zero_add, beq_self_eq_true, List.map_cons, List.map_nil, decide_true, Nat.reduceAdd, Nat.reduceLeDiff, Int.reduceAdd, Option.bind_some, ASch, St.put, Md.mem, Md.need, ti22, ti24, aget_gts h, aget_gts hkl, Int.toNat_natCast]
        refine ⟨by omega, by omega, by omega, by omega, acall_v (s80 c a[i] a[k] (by omega)) rfl rfl ?_⟩
        simp only [w_callF, w_aopg, w_gdb, w_some, St.ev, St.step, setS, killS, AV.kill, AV.killL, Mem.kill, ACond_true, List.getD_cons_succ, List.getD_cons_zero, List.set_cons_succ, List.set_cons_zero, List.getElem?_cons_succ, List.getElem?_cons_zero, List.isEmpty_nil, if_true, and_true, Bool.and_true, beq_self_eq_true, List.map_cons, List.map_nil, Option.bind_some, ASch]
        refine acall_v (s80 d a[i] a[k] (by omega)) rfl rfl ?_
        simp only [w_callF, w_aopg, w_gdb, w_some, St.ev, St.step, setS, killS, AV.kill, AV.killL, Mem.kill, ACond_true, List.getD_cons_succ, List.getD_cons_zero, List.set_cons_succ, List.set_cons_zero, List.getElem?_cons_succ, List.getElem?_cons_zero, List.isEmpty_nil, if_true, and_true, Bool.and_true, beq_self_eq_true, List.map_cons, List.map_nil, Option.bind_some, ASch]
        refine acall_v (s29 _ _ (Nat.le_trans (prL_len _ _ _) (by omega)) (Nat.le_trans (prL_len _ _ _) (by omega))) rfl rfl ?_
        simp only [w_pick, w_not, w_gdb, w_take, w_takeg, w_some, awp, asB, St.ev, St.step, setS, killS, AV.kill, AV.killL, Mem.kill, ACond_true, List.getD_cons_succ, List.getD_cons_zero, List.set_cons_succ, List.set_cons_zero, List.getElem?_cons_succ, List.getElem?_cons_zero, List.isEmpty_nil, if_true, true_and, Bool.true_and, beq_self_eq_true, Option.bind_some, ASch, St.put, Md.mem, Md.need]
        by_cases he : prL c a[i] a[k] = prL d a[i] a[k]
        · simp only [w_move, w_assign, w_binOp, w_aop, w_some, w_asome, w_anone, w_nil, w_cons, awp, binC, arithC, cmpC, asI, asN, St.ev, St.step, setS, killS, AV.kill, AV.killL, Mem.kill, ACond_false, List.getD_cons_succ, List.getD_cons_zero, List.set_cons_succ, List.set_cons_zero, List.contains_nil, List.contains_cons, List.isEmpty_nil, Option.getD_some, Bool.false_eq_true, if_false, if_true, true_and, and_true, Bool.and_true, Bool.true_and, Bool.not_true, nbeq, decide_false, Bool.or_false, Nat.reduceAdd, Nat.reduceEqDiff, Int.reduceAdd, St.put, decide_eq_true he]
          refine ⟨by unfold lim; omega, k + 1, le_sl (by simp [leSl]), ⟨by omega, fun k' hk' => ?_⟩, by omega⟩
          rcases Nat.lt_or_ge k' k with h1 | h1
          · exact hnk k' h1
          · obtain rfl : k' = k := by omega
            rw [ek, decide_eq_true he]; rfl
        · simp only [w_assign, w_aop, w_anone, w_nil, w_cons, awp, asN, St.ev, St.step, setS, killS, AV.kill, AV.killL, Mem.kill, ACond_true, ACond_false, List.getD_cons_succ, List.getD_cons_zero, List.set_cons_succ, List.set_cons_zero, List.contains_nil, List.contains_cons, List.isEmpty_nil, Option.getD_some, Bool.false_eq_true, if_false, if_true, Bool.not_false, nbeq, decide_false, Bool.or_false, Nat.reduceAdd, Nat.reduceEqDiff, Int.reduceAdd, St.put, decide_eq_false he]
          rw [decide_eq_false he] at ek
          exact aend_frz rfl ⟨by rw [alkB_false (by rw [← ha]; exact h) (by omega) ek]; rfl, rfl⟩
    · have hk' : ¬ (k : Int) ≤ (i : Int) := by omega
      simp only [w_move, w_assign, w_binOp, w_aop, w_some, w_asome, w_anone, w_nil, w_cons, awp, binC, arithC, cmpC, asI, asN, St.ev, St.step, setS, killS, AV.kill, AV.killL, Mem.kill, ACond_false, List.getD_cons_succ, List.getD_cons_zero, List.set_cons_succ, List.set_cons_zero, List.contains_nil, List.contains_cons, List.isEmpty_nil, Option.getD_some, Bool.false_eq_true, if_false, if_true, true_and, and_true, Bool.and_true, Bool.true_and, nbeq, decide_false, Bool.or_false, Nat.reduceAdd, Nat.reduceEqDiff, Int.reduceAdd, decide_eq_false hk']
      refine ⟨by unfold lim; omega, i + 1, le_sl (by simp [leSl]), ⟨h, fun i' hi' k'' hk'' => ?_⟩, by omega⟩
      rcases Nat.lt_or_ge i' i with h1 | h1
      · exact hno i' h1 k'' hk''
      · obtain rfl : i' = i := by omega
        exact hnk k'' (by omega)
  · have h' : ¬ (i : Int) < (a.length : Int) := by omega
    simp only [w_assign, w_aop, w_anone, w_nil, w_cons, awp, asN, St.ev, St.step, setS, killS, AV.kill, AV.killL, Mem.kill, ACond_false, List.set_cons_succ, List.set_cons_zero, List.contains_nil, List.contains_cons, List.isEmpty_nil, Option.getD_some, Bool.false_eq_true, if_false, if_true, nbeq, decide_false, Bool.or_false, Nat.reduceAdd, Nat.reduceEqDiff, Int.reduceAdd, decide_eq_false h']
    exact aend_frz rfl ⟨by rw [alkB_true (fun i' hi' k hk => hno i' (by rw [← ha] at hi'; omega) k hk)]; rfl, rfl⟩
end Go.Proofs.Ytkmbbbemmohmcaa

namespace Go.Proofs.Ytkmbbbemmohmcaa
open Aw Go.RowKit
set_option linter.unusedSimpArgs false

def idxL {α : Type} [DecidableEq α] (l : List α) (x : α) : Int := match l.findIdx? (fun y => decide (x = y)) with | some i => (i : Int) | none => -1
theorem idxL_some {α : Type} [DecidableEq α] {l : List α} {x : α} {k : Nat} (h : k < l.length) (hno : ∀ j (h : j < l.length), j < k → x ≠ l[j]) (hx : x = l[k]) : idxL l x = k := by
  have : l.findIdx? (fun y => decide (x = y)) = some k := by
    rw [List.findIdx?_eq_some_iff_getElem]
    exact ⟨h, by simpa using hx, fun j hj => by simpa using hno j (by omega) hj⟩
  simp [idxL, this]
theorem idxL_none {α : Type} [DecidableEq α] {l : List α} {x : α} (hno : ∀ j (h : j < l.length), x ≠ l[j]) : idxL l x = -1 := by
  have : l.findIdx? (fun y => decide (x = y)) = none := by
    rw [List.findIdx?_eq_none_iff]
    intro y hy
    obtain ⟨j, hj, rfl⟩ := List.mem_iff_getElem.1 hy
    simpa using hno j hj
  simp [idxL, this]
def memL {α : Type} [DecidableEq α] (l : List α) (x : α) : Bool := decide (x ∈ l)
theorem memL_eq {α : Type} [DecidableEq α] (l : List α) (x : α) : memL l x = true ↔ x ∈ l := by simp [memL]
theorem idxL_mem {α : Type} [DecidableEq α] (l : List α) (x : α) : decide (0 ≤ idxL l x) = memL l x := by
  unfold idxL memL
  cases h : l.findIdx? (fun y => decide (x = y)) with
  | none =>
    rw [List.findIdx?_eq_none_iff] at h
    have : x ∉ l := fun hx => by simpa using h x hx
    simp [this]
  | some i =>
    rw [List.findIdx?_eq_some_iff_getElem] at h
    obtain ⟨hi, hx, _⟩ := h
    have : x ∈ l := by rw [of_decide_eq_true hx]; exact List.getElem_mem hi
    simp [this]

theorem ok100 : okFn Try.prog 100 = true := by kernel_rfl
theorem s100 (l : List Int) (x : Int) (hl : l.length ≤ 1000000) : ASpec Try.prog 100 [.s 1 (intsA l), I x] (fun r Ms => r = I (idxL l x) ∧ Ms = []) := by
  refine aspec_of (own := []) Try.func100 rfl ok100 ?_
  simp only [w_move, w_assign, w_len, w_aop, w_some, w_asome, w_anone, w_nil, w_cons, awp, asN, lenA, St.ev, St.step, setS, killS, AV.kill, AV.killL, Mem.kill, ACond_false, List.getD_cons_succ, List.getD_cons_zero, List.set_cons_succ, List.set_cons_zero, List.length_cons, List.length_nil, List.replicate_succ, List.replicate_zero, List.cons_append, List.nil_append, List.contains_nil, List.isEmpty_nil, Option.getD_some, Bool.false_eq_true, if_false, if_true, true_and, Bool.true_and, Option.isSome_some, Nat.zero_add, Nat.add_zero, Nat.reduceAdd, Nat.reduceSub, Int.reduceAdd, Int.reduceSub, intsA_len, ti31, Try.ntmps100]
  refine swp_loop' (fun k : Nat => ⟨[.s 1 (intsA l), I x, .bot, .bot, .bot, .bot, .s 1 (intsA l), I (intsA l).length, I k, .bot, .bot, .bot, .bot, .bot, .bot, .bot, .bot, .bot, .bot], []⟩) (fun k => k ≤ l.length ∧ ∀ j (h : j < l.length), j < k → x ≠ l[j]) (fun k => l.length - k) 0 (le_sl (by simp [leSl, intsA_len])) ⟨Nat.zero_le _, by omega⟩ ?_
  rintro k ⟨hk, hno⟩
  refine awp_sound (own := []) _ _ _ _ _ ?_
  simp only [w_binOp, w_aop, w_some, w_asome, w_nil, w_cons, awp, binC, cmpC, asB, asI, St.ev, St.step, setS, killS, AV.kill, AV.killL, Mem.kill, ACond_false, List.getD_cons_succ, List.getD_cons_zero, List.set_cons_succ, List.set_cons_zero, List.contains_nil, List.isEmpty_nil, if_true, true_and, Bool.true_and, Nat.reduceAdd, Int.reduceAdd, intsA_len, intsA_len]
  by_cases h : k < l.length
  · have h' : (k : Int) < (l.length : Int) := by omega
    simp only [w_move, w_assign, w_load, w_indexAddr, w_binOp, w_aop, w_some, w_asome, w_anone, w_nil, w_cons, awp, binC, idxC, cmpC, asP, asS, asB, asI, asN, loadA, St.ev, St.step, setS, killS, AV.kill, AV.killL, Mem.kill, AV.cells, AV.flat, AV.single, ACond_true, ACond_false, List.getD_cons_succ, List.getD_cons_zero, List.set_cons_succ, List.set_cons_zero, List.getElem?_cons_zero, List.contains_nil, List.isEmpty_nil, Option.getD_some, Bool.false_eq_true, if_false, if_true, true_and, and_true, List.all_cons, List.all_nil, Bool.and_true, Bool.true_and, Bool.not_true, Nat.reduceAdd, Int.reduceAdd, ti3, ti31, decide_eq_true h', aget_ints h, Int.toNat_natCast]
    refine ⟨by omega, ?_⟩
    by_cases hx : x = l[k]
    · simp only [w_move, w_assign, w_aop, w_anone, w_nil, w_cons, awp, asN, St.ev, St.step, setS, killS, AV.kill, AV.killL, Mem.kill, ACond_true, ACond_false, List.getD_cons_succ, List.getD_cons_zero, List.set_cons_succ, List.set_cons_zero, List.contains_nil, List.isEmpty_nil, Option.getD_some, Bool.false_eq_true, if_false, if_true, Nat.reduceAdd, Int.reduceAdd, decide_eq_true hx]
      exact aend_frz rfl ⟨by rw [idxL_some h hno hx]; rfl, rfl⟩
    · simp only [w_move, w_binOp, w_aop, w_some, w_asome, w_anone, w_nil, w_cons, awp, binC, arithC, cmpC, asI, St.ev, St.step, setS, killS, AV.kill, AV.killL, Mem.kill, ACond_false, List.getD_cons_succ, List.getD_cons_zero, List.set_cons_succ, List.set_cons_zero, List.contains_nil, List.isEmpty_nil, if_true, true_and, and_true, Bool.and_true, Bool.true_and, Nat.reduceAdd, Int.reduceAdd, ne_eq, intsA_len, decide_eq_false hx]
      refine ⟨by unfold lim; omega, k + 1, le_sl (by simp [leSl, intsA_len]), ⟨h, fun j hj hlt => ?_⟩, by omega⟩
      rcases Nat.lt_or_ge j k with h1 | h1
      · exact hno j hj h1
      · obtain rfl : j = k := by omega
        exact hx
  · have h' : ¬ (k : Int) < (l.length : Int) := by omega
    simp only [w_assign, w_aop, w_anone, w_nil, w_cons, awp, asN, St.ev, St.step, setS, killS, AV.kill, AV.killL, Mem.kill, ACond_false, List.set_cons_succ, List.set_cons_zero, List.contains_nil, List.isEmpty_nil, Option.getD_some, Bool.false_eq_true, if_false, if_true, Nat.reduceAdd, Int.reduceAdd, Int.reduceNeg, decide_eq_false h']
    exact aend_frz rfl ⟨by rw [idxL_none fun j hj => hno j hj (by omega)]; rfl, rfl⟩

theorem ok81 : okFn Try.prog 81 = true := by kernel_rfl
theorem s81 (l : List Int) (x : Int) (hl : l.length ≤ 1000000) : ASpec Try.prog 81 [.s 1 (intsA l), I x] (fun r Ms => r = B (memL l x) ∧ Ms = []) := by
  refine aspec_of (own := []) Try.func81 rfl ok81 ?_
  simp only [w_move, w_assign, w_callF, w_aop, w_anone, w_nil, w_cons, awp, asN, St.ev, St.step, setS, killS, AV.kill, AV.killL, Mem.kill, ACond_false, List.getD_cons_succ, List.getD_cons_zero, List.set_cons_succ, List.set_cons_zero, List.length_cons, List.length_nil, List.replicate_succ, List.replicate_zero, List.cons_append, List.nil_append, List.contains_nil, List.isEmpty_nil, Option.getD_some, Bool.false_eq_true, if_false, if_true, Nat.zero_add, Nat.add_zero, List.map_cons, List.map_nil, Nat.reduceAdd, Nat.reduceSub, Int.reduceAdd, Int.reduceSub, Try.ntmps81]
  refine acall_v (s100 l x hl) rfl rfl ?_
  simp only [w_assign, w_binOp, w_aop, w_some, w_asome, w_anone, w_nil, w_cons, awp, binC, cmpC, asI, asN, St.ev, St.step, setS, killS, AV.kill, AV.killL, Mem.kill, List.getD_cons_succ, List.getD_cons_zero, List.set_cons_succ, List.set_cons_zero, List.contains_nil, List.isEmpty_nil, Option.getD_some, Bool.false_eq_true, if_false, if_true, true_and, Bool.true_and, idxL_mem]
  exact aend_frz rfl ⟨rfl, rfl⟩


theorem ok40 : okFn Try.prog 40 = true := by kernel_rfl
theorem s40 (n : Int) (c d : List G4) (hl : c.length ≤ 5000) (hl' : d.length ≤ 5000) : ASpec Try.prog 40 [I n, .s 4 (gtsA c), .s 4 (gtsA d)] (fun r Ms => r = .t [B (decide (vC2 n c d = 0) && alkB c d), I (vC2 n c d)] ∧ Ms = []) := by
  refine aspec_of (own := []) Try.func40 rfl ok40 ?_
  simp only [w_move, w_assign, w_callF, w_aop, w_anone, w_nil, w_cons, awp, asN, St.ev, St.step, setS, killS, AV.kill, AV.killL, Mem.kill, ACond_false, List.getD_cons_succ, List.getD_cons_zero, List.set_cons_succ, List.set_cons_zero, List.length_cons, List.length_nil, List.replicate_succ, List.replicate_zero, List.cons_append, List.nil_append, List.contains_nil, List.isEmpty_nil, Option.getD_some, Bool.false_eq_true, if_false, if_true, Nat.zero_add, Nat.add_zero, List.map_cons, List.map_nil, Nat.reduceAdd, Nat.reduceSub, Int.reduceAdd, Int.reduceSub, Try.ntmps40]
  refine acall_v (s73 n c d (by omega) (by omega)) rfl rfl ?_
  simp only [w_move, w_assign, w_binOp, w_aop, w_some, w_asome, w_anone, w_nil, w_cons, awp, binC, cmpC, asB, asI, asN, St.ev, St.step, setS, killS, AV.kill, AV.killL, Mem.kill, ACond_false, List.getD_cons_succ, List.getD_cons_zero, List.set_cons_succ, List.set_cons_zero, List.contains_nil, List.isEmpty_nil, Option.getD_some, Bool.false_eq_true, if_false, if_true, true_and, Bool.true_and, Nat.reduceAdd, Int.reduceAdd]
  by_cases hv : vC2 n c d = 0
  · simp only [w_move, w_callF, w_aop, w_cons, awp, St.ev, St.step, setS, killS, AV.kill, AV.killL, Mem.kill, ACond_false, List.getD_cons_succ, List.getD_cons_zero, List.set_cons_succ, List.set_cons_zero, List.contains_nil, List.isEmpty_nil, if_true, Bool.not_true, List.map_cons, List.map_nil, Nat.reduceAdd, Int.reduceAdd, decide_eq_true hv]
    refine acall_v (s74 c d hl hl') rfl rfl ?_
    simp only [w_assign, w_aop, w_anone, w_nil, w_cons, awp, asN, St.ev, St.step, setS, killS, AV.kill, AV.killL, Mem.kill, List.getD_cons_succ, List.getD_cons_zero, List.set_cons_succ, List.set_cons_zero, List.contains_nil, List.isEmpty_nil, Option.getD_some, Bool.false_eq_true, if_false, if_true]
    exact aend_frz rfl ⟨by simp [hv]; rfl, rfl⟩
  · simp only [w_move, w_assign, w_aop, w_anone, w_nil, w_cons, awp, asN, St.ev, St.step, setS, killS, AV.kill, AV.killL, Mem.kill, ACond_true, ACond_false, List.getD_cons_succ, List.getD_cons_zero, List.set_cons_succ, List.set_cons_zero, List.contains_nil, List.isEmpty_nil, Option.getD_some, Bool.false_eq_true, if_false, if_true, Bool.not_false, Bool.false_and, Nat.reduceAdd, Int.reduceAdd, decide_eq_false hv]
    exact aend_frz rfl ⟨by simp [hv]; rfl, rfl⟩
end Go.Proofs.Ytkmbbbemmohmcaa

namespace Go.Proofs.Ytkmbbbemmohmcaa
open Aw Go.RowKit
set_option linter.unusedSimpArgs false

/-- each number from 0 to n - 1 stands in the list, which has n. -/
def ordB (l : List Int) (n : Int) : Bool := decide ((l.length : Int) = n) && (List.range l.length).all fun k => memL l (k : Int)
theorem ordB_false {l : List Int} {n : Int} {k : Nat} (hk : k < l.length) (h : memL l (k : Int) = false) : ordB l n = false := by
  unfold ordB
  have : ((List.range l.length).all fun k => memL l (k : Int)) = false := by
    rw [List.all_eq_false]
    exact ⟨k, by simpa using hk, by simp [h]⟩
  rw [this, Bool.and_false]
theorem ordB_true {l : List Int} {n : Int} (hn : (l.length : Int) = n) (h : ∀ k, k < l.length → memL l (k : Int) = true) : ordB l n = true := by
  unfold ordB
  rw [decide_eq_true hn, Bool.true_and, List.all_eq_true]
  intro k hk
  exact h k (by simpa using hk)
theorem memL_take (l : List Int) (x : Int) {j : Nat} (hj : j < l.length) : memL (l.take (j + 1)) x = (memL (l.take j) x || decide (l[j] = x)) := by
  unfold memL
  rw [List.take_add_one, List.getElem?_eq_getElem hj]
  rw [← Bool.decide_or]
  apply decide_eq_decide.2
  simp only [List.mem_append, Option.toList_some, List.mem_singleton]
  exact ⟨fun h => h.imp id Eq.symm, fun h => h.imp id Eq.symm⟩

theorem ok83 : okFn Try.prog 83 = true := by kernel_rfl
theorem s83 (l : List Int) (n : Int) (hl : l.length ≤ 10000) : ASpec Try.prog 83 [.s 1 (intsA l), I n] (fun r Ms => r = B (ordB l n) ∧ Ms = []) := by
  refine aspec_of (own := []) Try.func83 rfl ok83 ?_
  simp only [w_move, w_assign, w_binOp, w_len, w_aop, w_some, w_asome, w_anone, w_nil, w_cons, awp, binC, cmpC, asB, asI, asN, lenA, St.ev, St.step, setS, killS, AV.kill, AV.killL, Mem.kill, ACond_false, List.getD_cons_succ, List.getD_cons_zero, List.set_cons_succ, List.set_cons_zero, List.length_cons, List.length_nil, List.replicate_succ, List.replicate_zero, List.cons_append, List.nil_append, List.contains_nil, List.isEmpty_nil, Option.getD_some, Bool.false_eq_true, if_false, if_true, true_and, Bool.true_and, Option.isSome_some, Nat.zero_add, Nat.add_zero, Nat.reduceAdd, Nat.reduceSub, Int.reduceAdd, Int.reduceSub, intsA_len, ti31, Try.ntmps83]
  by_cases h0 : (l.length : Int) = n
  · subst h0
    simp only [w_assign, w_aop, w_anone, w_nil, w_cons, awp, asN, St.ev, St.step, setS, killS, AV.kill, AV.killL, Mem.kill, ACond_false, List.set_cons_succ, List.set_cons_zero, List.contains_nil, List.isEmpty_nil, Option.getD_some, Bool.false_eq_true, if_false, if_true, Bool.not_true, decide_true, Nat.reduceAdd, Int.reduceAdd]
    refine swp_loop' (fun k : Nat => ⟨[.s 1 (intsA l), I l.length, .bot, .bot, .bot, I k, .bot, .bot, .bot, .bot, .bot, .bot, .bot, .bot, .bot, .bot, .bot, .bot, .bot, .bot, .bot, .bot, .bot, .bot, .bot, .bot, .bot, .bot, .bot, .bot, .bot, .bot, .bot], []⟩) (fun k => k ≤ l.length ∧ ∀ j, j < k → memL l (j : Int) = true) (fun k => l.length - k) 0 (le_sl (by simp [leSl])) ⟨Nat.zero_le _, by omega⟩ ?_
    rintro k ⟨hk, hno⟩
    refine awp_sound (own := []) _ _ _ _ _ ?_
    simp only [w_move, w_binOp, w_aop, w_some, w_asome, w_nil, w_cons, awp, binC, cmpC, asB, asI, St.ev, St.step, setS, killS, AV.kill, AV.killL, Mem.kill, ACond_false, List.getD_cons_succ, List.getD_cons_zero, List.set_cons_succ, List.set_cons_zero, List.contains_nil, List.isEmpty_nil, if_true, true_and, Bool.true_and, Nat.reduceAdd, Int.reduceAdd]
    by_cases h : k < l.length
    · have h' : (k : Int) < (l.length : Int) := by omega
      simp only [w_assign, w_aop, w_anone, w_nil, w_cons, awp, asN, St.ev, St.step, setS, killS, AV.kill, AV.killL, Mem.kill, ACond_true, ACond_false, List.set_cons_succ, List.set_cons_zero, List.contains_nil, List.isEmpty_nil, Option.getD_some, Bool.false_eq_true, if_false, if_true, Nat.reduceAdd, Int.reduceAdd, decide_eq_true h']
      refine swp_loop' (fun j : Nat => ⟨[.s 1 (intsA l), I l.length, .bot, .bot, .bot, I k, B (memL (l.take j) (k : Int)), I j, .bot, .bot, .bot, .bot, .bot, .bot, .bot, .bot, .bot, .bot, .bot, .bot, .bot, .bot, .bot, .bot, .bot, .bot, .bot, .bot, .bot, .bot, .bot, .bot, .bot], []⟩) (fun j => j ≤ l.length) (fun j => l.length - j) 0 (le_sl (by simp [leSl, memL])) (Nat.zero_le _) ?_
      intro j hj
      refine awp_sound (own := []) _ _ _ _ _ ?_
      simp only [w_move, w_binOp, w_aop, w_some, w_asome, w_nil, w_cons, awp, binC, cmpC, asB, asI, St.ev, St.step, setS, killS, AV.kill, AV.killL, Mem.kill, ACond_false, List.getD_cons_succ, List.getD_cons_zero, List.set_cons_succ, List.set_cons_zero, List.contains_nil, List.isEmpty_nil, if_true, true_and, Bool.true_and, Nat.reduceAdd, Int.reduceAdd]
      by_cases hjl : j < l.length
      · have hj' : (j : Int) < (l.length : Int) := by omega
        simp only [w_move, w_aop, w_aopg, w_gdb, w_some, w_cons, awp, St.ev, St.step, setS, killS, AV.kill, AV.killL, Mem.kill, ACond_true, ACond_false, List.getD_cons_succ, List.getD_cons_zero, List.set_cons_succ, List.set_cons_zero, List.getElem?_cons_succ, List.getElem?_cons_zero, List.contains_nil, List.isEmpty_nil, if_true, Nat.reduceAdd, Int.reduceAdd, Option.bind_some, w_bf, decide_eq_true hj']
        cases hm : memL (l.take j) (k : Int) with
        | true =>
          simp only [w_move, w_assign, w_pick, w_binOp, w_aop, w_aopg, w_gdb, w_some, w_asome, w_anone, w_nil, w_cons, awp, binC, arithC, cmpC, asB, asI, asN, St.ev, St.step, setS, killS, AV.kill, AV.killL, Mem.kill, ACond_true, ACond_false, List.getD_cons_succ, List.getD_cons_zero, List.set_cons_succ, List.set_cons_zero, List.getElem?_cons_succ, List.getElem?_cons_zero, List.contains_nil, List.isEmpty_nil, Option.getD_some, Bool.false_eq_true, if_false, if_true, true_and, and_true, Bool.and_true, Bool.true_and, Bool.not_true, Nat.reduceAdd, Int.reduceAdd, Option.bind_some, w_bf]
          refine ⟨by unfold lim; omega, j + 1, le_sl ?_, hjl, by omega⟩
          rw [memL_take l _ hjl, hm]
          simp [leSl]
        | false =>
          simp only [w_move, w_assign, w_pick, w_load, w_indexAddr, w_binOp, w_aop, w_aopg, w_gdb, w_some, w_asome, w_anone, w_nil, w_cons, awp, binC, idxC, arithC, cmpC, asP, asS, asB, asI, asN, loadA, St.ev, St.step, setS, killS, AV.kill, AV.killL, Mem.kill, AV.cells, AV.flat, AV.single, ACond_true, ACond_false, List.getD_cons_succ, List.getD_cons_zero, List.set_cons_succ, List.set_cons_zero, List.getElem?_cons_succ, List.getElem?_cons_zero, List.contains_nil, List.isEmpty_nil, Option.getD_some, Bool.false_eq_true, if_false, if_true, true_and, and_true, List.all_cons, List.all_nil, Bool.and_true, Bool.true_and, Bool.not_true, Bool.not_false, beq_self_eq_true, Nat.reduceAdd, Int.reduceAdd, Option.bind_some, ti3, ti31, aget_ints hjl, Int.toNat_natCast]
          refine ⟨by omega, by unfold lim; omega, j + 1, le_sl ?_, hjl, by omega⟩
          rw [memL_take l _ hjl, hm]
          simp [leSl]
      · have hj' : ¬ (j : Int) < (l.length : Int) := by omega
        have hje : j = l.length := by omega
        subst hje
        simp only [w_move, w_assign, w_binOp, w_not, w_aop, w_some, w_asome, w_anone, w_nil, w_cons, awp, binC, arithC, cmpC, asB, asI, asN, St.ev, St.step, setS, killS, AV.kill, AV.killL, Mem.kill, ACond_false, List.getD_cons_succ, List.getD_cons_zero, List.set_cons_succ, List.set_cons_zero, List.contains_nil, List.isEmpty_nil, Option.getD_some, Bool.false_eq_true, if_false, if_true, true_and, and_true, Bool.and_true, Bool.true_and, Nat.reduceAdd, Nat.reduceEqDiff, Int.reduceAdd, decide_eq_false hj', List.take_length]
        cases hm : memL l (k : Int) with
        | true =>
          simp only [w_move, w_assign, w_binOp, w_aop, w_some, w_asome, w_anone, w_nil, w_cons, awp, binC, arithC, cmpC, asI, asN, St.ev, St.step, setS, killS, AV.kill, AV.killL, Mem.kill, ACond_false, List.getD_cons_succ, List.getD_cons_zero, List.set_cons_succ, List.set_cons_zero, List.contains_nil, List.isEmpty_nil, Option.getD_some, Bool.false_eq_true, if_false, if_true, true_and, and_true, Bool.and_true, Bool.true_and, Bool.not_true, Nat.reduceAdd, Int.reduceAdd]
          refine ⟨by unfold lim; omega, k + 1, le_sl (by simp [leSl]), ⟨h, fun i hi => ?_⟩, by omega⟩
          rcases Nat.lt_or_ge i k with h1 | h1
          · exact hno i h1
          · obtain rfl : i = k := by omega
            exact hm
        | false =>
          simp only [w_assign, w_aop, w_anone, w_nil, w_cons, awp, asN, St.ev, St.step, setS, killS, AV.kill, AV.killL, Mem.kill, ACond_true, ACond_false, List.set_cons_succ, List.set_cons_zero, List.contains_nil, List.isEmpty_nil, Option.getD_some, Bool.false_eq_true, if_false, if_true, Bool.not_false, Nat.reduceAdd, Int.reduceAdd]
          exact aend_frz rfl ⟨by rw [ordB_false h hm]; rfl, rfl⟩
    · have h' : ¬ (k : Int) < (l.length : Int) := by omega
      simp only [w_assign, w_aop, w_anone, w_nil, w_cons, awp, asN, St.ev, St.step, setS, killS, AV.kill, AV.killL, Mem.kill, ACond_false, List.set_cons_succ, List.set_cons_zero, List.contains_nil, List.isEmpty_nil, Option.getD_some, Bool.false_eq_true, if_false, if_true, Nat.reduceAdd, Int.reduceAdd, decide_eq_false h']
      exact aend_frz rfl ⟨by rw [ordB_true rfl fun i hi => hno i (by omega)]; rfl, rfl⟩
  · simp only [w_assign, w_aop, w_anone, w_nil, w_cons, awp, asN, St.ev, St.step, setS, killS, AV.kill, AV.killL, Mem.kill, ACond_true, ACond_false, List.set_cons_succ, List.set_cons_zero, List.contains_nil, List.isEmpty_nil, Option.getD_some, Bool.false_eq_true, if_false, if_true, Bool.not_false, Nat.reduceAdd, Int.reduceAdd, decide_eq_false h0]
    exact aend_frz rfl ⟨by unfold ordB; rw [decide_eq_false h0]; rfl, rfl⟩
end Go.Proofs.Ytkmbbbemmohmcaa

namespace Go.Proofs.Ytkmbbbemmohmcaa
open Aw Go.RowKit
set_option linter.unusedSimpArgs false

/-- a gate with other numbers of the qubits. -/
def rnG (to : List Int) (g : G4) : G4 :=
  if g.k = 2 then ⟨g.k, min (to.getD g.a.toNat 0) (to.getD g.b.toNat 0), max (to.getD g.a.toNat 0) (to.getD g.b.toNat 0), g.t⟩ else ⟨g.k, to.getD g.a.toNat 0, g.b, g.t⟩
def rnL (to : List Int) (c : List G4) : List G4 := c.map (rnG to)
theorem rnL_succ (to : List Int) (c : List G4) {k : Nat} (hk : k < c.length) : rnL to (c.take (k + 1)) = rnL to (c.take k) ++ [rnG to c[k]] := by
  unfold rnL
  rw [List.take_add_one, List.map_append, List.getElem?_eq_getElem hk]
  rfl
/-- the error of Rename. -/
def vR (n : Int) (c : List G4) (to : List Int) : Int := if vC n c = 0 then (if ordB to n = true then 0 else 1) else vC n c
theorem ordB_len {l : List Int} {n : Int} (h : ordB l n = true) : (l.length : Int) = n := by
  unfold ordB at h
  simp only [Bool.and_eq_true, decide_eq_true_eq] at h
  exact h.1

theorem ok53 : okFn Try.prog 53 = true := by kernel_rfl
set_option maxHeartbeats 2000000 in
set_option maxRecDepth 10000 in
theorem s53 (n : Int) (c : List G4) (to : List Int) (hl : c.length ≤ 10000) (hl' : to.length ≤ 10000) : ASpec Try.prog 53 [I n, .s 4 (gtsA c), .s 1 (intsA to)] (fun r Ms => r = .t [.s 4 (gtsA (if vR n c to = 0 then rnL to c else [])), I (vR n c to)] ∧ Ms = []) := by
  refine aspec_of (own := [6, 9]) Try.func53 rfl ok53 ?_
  simp only [w_move, w_assign, w_callF, w_aop, w_some, w_asome, w_anone, w_nil, w_cons, awp, asN, Aw.newRow, St.ev, St.step, setS, killS, AV.kill, AV.killL, Mem.kill, ACond_false, List.getD_cons_succ, List.getD_cons_zero, List.set_cons_succ, List.set_cons_zero, List.length_cons, List.length_nil, List.replicate_succ, List.replicate_zero, List.cons_append, List.nil_append, List.contains_nil, List.contains_cons, List.isEmpty_nil, Option.getD_some, Bool.false_eq_true, if_false, if_true, Nat.zero_add, Nat.add_zero, beq_self_eq_true, List.map_cons, List.map_nil, nbeq, decide_false, Bool.or_false, Nat.reduceAdd, Nat.reduceEqDiff, Nat.reduceSub, Int.reduceAdd, Int.reduceSub, ti22, ti24, Try.ntmps53]
  refine acall_v (s41 n c (by omega)) rfl rfl ?_
  simp only [w_move, w_assign, w_binOp, w_aop, w_some, w_asome, w_anone, w_nil, w_cons, awp, binC, cmpC, asB, asI, asN, St.ev, St.step, setS, killS, AV.kill, AV.killL, Mem.kill, ACond_false, List.getD_cons_succ, List.getD_cons_zero, List.set_cons_succ, List.set_cons_zero, List.contains_nil, List.contains_cons, List.isEmpty_nil, Option.getD_some, Bool.false_eq_true, if_false, if_true, true_and, Bool.true_and, nbeq, decide_false, Bool.or_false, Nat.reduceAdd, Nat.reduceEqDiff, Int.reduceAdd]
  by_cases hv : vC n c = 0
  · have hn := vC_n hv
    have hok := vC_ok hv
    have hcl := vC_len hv
    simp only [w_move, w_callF, w_aop, w_cons, awp, St.ev, St.step, setS, killS, AV.kill, AV.killL, Mem.kill, ACond_false, List.getD_cons_succ, List.getD_cons_zero, List.set_cons_succ, List.set_cons_zero, List.contains_nil, List.contains_cons, List.isEmpty_nil, Bool.false_eq_true, if_false, if_true, Bool.not_true, List.map_cons, List.map_nil, nbeq, decide_false, Bool.or_false, Nat.reduceAdd, Nat.reduceEqDiff, Int.reduceAdd, decide_eq_true hv]
    refine acall_v (s83 to n hl') rfl rfl ?_
    simp only [w_not, w_aop, w_some, w_nil, w_cons, awp, asB, St.ev, St.step, setS, killS, AV.kill, AV.killL, Mem.kill, List.getD_cons_succ, List.getD_cons_zero, List.set_cons_succ, List.set_cons_zero, List.contains_nil, List.isEmpty_nil, Bool.false_eq_true, if_false, if_true]
    cases ho : ordB to n with
    | false =>
      simp only [w_assign, w_aop, w_some, w_asome, w_anone, w_nil, w_cons, awp, asN, Aw.newRow, St.ev, St.step, setS, killS, AV.kill, AV.killL, Mem.kill, ACond_true, ACond_false, List.set_cons_succ, List.set_cons_zero, List.length_cons, List.length_nil, List.cons_append, List.nil_append, List.contains_nil, List.contains_cons, List.isEmpty_nil, Option.getD_some, Bool.false_eq_true, if_false, if_true, Bool.not_false, Nat.zero_add, beq_self_eq_true, nbeq, decide_false, Bool.or_false, Nat.reduceAdd, Nat.reduceEqDiff, Int.reduceAdd, ti22, ti24]
      refine aend_frz rfl ⟨?_, rfl⟩
      simp [frz, AV.sub, AV.subL, vR, hv, ho]
      rfl
    | true =>
      have hto := ordB_len ho
      simp only [w_assign, w_aop, w_some, w_asome, w_anone, w_nil, w_cons, awp, asN, Aw.newRow, St.ev, St.step, setS, killS, AV.kill, AV.killL, Mem.kill, ACond_false, List.set_cons_succ, List.set_cons_zero, List.length_cons, List.length_nil, List.cons_append, List.nil_append, List.contains_nil, List.contains_cons, List.isEmpty_nil, Option.getD_some, Bool.false_eq_true, if_false, if_true, Bool.not_true, Nat.zero_add, beq_self_eq_true, nbeq, decide_false, Bool.or_false, Bool.or_true, Nat.reduceAdd, Nat.reduceEqDiff, Int.reduceAdd, ti22, ti24]
      refine swp_loop' (fun k : Nat => ⟨[.bot, .s 4 (gtsA c), .s 1 (intsA to), .bot, .bot, .bot, .o 0, .bot, .bot, .o 1, I k, .bot, .bot, .bot, .bot, .bot, .bot, .bot, .bot, .bot, .bot, .bot, .bot, .bot, .bot, .bot, .bot, .bot, .bot, .bot, .bot, .bot, .bot, .bot, .bot, .bot, .bot, .bot, .bot, .bot, .bot, .bot, .bot, .bot, .bot, .bot, .bot, .bot, .bot, .bot, .bot, .bot, .bot, .bot, .bot, .bot, .bot, .bot, .bot, .bot, .bot, .bot, .bot, .bot, .bot, .bot, .bot, .bot, .bot], [some ⟨none, 24, 4, []⟩, some ⟨none, 24, 4, gtsA (rnL to (c.take k))⟩]⟩) (fun k => k ≤ c.length) (fun k => c.length - k) 0 (le_sl (by simp [leSl, rnL, gtsA])) (Nat.zero_le _) ?_
      intro k hk
      refine awp_sound (own := [6, 9]) _ _ _ _ _ ?_
      simp only [w_move, w_binOp, w_len, w_aop, w_some, w_asome, w_nil, w_cons, awp, binC, cmpC, asB, asI, lenA, St.ev, St.step, setS, killS, AV.kill, AV.killL, Mem.kill, ACond_false, List.getD_cons_succ, List.getD_cons_zero, List.set_cons_succ, List.set_cons_zero, List.contains_nil, List.contains_cons, List.isEmpty_nil, Bool.false_eq_true, if_false, if_true, true_and, Bool.true_and, Option.isSome_some, nbeq, decide_false, Bool.or_false, Nat.reduceAdd, Nat.reduceEqDiff, Int.reduceAdd, gtsA_len, ti22]
      by_cases h : k < c.length
      · have h' : (k : Int) < (c.length : Int) := by omega
        have hg := hok _ (List.getElem_mem h)
        simp only [okG, decide_eq_true_eq] at hg
        have ha : (c[k].a).toNat < to.length := by omega
        simp only [w_move, w_alloc, w_load, w_store, w_fieldAddr, w_indexAddr, w_binOp, w_aop, w_some, w_asome, w_anone, w_nil, w_cons, awp, binC, idxC, cmpC, asP, asQ, asS, asB, asI, obA, AGet_zero, loadA, storeA, putsA, mkA, Aw.newRow, St.ev, St.step, setS, killS, AV.kill, AV.killL, Mem.kill, AV.cells, AV.flat, AV.single, AV.cellular, ACond_true, ACond_false, Value.oneCell', List.getD_cons_succ, List.getD_cons_zero, List.set_cons_succ, List.set_cons_zero, List.getElem?_cons_succ, List.getElem?_cons_zero, List.length_cons, List.length_nil, List.cons_append, List.nil_append, List.contains_nil, List.contains_cons, List.isEmpty_nil, Bool.false_eq_true, if_false, if_true, true_and, and_true, List.all_cons, List.all_nil, Bool.and_true, Bool.true_and, Bool.not_true, Nat.zero_add, Nat.add_zero, beq_self_eq_true, List.map_cons, List.map_nil, decide_true, nbeq, decide_false, Bool.or_false, Bool.and_false, Nat.reduceAdd, Nat.reduceEqDiff, Nat.reduceLeDiff, Int.reduceAdd, ne_eq, not_false_eq_true, ti3, ti22, ti24, ti31, decide_eq_true h', aget_gts h, Int.toNat_natCast, aget_ints ha]
        refine ⟨by omega, by omega, by omega, ?_⟩
        have e1 : to.getD (c[k].a).toNat 0 = to[(c[k].a).toNat] := by simp [ha]
        have hrl : (rnL to (c.take k)).length ≤ 10 := by unfold rnL; simp; omega
        by_cases c2 : c[k].k = 2
        · have hb : (c[k].b).toNat < to.length := by omega
          have e2 : to.getD (c[k].b).toNat 0 = to[(c[k].b).toNat] := by simp [hb]
          have er : rnG to c[k] = ⟨c[k].k, min to[(c[k].a).toNat] to[(c[k].b).toNat], max to[(c[k].a).toNat] to[(c[k].b).toNat], c[k].t⟩ := by unfold rnG; rw [if_pos c2, e1, e2]
          simp only [awp, ACond_true, decide_eq_true c2]
          refine swp_draw (own := [6, 9]) (.take 0 .plain [] (.take 1 .reads [] (.take 2 .plain [] (.take 3 .plain [] (.take 4 .plain [] (.take 5 .reads [] (.take 6 .plain [] (.take 7 .reads [] (.take 8 .reads [] (.take 9 .reads [] (.take 10 .plain [] (.take 11 .plain [] (.done))))))))))))) [⟨47, 2048, 0, 0, true⟩, ⟨48, 70368744177664, 1, 0, true⟩, ⟨49, 4, 0, 0, true⟩, ⟨50, 2, 0, 0, true⟩, ⟨51, 1024, 0, 0, true⟩, ⟨52, 1688849860263936, 24, 0, true⟩, ⟨53, 2251799813685248, 32, 0, true⟩, ⟨54, 4503599627370496, 64, 0, true⟩, ⟨55, 9288674231451648, 132, 0, true⟩, ⟨56, 18014398509481984, 256, 0, true⟩, ⟨13, 140737488355328, 3, 0, true⟩, ⟨14, 36028797018963968, 2047, 0, true⟩] mo (by kernel_rfl) ?_
          simp only [w_move, w_assign, w_load, w_store, w_fieldAddr, w_indexAddr, w_binOp, w_buildSlice, w_min, w_max, w_append, w_aop, w_take, w_some, w_asome, w_anone, w_nil, w_cons, awp, binC, idxC, arithC, cmpC, asP, asQ, asO, asS, asI, asN, obA, AGet_zero, minmaxA, loadA, storeA, putsA, St.ev, St.step, setS, killS, AV.kill, AV.killL, Mem.kill, AV.cells, AV.flat, AV.single, AV.cellular, AV.size, AV.sizeL, AV.pure, AV.pureL, ACond_false, Value.oneCell', List.getD_cons_succ, List.getD_cons_zero, List.set_cons_succ, List.set_cons_zero, List.getElem?_cons_succ, List.getElem?_cons_zero, List.length_cons, List.length_nil, List.contains_nil, List.contains_cons, List.isEmpty_nil, List.isEmpty_cons, Option.getD_some, Bool.false_eq_true, if_false, if_true, true_and, and_true, List.all_cons, List.all_nil, Bool.and_true, Bool.true_and, Bool.not_true, Nat.zero_add, Nat.add_zero, beq_self_eq_true, List.map_cons, List.map_nil, decide_true, nbeq, decide_false, Bool.or_false, Bool.or_true, Bool.and_false, Nat.reduceAdd, Nat.reduceEqDiff, Nat.reduceMul, Nat.reduceLeDiff, Int.reduceAdd, Int.reduceMul, ASch, St.put, Md.mem, Md.need, ne_eq, not_false_eq_true, Option.map_some, gtsA_len, ti3, ti22, ti24, ti31, aget_gts h, Int.toNat_natCast, aget_ints hb]
          refine ⟨by omega, by omega, ⟨by decide, rfl⟩, ⟨by decide, by omega⟩, by unfold lim; omega, k + 1, ?_, h, by omega⟩
          rw [rnL_succ to c h, gtsA_kill, gtsA_app, er]
          exact le_cut (Mx := [_]) (M' := [_, _]) (by simp [leSl]) rfl (by simp [AV.freeL, AV.free, freeL_pure, gtsA_pure, intsA_pure]) (by simp [freeM, AV.freeL, AV.free, freeL_pure, gtsA_pure])
        · have er : rnG to c[k] = ⟨c[k].k, to[(c[k].a).toNat], c[k].b, c[k].t⟩ := by unfold rnG; rw [if_neg c2, e1]
          simp only [w_move, w_assign, w_load, w_binOp, w_buildSlice, w_append, w_aop, w_some, w_asome, w_anone, w_nil, w_cons, awp, binC, arithC, cmpC, asP, asQ, asO, asS, asI, asN, obA, AGet_zero, loadA, St.ev, St.step, setS, killS, AV.kill, AV.killL, Mem.kill, AV.cells, AV.flat, AV.single, AV.cellular, AV.size, AV.sizeL, AV.pure, AV.pureL, ACond_false, Value.oneCell', List.getD_cons_succ, List.getD_cons_zero, List.set_cons_succ, List.set_cons_zero, List.getElem?_cons_succ, List.getElem?_cons_zero, List.length_cons, List.length_nil, List.contains_nil, List.contains_cons, List.isEmpty_nil, List.isEmpty_cons, Option.getD_some, Bool.false_eq_true, if_false, if_true, true_and, and_true, List.all_cons, List.all_nil, Bool.and_true, Bool.true_and, Bool.not_true, Nat.zero_add, Nat.add_zero, beq_self_eq_true, List.map_cons, List.map_nil, decide_true, nbeq, decide_false, Bool.or_false, Bool.or_true, Nat.reduceAdd, Nat.reduceEqDiff, Nat.reduceMul, Nat.reduceLeDiff, Int.reduceAdd, Int.reduceMul, Option.map_some, gtsA_len, ti22, ti24, decide_eq_false c2]
          refine ⟨⟨by decide, rfl⟩, ⟨by decide, by omega⟩, by unfold lim; omega, k + 1, ?_, h, by omega⟩
          rw [rnL_succ to c h, gtsA_kill, gtsA_app, er]
          exact le_cut (Mx := [_]) (M' := [_, _]) (by simp [leSl]) rfl (by simp [AV.freeL, AV.free, freeL_pure, gtsA_pure, intsA_pure]) (by simp [freeM, AV.freeL, AV.free, freeL_pure, gtsA_pure])
      · have h' : ¬ (k : Int) < (c.length : Int) := by omega
        have hkc : k = c.length := by omega
        subst hkc
        simp only [w_move, w_assign, w_aop, w_anone, w_nil, w_cons, awp, asN, St.ev, St.step, setS, killS, AV.kill, AV.killL, Mem.kill, ACond_false, List.getD_cons_succ, List.getD_cons_zero, List.set_cons_succ, List.set_cons_zero, List.contains_nil, List.contains_cons, List.isEmpty_nil, Option.getD_some, Bool.false_eq_true, if_false, if_true, beq_self_eq_true, nbeq, decide_false, Bool.or_false, Nat.reduceAdd, Nat.reduceEqDiff, Int.reduceAdd, decide_eq_false h', List.take_length]
        exact aend_frz rfl ⟨by simp [frz, AV.sub, AV.subL, gtsA_pure, vR, hv, ho], rfl⟩
  · simp only [w_move, w_assign, w_aop, w_some, w_asome, w_anone, w_nil, w_cons, awp, asN, Aw.newRow, St.ev, St.step, setS, killS, AV.kill, AV.killL, Mem.kill, ACond_true, ACond_false, List.getD_cons_succ, List.getD_cons_zero, List.set_cons_succ, List.set_cons_zero, List.length_cons, List.length_nil, List.cons_append, List.nil_append, List.contains_nil, List.contains_cons, List.isEmpty_nil, Option.getD_some, Bool.false_eq_true, if_false, if_true, Bool.not_false, Nat.zero_add, beq_self_eq_true, nbeq, decide_false, Bool.or_false, Nat.reduceAdd, Nat.reduceEqDiff, Int.reduceAdd, ti22, ti24, decide_eq_false hv]
    refine aend_frz rfl ⟨?_, rfl⟩
    simp [frz, AV.sub, AV.subL, vR, hv]
    rfl
end Go.Proofs.Ytkmbbbemmohmcaa

namespace Go.Proofs.Ytkmbbbemmohmcaa
open Aw Go.RowKit
set_option linter.unusedSimpArgs false

theorem gtsA_set (L : List G4) (i : Nat) (k a b t : Int) : (gtsA L).set i (.g [I k, I a, I b, I t]) = gtsA (L.set i ⟨k, a, b, t⟩) := by simp [gtsA, gA, List.map_set]
/-- the gates of which the first ones have other numbers. -/
def rnP (to : List Int) (c : List G4) (i : Nat) : List G4 := rnL to (c.take i) ++ c.drop i
theorem rnP_len (to : List Int) (c : List G4) {i : Nat} (h : i ≤ c.length) : (rnP to c i).length = c.length := by unfold rnP rnL; simp; omega
theorem rnP_at (to : List Int) (c : List G4) {i : Nat} (h : i < c.length) (h' : i < (rnP to c i).length) : (rnP to c i)[i] = c[i] := by
  have e : (rnP to c i)[i]? = c[i]? := by
    unfold rnP
    have hl : (rnL to (c.take i)).length = i := by unfold rnL; simp; omega
    rw [List.getElem?_append_right (by omega), hl, Nat.sub_self, List.getElem?_drop, Nat.add_zero]
  rw [List.getElem?_eq_getElem h', List.getElem?_eq_getElem h] at e
  exact Option.some.inj e
theorem rnP_set (to : List Int) (c : List G4) {i : Nat} (h : i < c.length) : (rnP to c i).set i (rnG to c[i]) = rnP to c (i + 1) := by
  unfold rnP
  have hl : (rnL to (c.take i)).length = i := by unfold rnL; simp; omega
  rw [List.set_append_right _ _ (by omega), hl, Nat.sub_self, List.drop_eq_getElem_cons h, List.set_cons_zero, rnL_succ to c h]
  simp

theorem ok52 : okFn Try.prog 52 = true := by kernel_rfl
set_option maxHeartbeats 4000000 in
set_option maxRecDepth 10000 in
theorem s52 (n : Int) (c : List G4) (to : List Int) (hl : c.length ≤ 10000) (hl' : to.length ≤ 10000) : ASpec Try.prog 52 [I n, .s 4 (gtsA c), .s 1 (intsA to)] (fun r Ms => r = .t [.s 4 (gtsA (if vR n c to = 0 then rnL to c else [])), I (vR n c to)] ∧ Ms = []) := by
  refine aspec_of (own := [6]) Try.func52 rfl ok52 ?_
  simp only [w_move, w_assign, w_callF, w_aop, w_some, w_asome, w_anone, w_nil, w_cons, awp, asN, Aw.newRow, St.ev, St.step, setS, killS, AV.kill, AV.killL, Mem.kill, ACond_false, List.getD_cons_succ, List.getD_cons_zero, List.set_cons_succ, List.set_cons_zero, List.length_cons, List.length_nil, List.replicate_succ, List.replicate_zero, List.cons_append, List.nil_append, List.contains_nil, List.contains_cons, List.isEmpty_nil, Option.getD_some, Bool.false_eq_true, if_false, if_true, Nat.zero_add, Nat.add_zero, beq_self_eq_true, List.map_cons, List.map_nil, nbeq, decide_false, Bool.or_false, Nat.reduceAdd, Nat.reduceEqDiff, Nat.reduceSub, Int.reduceAdd, Int.reduceSub, ti22, ti24, Try.ntmps52]
  refine acall_v (s21 n c (by omega)) rfl rfl ?_
  simp only [w_move, w_assign, w_binOp, w_aop, w_some, w_asome, w_anone, w_nil, w_cons, awp, binC, cmpC, asB, asI, asN, St.ev, St.step, setS, killS, AV.kill, AV.killL, Mem.kill, ACond_false, List.getD_cons_succ, List.getD_cons_zero, List.set_cons_succ, List.set_cons_zero, List.contains_nil, List.contains_cons, List.isEmpty_nil, Option.getD_some, Bool.false_eq_true, if_false, if_true, true_and, Bool.true_and, nbeq, decide_false, Bool.or_false, Nat.reduceAdd, Nat.reduceEqDiff, Int.reduceAdd]
  by_cases hv : vC n c = 0
  · have hn := vC_n hv
    have hok := vC_ok hv
    have hcl := vC_len hv
    simp only [w_move, w_binOp, w_len, w_aop, w_some, w_asome, w_nil, w_cons, awp, binC, cmpC, asB, asI, lenA, St.ev, St.step, setS, killS, AV.kill, AV.killL, Mem.kill, ACond_false, List.getD_cons_succ, List.getD_cons_zero, List.set_cons_succ, List.set_cons_zero, List.contains_nil, List.contains_cons, List.isEmpty_nil, Bool.false_eq_true, if_false, if_true, true_and, Bool.true_and, Bool.not_true, Option.isSome_some, nbeq, decide_false, Bool.or_false, Nat.reduceAdd, Nat.reduceEqDiff, Int.reduceAdd, intsA_len, ti31, decide_eq_true hv]
    by_cases h0 : (to.length : Int) = n
    · have hn' : n = (to.length : Int) := h0.symm
      simp only [w_move, w_aop, w_nil, w_cons, awp, St.ev, St.step, setS, killS, AV.kill, AV.killL, Mem.kill, ACond_false, List.getD_cons_zero, List.set_cons_succ, List.set_cons_zero, List.contains_nil, List.contains_cons, List.isEmpty_nil, Bool.false_eq_true, if_false, if_true, Bool.not_true, nbeq, decide_false, Bool.or_false, Nat.reduceAdd, Nat.reduceEqDiff, Int.reduceAdd, decide_eq_true h0]
      refine swp_loop' (fun q : Nat => ⟨[.bot, .s 4 (gtsA c), .s 1 (intsA to), .bot, .bot, .bot, .o 0, .bot, .bot, .bot, .bot, .bot, .bot, .bot, .bot, .bot, .bot, .bot, .bot, .bot, .bot, .bot, .bot, I n, I q, .bot, .bot, .bot, .bot, .bot, .bot, .bot, .bot, .bot, .bot, .bot, .bot, .bot, .bot, .bot, .bot, .bot, .bot, .bot, .bot, .bot, .bot, .bot, .bot, .bot, .bot, .bot, .bot, .bot, .bot, .bot, .bot, .bot, .bot, .bot, .bot, .bot, .bot, .bot, .bot, .bot, .bot, .bot, .bot, .bot, .bot, .bot, .bot, .bot, .bot, .bot, .bot, .bot, .bot, .bot, .bot, .bot, .bot, .bot, .bot], [some ⟨none, 24, 4, []⟩]⟩) (fun q => q ≤ to.length ∧ ∀ j, j < q → memL to (j : Int) = true) (fun q => to.length - q) 0 (le_sl (by simp [leSl])) ⟨Nat.zero_le _, by omega⟩ ?_
      rintro q ⟨hq, hno⟩
      refine awp_sound (own := [6]) _ _ _ _ _ ?_
      simp only [w_binOp, w_aop, w_some, w_asome, w_nil, w_cons, awp, binC, cmpC, asB, asI, St.ev, St.step, setS, killS, AV.kill, AV.killL, Mem.kill, ACond_false, List.getD_cons_succ, List.getD_cons_zero, List.set_cons_succ, List.set_cons_zero, List.contains_nil, List.contains_cons, List.isEmpty_nil, Bool.false_eq_true, if_false, if_true, true_and, Bool.true_and, nbeq, decide_false, Bool.or_false, Nat.reduceAdd, Nat.reduceEqDiff, Int.reduceAdd]
      by_cases hqn : (q : Int) < n
      · simp only [w_move, w_assign, w_callF, w_aop, w_anone, w_nil, w_cons, awp, asN, St.ev, St.step, setS, killS, AV.kill, AV.killL, Mem.kill, ACond_true, ACond_false, List.getD_cons_succ, List.getD_cons_zero, List.set_cons_succ, List.set_cons_zero, List.contains_nil, List.contains_cons, List.isEmpty_nil, Option.getD_some, Bool.false_eq_true, if_false, if_true, List.map_cons, List.map_nil, nbeq, decide_false, Bool.or_false, Nat.reduceAdd, Nat.reduceEqDiff, Int.reduceAdd, decide_eq_true hqn]
        refine acall_v (s81 to (q : Int) (by omega)) rfl rfl ?_
        simp only [w_not, w_aop, w_some, w_nil, w_cons, awp, asB, St.ev, St.step, setS, killS, AV.kill, AV.killL, Mem.kill, List.getD_cons_succ, List.getD_cons_zero, List.set_cons_succ, List.set_cons_zero, List.contains_nil, List.isEmpty_nil, Bool.false_eq_true, if_false, if_true]
        cases hm : memL to (q : Int) with
        | true =>
          simp only [w_move, w_binOp, w_aop, w_some, w_asome, w_anone, w_nil, w_cons, awp, binC, arithC, cmpC, asI, St.ev, St.step, setS, killS, AV.kill, AV.killL, Mem.kill, ACond_false, List.getD_cons_succ, List.getD_cons_zero, List.set_cons_succ, List.set_cons_zero, List.contains_nil, List.contains_cons, List.isEmpty_nil, Bool.false_eq_true, if_false, if_true, true_and, and_true, Bool.and_true, Bool.true_and, Bool.not_true, nbeq, decide_false, Bool.or_false, Nat.reduceAdd, Nat.reduceEqDiff, Int.reduceAdd]
          refine ⟨by unfold lim; omega, q + 1, le_sl (by simp [leSl]), ⟨by omega, fun j hj => ?_⟩, by omega⟩
          rcases Nat.lt_or_ge j q with h1 | h1
          · exact hno j h1
          · obtain rfl : j = q := by omega
            exact hm
        | false =>
          simp only [w_assign, w_aop, w_some, w_asome, w_anone, w_nil, w_cons, awp, asN, Aw.newRow, St.ev, St.step, setS, killS, AV.kill, AV.killL, Mem.kill, ACond_true, ACond_false, List.set_cons_succ, List.set_cons_zero, List.length_cons, List.length_nil, List.cons_append, List.nil_append, List.contains_nil, List.contains_cons, List.isEmpty_nil, Option.getD_some, Bool.false_eq_true, if_false, if_true, Bool.not_false, Nat.zero_add, beq_self_eq_true, nbeq, decide_false, Bool.or_false, Nat.reduceAdd, Nat.reduceEqDiff, Int.reduceAdd, ti22, ti24]
          have ho : ordB to n = false := ordB_false (k := q) (by omega) hm
          refine aend_frz rfl ⟨?_, rfl⟩
          simp [frz, AV.sub, AV.subL, vR, hv, ho]
          rfl
      · have ho : ordB to n = true := ordB_true h0 fun j hj => hno j (by omega)
        simp only [w_move, w_callF, w_aop, w_cons, awp, St.ev, St.step, setS, killS, AV.kill, AV.killL, Mem.kill, ACond_false, List.getD_cons_succ, List.getD_cons_zero, List.set_cons_succ, List.set_cons_zero, List.contains_nil, List.contains_cons, List.isEmpty_nil, Bool.false_eq_true, if_false, if_true, List.map_cons, List.map_nil, nbeq, decide_false, Bool.or_false, Nat.reduceAdd, Nat.reduceEqDiff, Int.reduceAdd, decide_eq_false hqn]
        refine acall_o (s82 c (by omega)) rfl (gtsA_pure c) ?_
        simp only [w_move, w_assign, w_len, w_aop, w_some, w_asome, w_anone, w_nil, w_cons, awp, asN, lenA, St.ev, St.step, setS, killS, AV.kill, AV.killL, Mem.kill, ACond_false, List.getD_cons_succ, List.getD_cons_zero, List.set_cons_succ, List.set_cons_zero, List.getElem?_cons_succ, List.getElem?_cons_zero, List.length_cons, List.length_nil, List.cons_append, List.nil_append, List.contains_nil, List.contains_cons, List.isEmpty_nil, Option.getD_some, Bool.false_eq_true, if_false, if_true, true_and, Bool.true_and, Option.isSome_some, Nat.zero_add, nbeq, decide_false, Bool.or_false, Nat.reduceAdd, Nat.reduceEqDiff, Int.reduceAdd, gtsA_len, ti22, AV.up, AV.sub]
        refine swp_loop' (fun i : Nat => ⟨[.bot, .bot, .s 1 (intsA to), .bot, .bot, .bot, .bot, .bot, .bot, .bot, .o 1, .bot, .bot, .bot, .bot, .bot, .bot, .bot, .bot, .bot, .bot, .bot, .bot, .bot, .bot, .bot, .bot, .bot, .bot, .bot, .bot, .bot, .bot, .bot, .o 1, I c.length, I i, .bot, .bot, .bot, .bot, .bot, .bot, .bot, .bot, .bot, .bot, .bot, .bot, .bot, .bot, .bot, .bot, .bot, .bot, .bot, .bot, .bot, .bot, .bot, .bot, .bot, .bot, .bot, .bot, .bot, .bot, .bot, .bot, .bot, .bot, .bot, .bot, .bot, .bot, .bot, .bot, .bot, .bot, .bot, .bot, .bot, .bot, .bot, .bot], [some ⟨none, 24, 4, []⟩, some ⟨none, 24, 4, gtsA (rnP to c i)⟩]⟩) (fun i => i ≤ c.length) (fun i => c.length - i) 0 (le_sl (by simp [leSl, rnP, rnL])) (Nat.zero_le _) ?_
        intro i hi
        refine awp_sound (own := [6]) _ _ _ _ _ ?_
        have hLl := rnP_len to c hi
        simp only [w_binOp, w_aop, w_some, w_asome, w_nil, w_cons, awp, binC, cmpC, asB, asI, St.ev, St.step, setS, killS, AV.kill, AV.killL, Mem.kill, ACond_false, List.getD_cons_succ, List.getD_cons_zero, List.set_cons_succ, List.set_cons_zero, List.contains_nil, List.contains_cons, List.isEmpty_nil, Bool.false_eq_true, if_false, if_true, true_and, Bool.true_and, nbeq, decide_false, Bool.or_false, Nat.reduceAdd, Nat.reduceEqDiff, Int.reduceAdd]
        by_cases h : i < c.length
        · have h' : (i : Int) < (c.length : Int) := by omega
          have hLi : i < (rnP to c i).length := by omega
          have hLe := rnP_at to c h hLi
          simp only [w_move, w_assign, w_alloc, w_load, w_store, w_fieldAddr, w_indexAddr, w_aop, w_some, w_asome, w_anone, w_nil, w_cons, awp, idxC, asP, asQ, asO, asS, asI, asN, obA, AGet_zero, loadA, storeA, putsA, mkA, Aw.newRow, St.ev, St.step, setS, killS, AV.kill, AV.killL, Mem.kill, AV.cells, AV.flat, AV.single, AV.cellular, ACond_true, ACond_false, List.getD_cons_succ, List.getD_cons_zero, List.set_cons_succ, List.set_cons_zero, List.getElem?_cons_succ, List.getElem?_cons_zero, List.length_cons, List.length_nil, List.cons_append, List.nil_append, List.contains_nil, List.contains_cons, List.isEmpty_nil, Option.getD_some, Bool.false_eq_true, if_false, if_true, true_and, and_true, List.all_cons, List.all_nil, Bool.and_true, Bool.true_and, Bool.not_true, Nat.zero_add, beq_self_eq_true, List.map_cons, List.map_nil, decide_true, nbeq, decide_false, Bool.or_false, Bool.and_false, Nat.reduceAdd, Nat.reduceEqDiff, Nat.reduceLeDiff, Int.reduceAdd, ne_eq, not_false_eq_true, gtsA_len, ti3, ti22, ti24, ti31, decide_eq_true h', aget_gts hLi, hLe, hLl, Int.toNat_natCast]
          have hg := hok _ (List.getElem_mem h)
          simp only [okG, decide_eq_true_eq] at hg
          have ha : (c[i].a).toNat < to.length := by omega
          have e1 : to.getD (c[i].a).toNat 0 = to[(c[i].a).toNat] := by simp [ha]
          refine ⟨by omega, by omega, ?_⟩
          simp only [w_load, w_store, w_fieldAddr, w_indexAddr, w_binOp, w_aop, w_some, w_asome, w_anone, w_nil, w_cons, awp, binC, idxC, cmpC, asP, asQ, asO, asS, asB, asI, obA, AGet_zero, loadA, storeA, putsA, St.ev, St.step, setS, killS, AV.kill, AV.killL, Mem.kill, AV.cells, AV.flat, AV.single, AV.cellular, ACond_false, Value.oneCell', List.getD_cons_succ, List.getD_cons_zero, List.set_cons_succ, List.set_cons_zero, List.getElem?_cons_succ, List.getElem?_cons_zero, List.length_cons, List.length_nil, List.contains_nil, List.contains_cons, List.isEmpty_nil, Bool.false_eq_true, if_false, if_true, true_and, and_true, List.all_cons, List.all_nil, Bool.and_true, Bool.true_and, Bool.not_true, Nat.zero_add, Nat.add_zero, beq_self_eq_true, decide_true, nbeq, decide_false, Bool.or_false, Bool.and_false, Nat.reduceAdd, Nat.reduceEqDiff, Nat.reduceLeDiff, Int.reduceAdd, ne_eq, not_false_eq_true, gtsA_len, ti3, ti22, ti24, aget_ints ha, aget_gts hLi, hLe, hLl, Int.toNat_natCast, gtsA_set]
          refine ⟨by omega, ?_⟩
          by_cases c2 : c[i].k = 2
          · have hb : (c[i].b).toNat < to.length := by omega
            have e2 : to.getD (c[i].b).toNat 0 = to[(c[i].b).toNat] := by simp [hb]
            have er : rnG to c[i] = ⟨c[i].k, min to[(c[i].a).toNat] to[(c[i].b).toNat], max to[(c[i].a).toNat] to[(c[i].b).toNat], c[i].t⟩ := by unfold rnG; rw [if_pos c2, e1, e2]
            simp only [awp, ACond_true, decide_eq_true c2]
            refine swp_draw (own := [6]) (.take 0 .plain [] (.take 1 .plain [] (.take 2 .plain [] (.take 3 .plain [] (.take 4 .plain [] (.take 5 .plain [] (.take 6 .reads [] (.take 7 .reads [] (.take 8 .reads [] (.take 9 .plain [] (.take 10 .plain [] (.take 11 .reads [] (.take 12 .reads [] (.take 13 .reads [] (.take 14 .reads [] (.take 15 .plain [] (.take 16 .plain [] (.take 17 .reads [] (.take 18 .reads [] (.take 19 .reads [] (.take 20 .plain [] (.take 21 .plain [] (.take 22 .reads [] (.take 23 .reads [] (.take 24 .reads [] (.take 26 .reads [] (.take 27 .plain [] (.alt 25 (.alt 28 (.take 29 .reads [] (.take 30 .plain [] (.alt 31 (.done) (.nil)))) (.nil)) (.alt 28 (.take 25 .reads [] (.take 29 .reads [] (.take 30 .plain [] (.alt 31 (.done) (.nil))))) (.nil)))))))))))))))))))))))))))))) [⟨54, 1024, 0, 0, true⟩, ⟨55, 2048, 0, 0, true⟩, ⟨56, 1024, 0, 0, true⟩, ⟨57, 2048, 0, 0, true⟩, ⟨58, 4, 0, 0, true⟩, ⟨59, 4096, 0, 0, true⟩, ⟨60, 288230376151711744, 32, 0, true⟩, ⟨61, 720575940379279360, 80, 0, true⟩, ⟨62, 1152921504606846976, 128, 0, true⟩, ⟨63, 4, 0, 0, true⟩, ⟨64, 4096, 0, 0, true⟩, ⟨65, 9223372036854775808, 1024, 0, true⟩, ⟨66, 23058430092136939520, 2560, 0, true⟩, ⟨67, 36893488147419103232, 4096, 0, true⟩, ⟨68, 76092819304051900416, 8448, 0, true⟩, ⟨69, 4, 0, 0, true⟩, ⟨70, 4096, 0, 0, true⟩, ⟨71, 590295810358705651712, 65536, 0, true⟩, ⟨72, 1475739525896764129280, 163840, 0, true⟩, ⟨73, 2361183241434822606848, 262144, 0, true⟩, ⟨74, 4, 0, 0, true⟩, ⟨75, 4096, 0, 0, true⟩, ⟨76, 18889465931478580854784, 2097152, 0, true⟩, ⟨77, 47223664828696452136960, 5242880, 0, true⟩, ⟨78, 75557863725914323419136, 8388608, 0, true⟩, ⟨79, 155838093934698292051968, 17301504, 0, true⟩, ⟨80, 27021597764222976, 17334259, 0, true⟩, ⟨81, 604462909807314587353088, 84443123, 0, true⟩, ⟨0, 1209073393567218851119104, 151551987, 1, false⟩, ⟨82, 108086391056891904, 536870911, 0, true⟩, ⟨83, 2417851639229258349412352, 1073741823, 0, true⟩, ⟨0, 5137934733362173992501248, 1610612735, 1, false⟩] mo (by kernel_rfl) ?_
            have hS0 : i < ((rnP to c i).set i ⟨c[i].k, to[(c[i].a).toNat], c[i].b, c[i].t⟩).length := by rw [List.length_set]; exact hLi
            have hS1 : i < ((rnP to c i).set i ⟨c[i].k, min to[(c[i].a).toNat] to[(c[i].b).toNat], c[i].b, c[i].t⟩).length := by rw [List.length_set]; exact hLi
            have hS2 : i < ((rnP to c i).set i ⟨c[i].k, to[(c[i].a).toNat], max to[(c[i].a).toNat] to[(c[i].b).toNat], c[i].t⟩).length := by rw [List.length_set]; exact hLi
            simp only [w_move, w_load, w_store, w_fieldAddr, w_indexAddr, w_binOp, w_min, w_max, w_aop, w_take, w_some, w_asome, w_anone, w_nil, w_cons, awp, binC, idxC, arithC, cmpC, asP, asQ, asO, asS, asI, obA, AGet_zero, minmaxA, loadA, storeA, putsA, St.ev, St.step, setS, killS, AV.kill, AV.killL, Mem.kill, AV.cells, AV.flat, AV.single, AV.cellular, ACond_false, Value.oneCell', List.getD_cons_succ, List.getD_cons_zero, List.set_cons_succ, List.set_cons_zero, List.getElem?_cons_succ, List.getElem?_cons_zero, List.length_cons, List.length_nil, List.contains_nil, List.contains_cons, List.isEmpty_nil, Bool.false_eq_true, if_false, if_true, true_and, and_true, List.all_cons, List.all_nil, Bool.and_true, Bool.true_and, Bool.not_true, Nat.zero_add, beq_self_eq_true, decide_true, nbeq, decide_false, Bool.or_false, Bool.and_false, Nat.reduceAdd, Nat.reduceEqDiff, Nat.reduceLeDiff, Int.reduceAdd, ASch, St.put, Md.mem, Md.need, ne_eq, not_false_eq_true, gtsA_len, ti3, ti22, ti24, ti31, aget_ints ha, aget_ints hb, aget_gts hS0, aget_gts hS1, aget_gts hS2, List.getElem_set_self, List.length_set, hLl, Int.toNat_natCast, gtsA_set, List.set_set]
            refine ⟨by omega, by omega, by omega, by omega, by omega, ?_⟩
            refine ⟨⟨by omega, by unfold lim; omega, i + 1, ?_, h, by omega⟩, by omega, by unfold lim; omega, i + 1, ?_, h, by omega⟩ <;>
            · rw [← rnP_set to c h, er]
              exact le_cut (Mx := [_]) (M' := [_, _]) (by simp [leSl]) rfl (by simp [AV.freeL, AV.free, freeL_pure, gtsA_pure, intsA_pure]) (by simp [freeM, AV.freeL, AV.free, freeL_pure, gtsA_pure])
          · have er : rnG to c[i] = ⟨c[i].k, to[(c[i].a).toNat], c[i].b, c[i].t⟩ := by unfold rnG; rw [if_neg c2, e1]
            simp only [w_move, w_binOp, w_aop, w_some, w_asome, w_anone, w_nil, w_cons, awp, binC, arithC, cmpC, asI, St.ev, St.step, setS, killS, AV.kill, AV.killL, Mem.kill, ACond_false, List.getD_cons_succ, List.getD_cons_zero, List.set_cons_succ, List.set_cons_zero, List.contains_nil, List.contains_cons, List.isEmpty_nil, Bool.false_eq_true, if_false, if_true, true_and, and_true, Bool.and_true, Bool.true_and, nbeq, decide_false, Bool.or_false, Nat.reduceAdd, Nat.reduceEqDiff, Int.reduceAdd, decide_eq_false c2]
            refine ⟨by unfold lim; omega, i + 1, ?_, h, by omega⟩
            rw [← rnP_set to c h, er]
            exact le_cut (Mx := [_]) (M' := [_, _]) (by simp [leSl]) rfl (by simp [AV.freeL, AV.free, freeL_pure, gtsA_pure, intsA_pure]) (by simp [freeM, AV.freeL, AV.free, freeL_pure, gtsA_pure])
        · have h' : ¬ (i : Int) < (c.length : Int) := by omega
          have hic : i = c.length := by omega
          subst hic
          simp only [w_move, w_assign, w_aop, w_anone, w_nil, w_cons, awp, asN, St.ev, St.step, setS, killS, AV.kill, AV.killL, Mem.kill, ACond_false, List.getD_cons_succ, List.getD_cons_zero, List.set_cons_succ, List.set_cons_zero, List.contains_nil, List.contains_cons, List.isEmpty_nil, Option.getD_some, Bool.false_eq_true, if_false, if_true, beq_self_eq_true, nbeq, decide_false, Bool.or_false, Nat.reduceAdd, Nat.reduceEqDiff, Int.reduceAdd, decide_eq_false h']
          refine aend_frz rfl ⟨?_, rfl⟩
          simp [frz, AV.sub, AV.subL, gtsA_pure, vR, hv, ho, rnP]
    · have ho : ordB to n = false := by unfold ordB; rw [decide_eq_false h0]; rfl
      simp only [w_assign, w_aop, w_some, w_asome, w_anone, w_nil, w_cons, awp, asN, Aw.newRow, St.ev, St.step, setS, killS, AV.kill, AV.killL, Mem.kill, ACond_true, ACond_false, List.set_cons_succ, List.set_cons_zero, List.length_cons, List.length_nil, List.cons_append, List.nil_append, List.contains_nil, List.contains_cons, List.isEmpty_nil, Option.getD_some, Bool.false_eq_true, if_false, if_true, Bool.not_false, Nat.zero_add, beq_self_eq_true, nbeq, decide_false, Bool.or_false, Nat.reduceAdd, Nat.reduceEqDiff, Int.reduceAdd, ti22, ti24, decide_eq_false h0]
      refine aend_frz rfl ⟨?_, rfl⟩
      simp [frz, AV.sub, AV.subL, vR, hv, ho]
      rfl
  · simp only [w_move, w_assign, w_aop, w_some, w_asome, w_anone, w_nil, w_cons, awp, asN, Aw.newRow, St.ev, St.step, setS, killS, AV.kill, AV.killL, Mem.kill, ACond_true, ACond_false, List.getD_cons_succ, List.getD_cons_zero, List.set_cons_succ, List.set_cons_zero, List.length_cons, List.length_nil, List.cons_append, List.nil_append, List.contains_nil, List.contains_cons, List.isEmpty_nil, Option.getD_some, Bool.false_eq_true, if_false, if_true, Bool.not_false, Nat.zero_add, beq_self_eq_true, nbeq, decide_false, Bool.or_false, Nat.reduceAdd, Nat.reduceEqDiff, Int.reduceAdd, ti22, ti24, decide_eq_false hv]
    refine aend_frz rfl ⟨?_, rfl⟩
    simp [frz, AV.sub, AV.subL, vR, hv]
    rfl
end Go.Proofs.Ytkmbbbemmohmcaa

namespace Go.Proofs.Ytkmbbbemmohmcaa
open Aw Go.RowKit
set_option linter.unusedSimpArgs false

theorem ok92 : okFn Try.prog 92 = true := by kernel_rfl
theorem s92 (l : List G4) (nx : Int) (i k : Nat) (hi : i < l.length) (hk : k < l.length) : ASpec Try.prog 92 [I i, I k, .p (.g [.s 4 (gtsA l), I nx]) 0] (fun r Ms => r = I (cmpG l[i] l[k]) ∧ Ms = []) := by
  refine aspec_of (own := []) Try.func92 rfl ok92 ?_
  simp only [w_assign, w_aop, w_anone, w_nil, w_cons, awp, asN, St.ev, St.step, setS, killS, AV.kill, AV.killL, Mem.kill, ACond_false, List.set_cons_succ, List.set_cons_zero, List.length_cons, List.length_nil, List.replicate_succ, List.replicate_zero, List.cons_append, List.nil_append, List.contains_nil, List.isEmpty_nil, Option.getD_some, Bool.false_eq_true, if_false, if_true, Nat.zero_add, Nat.add_zero, Nat.reduceAdd, Nat.reduceSub, Int.reduceAdd, Int.reduceSub, Try.ntmps92]
  refine swp_draw (own := []) (.take 0 .plain [] (.take 1 .reads [] (.take 2 .plain [] (.take 3 .reads [] (.take 4 .reads [] (.take 5 .plain [] (.take 6 .reads [] (.take 7 .plain [] (.take 8 .reads [] (.take 9 .reads [] (.alt 10 (.take 11 .plain [] (.done)) (.nil)))))))))))) [⟨7, 4, 0, 0, true⟩, ⟨8, 64, 1, 0, true⟩, ⟨9, 1, 0, 0, true⟩, ⟨10, 384, 6, 0, true⟩, ⟨11, 512, 8, 0, true⟩, ⟨12, 4, 0, 0, true⟩, ⟨13, 2048, 32, 0, true⟩, ⟨14, 2, 0, 0, true⟩, ⟨15, 12288, 192, 0, true⟩, ⟨16, 16384, 256, 0, true⟩, ⟨17, 33792, 528, 0, false⟩, ⟨6, 65536, 2047, 0, true⟩] mo (by kernel_rfl) ?_
  simp only [w_move, w_load, w_fieldAddr, w_indexAddr, w_callF, w_aop, w_take, w_some, w_asome, idxC, asP, asS, asI, loadA, St.ev, setS, AV.cells, AV.flat, AV.single, List.getD_cons_succ, List.getD_cons_zero, List.set_cons_succ, List.set_cons_zero, List.getElem?_cons_succ, List.getElem?_cons_zero, List.length_cons, List.length_nil, Bool.false_eq_true, if_false, if_true, true_and, and_true, List.all_cons, List.all_nil, Bool.and_true, Bool.true_and, Bool.not_true, Nat.zero_add, Nat.add_zero, beq_self_eq_true, List.map_cons, List.map_nil, decide_true, nbeq, decide_false, Bool.and_false, Nat.reduceAdd, Nat.reduceEqDiff, Nat.reduceLeDiff, Int.reduceAdd, ASch, St.put, Md.mem, Md.need, ne_eq, not_false_eq_true, ti24, ti60, ti81, aget_gts hi, aget_gts hk, Int.toNat_natCast]
  refine ⟨by omega, by omega, acall_v (s90 l[i] l[k]) rfl rfl ?_⟩
  simp only [w_assign, w_take, w_some, w_anone, awp, asN, St.ev, St.step, setS, killS, AV.kill, AV.killL, Mem.kill, List.getD_cons_succ, List.getD_cons_zero, List.set_cons_succ, List.set_cons_zero, List.getElem?_cons_succ, List.getElem?_cons_zero, List.contains_nil, List.isEmpty_nil, Option.getD_some, Bool.false_eq_true, if_false, if_true, true_and, Bool.true_and, ASch, St.put, Md.mem, Md.need]
  exact aend_frz rfl ⟨rfl, rfl⟩

theorem cmpG_less (g h : G4) : decide (cmpG g h < 0) = g.less h := by
  unfold cmpG G4.less orL orL orL orL orL cmpI
  apply decide_eq_decide.2
  repeat' split
  all_goals first
    | omega
    | (constructor <;> intro _ <;> omega)

/-- MinFunc over places in a circuit. -/
theorem ok91 : okFn Try.prog 91 = true := by kernel_rfl
theorem s91 (c : List G4) (l : List Nat) (f : FuncId) (cap : List AV) (hne : 0 < l.length) (hl : l.length ≤ 10000) (hlt : ∀ x ∈ l, x < c.length) (hcp : AV.pureL cap = true)
    (hs : ∀ i k (hi : i < c.length) (hk : k < c.length), ASpec Try.prog f (I i :: I k :: cap) (fun r Ms => r = I (cmpG c[i] c[k]) ∧ Ms = [])) :
    ASpec Try.prog 91 [.s 1 (intsA (l.map fun i : Nat => (i : Int))), .f (.func f) cap] (fun r Ms => r = I (bstL G4.less c l : Nat) ∧ Ms = []) := by
  obtain ⟨li, hli⟩ : ∃ li : List Int, li = l.map fun i : Nat => (i : Int) := ⟨_, rfl⟩
  have hlen : li.length = l.length := by rw [hli, List.length_map]
  have hat : ∀ j (hj : j < l.length) (hj' : j < li.length), li[j] = ((l[j] : Nat) : Int) := fun j hj hj' => by subst hli; simp
  rw [← hli]
  clear hli
  have h0l : 0 < li.length := by omega
  refine aspec_of (own := []) Try.func91 rfl ok91 ?_
  simp only [w_move, w_assign, w_binOp, w_len, w_aop, w_some, w_asome, w_anone, w_nil, w_cons, awp, binC, cmpC, asB, asI, asN, lenA, St.ev, St.step, setS, killS, AV.kill, AV.killL, Mem.kill, ACond_false, List.getD_cons_succ, List.getD_cons_zero, List.set_cons_succ, List.set_cons_zero, List.length_cons, List.length_nil, List.replicate_succ, List.replicate_zero, List.cons_append, List.nil_append, List.contains_nil, List.isEmpty_nil, Option.getD_some, Bool.false_eq_true, if_false, if_true, true_and, Bool.true_and, Option.isSome_some, Nat.zero_add, Nat.add_zero, Nat.reduceAdd, Nat.reduceSub, Int.reduceAdd, Int.reduceSub, intsA_len, ti31, Try.ntmps91, hlen]
  have h1 : ¬ (l.length : Int) < 1 := by omega
  simp only [w_move, w_assign, w_load, w_indexAddr, w_aop, w_some, w_asome, w_anone, w_nil, w_cons, awp, idxC, asP, asS, asI, asN, loadA, St.ev, St.step, setS, killS, AV.kill, AV.killL, Mem.kill, AV.cells, AV.flat, AV.single, ACond_false, List.getD_cons_succ, List.getD_cons_zero, List.set_cons_succ, List.set_cons_zero, List.getElem?_cons_zero, List.contains_nil, List.isEmpty_nil, Option.getD_some, Bool.false_eq_true, if_false, if_true, true_and, and_true, List.all_cons, List.all_nil, Bool.and_true, Bool.true_and, Bool.not_true, Nat.reduceAdd, Int.reduceAdd, Int.reduceLE, Int.toNat_zero, ti3, ti31, decide_eq_false h1, aget_ints h0l, hat 0 hne h0l]
  refine swp_loop' (fun j : Nat => ⟨[.s 1 (intsA li), .f (.func f) cap, .bot, .bot, .bot, I (bstL G4.less c (l.take j) : Nat), I j, .bot, .bot, .bot, .bot, .bot, .bot, .bot, .bot, .bot, .bot, .bot, .bot, .bot, .bot, .bot, .bot, .bot, .bot, .bot, .bot, .bot, .bot, .bot, .bot, .bot, .bot], []⟩) (fun j => 1 ≤ j ∧ j ≤ l.length) (fun j => l.length - j) 1 (le_sl (by simp [leSl, bstL_one _ _ _ hne])) ⟨Nat.le_refl _, hne⟩ ?_
  rintro j ⟨hj1, hj⟩
  refine awp_sound (own := []) _ _ _ _ _ ?_
  simp only [w_move, w_binOp, w_len, w_aop, w_some, w_asome, w_nil, w_cons, awp, binC, cmpC, asB, asI, lenA, St.ev, St.step, setS, killS, AV.kill, AV.killL, Mem.kill, ACond_false, List.getD_cons_succ, List.getD_cons_zero, List.set_cons_succ, List.set_cons_zero, List.contains_nil, List.isEmpty_nil, if_true, true_and, Bool.true_and, Option.isSome_some, Nat.reduceAdd, Int.reduceAdd, intsA_len, ti31, hlen]
  by_cases hjl : j < l.length
  · have hjl' : (j : Int) < (l.length : Int) := by omega
    have hjli : j < li.length := by omega
    have hlj : l[j] < c.length := hlt _ (List.getElem_mem hjl)
    have hs' := bstL_succ G4.less c l hj1 hjl
    have hbj : bstL G4.less c (l.take j) < c.length := by
      refine hlt _ (List.mem_of_mem_take (bstL_mem _ _ _ fun e => ?_))
      have := congrArg List.length e
      rw [List.length_take, List.length_nil] at this
      omega
    generalize hbe : bstL G4.less c (l.take j) = b at hs' hbj
    simp only [w_move, w_load, w_indexAddr, w_callT, w_aop, w_some, w_asome, w_cons, awp, idxC, asP, asS, asF, asI, loadA, St.ev, St.step, setS, killS, AV.kill, AV.killL, Mem.kill, AV.cells, AV.flat, AV.single, ACond_true, ACond_false, List.getD_cons_succ, List.getD_cons_zero, List.set_cons_succ, List.set_cons_zero, List.getElem?_cons_zero, List.cons_append, List.nil_append, List.contains_nil, List.isEmpty_nil, Bool.false_eq_true, if_false, if_true, true_and, and_true, List.all_cons, List.all_nil, Bool.and_true, Bool.true_and, Bool.not_true, List.map_cons, List.map_nil, Nat.reduceAdd, Int.reduceAdd, ti3, ti31, decide_eq_true hjl', aget_ints hjli, hat j hjl hjli, Int.toNat_natCast]
    refine ⟨by omega, acall_v (hs l[j] b hlj hbj) (by simp [AV.pureL, AV.pure, hcp]) rfl ?_⟩
    have g1 : c.getD l[j] default = c[l[j]] := by simp [hlj]
    have g2 : c.getD b default = c[b] := by simp [hbj]
    rw [g1, g2, ← cmpG_less] at hs'
    simp only [w_binOp, w_aop, w_some, w_asome, w_nil, w_cons, awp, binC, cmpC, asB, asI, St.ev, St.step, setS, killS, AV.kill, AV.killL, Mem.kill, List.getD_cons_succ, List.getD_cons_zero, List.set_cons_succ, List.set_cons_zero, List.isEmpty_nil, if_true, true_and, Bool.true_and]
    by_cases hc : cmpG c[l[j]] c[b] < 0
    · simp only [w_move, w_assign, w_load, w_indexAddr, w_binOp, w_aop, w_some, w_asome, w_anone, w_nil, w_cons, awp, binC, idxC, arithC, cmpC, asP, asS, asI, asN, loadA, St.ev, St.step, setS, killS, AV.kill, AV.killL, Mem.kill, AV.cells, AV.flat, AV.single, ACond_true, ACond_false, List.getD_cons_succ, List.getD_cons_zero, List.set_cons_succ, List.set_cons_zero, List.getElem?_cons_zero, List.contains_nil, List.isEmpty_nil, Option.getD_some, Bool.false_eq_true, if_false, if_true, true_and, and_true, List.all_cons, List.all_nil, Bool.and_true, Bool.true_and, Bool.not_true, Nat.reduceAdd, Int.reduceAdd, ti3, ti31, decide_eq_true hc, aget_ints hjli, hat j hjl hjli, Int.toNat_natCast]
      refine ⟨by omega, by unfold lim; omega, j + 1, le_sl ?_, ⟨by omega, hjl⟩, by omega⟩
      simp [leSl, hs', hc]
    · simp only [w_move, w_assign, w_binOp, w_aop, w_some, w_asome, w_anone, w_nil, w_cons, awp, binC, arithC, cmpC, asI, asN, St.ev, St.step, setS, killS, AV.kill, AV.killL, Mem.kill, ACond_false, List.getD_cons_succ, List.getD_cons_zero, List.set_cons_succ, List.set_cons_zero, List.contains_nil, List.isEmpty_nil, Option.getD_some, Bool.false_eq_true, if_false, if_true, true_and, and_true, Bool.and_true, Bool.true_and, Nat.reduceAdd, Int.reduceAdd, decide_eq_false hc]
      refine ⟨by unfold lim; omega, j + 1, le_sl ?_, ⟨by omega, hjl⟩, by omega⟩
      simp [leSl, hs', hc]
  · have hjl' : ¬ (j : Int) < (l.length : Int) := by omega
    have hje : j = l.length := by omega
    subst hje
    simp only [w_move, w_assign, w_aop, w_anone, w_nil, w_cons, awp, asN, St.ev, St.step, setS, killS, AV.kill, AV.killL, Mem.kill, ACond_false, List.getD_cons_succ, List.getD_cons_zero, List.set_cons_succ, List.set_cons_zero, List.contains_nil, List.isEmpty_nil, Option.getD_some, Bool.false_eq_true, if_false, if_true, Nat.reduceAdd, Int.reduceAdd, decide_eq_false hjl', List.take_length]
    exact aend_frz rfl ⟨rfl, rfl⟩
end Go.Proofs.Ytkmbbbemmohmcaa

namespace Go.Proofs.Ytkmbbbemmohmcaa
open Aw Go.RowKit
set_option linter.unusedSimpArgs false

/-- clear, at one gate. -/
theorem run_clear_gate (w : World) (t ty : TypeId) (ht : Try.prog.underlying t = some (.slice 24)) (b o c : Nat) (hc : ∀ j, j < 4 → (w.cell? ⟨b, o + j, none⟩).isSome = true) (hf : ∀ j, j < 4 → w.frozen? ⟨b, o + j, none⟩ = false) :
    (Builtin.clear_ #[t] ty #[.slice (some ⟨b, o, none⟩) 1 c]).run Try.prog w = .ok (.tuple #[]) (w.setCells b o [.int .i64 0, .int .i64 0, .int .i64 0, .int .i64 0]) := by
  have hv : ∀ w, (zeroValue 24).run Try.prog w = .ok (.agg #[.int .i64 0, .int .i64 0, .int .i64 0, .int .i64 0]) w := fun w => Try.zeroValue24 w
  have hzc : (Builtin.zeroCells (Value.cells (.agg #[.int .i64 0, .int .i64 0, .int .i64 0, .int .i64 0])) 1).toList = [.int .i64 0, .int .i64 0, .int .i64 0, .int .i64 0] := by
    simp [Builtin.zeroCells, Value.cells, Array.range, List.range_succ]
  have hst := run_storeCells_cells (P := Try.prog) b o [.int .i64 0, .int .i64 0, .int .i64 0, .int .i64 0] 0 w (by simpa using hc) (by simpa using hf) (by intro v hv'; simp at hv'; subst hv'; rfl)
  simp only [Nat.add_zero] at hst
  simp [Builtin.clear_, run_underlying ht, hv, hzc, hst]
end Go.Proofs.Ytkmbbbemmohmcaa
