/-
  Several texts in one: DbL.
-/
import Derived.Test.YtkmbbbemmohmcaaMt
import Derived.Test.YtkmbbbemmohmcaaMo
import Derived.Test.YtkmbbbemmohmcaaMi
set_option linter.unusedSimpArgs false
set_option linter.unusedVariables false
namespace Go.Proofs.Ytkmbbbemmohmcaa
open Aw Go.RowKit
set_option linter.unusedSimpArgs false

theorem okG_fourL {n : Int} (h4 : n ≤ 4) {g : G4} (h : okG n g = true) : okG 4 g = true := by
  rw [okG_iff] at h ⊢
  obtain ⟨h1, h2, h3⟩ := h
  exact ⟨h1, h2, by omega⟩
theorem exchL {c : List G4} {k : Nat} (h : k + 1 < c.length) : c = c.take k ++ c.getD k default :: c.getD (k + 1) default :: c.drop (k + 2) := by
  rw [← Cn.drop_more h, ← Cn.drop_more (show k < c.length by omega)]
  exact (List.take_append_drop k c).symm
/-- whether the first neighbors are all bound. -/
def onN (c : List G4) : Nat → Bool
  | 0 => true
  | k + 1 => onN c k && bS (c.getD k default) (c.getD (k + 1) default)
theorem onN_iff (c : List G4) : ∀ k, onN c k = true ↔ ∀ j, j < k → bS (c.getD j default) (c.getD (j + 1) default) = true
  | 0 => ⟨fun _ j hj => by omega, fun _ => rfl⟩
  | k + 1 => by
    show (onN c k && _) = true ↔ _
    rw [Bool.and_eq_true, onN_iff c k]
    constructor
    · rintro ⟨h1, h2⟩ j hj
      by_cases e : j = k
      · subst e; exact h2
      · exact h1 j (by omega)
    · exact fun h => ⟨fun j hj => h j (by omega), h k (by omega)⟩
theorem one_iff (c : List G4) : decide ((Cn.cnt bS c : Int) = 1) = onN c (c.length - 1) := by
  rw [Bool.eq_iff_iff, decide_eq_true_eq, onN_iff]
  constructor
  · intro h j hj
    cases hb : bS (c.getD j default) (c.getD (j + 1) default) with
    | true => rfl
    | false =>
      have h2 := Cn.cnt_two bS (g := c.getD j default) (h := c.getD (j + 1) default) (by rw [bS_sym]; exact hb) (c.drop (j + 2)) (c.take j)
      rw [← exchL (show j + 1 < c.length by omega)] at h2
      omega
  · intro h
    have : Cn.cnt bS c = 1 := Cn.cnt_one bS c fun u g k v e => by
      have hl := congrArg List.length e
      simp at hl
      have := h u.length (by omega)
      have e1 : c.getD u.length default = g := by rw [e, List.getD_eq_getElem?_getD]; simp
      have e2 : c.getD (u.length + 1) default = k := by rw [e, List.getD_eq_getElem?_getD, List.getElem?_append_right (by omega)]; simp
      rw [e1, e2] at this
      rw [bS_sym]
      exact this
    omega
theorem type_same (g h : G4) : decide ([g.k, g.a, g.b, (0 : Int)] = [h.k, h.a, h.b, 0]) = g.same h := by
  unfold G4.same
  apply decide_eq_decide.2
  simp

theorem ok10 : okFn Try.prog 10 = true := by kernel_rfl
set_option maxRecDepth 20000 in
set_option maxHeartbeats 1000000 in
theorem s10 (n : Int) (c : List G4) : ASpec Try.prog 10 [I n, .s 4 (gtsA c)] (fun r Ms => r = B true ∧ Ms = []) := by
  refine aspec_of (own := []) Try.func10 rfl ok10 ?_
  simp only [w_move, w_assign, w_callF, w_aop, w_anone, w_nil, w_cons, awp, asN, St.ev, St.step, setS, killS, AV.kill, AV.killL, Mem.kill, ACond_false, List.getD_cons_succ, List.getD_cons_zero, List.set_cons_succ, List.set_cons_zero, List.length_cons, List.length_nil, List.replicate_succ, List.replicate_zero, List.cons_append, List.nil_append, List.contains_nil, List.isEmpty_nil, Option.getD_some, Bool.false_eq_true, if_false, if_true, Nat.zero_add, Nat.add_zero, List.map_cons, List.map_nil, Nat.reduceAdd, Nat.reduceSub, Int.reduceAdd, Int.reduceSub, Try.ntmps10]
  refine acall_v (s19 c) rfl rfl ?_
  by_cases hl : 50 < c.length
  · simp only [w_callF, w_aop, w_some, w_nil, w_cons, awp, asB, St.ev, St.step, setS, killS, AV.kill, AV.killL, Mem.kill, ACond_true, ACond_false, List.getD_cons_succ, List.getD_cons_zero, List.set_cons_succ, List.set_cons_zero, List.contains_nil, List.isEmpty_nil, if_true, List.map_nil, Nat.reduceAdd, Int.reduceAdd, decide_eq_true hl]
    refine acall_v s32 rfl rfl ?_
    simp only [w_assign, w_aop, w_anone, w_nil, w_cons, awp, asN, St.ev, St.step, setS, killS, AV.kill, AV.killL, Mem.kill, List.getD_cons_succ, List.getD_cons_zero, List.set_cons_succ, List.set_cons_zero, List.contains_nil, List.isEmpty_nil, Option.getD_some, Bool.false_eq_true, if_false, if_true]
    exact aend_frz rfl ⟨rfl, rfl⟩
  simp only [w_move, w_callF, w_aop, w_some, w_nil, w_cons, awp, asB, St.ev, St.step, setS, killS, AV.kill, AV.killL, Mem.kill, ACond_false, List.getD_cons_succ, List.getD_cons_zero, List.set_cons_succ, List.set_cons_zero, List.contains_nil, List.isEmpty_nil, if_true, List.map_cons, List.map_nil, Nat.reduceAdd, Int.reduceAdd, decide_eq_false hl]
  have h1 := s20 n c (by omega)
  have h2 := s43 n c (by omega)
  by_cases hv : vC n c = 0
  · have ho := vC_Ok hv
    have hn := vC_iff.1 hv
    have hcn : Cn.cnt G4.bound c = Cn.cnt bS c := Cn.cnt_congr c.length c (Nat.le_refl _) fun x hx y hy => bound_bS (ho x hx) (ho y hy)
    rw [if_pos hv, hv, hcn] at h1
    rw [if_pos hv, hv] at h2
    have hone := one_iff c
    obtain ⟨K, hK⟩ : ∃ K, K = Cn.cnt bS c := ⟨_, rfl⟩
    rw [← hK] at h1 h2 hone
    refine acall_v h1 rfl rfl ?_
    simp only [w_move, w_assign, w_extract, w_callF, w_aop, w_some, w_anone, w_nil, w_cons, awp, asT, asN, St.ev, St.step, setS, killS, AV.kill, AV.killL, Mem.kill, ACond_false, List.getD_cons_succ, List.getD_cons_zero, List.set_cons_succ, List.set_cons_zero, List.getElem?_cons_succ, List.getElem?_cons_zero, List.contains_nil, List.isEmpty_nil, Option.getD_some, Bool.false_eq_true, if_false, if_true, List.map_cons, List.map_nil, Nat.reduceAdd, Int.reduceAdd]
    refine acall_v h2 rfl rfl ?_
    simp only [w_move, w_assign, w_pick, w_binOp, w_extract, w_aop, w_aopg, w_gdb, w_some, w_asome, w_anone, w_nil, w_cons, awp, binC, cmpC, asT, asB, asI, asN, St.ev, St.step, setS, killS, AV.kill, AV.killL, Mem.kill, ACond_true, ACond_false, List.getD_cons_succ, List.getD_cons_zero, List.set_cons_succ, List.set_cons_zero, List.getElem?_cons_succ, List.getElem?_cons_zero, List.contains_nil, List.isEmpty_nil, Option.getD_some, Bool.false_eq_true, if_false, if_true, true_and, Bool.true_and, Bool.not_true, beq_self_eq_true, decide_true, Nat.reduceAdd, Int.reduceAdd, Option.bind_some]
    refine swp_loop' (fun k : Nat => ⟨[I n, .s 4 (gtsA c), .bot, .bot, .bot, I K, .bot, .bot, .bot, B (onN c k), I (k + 1 : Nat), .bot, .bot, .bot, .bot, .bot, .bot, .bot, .bot, .bot, .bot, .bot, .bot, .bot, .bot, .bot, .bot, .bot, .bot, .bot, .bot, .bot, .bot, .bot, .bot, .bot, .bot, .bot, .bot, .bot, .bot, .bot, .bot, .bot, .bot, .bot, .bot, .bot, .bot, .bot, .bot, .bot, .bot, .bot, .bot, .bot, .bot, .bot, .bot, .bot, .bot, .bot, .bot, .bot, .bot, .bot, .bot, .bot, .bot, .bot, .bot, .bot, .bot, .bot, .bot, .bot, .bot, .bot, .bot, .bot, .bot, .bot, .bot, .bot, .bot, .bot], []⟩) (fun k => k = 0 ∨ k < c.length) (fun k => c.length - k) 0 (le_sl (by simp [leSl, onN])) (.inl rfl) ?_
    intro k hk
    refine awp_sound (own := []) _ _ _ _ _ ?_
    simp only [w_move, w_binOp, w_len, w_aop, w_some, w_asome, w_nil, w_cons, awp, binC, cmpC, asB, asI, lenA, St.ev, St.step, setS, killS, AV.kill, AV.killL, Mem.kill, ACond_false, List.getD_cons_succ, List.getD_cons_zero, List.set_cons_succ, List.set_cons_zero, List.contains_nil, List.isEmpty_nil, if_true, true_and, Bool.true_and, Option.isSome_some, Nat.reduceAdd, Int.reduceAdd, gtsA_len, ti22, gtsA_len]
    by_cases hkl : k + 1 < c.length
    · have hkl' : ((k + 1 : Nat) : Int) < (c.length : Int) := by omega
      have hk0 : k < c.length := by omega
      have hg4 : okG 4 c[k] = true := okG_fourL hn.1.2 (hn.2.2 _ (List.getElem_mem hk0))
      have hh4 : okG 4 c[k + 1] = true := okG_fourL hn.1.2 (hn.2.2 _ (List.getElem_mem hkl))
      have h3 := s35 c[k] c[k + 1]
      have hvg : vG 4 [c[k], c[k + 1]] = 0 := by rw [vG2, if_pos ⟨hg4, hh4⟩]
      rw [hvg, decide_eq_true rfl, Bool.true_and] at h3
      have ek : ((k + 1 : Nat) : Int) - 1 = (k : Int) := by omega
      have ek2 : ((k + 1 : Nat) : Int) + 1 = ((k + 1 + 1 : Nat) : Int) := by omega
      have hst : onN c (k + 1) = (onN c k && (!c[k].comm c[k + 1] || c[k].same c[k + 1])) := by
        show (onN c k && bS (c.getD k default) (c.getD (k + 1) default)) = _
        rw [getD_at hk0, getD_at hkl, ← bound_bS (okG_okT hg4) (okG_okT hh4)]
        unfold G4.bound
        rw [Bool.or_comm]
      simp only [awp, ACond_true, decide_eq_true hkl']
      refine swp_draw (own := []) (.take 0 .plain [] (.take 1 .plain [] (.take 2 .plain [] (.take 3 .reads [] (.take 4 .reads [] (.take 5 .plain [] (.take 6 .plain [] (.take 7 .reads [] (.take 8 .reads [] (.alt 9 (.take 10 .plain [] (.take 11 .plain [] (.take 12 .plain [] (.take 13 .plain [] (.take 14 .plain [] (.done)))))) (.nil))))))))))) [⟨47, 2, 0, 0, true⟩, ⟨48, 1024, 0, 0, true⟩, ⟨49, 140737488355328, 2, 0, true⟩, ⟨50, 351843720888320, 5, 0, true⟩, ⟨51, 562949953421312, 8, 0, true⟩, ⟨52, 2, 0, 0, true⟩, ⟨53, 1024, 0, 0, true⟩, ⟨54, 6755399441055744, 96, 0, true⟩, ⟨55, 9007199254740992, 128, 0, true⟩, ⟨56, 19140298416324608, 272, 0, false⟩, ⟨46, 36028797018963968, 512, 0, true⟩, ⟨57, 35184372088832, 1024, 0, true⟩, ⟨58, 35184372088832, 1024, 0, true⟩, ⟨12, 72057594037927936, 4095, 0, true⟩, ⟨13, 144115188075855872, 16383, 0, true⟩] mo (by kernel_rfl) ?_
      simp only [w_move, w_load, w_indexAddr, w_binOp, w_callF, w_aop, w_take, w_some, w_asome, w_anone, binC, idxC, arithC, cmpC, asP, asS, asI, loadA, St.ev, setS, AV.cells, AV.flat, AV.single, List.getD_cons_succ, List.getD_cons_zero, List.set_cons_succ, List.set_cons_zero, List.getElem?_cons_succ, List.getElem?_cons_zero, List.length_cons, List.length_nil, Bool.false_eq_true, if_false, if_true, true_and, and_true, List.all_cons, List.all_nil, Bool.and_true, Bool.true_and, Bool.not_true, Nat.zero_add, beq_self_eq_true, List.map_cons, List.map_nil, decide_true, Nat.reduceAdd, Nat.reduceLeDiff, Int.reduceAdd, ASch, St.put, Md.mem, Md.need, ti22, ti24, ek, Int.toNat_natCast, aget_gts hk0, aget_gts hkl]
      refine ⟨by unfold lim; omega, by omega, by omega, acall_v h3 rfl rfl ?_⟩
      simp only [w_move, w_assign, w_binOp, w_extract, w_aop, w_take, w_some, w_asome, w_anone, w_nil, w_cons, awp, binC, cmpC, asT, asB, asI, asN, St.ev, St.step, setS, killS, AV.kill, AV.killL, Mem.kill, ACond_false, List.getD_cons_succ, List.getD_cons_zero, List.set_cons_succ, List.set_cons_zero, List.getElem?_cons_succ, List.getElem?_cons_zero, List.contains_nil, List.isEmpty_nil, Option.getD_some, Bool.false_eq_true, if_false, if_true, true_and, Bool.true_and, Bool.not_true, decide_true, Nat.reduceAdd, Int.reduceAdd, ASch, St.put, Md.mem, Md.need]
      refine swp_draw (own := []) (.take 0 .plain [] (.take 1 .plain [] (.take 2 .plain [] (.take 3 .plain [] (.take 4 .plain [] (.take 5 .plain [] (.take 6 .plain [] (.take 7 .plain [] (.take 8 .reads [] (.take 9 .reads [] (.take 11 .plain [] (.take 12 .plain [] (.take 13 .reads [] (.take 14 .reads [] (.alt 10 (.alt 15 (.take 16 .plain [] (.take 17 .plain [] (.take 18 .plain [] (.take 19 .plain [] (.done))))) (.nil)) (.nil)))))))))))))))) [⟨61, 512, 0, 0, true⟩, ⟨62, 1152921504606846976, 1, 0, true⟩, ⟨63, 2305843009213696000, 2, 0, true⟩, ⟨64, 6917529027641081856, 6, 0, true⟩, ⟨65, 11529215046068469760, 10, 0, true⟩, ⟨66, 18446744073709551618, 16, 0, true⟩, ⟨67, 18446744073709552640, 16, 0, true⟩, ⟨68, 92233720368547758080, 80, 0, true⟩, ⟨69, 202914184810805067776, 176, 0, true⟩, ⟨70, 313594649253062377472, 272, 0, true⟩, ⟨71, 608742554432415203328, 528, 0, false⟩, ⟨72, 18446744073709551618, 16, 0, true⟩, ⟨73, 18446744073709552640, 16, 0, true⟩, ⟨74, 7101996468378177372160, 6160, 0, true⟩, ⟨75, 9463179709812999979008, 8208, 0, true⟩, ⟨76, 18907912675552290406400, 17424, 0, false⟩, ⟨77, 38977970227748282564608, 33808, 0, true⟩, ⟨78, 75578616312997246664704, 65554, 0, true⟩, ⟨79, 151118033294837860532224, 131074, 0, true⟩, ⟨10, 302231454903657293676544, 524287, 0, true⟩] mo (by kernel_rfl) ?_
      cases hx : onN c k with
      | false =>
        rw [hx] at hst
        simp only [w_move, w_assign, w_pick, w_binOp, w_aop, w_aopg, w_gdb, w_gdu, w_take, w_takeg, w_some, w_asome, w_anone, w_nil, w_cons, awp, binC, arithC, cmpC, asB, asI, asN, St.ev, St.step, setS, killS, AV.kill, AV.killL, Mem.kill, ACond_false, List.getD_cons_succ, List.getD_cons_zero, List.set_cons_succ, List.set_cons_zero, List.getElem?_cons_succ, List.getElem?_cons_zero, List.contains_nil, List.isEmpty_nil, Option.getD_some, Bool.false_eq_true, if_false, if_true, true_and, and_true, Bool.and_true, Bool.true_and, Nat.reduceAdd, Int.reduceAdd, Option.bind_some, ASch, St.put, Md.mem, Md.need, w_bt, ek2]
        exact ⟨by unfold lim; omega, k + 1, le_sl (by simp [leSl, hst]), .inr hkl, by omega⟩
      | true =>
        rw [hx] at hst
        cases hc : c[k].comm c[k + 1] with
        | false =>
          rw [hc] at hst
          simp only [w_move, w_assign, w_pick, w_binOp, w_not, w_aop, w_aopg, w_gdb, w_take, w_takeg, w_some, w_asome, w_anone, w_nil, w_cons, awp, binC, arithC, cmpC, asB, asI, asN, St.ev, St.step, setS, killS, AV.kill, AV.killL, Mem.kill, ACond_true, ACond_false, List.getD_cons_succ, List.getD_cons_zero, List.set_cons_succ, List.set_cons_zero, List.getElem?_cons_succ, List.getElem?_cons_zero, List.contains_nil, List.isEmpty_nil, Option.getD_some, Bool.false_eq_true, if_false, if_true, true_and, and_true, Bool.and_true, Bool.true_and, Bool.not_true, Bool.not_false, beq_self_eq_true, Nat.reduceAdd, Int.reduceAdd, Option.bind_some, ASch, St.put, Md.mem, Md.need, w_bf, ek2]
          exact ⟨by unfold lim; omega, k + 1, le_sl (by simp [leSl, hst]), .inr hkl, by omega⟩
        | true =>
          rw [hc] at hst
          simp only [w_move, w_load, w_indexAddr, w_binOp, w_not, w_callF, w_aopg, w_gdb, w_take, w_takeg, w_some, w_asome, w_anone, binC, idxC, arithC, cmpC, asP, asS, asB, asI, loadA, St.ev, setS, AV.cells, AV.flat, AV.single, ACond_true, List.getD_cons_succ, List.getD_cons_zero, List.set_cons_succ, List.set_cons_zero, List.getElem?_cons_succ, List.getElem?_cons_zero, List.length_cons, List.length_nil, Bool.false_eq_true, if_false, if_true, true_and, and_true, List.all_cons, List.all_nil, Bool.and_true, Bool.true_and, Bool.not_true, Nat.zero_add, beq_self_eq_true, List.map_cons, List.map_nil, decide_true, Nat.reduceAdd, Nat.reduceLeDiff, Int.reduceAdd, Option.bind_some, ASch, St.put, Md.mem, Md.need, ti22, ti24, ek, Int.toNat_natCast, aget_gts hk0, aget_gts hkl]
          refine ⟨by unfold lim; omega, by omega, by omega, acall_v (s44 c[k]) rfl rfl ?_⟩
          simp only [w_callF, w_aopg, w_gdb, w_some, St.ev, St.step, setS, killS, AV.kill, AV.killL, Mem.kill, ACond_true, List.getD_cons_succ, List.getD_cons_zero, List.set_cons_succ, List.set_cons_zero, List.getElem?_cons_succ, List.getElem?_cons_zero, List.isEmpty_nil, if_true, and_true, Bool.and_true, beq_self_eq_true, List.map_cons, List.map_nil, Option.bind_some, ASch, gA]
          refine acall_v (s44 c[k + 1]) rfl rfl ?_
          simp only [w_move, w_assign, w_pick, w_binOp, w_aop, w_gdb, w_take, w_takeg, w_some, w_asome, w_anone, w_nil, w_cons, awp, binC, arithC, cmpC, eqC, asG, asB, asI, asN, St.ev, St.step, setS, killS, AV.kill, AV.killL, Mem.kill, ACond_true, ACond_false, ints, List.getD_cons_succ, List.getD_cons_zero, List.set_cons_succ, List.set_cons_zero, List.getElem?_cons_succ, List.getElem?_cons_zero, List.length_cons, List.length_nil, List.contains_nil, List.isEmpty_nil, Option.getD_some, Bool.false_eq_true, if_false, if_true, true_and, and_true, Bool.and_true, Bool.true_and, Nat.zero_add, beq_self_eq_true, Nat.reduceAdd, Int.reduceAdd, Option.bind_some, ASch, St.put, Md.mem, Md.need, Option.map_some, ti24, gA, type_same, ek2]
          exact ⟨by unfold lim; omega, k + 1, le_sl (by simp [leSl, hst]), .inr hkl, by omega⟩
    · have hkl' : ¬ ((k + 1 : Nat) : Int) < (c.length : Int) := by omega
      have hke : k = c.length - 1 := by omega
      rw [hke, ← hone]
      rw [hke] at hkl'
      have hbb : (decide ((K : Int) = 1) == decide ((K : Int) = 1)) = true := by simp
      simp only [w_move, w_binOp, w_callF, w_aop, w_aopg, w_gdb, w_some, w_asome, w_anone, w_cons, awp, binC, cmpC, eqC, asB, asI, St.ev, St.step, setS, killS, AV.kill, AV.killL, Mem.kill, ACond_true, ACond_false, List.getD_cons_succ, List.getD_cons_zero, List.set_cons_succ, List.set_cons_zero, List.getElem?_cons_succ, List.getElem?_cons_zero, List.contains_nil, List.isEmpty_nil, if_true, true_and, Bool.true_and, beq_self_eq_true, List.map_nil, Nat.reduceAdd, Int.reduceAdd, Option.bind_some, ti4, decide_eq_false hkl']
      refine acall_v s32 rfl rfl ?_
      simp only [w_assign, w_pick, w_aop, w_some, w_anone, w_nil, w_cons, awp, asB, asN, St.ev, St.step, setS, killS, AV.kill, AV.killL, Mem.kill, ACond_true, List.getD_cons_succ, List.getD_cons_zero, List.set_cons_succ, List.set_cons_zero, List.contains_nil, List.isEmpty_nil, Option.getD_some, Bool.false_eq_true, if_false, if_true]
      exact aend_frz rfl ⟨rfl, rfl⟩
  · rw [if_neg hv] at h1 h2
    generalize vC n c = E at h1 h2 hv
    refine acall_v h1 rfl rfl ?_
    simp only [w_move, w_assign, w_extract, w_callF, w_aop, w_some, w_anone, w_nil, w_cons, awp, asT, asN, St.ev, St.step, setS, killS, AV.kill, AV.killL, Mem.kill, ACond_false, List.getD_cons_succ, List.getD_cons_zero, List.set_cons_succ, List.set_cons_zero, List.getElem?_cons_succ, List.getElem?_cons_zero, List.contains_nil, List.isEmpty_nil, Option.getD_some, Bool.false_eq_true, if_false, if_true, List.map_cons, List.map_nil, Nat.reduceAdd, Int.reduceAdd]
    refine acall_v h2 rfl rfl ?_
    simp only [w_move, w_assign, w_pick, w_binOp, w_extract, w_callF, w_aop, w_aopg, w_gdb, w_some, w_asome, w_anone, w_nil, w_cons, awp, binC, cmpC, asT, asB, asI, asN, St.ev, St.step, setS, killS, AV.kill, AV.killL, Mem.kill, ACond_true, ACond_false, List.getD_cons_succ, List.getD_cons_zero, List.set_cons_succ, List.set_cons_zero, List.getElem?_cons_succ, List.getElem?_cons_zero, List.contains_nil, List.isEmpty_nil, Option.getD_some, Bool.false_eq_true, if_false, if_true, true_and, Bool.true_and, Bool.not_true, Bool.not_false, beq_self_eq_true, List.map_nil, decide_true, Nat.reduceAdd, Int.reduceAdd, Option.bind_some, decide_eq_false hv]
    refine acall_v s32 rfl rfl ?_
    simp only [w_assign, w_aop, w_anone, w_nil, w_cons, awp, asN, St.ev, St.step, setS, killS, AV.kill, AV.killL, Mem.kill, List.getD_cons_succ, List.getD_cons_zero, List.set_cons_succ, List.set_cons_zero, List.contains_nil, List.isEmpty_nil, Option.getD_some, Bool.false_eq_true, if_false, if_true]
    exact aend_frz rfl ⟨rfl, rfl⟩
end Go.Proofs.Ytkmbbbemmohmcaa
