/-
  Several texts in one: FnY, FnAI, FnAJ.
-/
import Derived.Test.YtkolpijhgcijbaaMe
import Derived.Test.YtkolpijhgcijbaaMw
import Derived.Test.YtkolpijhgcijbaaMl
set_option linter.unusedSimpArgs false
set_option linter.unusedVariables false
namespace Go.Proofs.Ytkolpijhgcijbaa
open Aw Go.RowKit
set_option linter.unusedSimpArgs false

theorem swapL_comm {l : List Int} {i j : Nat} : swapL l i j = swapL l j i := by
  unfold swapL
  by_cases h : i = j
  · subst h; rfl
  · rw [List.set_comm _ _ h]
theorem swapL_same {l : List Int} {i : Nat} (hi : i < l.length) : swapL l i i = l := by
  apply List.ext_getElem?
  intro q
  simp only [swapL, List.set_set, List.getElem?_set, List.getD_eq_getElem?_getD]
  split
  · rename_i h; subst h; simp [hi]
  · rfl
theorem start_in (n : Int) (ls : List (Int × Int)) (l : List Int) : l ∈ pls (rch n ls l) := by
  obtain ⟨E, hE⟩ := rchI_mono n ls l 0 1297
  rw [Nat.zero_add] at hE
  rw [rch, hE]
  simp [pls, rchI, startN]
theorem canS_comm (n : Int) (ls : List (Int × Int)) (l : List Int) (i j : Int) : canS n ls l j i = canS n ls l i j := by
  unfold canS
  split
  · rfl
  · by_cases h : i < 0 ∨ l.length ≤ i ∨ j < 0 ∨ l.length ≤ j
    · rw [if_pos h, if_pos (by omega)]
    · rw [if_neg h, if_neg (by omega), swapL_comm]
theorem canS_same {n : Int} {ls : List (Int × Int)} {l : List Int} {i : Int} (h : (canS n ls l i i).2 = 0) : (canS n ls l i i).1 = true := by
  unfold canS at h ⊢
  split at h
  · rename_i hv; exact absurd h hv
  · rename_i hv
    rw [if_neg hv]
    split at h
    · exact absurd h (by decide)
    · rename_i hb
      rw [if_neg hb, swapL_same (by omega)]
      have hst := start_in n ls l
      generalize rch n ls l = R at hst ⊢
      simpa using hst

theorem ok20 : okFn Try.prog 20 = true := by kernel_rfl
theorem s20 (n : Int) (ls : List (Int × Int)) (l : List Int) (i j : Int) (hls : ls.length ≤ 1000000) (hl : l.length ≤ 1000000) : ASpec Try.prog 20 [trapA n ls, .s 1 (intsA l), I i, I j] (fun r Ms => r = .t [B (canS n ls l i j).1, I (canS n ls l i j).2] ∧ Ms = []) := by
  refine aspec_of (own := [36]) Try.func20 rfl ok20 ?_
  simp only [w_move, w_assign, w_box, w_load, w_callF, w_aop, w_some, w_asome, w_anone, w_nil, w_cons, awp, asP, asN, loadA, St.ev, St.step, setS, killS, AV.kill, AV.killL, Mem.kill, AV.cells, AV.flat, AV.single, AV.cellular, AV.pure, AV.pureL, ACond_false, List.getD_cons_succ, List.getD_cons_zero, List.set_cons_succ, List.set_cons_zero, List.getElem?_cons_zero, List.length_cons, List.length_nil, List.replicate_succ, List.replicate_zero, List.cons_append, List.nil_append, List.contains_nil, List.contains_cons, List.isEmpty_nil, Option.getD_some, Bool.false_eq_true, if_false, if_true, true_and, and_true, List.all_cons, List.all_nil, Bool.and_true, Bool.true_and, Bool.not_true, Nat.zero_add, Nat.add_zero, beq_self_eq_true, List.map_cons, List.map_nil, decide_true, nbeq, decide_false, Bool.or_false, Nat.reduceAdd, Nat.reduceEqDiff, Nat.reduceSub, Nat.reduceLeDiff, Int.reduceAdd, Int.reduceSub, ti24, Try.ntmps20, trapA]
  refine acall_v (s26 n ls l hls hl) rfl rfl ?_
  by_cases h : ¬ vTP n ls l = 0
  · simp only [w_move, w_assign, w_binOp, w_aop, w_some, w_asome, w_anone, w_nil, w_cons, awp, binC, cmpC, asB, asI, asN, St.ev, St.step, setS, killS, AV.kill, AV.killL, Mem.kill, ACond_true, ACond_false, List.getD_cons_succ, List.getD_cons_zero, List.set_cons_succ, List.set_cons_zero, List.contains_nil, List.contains_cons, List.isEmpty_nil, Option.getD_some, Bool.false_eq_true, if_false, if_true, true_and, Bool.true_and, Bool.not_false, nbeq, decide_false, Bool.or_false, Nat.reduceAdd, Nat.reduceEqDiff, Int.reduceAdd, decide_eq_true h, decide_eq_false h]
    exact aend_frz rfl ⟨by rw [canS, if_pos h]; rfl, rfl⟩
  have hv : vTP n ls l = 0 := Decidable.not_not.1 h
  obtain ⟨hp, h4, h6⟩ := vTP_ok hv
  simp only [w_move, w_assign, w_binOp, w_aop, w_aopg, w_gdb, w_some, w_asome, w_anone, w_nil, w_cons, awp, binC, cmpC, asB, asI, asN, St.ev, St.step, setS, killS, AV.kill, AV.killL, Mem.kill, ACond_false, List.getD_cons_succ, List.getD_cons_zero, List.set_cons_succ, List.set_cons_zero, List.getElem?_cons_succ, List.getElem?_cons_zero, List.contains_nil, List.contains_cons, List.isEmpty_nil, Option.getD_some, Bool.false_eq_true, if_false, if_true, true_and, Bool.true_and, Bool.not_true, nbeq, decide_false, Bool.or_false, Nat.reduceAdd, Nat.reduceEqDiff, Int.reduceAdd, Option.bind_some, w_bf, decide_eq_true hv]
  have bad : (i < 0 ∨ l.length ≤ i ∨ j < 0 ∨ l.length ≤ j) → canS n ls l i j = (false, 4) := fun hb => by rw [canS, if_neg h, if_pos hb]
  by_cases h1 : i < 0
  · simp only [w_move, w_assign, w_pick, w_aop, w_aopg, w_gdb, w_some, w_anone, w_nil, w_cons, awp, asB, asN, St.ev, St.step, setS, killS, AV.kill, AV.killL, Mem.kill, ACond_true, ACond_false, List.getD_cons_succ, List.getD_cons_zero, List.set_cons_succ, List.set_cons_zero, List.getElem?_cons_succ, List.getElem?_cons_zero, List.contains_nil, List.contains_cons, List.isEmpty_nil, Option.getD_some, Bool.false_eq_true, if_false, if_true, Bool.not_true, nbeq, decide_false, Bool.or_false, Nat.reduceAdd, Nat.reduceEqDiff, Int.reduceAdd, Option.bind_some, w_bf, decide_eq_true h1]
    exact aend_frz rfl ⟨by rw [bad (.inl h1)]; rfl, rfl⟩
  simp only [w_move, w_pick, w_binOp, w_len, w_aop, w_aopg, w_gdb, w_some, w_asome, w_cons, binC, cmpC, asB, asI, lenA, St.ev, St.step, setS, killS, AV.kill, AV.killL, Mem.kill, ACond_true, ACond_false, List.getD_cons_succ, List.getD_cons_zero, List.set_cons_succ, List.set_cons_zero, List.getElem?_cons_succ, List.getElem?_cons_zero, List.isEmpty_nil, if_true, true_and, Bool.true_and, Bool.not_false, Option.isSome_some, beq_self_eq_true, Option.bind_some, w_bf, ti25, decide_eq_false h1, intsA_len]
  by_cases h2 : (l.length : Int) ≤ i
  · simp only [w_move, w_assign, w_pick, w_aop, w_aopg, w_gdb, w_some, w_anone, w_nil, w_cons, awp, asB, asN, St.ev, St.step, setS, killS, AV.kill, AV.killL, Mem.kill, ACond_true, ACond_false, List.getD_cons_succ, List.getD_cons_zero, List.set_cons_succ, List.set_cons_zero, List.getElem?_cons_succ, List.getElem?_cons_zero, List.contains_nil, List.contains_cons, List.isEmpty_nil, Option.getD_some, Bool.false_eq_true, if_false, if_true, Bool.not_true, nbeq, decide_false, Bool.or_false, Nat.reduceAdd, Nat.reduceEqDiff, Int.reduceAdd, Option.bind_some, w_bf, decide_eq_true h2]
    exact aend_frz rfl ⟨by rw [bad (.inr (.inl h2))]; rfl, rfl⟩
  simp only [w_move, w_pick, w_binOp, w_aop, w_aopg, w_gdb, w_some, w_asome, w_cons, binC, cmpC, asB, asI, St.ev, St.step, setS, killS, AV.kill, AV.killL, Mem.kill, ACond_true, ACond_false, List.getD_cons_succ, List.getD_cons_zero, List.set_cons_succ, List.set_cons_zero, List.getElem?_cons_succ, List.getElem?_cons_zero, List.isEmpty_nil, if_true, true_and, Bool.true_and, Bool.not_false, beq_self_eq_true, Option.bind_some, w_bf, decide_eq_false h2]
  by_cases h3 : j < 0
  · simp only [w_assign, w_pick, w_aop, w_aopg, w_gdb, w_some, w_anone, w_nil, w_cons, awp, asB, asN, St.ev, St.step, setS, killS, AV.kill, AV.killL, Mem.kill, ACond_true, ACond_false, List.getD_cons_succ, List.getD_cons_zero, List.set_cons_succ, List.set_cons_zero, List.getElem?_cons_succ, List.getElem?_cons_zero, List.contains_nil, List.contains_cons, List.isEmpty_nil, Option.getD_some, Bool.false_eq_true, if_false, if_true, Bool.not_true, nbeq, decide_false, Bool.or_false, Nat.reduceAdd, Nat.reduceEqDiff, Int.reduceAdd, Option.bind_some, w_bf, decide_eq_true h3]
    exact aend_frz rfl ⟨by rw [bad (.inr (.inr (.inl h3)))]; rfl, rfl⟩
  simp only [w_move, w_pick, w_binOp, w_len, w_aop, w_aopg, w_gdb, w_some, w_asome, w_nil, w_cons, awp, binC, cmpC, asB, asI, lenA, St.ev, St.step, setS, killS, AV.kill, AV.killL, Mem.kill, ACond_true, ACond_false, List.getD_cons_succ, List.getD_cons_zero, List.set_cons_succ, List.set_cons_zero, List.getElem?_cons_succ, List.getElem?_cons_zero, List.isEmpty_nil, if_true, true_and, Bool.true_and, Bool.not_false, Option.isSome_some, beq_self_eq_true, Option.bind_some, ti25, decide_eq_false h3, intsA_len]
  by_cases h5 : (l.length : Int) ≤ j
  · simp only [w_assign, w_aop, w_anone, w_nil, w_cons, awp, asN, St.ev, St.step, setS, killS, AV.kill, AV.killL, Mem.kill, ACond_true, ACond_false, List.set_cons_succ, List.set_cons_zero, List.contains_nil, List.contains_cons, List.isEmpty_nil, Option.getD_some, Bool.false_eq_true, if_false, if_true, nbeq, decide_false, Bool.or_false, Nat.reduceAdd, Nat.reduceEqDiff, Int.reduceAdd, decide_eq_true h5]
    exact aend_frz rfl ⟨by rw [bad (.inr (.inr (.inr h5)))]; rfl, rfl⟩
  simp only [w_move, w_assign, w_indexAddr, w_buildSlice, w_append, w_aop, w_some, w_asome, w_anone, w_nil, w_cons, awp, idxC, asO, asS, asI, asN, obA, Aw.newRow, St.ev, St.step, setS, killS, AV.kill, AV.killL, Mem.kill, AV.cells, AV.flat, AV.single, AV.cellular, ACond_true, ACond_false, Value.oneCell', List.getD_cons_succ, List.getD_cons_zero, List.set_cons_succ, List.set_cons_zero, List.getElem?_cons_zero, List.length_nil, List.nil_append, List.contains_nil, List.contains_cons, List.isEmpty_nil, List.isEmpty_cons, Option.getD_some, Bool.false_eq_true, if_false, if_true, true_and, and_true, List.all_nil, Bool.and_true, Bool.true_and, Nat.zero_add, beq_self_eq_true, List.map_cons, List.map_nil, nbeq, decide_false, Bool.or_false, Nat.reduceAdd, Nat.reduceEqDiff, Nat.reduceMul, Nat.reduceLeDiff, Int.reduceAdd, Int.reduceMul, Option.map_some, ti3, ti25, decide_eq_false h5, intsA_len]
  refine ⟨⟨by decide, rfl⟩, ⟨by decide, by omega⟩, ?_⟩
  have hi : i.toNat < l.length := by omega
  have hj : j.toNat < l.length := by omega
  have hj2 : j.toNat < (l.set i.toNat l[j.toNat]).length := by simpa using hj
  have hl2 : (l.set i.toNat l[j.toNat]).length = l.length := by simp
  have hsw : (l.set i.toNat l[j.toNat]).set j.toNat l[i.toNat] = swapL l i.toNat j.toNat := by
    simp [swapL, hi, hj]
  simp only [w_move, w_load, w_store, w_indexAddr, w_aop, w_some, w_asome, w_anone, w_nil, w_cons, awp, idxC, asP, asQ, asO, asS, asI, obA, loadA, storeA, putsA, St.ev, St.step, setS, killS, AV.kill, AV.killL, Mem.kill, AV.cells, AV.flat, AV.single, AV.cellular, ACond_false, Value.oneCell', List.getD_cons_succ, List.getD_cons_zero, List.set_cons_succ, List.set_cons_zero, List.getElem?_cons_zero, List.length_cons, List.head?_cons, List.length_nil, List.contains_nil, List.contains_cons, List.isEmpty_nil, Bool.false_eq_true, if_false, if_true, true_and, and_true, List.all_cons, List.all_nil, Bool.and_true, Bool.true_and, Bool.not_true, Nat.zero_add, beq_self_eq_true, decide_true, nbeq, decide_false, Bool.or_false, Nat.reduceAdd, Nat.reduceEqDiff, Nat.reduceLeDiff, Int.reduceAdd, ti3, ti25, intsA_len, aget_ints hi, aget_ints hj, intsA_set, hl2]
  refine ⟨by omega, by omega, by omega, by omega, ?_⟩
  rw [aget_ints hj2]
  simp only [w_move, w_load, w_callF, w_aop, w_some, w_asome, w_nil, w_cons, awp, asP, loadA, storeA, putsA, St.ev, St.step, setS, killS, AV.kill, AV.killL, Mem.kill, AV.cells, AV.flat, AV.single, AV.cellular, ACond_false, Value.oneCell', List.getD_cons_succ, List.getD_cons_zero, List.set_cons_succ, List.set_cons_zero, List.getElem?_cons_zero, List.length_cons, List.head?_cons, List.length_nil, List.contains_nil, List.contains_cons, List.isEmpty_nil, Bool.false_eq_true, if_false, if_true, and_true, List.all_cons, List.all_nil, Bool.and_true, Bool.not_true, Nat.zero_add, beq_self_eq_true, List.map_cons, List.map_nil, decide_true, nbeq, decide_false, Bool.or_false, Nat.reduceAdd, Nat.reduceEqDiff, Nat.reduceLeDiff, Int.reduceAdd, ti24, intsA_set, hsw]
  have sr := s62 n ls l hls hv
  have hinv := rchI_inv (ls := ls) h6 hp 1297
  rw [show rchI n ls l 1297 = rch n ls l from rfl] at hinv
  have hc : canS n ls l i j = (decide (swapL l i.toNat j.toNat ∈ pls (rch n ls l)), 0) := by rw [canS, if_neg h, if_neg (by omega)]
  rw [hc]
  generalize rch n ls l = R at sr hinv ⊢
  refine acall_v sr (by simp [AV.pureL, AV.pure, intsA_pure, prsA_pure]) rfl ?_
  simp only [w_move, w_callF, w_aop, w_cons, St.ev, St.step, setS, killS, AV.kill, AV.killL, Mem.kill, List.getD_cons_succ, List.getD_cons_zero, List.set_cons_succ, List.set_cons_zero, List.contains_nil, List.isEmpty_nil, Bool.false_eq_true, if_false, if_true, List.map_cons, List.map_nil]
  have hq := swapL_ok hp hi hj
  have hq' : okPl n (swapL l i.toNat j.toNat).length (swapL l i.toNat j.toNat) := ⟨rfl, hq.2⟩
  refine acall_l (s63 n (swapL l i.toNat j.toNat) h6 (by rw [hq.1]; exact h4) hq') (by simp [frz, AV.sub, intsA_pure]) rfl rfl ?_
  have hix := numL_idx h6 hq
  have hixl : (numL (swapL l i.toNat j.toNat)).toNat < (tabN l.length R).length := by rw [tabN_len]; exact hix.2
  simp only [w_assign, w_load, w_indexAddr, w_binOp, w_aop, w_some, w_asome, w_anone, w_nil, w_cons, awp, binC, idxC, cmpC, asP, asS, asI, asN, loadA, St.ev, St.step, setS, killS, AV.kill, AV.killL, Mem.kill, AV.cells, AV.flat, AV.single, List.getD_cons_succ, List.getD_cons_zero, List.set_cons_succ, List.set_cons_zero, List.getElem?_cons_zero, List.contains_nil, List.contains_cons, List.isEmpty_nil, Option.getD_some, Bool.false_eq_true, if_false, if_true, true_and, and_true, List.all_cons, List.all_nil, Bool.and_true, Bool.true_and, Bool.not_true, nbeq, decide_false, Bool.or_false, Nat.reduceEqDiff, ti3, ti25, aget_ints hixl]
  refine ⟨hix.1, ?_⟩
  by_cases hx : swapL l i.toNat j.toNat ∈ pls R
  · obtain ⟨q, hq1, hqx⟩ := pls_mem hx
    have hv1 := tabN_in h6 hinv hq1 (j := (numL (swapL l i.toNat j.toNat)).toNat) (by rw [hqx]) hixl
    have hfj := hinv.far q hq1
    have hle := hinv.le h6 h4
    have hlt : (tabN l.length R)[(numL (swapL l i.toNat j.toNat)).toNat] < 1000000 := by rw [hv1]; omega
    simp only [decide_eq_true hlt]
    exact aend_frz rfl ⟨by rw [decide_eq_true hx]; rfl, rfl⟩
  · have hv1 := tabN_out h6 hinv hq hx hixl
    have hlt : ¬ (tabN l.length R)[(numL (swapL l i.toNat j.toNat)).toNat] < 1000000 := by rw [hv1]; omega
    simp only [decide_eq_false hlt]
    exact aend_frz rfl ⟨by rw [decide_eq_false hx]; rfl, rfl⟩

theorem ok3 : okFn Try.prog 3 = true := by kernel_rfl
theorem s3 (n : Int) (ls : List (Int × Int)) (l : List Int) (i j : Int) : ASpec Try.prog 3 [trapA n ls, .s 1 (intsA l), .g [I i, I j]] (fun r Ms => r = B true ∧ Ms = []) := by
  refine aspec_of (own := []) Try.func3 rfl ok3 ?_
  simp only [w_assign, w_box, w_load, w_callF, w_aop, w_some, w_asome, w_anone, w_nil, w_cons, awp, asP, asN, loadA, St.ev, St.step, setS, killS, AV.kill, AV.killL, Mem.kill, AV.cells, AV.flat, AV.single, AV.cellular, AV.pure, AV.pureL, ACond_false, List.getD_cons_succ, List.getD_cons_zero, List.set_cons_succ, List.set_cons_zero, List.getElem?_cons_zero, List.length_cons, List.length_nil, List.replicate_succ, List.replicate_zero, List.cons_append, List.nil_append, List.contains_nil, List.isEmpty_nil, Option.getD_some, Bool.false_eq_true, if_false, if_true, true_and, and_true, List.all_cons, List.all_nil, Bool.and_true, Bool.true_and, Bool.not_true, Nat.zero_add, Nat.add_zero, beq_self_eq_true, List.map_cons, List.map_nil, decide_true, Nat.reduceAdd, Nat.reduceSub, Nat.reduceLeDiff, Int.reduceAdd, Int.reduceSub, ti24, Try.ntmps3, trapA]
  have known : ∀ {M : Mem} {K : HK (AV → Mem → Prop)}, K.k (B true) M → ACall Try.prog 18 [] M (K := K) := fun h => acall_v s18 rfl rfl h
  refine acall_v (s16 n ls) rfl rfl ?_
  by_cases h1 : (60 : Int) < ls.length
  · simp only [w_move, w_pick, w_callF, w_aop, w_aopg, w_gdb, w_some, w_nil, w_cons, awp, asB, St.ev, St.step, setS, killS, AV.kill, AV.killL, Mem.kill, ACond_true, ACond_false, List.getD_cons_succ, List.getD_cons_zero, List.set_cons_succ, List.set_cons_zero, List.getElem?_cons_succ, List.getElem?_cons_zero, List.contains_nil, List.isEmpty_nil, if_true, Bool.not_true, List.map_nil, Nat.reduceAdd, Int.reduceAdd, Option.bind_some, w_bf, decide_eq_true h1]
    refine known ?_
    simp only [w_assign, w_aop, w_anone, w_nil, w_cons, awp, asN, St.ev, St.step, setS, killS, AV.kill, AV.killL, Mem.kill, List.getD_cons_succ, List.getD_cons_zero, List.set_cons_succ, List.set_cons_zero, List.contains_nil, List.isEmpty_nil, Option.getD_some, Bool.false_eq_true, if_false, if_true]
    exact aend_frz rfl ⟨rfl, rfl⟩
  simp only [w_move, w_callF, w_aop, w_aopg, w_gdb, w_some, w_cons, St.ev, St.step, setS, killS, AV.kill, AV.killL, Mem.kill, ACond_true, List.getD_cons_succ, List.getD_cons_zero, List.set_cons_succ, List.set_cons_zero, List.getElem?_cons_succ, List.getElem?_cons_zero, List.isEmpty_nil, if_true, beq_self_eq_true, List.map_cons, List.map_nil, Option.bind_some, decide_eq_false h1]
  refine acall_v (s17 l) rfl rfl ?_
  by_cases h2 : (40 : Int) < l.length
  · simp only [w_pick, w_callF, w_aop, w_some, w_nil, w_cons, awp, asB, St.ev, St.step, setS, killS, AV.kill, AV.killL, Mem.kill, ACond_true, ACond_false, List.getD_cons_succ, List.getD_cons_zero, List.set_cons_succ, List.set_cons_zero, List.contains_nil, List.isEmpty_nil, if_true, List.map_nil, Nat.reduceAdd, Int.reduceAdd, decide_eq_true h2]
    refine known ?_
    simp only [w_assign, w_aop, w_anone, w_nil, w_cons, awp, asN, St.ev, St.step, setS, killS, AV.kill, AV.killL, Mem.kill, List.getD_cons_succ, List.getD_cons_zero, List.set_cons_succ, List.set_cons_zero, List.contains_nil, List.isEmpty_nil, Option.getD_some, Bool.false_eq_true, if_false, if_true]
    exact aend_frz rfl ⟨rfl, rfl⟩
  simp only [w_move, w_pick, w_load, w_fieldAddr, w_callF, w_aop, w_some, w_asome, w_nil, w_cons, awp, asP, asB, loadA, St.ev, St.step, setS, killS, AV.kill, AV.killL, Mem.kill, AV.cells, AV.flat, AV.single, ACond_false, List.getD_cons_succ, List.getD_cons_zero, List.set_cons_succ, List.set_cons_zero, List.getElem?_cons_succ, List.getElem?_cons_zero, List.length_cons, List.length_nil, List.contains_nil, List.isEmpty_nil, Bool.false_eq_true, if_false, if_true, true_and, and_true, List.all_cons, List.all_nil, Bool.and_true, Bool.true_and, Bool.not_true, Nat.zero_add, Nat.add_zero, beq_self_eq_true, List.map_cons, List.map_nil, decide_true, nbeq, decide_false, Bool.and_false, Nat.reduceAdd, Nat.reduceEqDiff, Nat.reduceLeDiff, Int.reduceAdd, ne_eq, not_false_eq_true, ti3, ti24, ti27, decide_eq_false h2]
  have a1 := s19 n ls l i j (by omega) (by omega)
  have a2 := s20 n ls l i j (by omega) (by omega)
  have a3 := s19 n ls l j i (by omega) (by omega)
  rw [canS_comm] at a3
  have hsame : (canS n ls l i j).2 = 0 → i = j → (canS n ls l i j).1 = true := fun h e => by subst e; exact canS_same h
  generalize canS n ls l i j = q at *
  obtain ⟨b, e⟩ := q
  simp only at a1 a2 a3 hsame
  refine acall_v a1 rfl rfl ?_
  simp only [w_move, w_assign, w_load, w_fieldAddr, w_extract, w_callF, w_aop, w_some, w_asome, w_anone, w_nil, w_cons, awp, asP, asT, asN, loadA, St.ev, St.step, setS, killS, AV.kill, AV.killL, Mem.kill, AV.cells, AV.flat, AV.single, ACond_false, List.getD_cons_succ, List.getD_cons_zero, List.set_cons_succ, List.set_cons_zero, List.getElem?_cons_succ, List.getElem?_cons_zero, List.length_cons, List.length_nil, List.contains_nil, List.isEmpty_nil, Option.getD_some, Bool.false_eq_true, if_false, if_true, true_and, and_true, List.all_cons, List.all_nil, Bool.and_true, Bool.true_and, Bool.not_true, Nat.zero_add, Nat.add_zero, beq_self_eq_true, List.map_cons, List.map_nil, decide_true, nbeq, decide_false, Bool.and_false, Nat.reduceAdd, Nat.reduceEqDiff, Nat.reduceLeDiff, Int.reduceAdd, ne_eq, not_false_eq_true, ti3, ti24, ti27]
  refine acall_v a2 rfl rfl ?_
  simp only [w_move, w_assign, w_pick, w_load, w_fieldAddr, w_binOp, w_extract, w_callF, w_aop, w_aopg, w_gdb, w_some, w_asome, w_anone, w_nil, w_cons, awp, binC, cmpC, eqC, asP, asT, asB, asI, asN, loadA, St.ev, St.step, setS, killS, AV.kill, AV.killL, Mem.kill, AV.cells, AV.flat, AV.single, ACond_true, ACond_false, List.getD_cons_succ, List.getD_cons_zero, List.set_cons_succ, List.set_cons_zero, List.getElem?_cons_succ, List.getElem?_cons_zero, List.length_cons, List.length_nil, List.contains_nil, List.isEmpty_nil, Option.getD_some, Bool.false_eq_true, if_false, if_true, true_and, and_true, List.all_cons, List.all_nil, Bool.and_true, Bool.true_and, Bool.not_true, Nat.zero_add, Nat.add_zero, beq_self_eq_true, List.map_cons, List.map_nil, decide_true, nbeq, decide_false, Bool.and_false, Nat.reduceAdd, Nat.reduceEqDiff, Nat.reduceLeDiff, Int.reduceAdd, Option.bind_some, ne_eq, not_false_eq_true, ti3, ti4, ti24, ti27]
  refine acall_v a3 rfl rfl ?_
  simp only [w_move, w_assign, w_pick, w_binOp, w_extract, w_aop, w_aopg, w_gdb, w_some, w_asome, w_anone, w_nil, w_cons, awp, binC, cmpC, eqC, asT, asB, asI, asN, St.ev, St.step, setS, killS, AV.kill, AV.killL, Mem.kill, ACond_true, ACond_false, List.getD_cons_succ, List.getD_cons_zero, List.set_cons_succ, List.set_cons_zero, List.getElem?_cons_succ, List.getElem?_cons_zero, List.contains_nil, List.isEmpty_nil, Option.getD_some, Bool.false_eq_true, if_false, if_true, true_and, Bool.true_and, beq_self_eq_true, decide_true, Nat.reduceAdd, Int.reduceAdd, Option.bind_some, w_bf, ti4]
  by_cases he : e = 0
  · simp only [w_move, w_pick, w_load, w_fieldAddr, w_binOp, w_aopg, w_gdb, w_some, w_asome, w_cons, binC, cmpC, asP, asB, asI, loadA, St.ev, St.step, setS, killS, AV.kill, AV.killL, Mem.kill, AV.cells, AV.flat, AV.single, ACond_true, ACond_false, List.getD_cons_succ, List.getD_cons_zero, List.set_cons_succ, List.set_cons_zero, List.getElem?_cons_succ, List.getElem?_cons_zero, List.length_cons, List.length_nil, List.isEmpty_nil, Bool.false_eq_true, if_false, if_true, true_and, and_true, List.all_cons, List.all_nil, Bool.and_true, Bool.true_and, Bool.not_true, Bool.not_false, Nat.zero_add, Nat.add_zero, beq_self_eq_true, decide_true, nbeq, decide_false, Bool.and_false, Nat.reduceAdd, Nat.reduceEqDiff, Nat.reduceLeDiff, Int.reduceAdd, Option.bind_some, ne_eq, not_false_eq_true, w_bf, ti3, ti27, decide_eq_true he]
    by_cases hij : i = j
    · have hb := hsame he hij
      subst hb
      simp only [w_move, w_pick, w_callF, w_aop, w_aopg, w_gdb, w_some, w_cons, asB, St.ev, St.step, setS, killS, AV.kill, AV.killL, Mem.kill, ACond_true, ACond_false, List.getD_cons_succ, List.getD_cons_zero, List.set_cons_succ, List.set_cons_zero, List.getElem?_cons_succ, List.getElem?_cons_zero, List.isEmpty_nil, if_true, Bool.not_true, Bool.not_false, beq_self_eq_true, List.map_nil, Option.bind_some, decide_eq_true hij]
      refine known ?_
      simp only [w_assign, w_pick, w_aop, w_some, w_anone, w_nil, w_cons, awp, asB, asN, St.ev, St.step, setS, killS, AV.kill, AV.killL, Mem.kill, ACond_true, List.getD_cons_succ, List.getD_cons_zero, List.set_cons_succ, List.set_cons_zero, List.contains_nil, List.isEmpty_nil, Option.getD_some, Bool.false_eq_true, if_false, if_true]
      exact aend_frz rfl ⟨rfl, rfl⟩
    · simp only [w_move, w_pick, w_callF, w_aop, w_aopg, w_gdb, w_some, w_cons, asB, St.ev, St.step, setS, killS, AV.kill, AV.killL, Mem.kill, ACond_true, ACond_false, List.getD_cons_succ, List.getD_cons_zero, List.set_cons_succ, List.set_cons_zero, List.getElem?_cons_succ, List.getElem?_cons_zero, List.isEmpty_nil, if_true, Bool.not_true, Bool.not_false, beq_self_eq_true, List.map_nil, Option.bind_some, decide_eq_false hij]
      refine known ?_
      simp only [w_assign, w_pick, w_aop, w_some, w_anone, w_nil, w_cons, awp, asB, asN, St.ev, St.step, setS, killS, AV.kill, AV.killL, Mem.kill, ACond_true, List.getD_cons_succ, List.getD_cons_zero, List.set_cons_succ, List.set_cons_zero, List.contains_nil, List.isEmpty_nil, Option.getD_some, Bool.false_eq_true, if_false, if_true]
      exact aend_frz rfl ⟨rfl, rfl⟩
  · simp only [w_move, w_pick, w_callF, w_aop, w_aopg, w_gdb, w_some, w_cons, asB, St.ev, St.step, setS, killS, AV.kill, AV.killL, Mem.kill, ACond_true, ACond_false, List.getD_cons_succ, List.getD_cons_zero, List.set_cons_succ, List.set_cons_zero, List.getElem?_cons_succ, List.getElem?_cons_zero, List.isEmpty_nil, if_true, Bool.not_true, Bool.not_false, beq_self_eq_true, List.map_nil, Option.bind_some, w_bf, decide_eq_false he]
    refine known ?_
    simp only [w_assign, w_pick, w_aop, w_some, w_anone, w_nil, w_cons, awp, asB, asN, St.ev, St.step, setS, killS, AV.kill, AV.killL, Mem.kill, ACond_true, List.getD_cons_succ, List.getD_cons_zero, List.set_cons_succ, List.set_cons_zero, List.contains_nil, List.isEmpty_nil, Option.getD_some, Bool.false_eq_true, if_false, if_true]
    exact aend_frz rfl ⟨rfl, rfl⟩
end Go.Proofs.Ytkolpijhgcijbaa

namespace Go.Proofs.Ytkolpijhgcijbaa
open Aw Go.RowKit
set_option linter.unusedSimpArgs false

/-- the greatest one, at least 0. -/
def mxL (l : List Int) : Int := l.foldl max 0
theorem mxL_eq {l : List Int} {i : Int} (h0 : 0 ≤ i) (h1 : ∀ x ∈ l, x ≤ i) (h2 : i = 0 ∨ i ∈ l) : mxL l = i := by
  have key : ∀ (l : List Int) (a : Int), (∀ x ∈ l, x ≤ l.foldl max a) ∧ a ≤ l.foldl max a ∧ (l.foldl max a = a ∨ l.foldl max a ∈ l) := by
    intro l
    induction l with
    | nil => intro a; simp
    | cons x l ih =>
      intro a
      obtain ⟨g1, g2, g3⟩ := ih (max a x)
      simp only [List.foldl_cons]
      refine ⟨fun y hy => ?_, by omega, ?_⟩
      · rcases List.mem_cons.1 hy with rfl | hy
        · omega
        · exact g1 y hy
      · rcases g3 with g3 | g3
        · rw [g3]
          rcases Int.le_total a x with h | h
          · right; rw [Int.max_eq_right h]; simp
          · left; exact Int.max_eq_left h
        · right; exact List.mem_cons_of_mem _ g3
  obtain ⟨k1, k2, k3⟩ := key l 0
  show l.foldl max 0 = i
  have e1 : l.foldl max 0 ≤ i := by
    rcases k3 with k3 | k3
    · omega
    · exact h1 _ k3
  have e2 : i ≤ l.foldl max 0 := by
    rcases h2 with h2 | h2
    · omega
    · exact k1 _ h2
  omega

/-- how many are below the bound, and the greatest one of them. -/
def cntT (t : List Int) : Nat := t.countP fun x => decide (x < 1000000)
def mxT (t : List Int) : Int := mxL (t.filter fun x => decide (x < 1000000))
theorem cntT_succ {t : List Int} {i : Nat} (h : i < t.length) : cntT (t.take (i + 1)) = cntT (t.take i) + (if t[i] < 1000000 then 1 else 0) := by
  rw [cntT, ← List.take_append_getElem h, List.countP_append]
  simp [cntT, List.countP_cons]
theorem cntT_le (t : List Int) (i : Nat) : cntT (t.take i) ≤ i := Nat.le_trans List.countP_le_length (by simp; omega)
theorem mxL_snoc (l : List Int) (x : Int) : mxL (l ++ [x]) = max (mxL l) x := by simp [mxL]
theorem mxT_succ {t : List Int} {i : Nat} (h : i < t.length) : mxT (t.take (i + 1)) = if t[i] < 1000000 then max (mxT (t.take i)) t[i] else mxT (t.take i) := by
  rw [mxT, ← List.take_append_getElem h, List.filter_append]
  by_cases hx : t[i] < 1000000
  · rw [if_pos hx]
    simp only [List.filter_cons, decide_eq_true hx, if_true, List.filter_nil]
    exact mxL_snoc _ _
  · rw [if_neg hx]
    simp only [List.filter_cons, decide_eq_false hx, Bool.false_eq_true, if_false, List.filter_nil, List.append_nil]
    rfl

theorem InvN.front {n : Int} {k : Nat} {L E : List Nd} (h : InvN n k (L ++ E)) : InvN n k L := by
  refine ⟨fun x hx => h.pl x (by simp [hx]), fun x hx => h.fr x (by simp [hx]), fun x hx => h.far0 x (by simp [hx]), fun i hi => ?_, ?_⟩
  · have := h.far i (by simp; omega)
    rwa [List.getElem_append_left hi] at this
  · have := h.nd
    simp only [pls, List.map_append] at this
    exact (List.nodup_append.1 this).1

theorem cnt_tab {n : Int} (hn : n ≤ 6) {k : Nat} (hk : k ≤ 4) {R : List Nd} (h : InvN n k R) : cntT (tabN k R) = R.length := by
  have hle := h.le hn hk
  have key : ∀ m, m ≤ R.length → cntT (tabN k (R.take m)) = m := by
    intro m
    induction m with
    | zero =>
      intro _
      simp only [List.take_zero]
      show cntT (List.replicate (6 ^ k) 1000000) = 0
      rw [cntT, List.countP_eq_zero]
      intro x hx
      rw [List.mem_replicate] at hx
      rw [hx.2]; decide
    | succ m ih =>
      intro hm
      have ih := ih (by omega)
      have hlt : m < R.length := by omega
      have hinv : InvN n k (R.take m ++ [R[m]]) := by
        rw [List.take_append_getElem hlt]
        exact InvN.front (E := R.drop (m + 1)) (by rw [List.take_append_drop]; exact h)
      have hpl := h.pl R[m] (List.getElem_mem hlt)
      have hno : R[m].pl ∉ pls (R.take m) := by
        have := hinv.nd
        simp only [pls, List.map_append, List.map_cons, List.map_nil] at this
        intro hc
        exact (List.nodup_append.1 this).2.2 _ hc _ (by simp) rfl
      have hix := numL_idx hn hpl
      have hlen : (numL R[m].pl).toNat < (tabN k (R.take m)).length := by rw [tabN_len]; exact hix.2
      have hout := tabN_out hn hinv.front hpl hno hlen
      have hfar := h.far m hlt
      rw [← List.take_append_getElem hlt, tabN_snoc, cntT, List.countP_set hlen, hout]
      rw [cntT] at ih
      rw [ih, decide_eq_true (show R[m].far < 1000000 by omega)]
      simp
  have := key R.length (Nat.le_refl _)
  rwa [List.take_length] at this

theorem mem_tab {x : Int} : ∀ (L : List Nd) (t : List Int), x ∈ L.foldl (fun t x => t.set (numL x.pl).toNat x.far) t → x ∈ t ∨ ∃ y ∈ L, y.far = x
  | [], t, h => .inl h
  | y :: L, t, h => by
    rw [List.foldl_cons] at h
    rcases mem_tab L _ h with h | ⟨z, hz, e⟩
    · rcases List.mem_or_eq_of_mem_set h with h | h
      · exact .inl h
      · exact .inr ⟨y, by simp, h.symm⟩
    · exact .inr ⟨z, by simp [hz], e⟩

theorem mx_tab {n : Int} (hn : n ≤ 6) {k : Nat} (hk : k ≤ 4) {R : List Nd} (h : InvN n k R) {i : Int} (h0 : 0 ≤ i) (h1 : ∀ x ∈ R, x.far ≤ i) (h2 : i = 0 ∨ ∃ x ∈ R, x.far = i) : mxT (tabN k R) = i := by
  have hle := h.le hn hk
  refine mxL_eq h0 (fun x hx => ?_) ?_
  · simp only [List.mem_filter, decide_eq_true_eq] at hx
    rcases mem_tab R _ hx.1 with h' | ⟨y, hy, rfl⟩
    · rw [List.mem_replicate] at h'
      omega
    · exact h1 y hy
  · rcases h2 with h2 | ⟨x, hx, rfl⟩
    · exact .inl h2
    · right
      simp only [List.mem_filter, decide_eq_true_eq]
      obtain ⟨q, hq, rfl⟩ := List.mem_iff_getElem.1 hx
      have := h.far q hq
      refine ⟨?_, by omega⟩
      have hix := numL_idx hn (h.pl R[q] (List.getElem_mem hq))
      have hlen : (numL R[q].pl).toNat < (tabN k R).length := by rw [tabN_len]; exact hix.2
      rw [← tabN_in hn h hq rfl hlen]
      exact List.getElem_mem hlen

/-- the greatest distance. -/
def mxR (R : List Nd) : Int := mxL (R.map Nd.far)
theorem mxR_spec {n : Int} {k : Nat} {R : List Nd} (h : InvN n k R) : 0 ≤ mxR R ∧ (∀ x ∈ R, x.far ≤ mxR R) ∧ (mxR R = 0 ∨ ∃ x ∈ R, x.far = mxR R) := by
  have ex : ∀ R : List Nd, ∃ i, 0 ≤ i ∧ (∀ x ∈ R, x.far ≤ i) ∧ (i = 0 ∨ ∃ x ∈ R, x.far = i) := by
    intro R
    induction R with
    | nil => exact ⟨0, by simp⟩
    | cons y R ih =>
      obtain ⟨i, g1, g2, g3⟩ := ih
      rcases Int.le_total y.far i with hy | hy
      · refine ⟨i, g1, fun x hx => ?_, ?_⟩
        · rcases List.mem_cons.1 hx with rfl | hx
          · exact hy
          · exact g2 x hx
        · rcases g3 with g3 | ⟨x, hx, e⟩
          · exact .inl g3
          · exact .inr ⟨x, by simp [hx], e⟩
      · refine ⟨y.far, by omega, fun x hx => ?_, .inr ⟨y, by simp, rfl⟩⟩
        rcases List.mem_cons.1 hx with rfl | hx
        · exact Int.le_refl _
        · have := g2 x hx; omega
  obtain ⟨i, g1, g2, g3⟩ := ex R
  have e : mxR R = i := mxL_eq g1 (fun x hx => by
    obtain ⟨y, hy, rfl⟩ := List.mem_map.1 hx
    exact g2 y hy) (by
    rcases g3 with g3 | ⟨x, hx, e⟩
    · exact .inl g3
    · exact .inr (List.mem_map.2 ⟨x, hx, e⟩))
  rw [e]; exact ⟨g1, g2, g3⟩

def farthA (n : Int) (ls : List (Int × Int)) (l : List Int) : AV := if vTP n ls l ≠ 0 then .t [I 0, I (vTP n ls l)] else .t [I (mxR (rch n ls l)), I 0]

theorem ok43 : okFn Try.prog 43 = true := by kernel_rfl
theorem s43 (n : Int) (ls : List (Int × Int)) (l : List Int) (hls : ls.length ≤ 1000000) (hl : l.length ≤ 1000000) : ASpec Try.prog 43 [trapA n ls, .s 1 (intsA l)] (fun r Ms => r = (if vTP n ls l ≠ 0 then AV.t [I 0, I (vTP n ls l)] else .t [I (rch n ls l).length, I 0]) ∧ Ms = []) := by
  refine aspec_of (own := []) Try.func43 rfl ok43 ?_
  simp only [w_move, w_assign, w_box, w_load, w_callF, w_aop, w_some, w_asome, w_anone, w_nil, w_cons, awp, asP, asN, loadA, St.ev, St.step, setS, killS, AV.kill, AV.killL, Mem.kill, AV.cells, AV.flat, AV.single, AV.cellular, AV.pure, AV.pureL, ACond_false, List.getD_cons_succ, List.getD_cons_zero, List.set_cons_succ, List.set_cons_zero, List.getElem?_cons_zero, List.length_cons, List.length_nil, List.replicate_succ, List.replicate_zero, List.cons_append, List.nil_append, List.contains_nil, List.isEmpty_nil, Option.getD_some, Bool.false_eq_true, if_false, if_true, true_and, and_true, List.all_cons, List.all_nil, Bool.and_true, Bool.true_and, Bool.not_true, Nat.zero_add, Nat.add_zero, beq_self_eq_true, List.map_cons, List.map_nil, decide_true, Nat.reduceAdd, Nat.reduceSub, Nat.reduceLeDiff, Int.reduceAdd, Int.reduceSub, ti24, Try.ntmps43, trapA]
  refine acall_v (s26 n ls l hls hl) rfl rfl ?_
  by_cases hv : vTP n ls l = 0
  case neg =>
    simp only [w_move, w_assign, w_binOp, w_aop, w_some, w_asome, w_anone, w_nil, w_cons, awp, binC, cmpC, asB, asI, asN, St.ev, St.step, setS, killS, AV.kill, AV.killL, Mem.kill, ACond_true, ACond_false, List.getD_cons_succ, List.getD_cons_zero, List.set_cons_succ, List.set_cons_zero, List.contains_nil, List.isEmpty_nil, Option.getD_some, Bool.false_eq_true, if_false, if_true, true_and, Bool.true_and, Bool.not_false, Nat.reduceAdd, Int.reduceAdd, ne_eq, decide_eq_false hv]
    exact aend_frz rfl ⟨by rw [if_pos hv]; rfl, rfl⟩
  simp only [w_move, w_assign, w_load, w_binOp, w_callF, w_aop, w_some, w_asome, w_anone, w_nil, w_cons, awp, binC, cmpC, asP, asB, asI, asN, loadA, St.ev, St.step, setS, killS, AV.kill, AV.killL, Mem.kill, AV.cells, AV.flat, AV.single, ACond_false, List.getD_cons_succ, List.getD_cons_zero, List.set_cons_succ, List.set_cons_zero, List.getElem?_cons_zero, List.length_cons, List.length_nil, List.contains_nil, List.isEmpty_nil, Option.getD_some, Bool.false_eq_true, if_false, if_true, true_and, and_true, List.all_cons, List.all_nil, Bool.and_true, Bool.true_and, Bool.not_true, Nat.zero_add, beq_self_eq_true, List.map_cons, List.map_nil, decide_true, Nat.reduceAdd, Nat.reduceLeDiff, Int.reduceAdd, ti24, decide_eq_true hv]
  obtain ⟨hp, h4, h6⟩ := vTP_ok hv
  have sd := s62 n ls l hls hv
  have hc := cnt_tab h6 h4 (rch_inv (ls := ls) h6 hp)
  have hpl := pow_le h4
  have hlen : (tabN l.length (rch n ls l)).length ≤ 1296 := by
    rw [tabN_len]
    have : ((6 ^ l.length : Nat) : Int) = (6 : Int) ^ l.length := by simp
    omega
  rw [if_neg (by simpa using hv)]
  generalize rch n ls l = R at *
  generalize tabN l.length R = T at *
  refine acall_v sd rfl rfl ?_
  simp only [w_assign, w_aop, w_anone, w_nil, w_cons, awp, asN, St.ev, St.step, setS, killS, AV.kill, AV.killL, Mem.kill, ACond_false, List.getD_cons_succ, List.getD_cons_zero, List.set_cons_succ, List.set_cons_zero, List.contains_nil, List.isEmpty_nil, Option.getD_some, Bool.false_eq_true, if_false, if_true, Nat.reduceAdd, Int.reduceAdd]
  refine swp_loop' (fun i : Nat => ⟨[.bot, .bot, .bot, .bot, .bot, .bot, .bot, .s 1 (intsA T), I (cntT (T.take i)), I i, .bot, .bot, .bot, .bot, .bot, .bot, .bot, .bot, .bot, .bot, .bot, .bot, .bot, .bot, .bot, .bot, .bot, .bot, .bot, .bot, .bot, .bot, .bot], []⟩) (fun i => i ≤ T.length) (fun i => T.length - i) 0 (le_sl (by simp [leSl, cntT])) (Nat.zero_le _) ?_
  intro i hi
  refine awp_sound (own := []) _ _ _ _ _ ?_
  simp only [w_move, w_binOp, w_len, w_aop, w_some, w_asome, w_nil, w_cons, awp, binC, cmpC, asB, asI, lenA, St.ev, St.step, setS, killS, AV.kill, AV.killL, Mem.kill, ACond_false, List.getD_cons_succ, List.getD_cons_zero, List.set_cons_succ, List.set_cons_zero, List.contains_nil, List.isEmpty_nil, if_true, true_and, Bool.true_and, Option.isSome_some, Nat.reduceAdd, Int.reduceAdd, ti25, intsA_len]
  have hcl := cntT_le T i
  by_cases h : i < T.length
  · have h' : (i : Int) < (T.length : Int) := by omega
    have hs := cntT_succ h
    simp only [w_move, w_load, w_indexAddr, w_binOp, w_aop, w_some, w_asome, w_nil, w_cons, awp, binC, idxC, cmpC, asP, asS, asB, asI, loadA, St.ev, St.step, setS, killS, AV.kill, AV.killL, Mem.kill, AV.cells, AV.flat, AV.single, ACond_true, ACond_false, List.getD_cons_succ, List.getD_cons_zero, List.set_cons_succ, List.set_cons_zero, List.getElem?_cons_zero, List.contains_nil, List.isEmpty_nil, Bool.false_eq_true, if_false, if_true, true_and, and_true, List.all_cons, List.all_nil, Bool.and_true, Bool.true_and, Bool.not_true, Nat.reduceAdd, Int.reduceAdd, ti3, ti25, decide_eq_true h', aget_ints h, Int.toNat_natCast]
    refine ⟨by omega, ?_⟩
    by_cases hx : T[i] < 1000000
    · rw [if_pos hx] at hs
      simp only [w_move, w_assign, w_binOp, w_aop, w_some, w_asome, w_anone, w_nil, w_cons, awp, binC, arithC, cmpC, asI, asN, St.ev, St.step, setS, killS, AV.kill, AV.killL, Mem.kill, ACond_true, ACond_false, List.getD_cons_succ, List.getD_cons_zero, List.set_cons_succ, List.set_cons_zero, List.contains_nil, List.isEmpty_nil, Option.getD_some, Bool.false_eq_true, if_false, if_true, true_and, and_true, Bool.and_true, Bool.true_and, Nat.reduceAdd, Int.reduceAdd, decide_eq_true hx]
      exact ⟨by unfold lim; omega, by unfold lim; omega, i + 1, le_sl (by simp [leSl, hs]), by omega, by omega⟩
    · rw [if_neg hx] at hs
      simp only [w_move, w_assign, w_binOp, w_aop, w_some, w_asome, w_anone, w_nil, w_cons, awp, binC, arithC, cmpC, asI, asN, St.ev, St.step, setS, killS, AV.kill, AV.killL, Mem.kill, ACond_false, List.getD_cons_succ, List.getD_cons_zero, List.set_cons_succ, List.set_cons_zero, List.contains_nil, List.isEmpty_nil, Option.getD_some, Bool.false_eq_true, if_false, if_true, true_and, and_true, Bool.and_true, Bool.true_and, Nat.reduceAdd, Int.reduceAdd, decide_eq_false hx]
      exact ⟨by unfold lim; omega, i + 1, le_sl (by simp [leSl, hs]), by omega, by omega⟩
  · have h' : ¬ (i : Int) < (T.length : Int) := by omega
    simp only [w_move, w_assign, w_aop, w_anone, w_nil, w_cons, awp, asN, St.ev, St.step, setS, killS, AV.kill, AV.killL, Mem.kill, ACond_false, List.getD_cons_succ, List.getD_cons_zero, List.set_cons_succ, List.set_cons_zero, List.contains_nil, List.isEmpty_nil, Option.getD_some, Bool.false_eq_true, if_false, if_true, Nat.reduceAdd, Int.reduceAdd, decide_eq_false h']
    rw [List.take_of_length_le (by omega), hc]
    exact aend_frz rfl ⟨rfl, rfl⟩

theorem ok45 : okFn Try.prog 45 = true := by kernel_rfl
theorem s45 (n : Int) (ls : List (Int × Int)) (l : List Int) (hls : ls.length ≤ 1000000) (hl : l.length ≤ 1000000) : ASpec Try.prog 45 [trapA n ls, .s 1 (intsA l)] (fun r Ms => r = farthA n ls l ∧ Ms = []) := by
  refine aspec_of (own := []) Try.func45 rfl ok45 ?_
  simp only [w_move, w_assign, w_box, w_load, w_callF, w_aop, w_some, w_asome, w_anone, w_nil, w_cons, awp, asP, asN, loadA, St.ev, St.step, setS, killS, AV.kill, AV.killL, Mem.kill, AV.cells, AV.flat, AV.single, AV.cellular, AV.pure, AV.pureL, ACond_false, List.getD_cons_succ, List.getD_cons_zero, List.set_cons_succ, List.set_cons_zero, List.getElem?_cons_zero, List.length_cons, List.length_nil, List.replicate_succ, List.replicate_zero, List.cons_append, List.nil_append, List.contains_nil, List.isEmpty_nil, Option.getD_some, Bool.false_eq_true, if_false, if_true, true_and, and_true, List.all_cons, List.all_nil, Bool.and_true, Bool.true_and, Bool.not_true, Nat.zero_add, Nat.add_zero, beq_self_eq_true, List.map_cons, List.map_nil, decide_true, Nat.reduceAdd, Nat.reduceSub, Nat.reduceLeDiff, Int.reduceAdd, Int.reduceSub, ti24, Try.ntmps45, trapA]
  refine acall_v (s26 n ls l hls hl) rfl rfl ?_
  by_cases hv : vTP n ls l = 0
  case neg =>
    simp only [w_move, w_assign, w_binOp, w_aop, w_some, w_asome, w_anone, w_nil, w_cons, awp, binC, cmpC, asB, asI, asN, St.ev, St.step, setS, killS, AV.kill, AV.killL, Mem.kill, ACond_true, ACond_false, List.getD_cons_succ, List.getD_cons_zero, List.set_cons_succ, List.set_cons_zero, List.contains_nil, List.isEmpty_nil, Option.getD_some, Bool.false_eq_true, if_false, if_true, true_and, Bool.true_and, Bool.not_false, Nat.reduceAdd, Int.reduceAdd, decide_eq_false hv]
    exact aend_frz rfl ⟨by rw [farthA, if_pos hv]; rfl, rfl⟩
  simp only [w_move, w_assign, w_load, w_binOp, w_callF, w_aop, w_some, w_asome, w_anone, w_nil, w_cons, awp, binC, cmpC, asP, asB, asI, asN, loadA, St.ev, St.step, setS, killS, AV.kill, AV.killL, Mem.kill, AV.cells, AV.flat, AV.single, ACond_false, List.getD_cons_succ, List.getD_cons_zero, List.set_cons_succ, List.set_cons_zero, List.getElem?_cons_zero, List.length_cons, List.length_nil, List.contains_nil, List.isEmpty_nil, Option.getD_some, Bool.false_eq_true, if_false, if_true, true_and, and_true, List.all_cons, List.all_nil, Bool.and_true, Bool.true_and, Bool.not_true, Nat.zero_add, beq_self_eq_true, List.map_cons, List.map_nil, decide_true, Nat.reduceAdd, Nat.reduceLeDiff, Int.reduceAdd, ti24, decide_eq_true hv]
  obtain ⟨hp, h4, h6⟩ := vTP_ok hv
  have sd := s62 n ls l hls hv
  have hinv := rch_inv (ls := ls) h6 hp
  obtain ⟨m1, m2, m3⟩ := mxR_spec hinv
  have hc := mx_tab h6 h4 hinv m1 m2 m3
  have hpl := pow_le h4
  have hlen : (tabN l.length (rch n ls l)).length ≤ 1296 := by
    rw [tabN_len]
    have : ((6 ^ l.length : Nat) : Int) = (6 : Int) ^ l.length := by simp
    omega
  rw [farthA, if_neg (by simpa using hv)]
  generalize rch n ls l = R at *
  generalize tabN l.length R = T at *
  refine acall_v sd rfl rfl ?_
  simp only [w_assign, w_aop, w_anone, w_nil, w_cons, awp, asN, St.ev, St.step, setS, killS, AV.kill, AV.killL, Mem.kill, ACond_false, List.getD_cons_succ, List.getD_cons_zero, List.set_cons_succ, List.set_cons_zero, List.contains_nil, List.isEmpty_nil, Option.getD_some, Bool.false_eq_true, if_false, if_true, Nat.reduceAdd, Int.reduceAdd]
  refine swp_loop' (fun i : Nat => ⟨[.bot, .bot, .bot, .bot, .bot, .bot, .bot, .s 1 (intsA T), I (mxT (T.take i)), I i, .bot, .bot, .bot, .bot, .bot, .bot, .bot, .bot, .bot, .bot, .bot, .bot, .bot, .bot, .bot, .bot, .bot, .bot, .bot, .bot, .bot, .bot, .bot, .bot, .bot, .bot, .bot], []⟩) (fun i => i ≤ T.length) (fun i => T.length - i) 0 (le_sl (by simp [leSl, mxT, mxL])) (Nat.zero_le _) ?_
  intro i hi
  refine awp_sound (own := []) _ _ _ _ _ ?_
  simp only [w_move, w_binOp, w_len, w_aop, w_some, w_asome, w_nil, w_cons, awp, binC, cmpC, asB, asI, lenA, St.ev, St.step, setS, killS, AV.kill, AV.killL, Mem.kill, ACond_false, List.getD_cons_succ, List.getD_cons_zero, List.set_cons_succ, List.set_cons_zero, List.contains_nil, List.isEmpty_nil, if_true, true_and, Bool.true_and, Option.isSome_some, Nat.reduceAdd, Int.reduceAdd, ti25, intsA_len]
  by_cases h : i < T.length
  · have h' : (i : Int) < (T.length : Int) := by omega
    have hs := mxT_succ h
    simp only [w_move, w_load, w_indexAddr, w_binOp, w_aop, w_some, w_asome, w_nil, w_cons, awp, binC, idxC, cmpC, asP, asS, asB, asI, loadA, St.ev, St.step, setS, killS, AV.kill, AV.killL, Mem.kill, AV.cells, AV.flat, AV.single, ACond_true, ACond_false, List.getD_cons_succ, List.getD_cons_zero, List.set_cons_succ, List.set_cons_zero, List.getElem?_cons_zero, List.contains_nil, List.isEmpty_nil, Bool.false_eq_true, if_false, if_true, true_and, and_true, List.all_cons, List.all_nil, Bool.and_true, Bool.true_and, Bool.not_true, Nat.reduceAdd, Int.reduceAdd, ti3, ti25, decide_eq_true h', aget_ints h, Int.toNat_natCast]
    refine ⟨by omega, ?_⟩
    by_cases hx : T[i] < 1000000
    · rw [if_pos hx] at hs
      simp only [w_move, w_assign, w_load, w_indexAddr, w_binOp, w_max, w_aop, w_some, w_asome, w_anone, w_nil, w_cons, awp, binC, idxC, arithC, cmpC, asP, asS, asI, asN, minmaxA, loadA, St.ev, St.step, setS, killS, AV.kill, AV.killL, Mem.kill, AV.cells, AV.flat, AV.single, ACond_true, ACond_false, List.getD_cons_succ, List.getD_cons_zero, List.set_cons_succ, List.set_cons_zero, List.getElem?_cons_zero, List.contains_nil, List.isEmpty_nil, Option.getD_some, Bool.false_eq_true, if_false, if_true, true_and, and_true, List.all_cons, List.all_nil, Bool.and_true, Bool.true_and, Bool.not_true, Nat.reduceAdd, Int.reduceAdd, ti3, ti25, decide_eq_true hx, aget_ints h, Int.toNat_natCast]
      exact ⟨by omega, by unfold lim; omega, i + 1, le_sl (by simp [leSl, hs]), by omega, by omega⟩
    · rw [if_neg hx] at hs
      simp only [w_move, w_assign, w_binOp, w_aop, w_some, w_asome, w_anone, w_nil, w_cons, awp, binC, arithC, cmpC, asI, asN, St.ev, St.step, setS, killS, AV.kill, AV.killL, Mem.kill, ACond_false, List.getD_cons_succ, List.getD_cons_zero, List.set_cons_succ, List.set_cons_zero, List.contains_nil, List.isEmpty_nil, Option.getD_some, Bool.false_eq_true, if_false, if_true, true_and, and_true, Bool.and_true, Bool.true_and, Nat.reduceAdd, Int.reduceAdd, decide_eq_false hx]
      exact ⟨by unfold lim; omega, i + 1, le_sl (by simp [leSl, hs]), by omega, by omega⟩
  · have h' : ¬ (i : Int) < (T.length : Int) := by omega
    simp only [w_move, w_assign, w_aop, w_anone, w_nil, w_cons, awp, asN, St.ev, St.step, setS, killS, AV.kill, AV.killL, Mem.kill, ACond_false, List.getD_cons_succ, List.getD_cons_zero, List.set_cons_succ, List.set_cons_zero, List.contains_nil, List.isEmpty_nil, Option.getD_some, Bool.false_eq_true, if_false, if_true, Nat.reduceAdd, Int.reduceAdd, decide_eq_false h']
    rw [List.take_of_length_le (by omega), hc]
    exact aend_frz rfl ⟨rfl, rfl⟩

theorem ok44 : okFn Try.prog 44 = true := by kernel_rfl
set_option maxRecDepth 20000 in
theorem s44 (n : Int) (ls : List (Int × Int)) (l : List Int) (hls : ls.length ≤ 1000000) (hl : l.length ≤ 1000000) : ASpec Try.prog 44 [trapA n ls, .s 1 (intsA l)] (fun r Ms => r = farthA n ls l ∧ Ms = []) := by
  refine aspec_of_swp Try.func44 rfl ok44 ?_
  refine swp_seq (awp_sound (own := []) _ _ _ _ _ ?_)
  simp only [w_assign, w_box, w_aop, w_anone, w_nil, w_cons, awp, asN, St.ev, St.step, setS, killS, AV.kill, AV.killL, Mem.kill, AV.cellular, AV.pure, AV.pureL, ACond_false, List.getD_cons_zero, List.set_cons_succ, List.set_cons_zero, List.length_cons, List.length_nil, List.replicate_succ, List.replicate_zero, List.cons_append, List.nil_append, List.contains_nil, List.isEmpty_nil, Option.getD_some, Bool.false_eq_true, if_false, if_true, true_and, and_true, Bool.and_true, Bool.true_and, Nat.zero_add, Nat.add_zero, Nat.reduceAdd, Nat.reduceSub, Int.reduceAdd, Int.reduceSub, Try.ntmps44, trapA]
  refine swp_seq (awp_sound (own := []) _ _ _ _ _ ?_)
  simp only [w_move, w_load, w_callF, w_aop, w_some, w_asome, w_cons, awp, asP, loadA, St.ev, St.step, setS, killS, AV.kill, AV.killL, Mem.kill, AV.cells, AV.flat, AV.single, ACond_false, List.getD_cons_succ, List.getD_cons_zero, List.set_cons_succ, List.set_cons_zero, List.getElem?_cons_zero, List.length_cons, List.length_nil, List.contains_nil, List.isEmpty_nil, Bool.false_eq_true, if_false, if_true, and_true, List.all_cons, List.all_nil, Bool.and_true, Bool.not_true, Nat.zero_add, beq_self_eq_true, List.map_cons, List.map_nil, decide_true, Nat.reduceAdd, Nat.reduceLeDiff, Int.reduceAdd, ti24]
  refine acall_v (s25 n ls l hls hl) rfl rfl ?_
  by_cases hv : vTP n ls l = 0
  case neg =>
    simp only [w_move, w_assign, w_binOp, w_aop, w_some, w_asome, w_anone, w_nil, w_cons, awp, binC, cmpC, asB, asI, asN, St.ev, St.step, setS, killS, AV.kill, AV.killL, Mem.kill, ACond_true, ACond_false, List.getD_cons_succ, List.getD_cons_zero, List.set_cons_succ, List.set_cons_zero, List.contains_nil, List.isEmpty_nil, Option.getD_some, Bool.false_eq_true, if_false, if_true, true_and, Bool.true_and, Bool.not_false, Nat.reduceAdd, Int.reduceAdd, decide_eq_false hv]
    exact aend_frz rfl ⟨by rw [farthA, if_pos hv]; rfl, rfl⟩
  simp only [w_move, w_assign, w_binOp, w_aop, w_some, w_asome, w_anone, w_nil, w_cons, awp, binC, cmpC, asB, asI, asN, St.ev, St.step, setS, killS, AV.kill, AV.killL, Mem.kill, ACond_false, List.getD_cons_succ, List.getD_cons_zero, List.set_cons_succ, List.set_cons_zero, List.contains_nil, List.isEmpty_nil, Option.getD_some, Bool.false_eq_true, if_false, if_true, true_and, Bool.true_and, Bool.not_true, Nat.reduceAdd, Int.reduceAdd, decide_eq_true hv]
  obtain ⟨hp, h4, h6⟩ := vTP_ok hv
  have sr := s60 n ls l h6 hls h4 hp
  have hinv := rch_inv (ls := ls) h6 hp
  obtain ⟨m1, m2, m3⟩ := mxR_spec hinv
  rw [farthA, if_neg (by simpa using hv)]
  generalize rch n ls l = R at *
  refine swp_seq (awp_sound (own := []) _ _ _ _ _ ?_)
  simp only [w_assign, w_aop, w_anone, w_nil, w_cons, awp, asN, St.ev, St.step, setS, killS, AV.kill, AV.killL, Mem.kill, ACond_false, List.set_cons_succ, List.set_cons_zero, List.contains_nil, List.isEmpty_nil, Option.getD_some, Bool.false_eq_true, if_false, if_true, Nat.reduceAdd, Int.reduceAdd]
  refine swp_seq ?_
  refine swp_maprange (own := []) (pre := [_, _, _]) (xs := valsN R) (fun r (i : Int) => ⟨[.bot, .bot, .bot, .bot, .bot, .bot, .bot, I i, .bot, .bot, .bot, .bot, .bot, .bot, .bot, .bot, .bot, .bot, .bot, .v (.pointer (some ⟨r, 0, none⟩)), .bot, .bot, .bot, .bot, .bot, .bot, .bot, .bot, .bot], []⟩)
    (fun sn i => 0 ≤ i ∧ (∀ j ∈ sn, ∀ h : j < R.length, R[j].far ≤ i) ∧ (i = 0 ∨ ∃ x ∈ R, x.far = i)) 0 (by rw [mp78]; rfl) rfl rfl (fun _ _ => rfl) (by decide) (by decide) (by decide) (fun _ _ => by simp) (fun _ _ => by simp) ?_ ⟨by decide, by simp, .inl rfl⟩ ?_ ?_
  · simp only [w_move, w_load, w_callF, w_aop, w_some, w_asome, w_cons, asP, loadA, St.ev, St.step, setS, killS, AV.kill, AV.killL, Mem.kill, AV.cells, AV.flat, AV.single, List.getD_cons_succ, List.getD_cons_zero, List.set_cons_succ, List.set_cons_zero, List.getElem?_cons_zero, List.length_cons, List.length_nil, List.isEmpty_nil, Bool.false_eq_true, if_false, if_true, and_true, List.all_cons, List.all_nil, Bool.and_true, Bool.not_true, Nat.zero_add, beq_self_eq_true, List.map_cons, List.map_nil, decide_true, Nat.reduceAdd, Nat.reduceLeDiff, Int.reduceAdd, ti24]
    refine acall_o (x := .o 0) sr rfl (valsN_pure _) ?_
    simp only [w_nil, St.ev, St.step, setS, killS, AV.kill, AV.killL, Mem.kill, List.getD_cons_succ, List.getD_cons_zero, List.set_cons_succ, List.set_cons_zero, List.length_nil, List.nil_append, List.contains_nil, List.contains_cons, List.isEmpty_nil, List.isEmpty_cons, Bool.false_eq_true, if_false, if_true, Nat.add_zero, List.map_cons, List.map_nil, nbeq, Bool.or_false, decide_eq_true_eq, Option.map_some, AV.up, AV.sub]
    refine ⟨0, _, _, rfl, rfl, valsN_pure _, fun r => ?_⟩
    refine le_cut (Mx := [none]) ?_ ?_ rfl ?_
    · simp [leSl, setS, killS, AV.killL, AV.kill]
    · simp [Mem.kill]
    · simp [freeM]
  · intro r i sn ⟨j1, j2, j3⟩ hall
    refine awp_sound (own := []) _ _ _ _ _ ?_
    simp only [w_move, w_assign, w_aop, w_anone, w_nil, w_cons, awp, asN, St.ev, St.step, setS, killS, AV.kill, AV.killL, Mem.kill, ACond_false, List.getD_cons_succ, List.getD_cons_zero, List.set_cons_succ, List.set_cons_zero, List.contains_nil, List.isEmpty_nil, Option.getD_some, Bool.false_eq_true, if_false, if_true, Nat.reduceAdd, Int.reduceAdd]
    have e : mxR R = i := mxL_eq j1 (fun x hx => by
      obtain ⟨y, hy, rfl⟩ := List.mem_map.1 hx
      obtain ⟨q, hq, rfl⟩ := List.mem_iff_getElem.1 hy
      exact j2 q (hall q (by simpa [valsN] using hq)) hq) (by
      rcases j3 with j3 | ⟨x, hx, e⟩
      · exact .inl j3
      · exact .inr (List.mem_map.2 ⟨x, hx, e⟩))
    rw [e]
    exact aend_frz rfl ⟨rfl, rfl⟩
  · intro r i sn j x ⟨j1, j2, j3⟩ hx hj
    obtain ⟨hjl, hxj⟩ := List.getElem?_eq_some_iff.1 hx
    have hjR : j < R.length := by simpa [valsN] using hjl
    have hxe : x = valN R[j] := by rw [← hxj]; simp [valsN]
    obtain ⟨fa, fb, fc, fd, hfr, _⟩ := hinv.fr R[j] (List.getElem_mem hjR)
    have hf0 := hinv.far0 R[j] (List.getElem_mem hjR)
    rw [hxe, valN_eq hfr]
    simp only [w_alloc, w_store, w_extract, w_aop, w_some, w_nil, w_cons, asQ, asT, obA, AGet_zero, storeA, putsA, mkA, Aw.newRow, St.ev, St.step, setS, killS, AV.kill, AV.killL, Mem.kill, AV.cells, AV.flat, AV.single, AV.cellular, List.getD_cons_succ, List.getD_cons_zero, List.set_cons_succ, List.set_cons_zero, List.getElem?_cons_succ, List.getElem?_cons_zero, List.length_cons, List.length_nil, List.nil_append, List.contains_nil, List.isEmpty_nil, Bool.false_eq_true, if_false, if_true, true_and, and_true, List.all_cons, List.all_nil, Bool.and_true, Bool.true_and, Nat.zero_add, beq_self_eq_true, List.map_cons, List.map_nil, decide_true, nbeq, decide_false, Bool.or_false, Nat.reduceAdd, Nat.reduceEqDiff, Nat.reduceLeDiff, Int.reduceAdd, ti76]
    refine awp_sound (own := []) _ _ _ _ _ ?_
    simp only [w_move, w_assign, w_load, w_fieldAddr, w_max, w_aop, w_some, w_anone, w_nil, w_cons, awp, asP, asQ, asN, obA, AGet_zero, minmaxA, loadA, St.ev, St.step, setS, killS, AV.kill, AV.killL, Mem.kill, AV.cells, AV.flat, AV.single, ACond_false, List.getD_cons_succ, List.getD_cons_zero, List.set_cons_succ, List.set_cons_zero, List.getElem?_cons_succ, List.getElem?_cons_zero, List.length_cons, List.length_nil, List.contains_nil, List.isEmpty_nil, Option.getD_some, Bool.false_eq_true, if_false, if_true, true_and, and_true, List.all_cons, List.all_nil, Bool.and_true, Bool.true_and, Bool.not_true, Nat.zero_add, decide_true, nbeq, decide_false, Bool.and_false, Nat.reduceAdd, Nat.reduceEqDiff, Nat.reduceLeDiff, Int.reduceAdd, ne_eq, not_false_eq_true, ti3, ti76]
    refine ⟨max i R[j].far, le_cut (Mx := [_]) (by simp [leSl]) rfl rfl (by simp [freeM]), by omega, fun q hq hql => ?_, ?_⟩
    · rcases List.mem_cons.1 hq with rfl | hq
      · omega
      · have := j2 q hq hql; omega
    · rcases Int.le_total i R[j].far with h | h
      · right; exact ⟨R[j], List.getElem_mem hjR, by omega⟩
      · rw [Int.max_eq_left h]; exact j3
end Go.Proofs.Ytkolpijhgcijbaa

namespace Go.Proofs.Ytkolpijhgcijbaa
open Aw Go.RowKit
set_option linter.unusedSimpArgs false

theorem reach_one {n : Int} {ls : List (Int × Int)} {l : List Int} {m : Int × Int} (hv : vTP n ls l = 0) (hm : refu n ls l m = 0) : (rch n ls (nxt l m)).length = (rch n ls l).length := by
  have hv' := refu_V hv hm
  obtain ⟨b1, b2⟩ := back_one' hv hm
  apply Nat.le_antisymm
  · exact rch_sub hv hv' fun d q hw => ⟨d + 1, Way.cons d hm hw⟩
  · refine rch_sub hv' hv fun d q hw => ⟨d + 1, ?_⟩
    rw [← b2] at hw
    exact Way.cons d b1 hw
theorem mx_lt {n : Int} {ls : List (Int × Int)} {l : List Int} (hv : vTP n ls l = 0) : mxR (rch n ls l) < (rch n ls l).length := by
  obtain ⟨hp, h4, h6⟩ := vTP_ok hv
  have hinv := rch_inv (ls := ls) h6 hp
  have hs := start_in n ls l
  generalize rch n ls l = R at *
  obtain ⟨m1, m2, m3⟩ := mxR_spec hinv
  have h0 : 0 < R.length := by
    cases R with
    | nil => simp [pls] at hs
    | cons x R => simp
  rcases m3 with m3 | ⟨x, hx, e⟩
  · omega
  · obtain ⟨q, hq, rfl⟩ := List.mem_iff_getElem.1 hx
    have := hinv.far q hq
    omega

theorem ok9 : okFn Try.prog 9 = true := by kernel_rfl
set_option maxRecDepth 20000 in
theorem s9 (n : Int) (ls : List (Int × Int)) (l : List Int) : ASpec Try.prog 9 [trapA n ls, .s 1 (intsA l)] (fun r Ms => r = B true ∧ Ms = []) := by
  refine aspec_of (own := []) Try.func9 rfl ok9 ?_
  simp only [w_assign, w_box, w_load, w_callF, w_aop, w_some, w_asome, w_anone, w_nil, w_cons, awp, asP, asN, loadA, St.ev, St.step, setS, killS, AV.kill, AV.killL, Mem.kill, AV.cells, AV.flat, AV.single, AV.cellular, AV.pure, AV.pureL, ACond_false, List.getD_cons_succ, List.getD_cons_zero, List.set_cons_succ, List.set_cons_zero, List.getElem?_cons_zero, List.length_cons, List.length_nil, List.replicate_succ, List.replicate_zero, List.cons_append, List.nil_append, List.contains_nil, List.isEmpty_nil, Option.getD_some, Bool.false_eq_true, if_false, if_true, true_and, and_true, List.all_cons, List.all_nil, Bool.and_true, Bool.true_and, Bool.not_true, Nat.zero_add, Nat.add_zero, beq_self_eq_true, List.map_cons, List.map_nil, decide_true, Nat.reduceAdd, Nat.reduceSub, Nat.reduceLeDiff, Int.reduceAdd, Int.reduceSub, ti24, Try.ntmps9, trapA]
  have known : ∀ {M : Mem} {K : HK (AV → Mem → Prop)}, K.k (B true) M → ACall Try.prog 18 [] M (K := K) := fun h => acall_v s18 rfl rfl h
  refine acall_v (s16 n ls) rfl rfl ?_
  by_cases h1 : (60 : Int) < ls.length
  · simp only [w_move, w_pick, w_callF, w_aop, w_aopg, w_gdb, w_some, w_nil, w_cons, awp, asB, St.ev, St.step, setS, killS, AV.kill, AV.killL, Mem.kill, ACond_true, ACond_false, List.getD_cons_succ, List.getD_cons_zero, List.set_cons_succ, List.set_cons_zero, List.getElem?_cons_succ, List.getElem?_cons_zero, List.contains_nil, List.isEmpty_nil, if_true, Bool.not_true, List.map_nil, Nat.reduceAdd, Int.reduceAdd, Option.bind_some, w_bf, decide_eq_true h1]
    refine known ?_
    simp only [w_assign, w_aop, w_anone, w_nil, w_cons, awp, asN, St.ev, St.step, setS, killS, AV.kill, AV.killL, Mem.kill, List.getD_cons_succ, List.getD_cons_zero, List.set_cons_succ, List.set_cons_zero, List.contains_nil, List.isEmpty_nil, Option.getD_some, Bool.false_eq_true, if_false, if_true]
    exact aend_frz rfl ⟨rfl, rfl⟩
  simp only [w_move, w_callF, w_aop, w_aopg, w_gdb, w_some, w_cons, St.ev, St.step, setS, killS, AV.kill, AV.killL, Mem.kill, ACond_true, List.getD_cons_succ, List.getD_cons_zero, List.set_cons_succ, List.set_cons_zero, List.getElem?_cons_succ, List.getElem?_cons_zero, List.isEmpty_nil, if_true, beq_self_eq_true, List.map_cons, List.map_nil, Option.bind_some, decide_eq_false h1]
  refine acall_v (s17 l) rfl rfl ?_
  by_cases h2 : (40 : Int) < l.length
  · simp only [w_pick, w_callF, w_aop, w_some, w_nil, w_cons, awp, asB, St.ev, St.step, setS, killS, AV.kill, AV.killL, Mem.kill, ACond_true, ACond_false, List.getD_cons_succ, List.getD_cons_zero, List.set_cons_succ, List.set_cons_zero, List.contains_nil, List.isEmpty_nil, if_true, List.map_nil, Nat.reduceAdd, Int.reduceAdd, decide_eq_true h2]
    refine known ?_
    simp only [w_assign, w_aop, w_anone, w_nil, w_cons, awp, asN, St.ev, St.step, setS, killS, AV.kill, AV.killL, Mem.kill, List.getD_cons_succ, List.getD_cons_zero, List.set_cons_succ, List.set_cons_zero, List.contains_nil, List.isEmpty_nil, Option.getD_some, Bool.false_eq_true, if_false, if_true]
    exact aend_frz rfl ⟨rfl, rfl⟩
  simp only [w_move, w_pick, w_load, w_callF, w_aop, w_some, w_asome, w_nil, w_cons, awp, asP, asB, loadA, St.ev, St.step, setS, killS, AV.kill, AV.killL, Mem.kill, AV.cells, AV.flat, AV.single, ACond_false, List.getD_cons_succ, List.getD_cons_zero, List.set_cons_succ, List.set_cons_zero, List.getElem?_cons_zero, List.length_cons, List.length_nil, List.contains_nil, List.isEmpty_nil, Bool.false_eq_true, if_false, if_true, and_true, List.all_cons, List.all_nil, Bool.and_true, Bool.not_true, Nat.zero_add, beq_self_eq_true, List.map_cons, List.map_nil, decide_true, Nat.reduceAdd, Nat.reduceLeDiff, Int.reduceAdd, ti24, decide_eq_false h2]
  have hls : ls.length ≤ 1000000 := by omega
  have hl : l.length ≤ 1000000 := by omega
  have a39 := s39 n ls l hls hl
  have a43 := s43 n ls l hls hl
  have a44 := s44 n ls l hls hl
  have a45 := s45 n ls l hls hl
  by_cases hv : vTP n ls l = 0
  case neg =>
    rw [if_pos hv] at a39 a43
    rw [farthA, if_pos hv] at a44 a45
    refine acall_v a39 rfl rfl ?_
    simp only [w_move, w_assign, w_load, w_extract, w_callF, w_aop, w_some, w_asome, w_anone, w_nil, w_cons, awp, asP, asT, asN, loadA, St.ev, St.step, setS, killS, AV.kill, AV.killL, Mem.kill, AV.cells, AV.flat, AV.single, ACond_false, List.getD_cons_succ, List.getD_cons_zero, List.set_cons_succ, List.set_cons_zero, List.getElem?_cons_succ, List.getElem?_cons_zero, List.length_cons, List.length_nil, List.contains_nil, List.isEmpty_nil, Option.getD_some, Bool.false_eq_true, if_false, if_true, and_true, List.all_cons, List.all_nil, Bool.and_true, Bool.not_true, Nat.zero_add, beq_self_eq_true, List.map_cons, List.map_nil, decide_true, Nat.reduceAdd, Nat.reduceLeDiff, Int.reduceAdd, ti24]
    refine acall_v a43 rfl rfl ?_
    simp only [w_move, w_assign, w_load, w_extract, w_callF, w_aop, w_some, w_asome, w_anone, w_nil, w_cons, awp, asP, asT, asN, loadA, St.ev, St.step, setS, killS, AV.kill, AV.killL, Mem.kill, AV.cells, AV.flat, AV.single, ACond_false, List.getD_cons_succ, List.getD_cons_zero, List.set_cons_succ, List.set_cons_zero, List.getElem?_cons_succ, List.getElem?_cons_zero, List.length_cons, List.length_nil, List.contains_nil, List.isEmpty_nil, Option.getD_some, Bool.false_eq_true, if_false, if_true, and_true, List.all_cons, List.all_nil, Bool.and_true, Bool.not_true, Nat.zero_add, beq_self_eq_true, List.map_cons, List.map_nil, decide_true, Nat.reduceAdd, Nat.reduceLeDiff, Int.reduceAdd, ti24]
    refine acall_v a44 rfl rfl ?_
    simp only [w_move, w_assign, w_load, w_extract, w_callF, w_aop, w_some, w_asome, w_anone, w_nil, w_cons, awp, asP, asT, asN, loadA, St.ev, St.step, setS, killS, AV.kill, AV.killL, Mem.kill, AV.cells, AV.flat, AV.single, ACond_false, List.getD_cons_succ, List.getD_cons_zero, List.set_cons_succ, List.set_cons_zero, List.getElem?_cons_succ, List.getElem?_cons_zero, List.length_cons, List.length_nil, List.contains_nil, List.isEmpty_nil, Option.getD_some, Bool.false_eq_true, if_false, if_true, and_true, List.all_cons, List.all_nil, Bool.and_true, Bool.not_true, Nat.zero_add, beq_self_eq_true, List.map_cons, List.map_nil, decide_true, Nat.reduceAdd, Nat.reduceLeDiff, Int.reduceAdd, ti24]
    refine acall_v a45 rfl rfl ?_
    simp only [w_move, w_assign, w_pick, w_binOp, w_extract, w_callF, w_aop, w_aopg, w_gdb, w_some, w_asome, w_anone, w_nil, w_cons, awp, binC, cmpC, asT, asB, asI, asN, St.ev, St.step, setS, killS, AV.kill, AV.killL, Mem.kill, ACond_true, ACond_false, List.getD_cons_succ, List.getD_cons_zero, List.set_cons_succ, List.set_cons_zero, List.getElem?_cons_succ, List.getElem?_cons_zero, List.contains_nil, List.isEmpty_nil, Option.getD_some, Bool.false_eq_true, if_false, if_true, true_and, Bool.true_and, Bool.not_true, Bool.not_false, beq_self_eq_true, List.map_nil, decide_true, Nat.reduceAdd, Int.reduceAdd, Option.bind_some, decide_eq_false hv]
    refine known ?_
    simp only [w_assign, w_aop, w_anone, w_nil, w_cons, awp, asN, St.ev, St.step, setS, killS, AV.kill, AV.killL, Mem.kill, List.getD_cons_succ, List.getD_cons_zero, List.set_cons_succ, List.set_cons_zero, List.contains_nil, List.isEmpty_nil, Option.getD_some, Bool.false_eq_true, if_false, if_true]
    exact aend_frz rfl ⟨rfl, rfl⟩
  rw [if_neg (by simpa using hv)] at a39 a43
  rw [farthA, if_neg (by simpa using hv)] at a44 a45
  have hlt := mx_lt hv
  have hone := fun m => reach_one (m := m) hv
  have a2 := s30 n ls l hls hl
  rw [if_neg (by rw [hv]; decide)] at a2
  have hmem : ∀ m ∈ mvK n ls l l.length, refu n ls l m = 0 := fun m hm => mvK_refu.1 hm
  generalize mvK n ls l l.length = ms at *
  generalize mxR (rch n ls l) = c at *
  generalize (rch n ls l).length = a at *
  refine acall_v a39 rfl rfl ?_
  simp only [w_move, w_assign, w_load, w_extract, w_callF, w_aop, w_some, w_asome, w_anone, w_nil, w_cons, awp, asP, asT, asN, loadA, St.ev, St.step, setS, killS, AV.kill, AV.killL, Mem.kill, AV.cells, AV.flat, AV.single, ACond_false, List.getD_cons_succ, List.getD_cons_zero, List.set_cons_succ, List.set_cons_zero, List.getElem?_cons_succ, List.getElem?_cons_zero, List.length_cons, List.length_nil, List.contains_nil, List.isEmpty_nil, Option.getD_some, Bool.false_eq_true, if_false, if_true, and_true, List.all_cons, List.all_nil, Bool.and_true, Bool.not_true, Nat.zero_add, beq_self_eq_true, List.map_cons, List.map_nil, decide_true, Nat.reduceAdd, Nat.reduceLeDiff, Int.reduceAdd, ti24]
  refine acall_v a43 rfl rfl ?_
  simp only [w_move, w_assign, w_load, w_extract, w_callF, w_aop, w_some, w_asome, w_anone, w_nil, w_cons, awp, asP, asT, asN, loadA, St.ev, St.step, setS, killS, AV.kill, AV.killL, Mem.kill, AV.cells, AV.flat, AV.single, ACond_false, List.getD_cons_succ, List.getD_cons_zero, List.set_cons_succ, List.set_cons_zero, List.getElem?_cons_succ, List.getElem?_cons_zero, List.length_cons, List.length_nil, List.contains_nil, List.isEmpty_nil, Option.getD_some, Bool.false_eq_true, if_false, if_true, and_true, List.all_cons, List.all_nil, Bool.and_true, Bool.not_true, Nat.zero_add, beq_self_eq_true, List.map_cons, List.map_nil, decide_true, Nat.reduceAdd, Nat.reduceLeDiff, Int.reduceAdd, ti24]
  refine acall_v a44 rfl rfl ?_
  simp only [w_move, w_assign, w_load, w_extract, w_callF, w_aop, w_some, w_asome, w_anone, w_nil, w_cons, awp, asP, asT, asN, loadA, St.ev, St.step, setS, killS, AV.kill, AV.killL, Mem.kill, AV.cells, AV.flat, AV.single, ACond_false, List.getD_cons_succ, List.getD_cons_zero, List.set_cons_succ, List.set_cons_zero, List.getElem?_cons_succ, List.getElem?_cons_zero, List.length_cons, List.length_nil, List.contains_nil, List.isEmpty_nil, Option.getD_some, Bool.false_eq_true, if_false, if_true, and_true, List.all_cons, List.all_nil, Bool.and_true, Bool.not_true, Nat.zero_add, beq_self_eq_true, List.map_cons, List.map_nil, decide_true, Nat.reduceAdd, Nat.reduceLeDiff, Int.reduceAdd, ti24]
  refine acall_v a45 rfl rfl ?_
  simp only [w_move, w_assign, w_pick, w_load, w_binOp, w_extract, w_callF, w_aop, w_aopg, w_gdb, w_some, w_asome, w_anone, w_nil, w_cons, awp, binC, cmpC, asP, asT, asB, asI, asN, loadA, St.ev, St.step, setS, killS, AV.kill, AV.killL, Mem.kill, AV.cells, AV.flat, AV.single, ACond_true, ACond_false, List.getD_cons_succ, List.getD_cons_zero, List.set_cons_succ, List.set_cons_zero, List.getElem?_cons_succ, List.getElem?_cons_zero, List.length_cons, List.length_nil, List.contains_nil, List.isEmpty_nil, Option.getD_some, Bool.false_eq_true, if_false, if_true, true_and, and_true, List.all_cons, List.all_nil, Bool.and_true, Bool.true_and, Bool.not_true, Nat.zero_add, beq_self_eq_true, List.map_cons, List.map_nil, decide_true, Nat.reduceAdd, Nat.reduceLeDiff, Int.reduceAdd, Option.bind_some, ti24]
  refine acall_v a2 rfl rfl ?_
  simp only [w_move, w_assign, w_extract, w_aop, w_some, w_anone, w_nil, w_cons, awp, asT, asN, St.ev, St.step, setS, killS, AV.kill, AV.killL, Mem.kill, ACond_false, List.getD_cons_succ, List.getD_cons_zero, List.set_cons_succ, List.set_cons_zero, List.getElem?_cons_succ, List.getElem?_cons_zero, List.contains_nil, List.isEmpty_nil, Option.getD_some, Bool.false_eq_true, if_false, if_true, Nat.reduceAdd, Int.reduceAdd]
  refine swp_loop' (fun k : Nat => ⟨[.bot, .s 1 (intsA l), .p (.g [I n, .s 2 (prsA ls)]) 0, .bot, .bot, I a, .bot, .bot, .bot, I c, .bot, .bot, .bot, .s 2 (prsA ms), I 0, I k, .bot, .bot, .bot, .bot, .bot, .bot, .bot, .bot, .bot, .bot, .bot, .bot, .bot, .bot, .bot, .bot, .bot, .bot, .bot, .bot, .bot, .bot, .bot, .bot, .bot, .bot, .bot, .bot, .bot, .bot, .bot, .bot, .bot, .bot, .bot, .bot, .bot, .bot, .bot, .bot, .bot, .bot, .bot, .bot, .bot, .bot, .bot, .bot, .bot, .bot, .bot, .bot, .bot, .bot, .bot, .bot, .bot, .bot, .bot, .bot, .bot, .bot, .bot, .bot, .bot, .bot, .bot, .bot, .bot, .bot, .bot, .bot, .bot, .bot, .bot, .bot, .bot, .bot, .bot, .bot, .bot, .bot, .bot, .bot, .bot, .bot, .bot, .bot, .bot, .bot, .bot, .bot, .bot, .bot, .bot, .bot, .bot, .bot, .bot, .bot, .bot, .bot, .bot, .bot, .bot, .bot, .bot, .bot, .bot, .bot, .bot, .bot], []⟩) (fun k => k ≤ ms.length ∧ k ≤ 3) (fun k => 3 - k) 0 (le_sl (by simp [leSl])) ⟨Nat.zero_le _, Nat.zero_le _⟩ ?_
  intro k hk
  refine awp_sound (own := []) _ _ _ _ _ ?_
  simp only [w_move, w_binOp, w_len, w_aop, w_aopg, w_gdb, w_some, w_asome, w_cons, awp, binC, cmpC, asI, lenA, St.ev, St.step, setS, killS, AV.kill, AV.killL, Mem.kill, ACond_false, List.getD_cons_succ, List.getD_cons_zero, List.set_cons_succ, List.set_cons_zero, List.getElem?_cons_succ, List.getElem?_cons_zero, List.contains_nil, List.isEmpty_nil, if_true, true_and, Bool.true_and, Option.isSome_some, Nat.reduceAdd, Int.reduceAdd, Option.bind_some, w_bt, ti42, prsA_len]
  by_cases hkl : (k : Int) < (ms.length : Int)
  case neg =>
    simp only [w_move, w_pick, w_binOp, w_callF, w_aop, w_aopg, w_gdb, w_some, w_asome, w_nil, w_cons, awp, binC, cmpC, asB, asI, St.ev, St.step, setS, killS, AV.kill, AV.killL, Mem.kill, ACond_true, ACond_false, List.getD_cons_succ, List.getD_cons_zero, List.set_cons_succ, List.set_cons_zero, List.getElem?_cons_succ, List.getElem?_cons_zero, List.contains_nil, List.isEmpty_nil, if_true, true_and, Bool.true_and, beq_self_eq_true, List.map_nil, decide_true, Nat.reduceAdd, Int.reduceAdd, Option.bind_some, w_bt, decide_eq_false hkl, decide_eq_true hlt]
    refine known ?_
    simp only [w_assign, w_pick, w_aop, w_some, w_anone, w_nil, w_cons, awp, asB, asN, St.ev, St.step, setS, killS, AV.kill, AV.killL, Mem.kill, ACond_true, List.getD_cons_succ, List.getD_cons_zero, List.set_cons_succ, List.set_cons_zero, List.contains_nil, List.isEmpty_nil, Option.getD_some, Bool.false_eq_true, if_false, if_true]
    exact aend_frz rfl ⟨rfl, rfl⟩
  simp only [w_move, w_pick, w_binOp, w_aop, w_aopg, w_gdb, w_some, w_asome, w_nil, w_cons, awp, binC, cmpC, asB, asI, St.ev, St.step, setS, killS, AV.kill, AV.killL, Mem.kill, ACond_true, List.getD_cons_succ, List.getD_cons_zero, List.set_cons_succ, List.set_cons_zero, List.getElem?_cons_succ, List.getElem?_cons_zero, List.isEmpty_nil, if_true, true_and, Bool.true_and, beq_self_eq_true, Option.bind_some, decide_eq_true hkl]
  by_cases hk4 : (k : Int) < 3
  case neg =>
    simp only [w_move, w_pick, w_binOp, w_callF, w_aop, w_aopg, w_gdb, w_some, w_asome, w_cons, awp, binC, cmpC, asB, asI, St.ev, St.step, setS, killS, AV.kill, AV.killL, Mem.kill, ACond_true, ACond_false, List.getD_cons_succ, List.getD_cons_zero, List.set_cons_succ, List.set_cons_zero, List.getElem?_cons_succ, List.getElem?_cons_zero, List.contains_nil, List.isEmpty_nil, if_true, true_and, Bool.true_and, beq_self_eq_true, List.map_nil, decide_true, Nat.reduceAdd, Int.reduceAdd, Option.bind_some, decide_eq_false hk4, decide_eq_true hlt]
    refine known ?_
    simp only [w_assign, w_pick, w_aop, w_some, w_anone, w_nil, w_cons, awp, asB, asN, St.ev, St.step, setS, killS, AV.kill, AV.killL, Mem.kill, ACond_true, List.getD_cons_succ, List.getD_cons_zero, List.set_cons_succ, List.set_cons_zero, List.contains_nil, List.isEmpty_nil, Option.getD_some, Bool.false_eq_true, if_false, if_true]
    exact aend_frz rfl ⟨rfl, rfl⟩
  simp only [awp, ACond_true, decide_eq_true hk4]
  have hkn : k < ms.length := by omega
  have hm := hmem ms[k] (List.getElem_mem hkn)
  have a3 := s33 n ls l [ms[k]] hls hl
  rw [ckP_one hv hm] at a3
  have a4 := s39 n ls (nxt l ms[k]) hls (by simpa [nxt] using hl)
  rw [if_neg (by rw [refu_V hv hm]; decide), hone _ hm] at a4
  refine swp_draw (own := []) (.take 0 .reads [] (.take 1 .plain [] (.take 2 .plain [] (.take 3 .plain [] (.take 4 .reads [] (.take 5 .reads [] (.take 6 .plain [] (.alt 7 (.take 8 .plain [] (.take 9 .plain [] (.take 10 .plain [] (.take 11 .plain [] (.take 12 .plain [] (.take 13 .plain [] (.take 14 .plain [] (.done)))))))) (.nil))))))))) [⟨91, 4, 0, 0, true⟩, ⟨92, 2, 0, 0, true⟩, ⟨93, 8192, 0, 0, true⟩, ⟨94, 32768, 0, 0, true⟩, ⟨95, 14855280471424563298789490688, 12, 0, true⟩, ⟨96, 19807040628566084398385987584, 16, 0, true⟩, ⟨97, 39614081257132168796771975168, 32, 0, true⟩, ⟨98, 82941982632120478418241323008, 67, 0, false⟩, ⟨90, 158456325028528675187087900672, 128, 0, true⟩, ⟨99, 618970019642690137449562112, 256, 0, true⟩, ⟨100, 618970019642690137449562112, 256, 0, true⟩, ⟨101, 618970019642690137449562112, 256, 0, true⟩, ⟨17, 316912650057057350374175801344, 1023, 0, true⟩, ⟨18, 633825300114114700748351602688, 6143, 0, true⟩, ⟨19, 1267650600228229401496703205376, 16383, 0, true⟩] mo (by kernel_rfl) ?_
  simp only [w_move, w_load, w_indexAddr, w_buildSlice, w_callF, w_aop, w_take, w_some, w_asome, idxC, asP, asS, asI, loadA, St.ev, setS, AV.cells, AV.flat, AV.single, AV.cellular, AV.size, AV.sizeL, AV.pure, AV.pureL, ACond_false, Value.oneCell', List.getD_cons_succ, List.getD_cons_zero, List.set_cons_succ, List.set_cons_zero, List.getElem?_cons_succ, List.getElem?_cons_zero, List.length_cons, List.length_nil, List.contains_nil, Option.getD_some, Bool.false_eq_true, if_false, if_true, true_and, and_true, List.all_cons, List.all_nil, Bool.and_true, Bool.true_and, Bool.not_true, Nat.zero_add, Nat.add_zero, beq_self_eq_true, List.map_cons, List.map_nil, decide_true, nbeq, Nat.reduceAdd, Nat.reduceMul, Nat.reduceLeDiff, Int.reduceAdd, Int.reduceMul, ASch, St.put, Md.mem, Md.need, ti24, ti42, ti64, aget_prs hkn, Int.toNat_natCast]
  refine ⟨by omega, ⟨by decide, rfl⟩, ?_⟩
  refine acall_o (x := .t [.o 0, I 1, I 0]) a3 (by simp [trapA, AV.pureL, AV.pure, intsA_pure, prsA_pure]) (intsA_pure _) ?_
  simp only [w_move, w_assign, w_load, w_extract, w_callF, w_aop, w_take, w_some, w_asome, w_anone, w_cons, awp, asP, asT, asN, loadA, St.ev, St.step, setS, killS, AV.kill, AV.killL, Mem.kill, AV.cells, AV.flat, AV.single, ACond_false, List.getD_cons_succ, List.getD_cons_zero, List.set_cons_succ, List.set_cons_zero, List.getElem?_cons_succ, List.getElem?_cons_zero, List.length_cons, List.length_nil, List.nil_append, List.contains_nil, List.isEmpty_nil, Option.getD_some, Bool.false_eq_true, if_false, if_true, true_and, and_true, List.all_cons, List.all_nil, Bool.and_true, Bool.true_and, Bool.not_true, Nat.zero_add, Nat.add_zero, beq_self_eq_true, List.map_cons, List.map_nil, decide_true, Nat.reduceAdd, Nat.reduceLeDiff, Int.reduceAdd, ASch, St.put, Md.mem, Md.need, ti24, AV.up, AV.sub, AV.subL]
  refine acall_l a4 (by simp [frz, AV.sub, AV.subL, trapA, intsA_pure, prsA_pure]) rfl rfl ?_
  simp only [w_move, w_assign, w_pick, w_binOp, w_extract, w_aop, w_aopg, w_gdb, w_some, w_asome, w_anone, w_nil, w_cons, awp, binC, arithC, cmpC, asT, asB, asI, asN, St.ev, St.step, setS, killS, AV.kill, AV.killL, Mem.kill, ACond_true, ACond_false, List.getD_cons_succ, List.getD_cons_zero, List.set_cons_succ, List.set_cons_zero, List.getElem?_cons_succ, List.getElem?_cons_zero, List.contains_nil, List.isEmpty_nil, Option.getD_some, Bool.false_eq_true, if_false, if_true, true_and, and_true, Bool.and_true, Bool.true_and, Bool.not_true, beq_self_eq_true, decide_true, Nat.reduceAdd, Int.reduceAdd, Option.bind_some]
  refine ⟨by unfold lim; omega, k + 1, ?_, ⟨by omega, by omega⟩, by omega⟩
  exact le_cut (Mx := [_]) (by simp [leSl]) rfl rfl (by simp [freeM, AV.freeL, freeL_pure, intsA_pure])
end Go.Proofs.Ytkolpijhgcijbaa
