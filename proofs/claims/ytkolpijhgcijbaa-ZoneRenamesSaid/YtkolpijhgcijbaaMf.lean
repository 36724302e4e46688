/-
  Several texts in one: FnAF.
-/
import Derived.Test.YtkolpijhgcijbaaMe
set_option linter.unusedSimpArgs false
set_option linter.unusedVariables false
namespace Go.Proofs.Ytkolpijhgcijbaa
open Aw Go.RowKit
set_option linter.unusedSimpArgs false

/-! at most 360 places -/
theorem nodup_sub {α : Type} [DecidableEq α] : ∀ (l E : List α), l.Nodup → (∀ x ∈ l, x ∈ E) → l.length ≤ E.length
  | [], E, _, _ => Nat.zero_le _
  | x :: l, E, hn, h => by
    have hx := h x (by simp)
    rw [List.nodup_cons] at hn
    have ih := nodup_sub l (E.erase x) hn.2 fun y hy => by
      have hne : y ≠ x := fun e => hn.1 (e ▸ hy)
      exact (List.mem_erase_of_ne hne).2 (h y (by simp [hy]))
    rw [List.length_erase_of_mem hx] at ih
    have : 0 < E.length := List.length_pos_of_mem hx
    simp only [List.length_cons]
    omega

def allP : Nat → List (List Int)
  | 0 => [[]]
  | k + 1 => (allP k).flatMap fun p => ([0, 1, 2, 3, 4, 5].filter fun z => !p.contains z).map fun z => z :: p
theorem allP_mem {n : Int} (hn : n ≤ 6) : ∀ (p : List Int), (∀ x ∈ p, 0 ≤ x ∧ x < n) → p.Nodup → p ∈ allP p.length
  | [], _, _ => by simp [allP]
  | x :: p, h, hd => by
    rw [List.nodup_cons] at hd
    have ih := allP_mem hn p (fun y hy => h y (by simp [hy])) hd.2
    have hx := h x (by simp)
    show x :: p ∈ allP (p.length + 1)
    rw [allP, List.mem_flatMap]
    refine ⟨p, ih, List.mem_map.2 ⟨x, List.mem_filter.2 ⟨?_, by simpa using hd.1⟩, rfl⟩⟩
    rcases (show x = 0 ∨ x = 1 ∨ x = 2 ∨ x = 3 ∨ x = 4 ∨ x = 5 by omega) with rfl | rfl | rfl | rfl | rfl | rfl <;> decide
theorem allP0 : (allP 0).length = 1 := by kernel_rfl
theorem allP1 : (allP 1).length = 6 := by kernel_rfl
theorem allP2 : (allP 2).length = 30 := by kernel_rfl
theorem allP3 : (allP 3).length = 120 := by kernel_rfl
theorem allP4 : (allP 4).length = 360 := by kernel_rfl
theorem allP_len {k : Nat} (hk : k ≤ 4) : (allP k).length ≤ 360 := by
  rcases (show k = 0 ∨ k = 1 ∨ k = 2 ∨ k = 3 ∨ k = 4 by omega) with rfl | rfl | rfl | rfl | rfl
  · rw [allP0]; decide
  · rw [allP1]; decide
  · rw [allP2]; decide
  · rw [allP3]; decide
  · rw [allP4]; decide
theorem rch_V {n : Int} {ls : List (Int × Int)} {l : List Int} (hv : vTP n ls l = 0) : ∀ x ∈ rch n ls l, vTP n ls x.pl = 0 := rchI_V hv 1297
theorem rch_360 {n : Int} {ls : List (Int × Int)} {l : List Int} (hv : vTP n ls l = 0) : (rch n ls l).length ≤ 360 := by
  obtain ⟨g1, g2, g3⟩ := vTP_ok hv
  have hinv := rch_inv (ls := ls) g3 g1
  have hV := rch_V hv
  obtain ⟨R, hR⟩ : ∃ R, R = rch n ls l := ⟨_, rfl⟩
  rw [← hR] at hinv hV ⊢
  clear hR
  have := nodup_sub (pls R) (allP l.length) hinv.nd fun p hp => by
    simp only [pls, List.mem_map] at hp
    obtain ⟨x, hx, rfl⟩ := hp
    obtain ⟨a1, a2, a3, a4⟩ := vTP_iff.1 (hV x hx)
    have := allP_mem g3 x.pl a3 a4
    rwa [(hinv.pl x hx).1] at this
  have h2 := allP_len g2
  simp only [pls, List.length_map] at this
  omega

theorem far_360 {n : Int} {ls : List (Int × Int)} {l t : List Int} {a : Int} {e : Int} (h : farP n ls l t = (a, true, e)) : a < 360 := by
  obtain ⟨hp, _, q, hq, e1, e2⟩ := farP_some h
  obtain ⟨v1, v2, v3⟩ := pairE_ok hp
  obtain ⟨g1, g2, g3⟩ := vTP_ok v1
  have hinv := rch_inv (ls := ls) g3 g1
  have h360 := rch_360 v1
  obtain ⟨R, hR⟩ : ∃ R, R = rch n ls l := ⟨_, rfl⟩
  simp only [← hR] at hq e1 e2 hinv h360
  have h1 := hinv.far q hq
  omega

theorem farQ_false {R : List Nd} {t : List Int} {a : Int} {e : Int} (h : farQ R t = (a, false, e)) : a = 0 := by
  unfold farQ at h
  split at h
  · simp at h
  · simp at h; exact h.1.symm
theorem farP_false {n : Int} {ls : List (Int × Int)} {l t : List Int} {a : Int} {e : Int} (h : farP n ls l t = (a, false, e)) : a = 0 := by
  unfold farP at h
  split at h
  · simp at h; exact h.1.symm
  · exact farQ_false h

theorem far_symm {n : Int} {ls : List (Int × Int)} {l t : List Int} {a : Int} {e : Int} (h : farP n ls l t = (a, true, e)) : farP n ls t l = (a, true, 0) := by
  obtain ⟨hp, _⟩ := farP_some h
  obtain ⟨v1, v2, v3⟩ := pairE_ok hp
  obtain ⟨d, hd, hw⟩ := far_way h
  obtain ⟨b, hb, hbd⟩ := way_far v2 v3.symm (Way.symm d v1 hw)
  obtain ⟨d', hd', hw'⟩ := far_way hb
  obtain ⟨c, hc, hcd⟩ := way_far v1 v3 (Way.symm d' v2 hw')
  rw [h] at hc
  simp only [Prod.mk.injEq] at hc
  rw [hb, show a = b by omega]

theorem ok8 : okFn Try.prog 8 = true := by kernel_rfl
set_option maxRecDepth 20000 in
theorem s8 (n : Int) (ls : List (Int × Int)) (l t : List Int) : ASpec Try.prog 8 [trapA n ls, .s 1 (intsA l), .s 1 (intsA t)] (fun r Ms => r = B true ∧ Ms = []) := by
  refine aspec_of (own := []) Try.func8 rfl ok8 ?_
  simp only [w_assign, w_box, w_load, w_callF, w_aop, w_some, w_asome, w_anone, w_nil, w_cons, awp, asP, asN, loadA, St.ev, St.step, setS, killS, AV.kill, AV.killL, Mem.kill, AV.cells, AV.flat, AV.single, AV.cellular, AV.pure, AV.pureL, ACond_false, List.getD_cons_succ, List.getD_cons_zero, List.set_cons_succ, List.set_cons_zero, List.getElem?_cons_zero, List.length_cons, List.length_nil, List.replicate_succ, List.replicate_zero, List.cons_append, List.nil_append, List.contains_nil, List.isEmpty_nil, Option.getD_some, Bool.false_eq_true, if_false, if_true, true_and, and_true, List.all_cons, List.all_nil, Bool.and_true, Bool.true_and, Bool.not_true, Nat.zero_add, Nat.add_zero, beq_self_eq_true, List.map_cons, List.map_nil, decide_true, Nat.reduceAdd, Nat.reduceSub, Nat.reduceLeDiff, Int.reduceAdd, Int.reduceSub, ti24, Try.ntmps8, trapA]
  have known : ∀ {M : Mem} {K : HK (AV → Mem → Prop)}, K.k (B true) M → ACall Try.prog 18 [] M (K := K) := fun h => acall_v s18 rfl rfl h
  refine acall_v (s16 n ls) rfl rfl ?_
  by_cases h1 : (60 : Int) < ls.length
  · simp only [w_move, w_pick, w_callF, w_aop, w_aopg, w_gdb, w_some, w_nil, w_cons, awp, asB, St.ev, St.step, setS, killS, AV.kill, AV.killL, Mem.kill, ACond_true, ACond_false, List.getD_cons_succ, List.getD_cons_zero, List.set_cons_succ, List.set_cons_zero, List.getElem?_cons_succ, List.getElem?_cons_zero, List.contains_nil, List.isEmpty_nil, if_true, Bool.not_true, List.map_nil, Nat.reduceAdd, Int.reduceAdd, Option.bind_some, w_bf, decide_eq_true h1]
    refine known ?_
    simp only [w_assign, w_aop, w_anone, w_nil, w_cons, awp, asN, St.ev, St.step, setS, killS, AV.kill, AV.killL, Mem.kill, List.getD_cons_succ, List.getD_cons_zero, List.set_cons_succ, List.set_cons_zero, List.contains_nil, List.isEmpty_nil, Option.getD_some, Bool.false_eq_true, if_false, if_true]
    exact aend_frz rfl ⟨rfl, rfl⟩
  simp only [w_move, w_callF, w_aop, w_aopg, w_gdb, w_some, w_cons, St.ev, St.step, setS, killS, AV.kill, AV.killL, Mem.kill, ACond_true, List.getD_cons_succ, List.getD_cons_zero, List.set_cons_succ, List.set_cons_zero, List.getElem?_cons_succ, List.getElem?_cons_zero, List.isEmpty_nil, if_true, beq_self_eq_true, List.map_cons, List.map_nil, Option.bind_some, decide_eq_false h1]
  refine acall_v (s17 l) rfl rfl ?_
  by_cases h2 : (40 : Int) < l.length
  · simp only [w_move, w_pick, w_callF, w_aop, w_aopg, w_gdb, w_some, w_nil, w_cons, awp, asB, St.ev, St.step, setS, killS, AV.kill, AV.killL, Mem.kill, ACond_true, ACond_false, List.getD_cons_succ, List.getD_cons_zero, List.set_cons_succ, List.set_cons_zero, List.getElem?_cons_succ, List.getElem?_cons_zero, List.contains_nil, List.isEmpty_nil, if_true, Bool.not_true, List.map_nil, Nat.reduceAdd, Int.reduceAdd, Option.bind_some, w_bf, decide_eq_true h2]
    refine known ?_
    simp only [w_assign, w_aop, w_anone, w_nil, w_cons, awp, asN, St.ev, St.step, setS, killS, AV.kill, AV.killL, Mem.kill, List.getD_cons_succ, List.getD_cons_zero, List.set_cons_succ, List.set_cons_zero, List.contains_nil, List.isEmpty_nil, Option.getD_some, Bool.false_eq_true, if_false, if_true]
    exact aend_frz rfl ⟨rfl, rfl⟩
  simp only [w_move, w_pick, w_callF, w_aop, w_aopg, w_gdb, w_some, w_cons, asB, St.ev, St.step, setS, killS, AV.kill, AV.killL, Mem.kill, ACond_true, ACond_false, List.getD_cons_succ, List.getD_cons_zero, List.set_cons_succ, List.set_cons_zero, List.getElem?_cons_succ, List.getElem?_cons_zero, List.isEmpty_nil, if_true, beq_self_eq_true, List.map_cons, List.map_nil, Option.bind_some, decide_eq_false h2]
  refine acall_v (s17 t) rfl rfl ?_
  by_cases h3 : (40 : Int) < t.length
  · simp only [w_pick, w_callF, w_aop, w_some, w_nil, w_cons, awp, asB, St.ev, St.step, setS, killS, AV.kill, AV.killL, Mem.kill, ACond_true, ACond_false, List.getD_cons_succ, List.getD_cons_zero, List.set_cons_succ, List.set_cons_zero, List.contains_nil, List.isEmpty_nil, if_true, List.map_nil, Nat.reduceAdd, Int.reduceAdd, decide_eq_true h3]
    refine known ?_
    simp only [w_assign, w_aop, w_anone, w_nil, w_cons, awp, asN, St.ev, St.step, setS, killS, AV.kill, AV.killL, Mem.kill, List.getD_cons_succ, List.getD_cons_zero, List.set_cons_succ, List.set_cons_zero, List.contains_nil, List.isEmpty_nil, Option.getD_some, Bool.false_eq_true, if_false, if_true]
    exact aend_frz rfl ⟨rfl, rfl⟩
  simp only [w_move, w_pick, w_load, w_callF, w_aop, w_some, w_asome, w_nil, w_cons, awp, asP, asB, loadA, St.ev, St.step, setS, killS, AV.kill, AV.killL, Mem.kill, AV.cells, AV.flat, AV.single, ACond_false, List.getD_cons_succ, List.getD_cons_zero, List.set_cons_succ, List.set_cons_zero, List.getElem?_cons_zero, List.length_cons, List.length_nil, List.contains_nil, List.isEmpty_nil, Bool.false_eq_true, if_false, if_true, and_true, List.all_cons, List.all_nil, Bool.and_true, Bool.not_true, Nat.zero_add, beq_self_eq_true, List.map_cons, List.map_nil, decide_true, Nat.reduceAdd, Nat.reduceLeDiff, Int.reduceAdd, ti24, decide_eq_false h3]
  have hls : ls.length ≤ 1000000 := by omega
  have hl : l.length ≤ 1000000 := by omega
  have ht : t.length ≤ 1000000 := by omega
  have a1 := s40 n ls l t hls hl ht
  have a2 := s41 n ls l t hls hl ht
  have a3 := s42 n ls l t hls hl ht
  rcases hF : farP n ls l t with ⟨a, is, e⟩
  rw [hF] at a1 a2 a3
  refine acall_v a1 rfl rfl ?_
  simp only [w_move, w_assign, w_load, w_extract, w_callF, w_aop, w_some, w_asome, w_anone, w_nil, w_cons, awp, asP, asT, asN, loadA, St.ev, St.step, setS, killS, AV.kill, AV.killL, Mem.kill, AV.cells, AV.flat, AV.single, ACond_false, List.getD_cons_succ, List.getD_cons_zero, List.set_cons_succ, List.set_cons_zero, List.getElem?_cons_succ, List.getElem?_cons_zero, List.length_cons, List.length_nil, List.contains_nil, List.isEmpty_nil, Option.getD_some, Bool.false_eq_true, if_false, if_true, and_true, List.all_cons, List.all_nil, Bool.and_true, Bool.not_true, Nat.zero_add, beq_self_eq_true, List.map_cons, List.map_nil, decide_true, Nat.reduceAdd, Nat.reduceLeDiff, Int.reduceAdd, ti24]
  refine acall_v a2 rfl rfl ?_
  simp only [w_move, w_assign, w_load, w_extract, w_callF, w_aop, w_some, w_asome, w_anone, w_nil, w_cons, awp, asP, asT, asN, loadA, St.ev, St.step, setS, killS, AV.kill, AV.killL, Mem.kill, AV.cells, AV.flat, AV.single, ACond_false, List.getD_cons_succ, List.getD_cons_zero, List.set_cons_succ, List.set_cons_zero, List.getElem?_cons_succ, List.getElem?_cons_zero, List.length_cons, List.length_nil, List.contains_nil, List.isEmpty_nil, Option.getD_some, Bool.false_eq_true, if_false, if_true, and_true, List.all_cons, List.all_nil, Bool.and_true, Bool.not_true, Nat.zero_add, beq_self_eq_true, List.map_cons, List.map_nil, decide_true, Nat.reduceAdd, Nat.reduceLeDiff, Int.reduceAdd, ti24]
  refine acall_e a3 rfl ?_
  rintro x ⟨pl, rfl, hlen, hck⟩
  refine ⟨by simp [AV.pure, AV.pureL], ?_⟩
  simp only at hlen hck
  cases is with
  | false =>
    have := farP_false hF
    subst this
    have hz : pl = [] := List.eq_nil_of_length_eq_zero (by omega)
    subst hz
    simp only [w_move, w_assign, w_pick, w_binOp, w_not, w_extract, w_len, w_aop, w_aopg, w_gdb, w_some, w_asome, w_anone, w_nil, w_cons, awp, binC, cmpC, eqC, asT, asB, asI, asN, lenA, St.ev, St.step, setS, killS, AV.kill, AV.killL, Mem.kill, ACond_true, ACond_false, List.getD_cons_succ, List.getD_cons_zero, List.set_cons_succ, List.set_cons_zero, List.getElem?_cons_succ, List.getElem?_cons_zero, List.length_nil, List.contains_nil, List.isEmpty_nil, Option.getD_some, Bool.false_eq_true, if_false, if_true, true_and, Bool.true_and, Bool.not_true, Bool.not_false, Option.isSome_some, beq_self_eq_true, decide_true, Nat.reduceAdd, Int.reduceAdd, Option.bind_some, w_bt, ti4, ti42, prsA_len]
    have hz0 : ((0 : Nat) : Int) = 0 := rfl
    simp only [w_callF, ACond_true, List.map_nil, decide_eq_true hz0]
    refine known ?_
    simp only [w_assign, w_pick, w_aop, w_some, w_anone, w_nil, w_cons, awp, asB, asN, St.ev, St.step, setS, killS, AV.kill, AV.killL, Mem.kill, ACond_true, List.getD_cons_succ, List.getD_cons_zero, List.set_cons_succ, List.set_cons_zero, List.contains_nil, List.isEmpty_nil, Option.getD_some, Bool.false_eq_true, if_false, if_true, decide_eq_true hz0]
    exact aend_frz rfl ⟨rfl, rfl⟩
  | true =>
    obtain ⟨hp, he, _⟩ := farP_some hF
    subst he
    obtain ⟨v1, v2, v3⟩ := pairE_ok hp
    have a360 := far_360 hF
    have hck0 := hck 0 rfl
    have hc : ckP n ls l pl = (t, (pl.length : Int), 0) := by
      rw [ckP, if_neg (by rw [v1]; decide), if_neg (by omega), hck0, Nat.zero_add]
    have a4 := s34 n ls l pl hls hl
    rw [hc] at a4
    have a5 := s40 n ls t l hls ht hl
    rw [far_symm hF] at a5
    subst hlen
    simp only [w_move, w_assign, w_pick, w_load, w_binOp, w_not, w_extract, w_callF, w_aop, w_aopg, w_gdb, w_some, w_asome, w_anone, w_nil, w_cons, awp, binC, cmpC, eqC, asP, asT, asB, asI, asN, loadA, St.ev, St.step, setS, killS, AV.kill, AV.killL, Mem.kill, AV.cells, AV.flat, AV.single, ACond_true, ACond_false, List.getD_cons_succ, List.getD_cons_zero, List.set_cons_succ, List.set_cons_zero, List.getElem?_cons_succ, List.getElem?_cons_zero, List.length_cons, List.length_nil, List.contains_nil, List.isEmpty_nil, Option.getD_some, Bool.false_eq_true, if_false, if_true, true_and, and_true, List.all_cons, List.all_nil, Bool.and_true, Bool.true_and, Bool.not_true, Nat.zero_add, beq_self_eq_true, List.map_cons, List.map_nil, decide_true, Nat.reduceAdd, Nat.reduceLeDiff, Int.reduceAdd, Option.bind_some, ti4, ti24]
    refine acall_o (x := .t [.o 0, I pl.length, I 0]) a4 (by simp [trapA, AV.pureL, AV.pure, intsA_pure, prsA_pure]) (intsA_pure _) ?_
    simp only [w_move, w_assign, w_load, w_extract, w_callF, w_aop, w_some, w_asome, w_anone, w_nil, w_cons, awp, asP, asT, asN, loadA, St.ev, St.step, setS, killS, AV.kill, AV.killL, Mem.kill, AV.cells, AV.flat, AV.single, ACond_false, List.getD_cons_succ, List.getD_cons_zero, List.set_cons_succ, List.set_cons_zero, List.getElem?_cons_succ, List.getElem?_cons_zero, List.length_cons, List.length_nil, List.nil_append, List.contains_nil, List.isEmpty_nil, Option.getD_some, Bool.false_eq_true, if_false, if_true, and_true, List.all_cons, List.all_nil, Bool.and_true, Bool.not_true, Nat.zero_add, Nat.add_zero, beq_self_eq_true, List.map_cons, List.map_nil, decide_true, Nat.reduceAdd, Nat.reduceLeDiff, Int.reduceAdd, ti24, AV.up, AV.sub, AV.subL]
    refine acall_l a5 (by simp [frz, AV.sub, AV.subL, trapA, intsA_pure, prsA_pure]) rfl rfl ?_
    simp only [w_move, w_assign, w_pick, w_binOp, w_extract, w_callF, w_aop, w_aopg, w_gdb, w_some, w_asome, w_anone, w_nil, w_cons, awp, binC, cmpC, asT, asB, asI, asN, St.ev, St.step, setS, killS, AV.kill, AV.killL, Mem.kill, ACond_true, ACond_false, List.getD_cons_succ, List.getD_cons_zero, List.set_cons_succ, List.set_cons_zero, List.getElem?_cons_succ, List.getElem?_cons_zero, List.contains_nil, List.isEmpty_nil, Option.getD_some, Bool.false_eq_true, if_false, if_true, true_and, Bool.true_and, beq_self_eq_true, List.map_cons, List.map_nil, decide_true, Nat.reduceAdd, Int.reduceAdd, Option.bind_some]
    refine acall_l (s27 t t ht ht) (by simp [frz, AV.sub, AV.subL, intsA_pure]) rfl rfl ?_
    simp only [w_move, w_pick, w_binOp, w_callF, w_aop, w_aopg, w_gdb, w_some, w_asome, w_cons, binC, cmpC, asB, asI, St.ev, St.step, setS, killS, AV.kill, AV.killL, Mem.kill, ACond_true, List.getD_cons_succ, List.getD_cons_zero, List.set_cons_succ, List.set_cons_zero, List.getElem?_cons_succ, List.getElem?_cons_zero, List.contains_nil, List.isEmpty_nil, Bool.false_eq_true, if_false, if_true, true_and, Bool.true_and, beq_self_eq_true, List.map_nil, decide_true, Option.bind_some]
    refine known ?_
    simp only [w_assign, w_pick, w_aop, w_some, w_anone, w_nil, w_cons, awp, asB, asN, St.ev, St.step, setS, killS, AV.kill, AV.killL, Mem.kill, ACond_true, List.getD_cons_succ, List.getD_cons_zero, List.set_cons_succ, List.set_cons_zero, List.contains_nil, List.isEmpty_nil, Option.getD_some, Bool.false_eq_true, if_false, if_true]
    exact aend_frz rfl ⟨rfl, rfl⟩
end Go.Proofs.Ytkolpijhgcijbaa
