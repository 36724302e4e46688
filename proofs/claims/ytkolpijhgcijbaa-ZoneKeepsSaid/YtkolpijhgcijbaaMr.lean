/-
  Several texts in one: FnAR, FnAS.
-/
import Derived.Test.YtkolpijhgcijbaaMq
set_option linter.unusedSimpArgs false
set_option linter.unusedVariables false
namespace Go.Proofs.Ytkolpijhgcijbaa
open Aw Go.RowKit
set_option linter.unusedSimpArgs false

theorem ok97 : okFn Try.prog 97 = true := by kernel_rfl
theorem s97 (k : Nat) (hk : k ≤ 1000000) : ASpec Try.prog 97 [.v (.slice none 0 0), I k] (fun r Ms => r = .o 0 ∧ Ms = [⟨none, 3, 1, []⟩]) := by
  refine aspec_of (own := [4, 1003, 1005]) Try.func97 rfl ok97 ?_
  simp only [w_move, w_assign, w_binOp, w_aop, w_some, w_asome, w_nil, w_cons, awp, binC, cmpC, asB, asI, asN, Aw.newRow, St.ev, St.step, setS, killS, AV.kill, AV.killL, Mem.kill, ACond_false, List.getD_cons_succ, List.getD_cons_zero, List.set_cons_succ, List.set_cons_zero, List.length_cons, List.length_nil, List.replicate_succ, List.replicate_zero, List.cons_append, List.nil_append, List.contains_nil, List.contains_cons, List.isEmpty_nil, Option.getD_some, Bool.false_eq_true, if_false, if_true, true_and, Bool.true_and, Nat.zero_add, Nat.add_zero, beq_self_eq_true, nbeq, decide_false, Bool.or_false, Nat.reduceAdd, Nat.reduceEqDiff, Nat.reduceSub, Int.reduceAdd, Int.reduceSub, ti3, ti25, Try.ntmps97]
  have h0 : ¬ (k : Int) < 0 := by omega
  simp only [awp, ACond_true, ACond_false, List.contains_nil, List.contains_cons, beq_self_eq_true, nbeq, decide_false, Bool.or_false, Bool.or_true, Nat.reduceAdd, Nat.reduceEqDiff, Int.reduceAdd, decide_eq_false h0]
  refine swp_cap (n := k) ti25 rfl rfl rfl (by unfold lim; omega) rfl ?_
  simp only [w_move, w_binOp, w_aop, w_some, w_asome, w_nil, w_cons, awp, binC, cmpC, asB, asI, St.ev, St.step, setS, killS, AV.kill, AV.killL, Mem.kill, ACond_false, List.getD_cons_succ, List.getD_cons_zero, List.set_cons_succ, List.set_cons_zero, List.replicate_succ, List.replicate_zero, List.contains_nil, List.contains_cons, List.isEmpty_nil, if_true, true_and, Bool.true_and, nbeq, decide_false, Bool.or_false, Nat.reduceAdd, Nat.reduceEqDiff, Int.reduceAdd, List.replicate_succ, List.replicate_zero, List.set_cons_zero, List.set_cons_succ]
  by_cases hk0 : (0 : Int) < k
  · simp only [awp, ACond_true, List.contains_nil, List.contains_cons, beq_self_eq_true, nbeq, decide_false, Bool.or_false, Bool.or_true, Nat.reduceAdd, Nat.reduceEqDiff, Int.reduceAdd, decide_eq_true hk0]
    refine swp_grow (n := k) (k := .i64) ti25 rfl ti3 (by kernel_rfl) rfl rfl (by omega) hk (by decide) (by decide) rfl ?_
    simp only [w_move, w_assign, w_aop, w_anone, w_nil, w_cons, awp, asN, St.ev, St.step, setS, killS, AV.kill, AV.killL, Mem.kill, ACond_false, List.getD_cons_succ, List.getD_cons_zero, List.set_cons_succ, List.set_cons_zero, List.length_cons, List.length_nil, List.replicate_succ, List.replicate_zero, List.cons_append, List.nil_append, List.contains_nil, List.contains_cons, List.isEmpty_nil, Option.getD_some, Bool.false_eq_true, if_false, if_true, Nat.zero_add, beq_self_eq_true, nbeq, decide_false, Bool.or_false, Nat.reduceAdd, Nat.reduceEqDiff, Int.reduceAdd, List.replicate_succ, List.replicate_zero, List.set_cons_zero, List.set_cons_succ]
    exact aend_exp 1 rfl rfl rfl ⟨rfl, rfl⟩
  · simp only [w_move, w_assign, w_aop, w_some, w_asome, w_nil, w_cons, awp, asN, Aw.newRow, St.ev, St.step, setS, killS, AV.kill, AV.killL, Mem.kill, ACond_false, List.getD_cons_succ, List.getD_cons_zero, List.set_cons_succ, List.set_cons_zero, List.length_cons, List.length_nil, List.cons_append, List.nil_append, List.contains_nil, List.contains_cons, List.isEmpty_nil, Option.getD_some, if_true, Nat.zero_add, beq_self_eq_true, nbeq, decide_false, Bool.or_false, Nat.reduceAdd, Nat.reduceEqDiff, Int.reduceAdd, ti3, ti25, decide_eq_false hk0]
    exact aend_exp 1 rfl rfl rfl ⟨rfl, rfl⟩

theorem ok84 : okFn Try.prog 84 = true := by kernel_rfl
theorem s84 (lss : List (List Int)) (hl : lss.length ≤ 1000000) (hf : lss.flatten.length ≤ 1000000) : ASpec Try.prog 84 [.s 1 (rowI lss)] (fun r Ms => r = .o 0 ∧ Ms = [⟨none, 3, 1, intsA lss.flatten⟩]) := by
  refine aspec_of (own := []) Try.func84 rfl ok84 ?_
  simp only [w_move, w_assign, w_len, w_aop, w_some, w_asome, w_anone, w_nil, w_cons, awp, asN, lenA, St.ev, St.step, setS, killS, AV.kill, AV.killL, Mem.kill, ACond_false, List.getD_cons_succ, List.getD_cons_zero, List.set_cons_succ, List.set_cons_zero, List.length_cons, List.length_nil, List.replicate_succ, List.replicate_zero, List.cons_append, List.nil_append, List.contains_nil, List.isEmpty_nil, Option.getD_some, Bool.false_eq_true, if_false, if_true, true_and, Bool.true_and, Option.isSome_some, Nat.zero_add, Nat.add_zero, Nat.reduceAdd, Nat.reduceSub, Int.reduceAdd, Int.reduceSub, ti96, Try.ntmps84, rowI_len]
  refine swp_loop' (fun i : Nat => ⟨[.s 1 (rowI lss), .bot, .bot, I (lss.take i).flatten.length, .bot, .bot, .bot, .bot, .bot, .s 1 (rowI lss), I lss.length, I i, .bot, .bot, .bot, .bot, .bot, .bot, .bot, .bot, .bot, .bot, .bot, .bot, .bot, .bot, .bot, .bot, .bot, .bot, .bot, .bot, .bot, .bot, .bot, .bot], []⟩) (fun i => i ≤ lss.length) (fun i => lss.length - i) 0 (le_sl (by simp [leSl])) (Nat.zero_le _) ?_
  intro i hi
  refine awp_sound (own := []) _ _ _ _ _ ?_
  simp only [w_binOp, w_aop, w_some, w_asome, w_nil, w_cons, awp, binC, cmpC, asB, asI, St.ev, St.step, setS, killS, AV.kill, AV.killL, Mem.kill, ACond_false, List.getD_cons_succ, List.getD_cons_zero, List.set_cons_succ, List.set_cons_zero, List.contains_nil, List.isEmpty_nil, if_true, true_and, Bool.true_and, Nat.reduceAdd, Int.reduceAdd]
  by_cases h : i < lss.length
  · have h' : (i : Int) < (lss.length : Int) := by omega
    have h1 := flat_le lss (i + 1)
    rw [flat_take h, List.length_append] at h1
    have h0 : ¬ ((lss.take i).flatten.length : Int) + (lss[i].length : Int) < 0 := by omega
    simp only [w_move, w_assign, w_load, w_indexAddr, w_binOp, w_len, w_aop, w_some, w_asome, w_anone, w_nil, w_cons, awp, binC, idxC, arithC, cmpC, asP, asS, asB, asI, asN, lenA, loadA, St.ev, St.step, setS, killS, AV.kill, AV.killL, Mem.kill, AV.cells, AV.flat, AV.single, ACond_true, ACond_false, List.getD_cons_succ, List.getD_cons_zero, List.set_cons_succ, List.set_cons_zero, List.getElem?_cons_zero, List.contains_nil, List.isEmpty_nil, Option.getD_some, Bool.false_eq_true, if_false, if_true, true_and, and_true, List.all_cons, List.all_nil, Bool.and_true, Bool.true_and, Bool.not_true, Option.isSome_some, Nat.reduceAdd, Int.reduceAdd, ti25, ti96, decide_eq_true h', aget_rowI h, Int.toNat_natCast, intsA_len, decide_eq_false h0]
    refine ⟨by omega, by unfold lim; omega, by unfold lim; omega, i + 1, ?_, by omega, by omega⟩
    rw [flat_take h, List.length_append]
    exact le_sl (by simp [leSl])
  · have h' : ¬ (i : Int) < (lss.length : Int) := by omega
    obtain rfl : i = lss.length := by omega
    simp only [w_move, w_callF, w_aop, w_cons, awp, St.ev, St.step, setS, killS, AV.kill, AV.killL, Mem.kill, ACond_false, List.getD_cons_succ, List.getD_cons_zero, List.set_cons_succ, List.set_cons_zero, List.contains_nil, List.isEmpty_nil, if_true, List.map_cons, List.map_nil, Nat.reduceAdd, Int.reduceAdd, decide_eq_false h', List.take_length]
    refine acall_o (x := .o 0) (s97 lss.flatten.length hf) rfl rfl ?_
    simp only [w_move, w_assign, w_len, w_aop, w_some, w_asome, w_anone, w_nil, w_cons, awp, asN, lenA, St.ev, St.step, setS, killS, AV.kill, AV.killL, Mem.kill, ACond_false, List.getD_cons_succ, List.getD_cons_zero, List.set_cons_succ, List.set_cons_zero, List.length_nil, List.nil_append, List.contains_nil, List.isEmpty_nil, Option.getD_some, Bool.false_eq_true, if_false, if_true, true_and, Bool.true_and, Option.isSome_some, Nat.add_zero, Nat.reduceAdd, Int.reduceAdd, ti96, AV.up, AV.sub, rowI_len]
    refine swp_loop' (fun i : Nat => ⟨[.bot, .bot, .bot, .bot, .bot, .bot, .o 0, .bot, .bot, .bot, .bot, .bot, .bot, .bot, .bot, .bot, .bot, .bot, .bot, .bot, .bot, .bot, .bot, .bot, .bot, .s 1 (rowI lss), I lss.length, I i, .bot, .bot, .bot, .bot, .bot, .bot, .bot, .bot], [some ⟨none, 3, 1, intsA (lss.take i).flatten⟩]⟩) (fun i => i ≤ lss.length) (fun i => lss.length - i) 0 (le_sl (by simp [leSl])) (Nat.zero_le _) ?_
    intro i hi
    refine awp_sound (own := []) _ _ _ _ _ ?_
    simp only [w_binOp, w_aop, w_some, w_asome, w_nil, w_cons, awp, binC, cmpC, asB, asI, St.ev, St.step, setS, killS, AV.kill, AV.killL, Mem.kill, ACond_false, List.getD_cons_succ, List.getD_cons_zero, List.set_cons_succ, List.set_cons_zero, List.contains_nil, List.isEmpty_nil, Bool.false_eq_true, if_false, if_true, true_and, Bool.true_and, Nat.reduceAdd, Int.reduceAdd]
    by_cases h : i < lss.length
    · have h' : (i : Int) < (lss.length : Int) := by omega
      have h1 := flat_le lss (i + 1)
      rw [flat_take h, List.length_append] at h1
      simp only [w_move, w_assign, w_load, w_indexAddr, w_binOp, w_append, w_aop, w_some, w_asome, w_anone, w_nil, w_cons, awp, binC, idxC, arithC, cmpC, asP, asO, asS, asI, asN, obA, loadA, St.ev, St.step, setS, killS, AV.kill, AV.killL, Mem.kill, AV.cells, AV.flat, AV.single, ACond_true, ACond_false, List.getD_cons_succ, List.getD_cons_zero, List.set_cons_succ, List.set_cons_zero, List.getElem?_cons_zero, List.contains_nil, List.contains_cons, List.isEmpty_nil, List.isEmpty_cons, Option.getD_some, Bool.false_eq_true, if_false, if_true, true_and, and_true, List.all_cons, List.all_nil, Bool.and_true, Bool.true_and, Bool.not_true, beq_self_eq_true, List.map_cons, List.map_nil, Bool.or_false, Nat.reduceAdd, Nat.reduceLeDiff, Int.reduceAdd, Option.map_some, ti3, ti25, ti96, decide_eq_true h', aget_rowI h, Int.toNat_natCast, intsA_len, intsA_kill]
      refine ⟨by omega, ⟨by decide, by omega⟩, by unfold lim; omega, i + 1, ?_, by omega, by omega⟩
      have e : intsA (lss.take i).flatten ++ intsA lss[i] = intsA (lss.take (i + 1)).flatten := by rw [flat_take h]; simp [intsA]
      rw [e]
      exact le_sl (by simp [leSl])
    · have h' : ¬ (i : Int) < (lss.length : Int) := by omega
      obtain rfl : i = lss.length := by omega
      simp only [w_move, w_assign, w_aop, w_anone, w_nil, w_cons, awp, asN, St.ev, St.step, setS, killS, AV.kill, AV.killL, Mem.kill, ACond_false, List.getD_cons_succ, List.getD_cons_zero, List.set_cons_succ, List.set_cons_zero, List.contains_nil, List.isEmpty_nil, Option.getD_some, Bool.false_eq_true, if_false, if_true, Nat.reduceAdd, Int.reduceAdd, decide_eq_false h', List.take_length]
      exact aend_exp 0 rfl rfl (intsA_pure _) ⟨rfl, rfl⟩


/-- the ions in a zone; the ions of some zones. -/
def ionsAt (l : List Int) (z : Int) : List Int := upL l.length fun i => decide (l.getD i.toNat 0 = z)
def seqL (l zs : List Int) : List Int := zs.flatMap (ionsAt l)
theorem seqL_succ {l zs : List Int} {k : Nat} (h : k < zs.length) : seqL l (zs.take (k + 1)) = seqL l (zs.take k) ++ ionsAt l zs[k] := by
  rw [seqL, ← List.take_append_getElem h, List.flatMap_append]; simp [seqL]
theorem upL_none {m : Nat} {p : Int → Bool} (h : ∀ i : Nat, i < m → p i = false) : upL m p = [] := by
  rw [upL, List.filter_eq_nil_iff]
  intro x hx
  obtain ⟨i, hi, rfl⟩ := List.mem_map.1 hx
  rw [h i (List.mem_range.1 hi)]; simp
theorem upL_one {p : Int → Bool} {k : Nat} (hp : p k = true) : ∀ {m : Nat}, k < m → (∀ i : Nat, i < m → i ≠ k → p i = false) → upL m p = [(k : Int)]
  | m + 1, hk, h => by
    by_cases hm : m = k
    · subst hm
      rw [upL_true hp, upL_none fun i hi => h i (by omega) (by omega)]; rfl
    · rw [upL_false (h m (by omega) hm)]
      exact upL_one hp (by omega) fun i hi => h i (by omega)
theorem nodup_at {l : List Int} (h : l.Nodup) {i j : Nat} (hi : i < l.length) (hj : j < l.length) (e : l[i] = l[j]) : i = j := by
  rw [List.Nodup, List.pairwise_iff_getElem] at h
  rcases Nat.lt_trichotomy i j with h1 | h1 | h1
  · exact absurd e (h i j hi hj h1)
  · exact h1
  · exact absurd e.symm (h j i hj hi h1)
theorem idxL_cases (l : List Int) (z : Int) : (∃ (k : Nat) (h : k < l.length), idxL l z = k ∧ l[k] = z) ∨ (idxL l z = -1 ∧ z ∉ l) := by
  unfold idxL
  cases hf : l.findIdx? (fun y => decide (z = y)) with
  | none =>
    rw [List.findIdx?_eq_none_iff] at hf
    exact .inr ⟨rfl, fun h => by simpa using hf z h⟩
  | some k =>
    rw [List.findIdx?_eq_some_iff_getElem] at hf
    obtain ⟨h, h1, _⟩ := hf
    exact .inl ⟨k, h, rfl, by simpa using (of_decide_eq_true h1).symm⟩
theorem idxL_lt (l : List Int) (z : Int) : idxL l z ≤ l.length := by
  rcases idxL_cases l z with ⟨k, h, e, _⟩ | ⟨e, _⟩ <;> omega
theorem ions_idx {l : List Int} (hnd : l.Nodup) (z : Int) : (0 ≤ idxL l z ∧ ionsAt l z = [idxL l z]) ∨ (idxL l z < 0 ∧ ionsAt l z = []) := by
  rcases idxL_cases l z with ⟨k, h, e, hz⟩ | ⟨e, hz⟩
  · left
    rw [e]
    refine ⟨by omega, upL_one (by rw [Int.toNat_natCast, getD_at h, hz]; simp) h fun i hi hik => ?_⟩
    rw [Int.toNat_natCast, getD_at hi]
    exact decide_eq_false fun e => hik (nodup_at hnd hi h (by rw [e, hz]))
  · right
    rw [e]
    refine ⟨by omega, upL_none fun i hi => ?_⟩
    rw [Int.toNat_natCast, getD_at hi]
    exact decide_eq_false fun e => hz (by rw [← e]; exact List.getElem_mem hi)
theorem ions_len {l : List Int} (hnd : l.Nodup) (z : Int) : (ionsAt l z).length ≤ 1 := by
  rcases ions_idx hnd z with ⟨_, e⟩ | ⟨_, e⟩ <;> rw [e] <;> simp
theorem seqL_len {l : List Int} (hnd : l.Nodup) : ∀ zs : List Int, (seqL l zs).length ≤ zs.length
  | [] => by simp [seqL]
  | z :: zs => by
    have h1 := ions_len hnd z
    have h2 := seqL_len hnd zs
    have e : seqL l (z :: zs) = ionsAt l z ++ seqL l zs := by simp [seqL]
    rw [e, List.length_append, List.length_cons]
    omega

/-- the place of the ion 0; turned so that this one is the first one. -/
def fstO (o : List Int) : Nat := (idxL o 0).toNat
def rotL (o : List Int) : List Int := o.drop (fstO o) ++ o.take (fstO o)
theorem rotL_len (o : List Int) : (rotL o).length = o.length := by simp only [rotL, List.length_append, List.length_drop, List.length_take]; omega
theorem rotL_id {o : List Int} (h : idxL o 0 ≤ 0) : rotL o = o := by
  have : fstO o = 0 := by unfold fstO; omega
  simp [rotL, this]

def seqA (n : Int) (ls : List (Int × Int)) (l : List Int) : List Int × Bool × Int :=
  if vTP n ls l ≠ 0 then ([], false, vTP n ls l) else if (lineP n ls).2 = true then (seqL l (lineP n ls).1, true, 0) else if (ringP n ls).2 = true then (rotL (seqL l (ringP n ls).1), true, 0) else ([], false, 0)

theorem ok54 : okFn Try.prog 54 = true := by kernel_rfl
set_option maxRecDepth 20000 in
theorem s54 (n : Int) (ls : List (Int × Int)) (l : List Int) (hls : ls.length ≤ 1000000) (hl : l.length ≤ 1000000) : ASpec Try.prog 54 [trapA n ls, .s 1 (intsA l)] (fun r Ms => r = t3A (seqA n ls l) ∧ Ms = []) := by
  refine aspec_of (own := [4, 11]) Try.func54 rfl ok54 ?_
  simp only [w_move, w_assign, w_box, w_load, w_callF, w_aop, w_some, w_asome, w_anone, w_nil, w_cons, awp, asP, asN, loadA, Aw.newRow, St.ev, St.step, setS, killS, AV.kill, AV.killL, Mem.kill, AV.cells, AV.flat, AV.single, AV.cellular, AV.pure, AV.pureL, ACond_false, List.getD_cons_succ, List.getD_cons_zero, List.set_cons_succ, List.set_cons_zero, List.getElem?_cons_zero, List.length_cons, List.length_nil, List.replicate_succ, List.replicate_zero, List.cons_append, List.nil_append, List.contains_nil, List.contains_cons, List.isEmpty_nil, Option.getD_some, Bool.false_eq_true, if_false, if_true, true_and, and_true, List.all_cons, List.all_nil, Bool.and_true, Bool.true_and, Bool.not_true, Nat.zero_add, Nat.add_zero, beq_self_eq_true, List.map_cons, List.map_nil, decide_true, nbeq, decide_false, Bool.or_false, Nat.reduceAdd, Nat.reduceEqDiff, Nat.reduceSub, Nat.reduceLeDiff, Int.reduceAdd, Int.reduceSub, ti3, ti24, ti25, Try.ntmps54, trapA]
  refine acall_v (s25 n ls l hls hl) rfl rfl ?_
  by_cases hv : vTP n ls l = 0
  case neg =>
    simp only [w_move, w_assign, w_binOp, w_aop, w_some, w_asome, w_anone, w_nil, w_cons, awp, binC, cmpC, asB, asI, asN, Aw.newRow, St.ev, St.step, setS, killS, AV.kill, AV.killL, Mem.kill, ACond_true, ACond_false, List.getD_cons_succ, List.getD_cons_zero, List.set_cons_succ, List.set_cons_zero, List.length_cons, List.length_nil, List.cons_append, List.nil_append, List.contains_nil, List.contains_cons, List.isEmpty_nil, Option.getD_some, Bool.false_eq_true, if_false, if_true, true_and, Bool.true_and, Bool.not_false, Nat.zero_add, beq_self_eq_true, nbeq, decide_false, Bool.or_false, Nat.reduceAdd, Nat.reduceEqDiff, Int.reduceAdd, ti3, ti25, decide_eq_false hv]
    exact aend_frz rfl ⟨by rw [seqA, if_pos hv]; simp [t3A, frz, AV.sub, AV.subL, AV.pureL]; rfl, rfl⟩
  simp only [w_move, w_assign, w_load, w_binOp, w_callF, w_aop, w_some, w_asome, w_anone, w_nil, w_cons, awp, binC, cmpC, asP, asB, asI, asN, loadA, St.ev, St.step, setS, killS, AV.kill, AV.killL, Mem.kill, AV.cells, AV.flat, AV.single, ACond_false, List.getD_cons_succ, List.getD_cons_zero, List.set_cons_succ, List.set_cons_zero, List.getElem?_cons_zero, List.length_cons, List.length_nil, List.contains_nil, List.contains_cons, List.isEmpty_nil, Option.getD_some, Bool.false_eq_true, if_false, if_true, true_and, and_true, List.all_cons, List.all_nil, Bool.and_true, Bool.true_and, Bool.not_true, Nat.zero_add, beq_self_eq_true, List.map_cons, List.map_nil, decide_true, nbeq, decide_false, Bool.or_false, Nat.reduceAdd, Nat.reduceEqDiff, Nat.reduceLeDiff, Int.reduceAdd, ti24, decide_eq_true hv]
  have hvt := vTP_vT hv
  obtain ⟨hn1, hls1, hnd1⟩ := vT_parts hvt
  have hnd := (vTP_iff.1 hv).2.2.2
  have h78 := s78 n ls hvt hls
  have h82 := s82 n ls hvt hls
  have hLo := lineP_ok hvt
  have hRo := ringP_ok hvt
  rw [seqA, if_neg (by simpa using hv)]
  rcases hL : lineP n ls with ⟨Z, b⟩
  rcases hR : ringP n ls with ⟨Y, c⟩
  rw [hL] at h78 hLo
  rw [hR] at h82 hRo
  refine acall_v h78 rfl rfl ?_
  cases b with
  | true =>
    have hZ := (hLo rfl).1.len
    simp only at hZ
    simp only [w_move, w_assign, w_pick, w_not, w_extract, w_len, w_aop, w_aopg, w_gdb, w_some, w_asome, w_anone, w_nil, w_cons, awp, asT, asB, asN, lenA, Aw.newRow, St.ev, St.step, setS, killS, AV.kill, AV.killL, Mem.kill, ACond_false, List.getD_cons_succ, List.getD_cons_zero, List.set_cons_succ, List.set_cons_zero, List.getElem?_cons_succ, List.getElem?_cons_zero, List.length_cons, List.length_nil, List.cons_append, List.nil_append, List.contains_nil, List.contains_cons, List.isEmpty_nil, Option.getD_some, Bool.false_eq_true, if_false, if_true, true_and, Bool.true_and, Bool.not_true, Option.isSome_some, Nat.zero_add, beq_self_eq_true, nbeq, decide_false, Bool.or_false, Bool.or_true, Nat.reduceAdd, Nat.reduceEqDiff, Int.reduceAdd, Option.bind_some, w_bt, ti3, ti25, intsA_len]
    refine swp_loop' (fun k : Nat => ⟨[.bot, .s 1 (intsA l), .bot, .bot, .bot, .bot, .bot, .bot, .bot, .bot, B false, .o 1, .bot, .bot, .bot, .bot, .bot, .bot, .bot, .bot, .bot, .bot, .bot, .bot, .bot, .bot, .bot, .bot, .bot, .bot, .bot, .bot, .bot, .bot, .bot, .bot, .bot, .bot, .bot, .bot, .s 1 (intsA Z), I Z.length, I k, .bot, .bot, .bot, .bot, .bot, .bot, .bot, .bot, .bot, .bot, .bot, .bot, .bot, .bot, .bot, .bot, .bot, .bot, .bot, .bot, .bot, .bot, .bot, .bot, .bot, .bot, .bot, .bot, .bot], [some ⟨none, 3, 1, []⟩, some ⟨none, 3, 1, intsA (seqL l (Z.take k))⟩]⟩) (fun k => k ≤ Z.length) (fun k => Z.length - k) 0 (le_sl (by simp [leSl, seqL])) (Nat.zero_le _) ?_
    intro k hk
    refine awp_sound (own := [4, 11]) _ _ _ _ _ ?_
    have hsl := seqL_len hnd (Z.take k)
    have htk : (Z.take k).length ≤ 6 := by rw [List.length_take]; omega
    simp only [w_binOp, w_aop, w_some, w_asome, w_nil, w_cons, awp, binC, cmpC, asB, asI, St.ev, St.step, setS, killS, AV.kill, AV.killL, Mem.kill, ACond_false, List.getD_cons_succ, List.getD_cons_zero, List.set_cons_succ, List.set_cons_zero, List.contains_nil, List.contains_cons, List.isEmpty_nil, Bool.false_eq_true, if_false, if_true, true_and, Bool.true_and, nbeq, decide_false, Bool.or_false, Nat.reduceAdd, Nat.reduceEqDiff, Int.reduceAdd]
    by_cases h : k < Z.length
    · have h' : (k : Int) < (Z.length : Int) := by omega
      simp only [w_move, w_assign, w_load, w_indexAddr, w_callF, w_aop, w_some, w_asome, w_anone, w_nil, w_cons, awp, idxC, asP, asS, asI, asN, loadA, St.ev, St.step, setS, killS, AV.kill, AV.killL, Mem.kill, AV.cells, AV.flat, AV.single, ACond_true, ACond_false, List.getD_cons_succ, List.getD_cons_zero, List.set_cons_succ, List.set_cons_zero, List.getElem?_cons_zero, List.contains_nil, List.contains_cons, List.isEmpty_nil, Option.getD_some, Bool.false_eq_true, if_false, if_true, true_and, and_true, List.all_cons, List.all_nil, Bool.and_true, Bool.true_and, Bool.not_true, List.map_cons, List.map_nil, nbeq, decide_false, Bool.or_false, Nat.reduceAdd, Nat.reduceEqDiff, Int.reduceAdd, ti3, ti25, decide_eq_true h', aget_ints h, Int.toNat_natCast]
      refine ⟨by omega, acall_v (s83 l Z[k] hl) rfl rfl ?_⟩
      rcases ions_idx hnd Z[k] with ⟨i0, e⟩ | ⟨i0, e⟩
      · have i1 : (0 : Int) ≤ idxL l Z[k] := i0
        simp only [w_move, w_assign, w_binOp, w_buildSlice, w_append, w_aop, w_some, w_asome, w_anone, w_nil, w_cons, awp, binC, arithC, cmpC, asO, asS, asB, asI, asN, obA, St.ev, St.step, setS, killS, AV.kill, AV.killL, Mem.kill, AV.cells, AV.flat, AV.single, AV.cellular, AV.size, AV.pure, AV.pureL, ACond_true, ACond_false, Value.oneCell', List.getD_cons_succ, List.getD_cons_zero, List.set_cons_succ, List.set_cons_zero, List.getElem?_cons_succ, List.getElem?_cons_zero, List.length_cons, List.length_nil, List.contains_nil, List.contains_cons, List.isEmpty_nil, List.isEmpty_cons, Option.getD_some, Bool.false_eq_true, if_false, if_true, true_and, and_true, List.all_cons, List.all_nil, Bool.and_true, Bool.true_and, Nat.zero_add, beq_self_eq_true, List.map_cons, List.map_nil, decide_true, nbeq, decide_false, Bool.or_false, Bool.or_true, Nat.reduceAdd, Nat.reduceEqDiff, Nat.reduceMul, Nat.reduceLeDiff, Int.reduceAdd, Int.reduceMul, Option.map_some, ti3, ti25, decide_eq_true i1, intsA_len, intsA_kill]
        refine ⟨⟨by decide, rfl⟩, ⟨by decide, by omega⟩, by unfold lim; omega, k + 1, ?_, by omega, by omega⟩
        rw [seqL_succ h, e, ← intsA_app]
        exact le_sl (by simp [leSl])
      · have i1 : ¬ (0 : Int) ≤ idxL l Z[k] := by omega
        simp only [w_move, w_assign, w_binOp, w_aop, w_some, w_asome, w_anone, w_nil, w_cons, awp, binC, arithC, cmpC, asB, asI, asN, St.ev, St.step, setS, killS, AV.kill, AV.killL, Mem.kill, ACond_false, List.getD_cons_succ, List.getD_cons_zero, List.set_cons_succ, List.set_cons_zero, List.contains_nil, List.contains_cons, List.isEmpty_nil, Option.getD_some, Bool.false_eq_true, if_false, if_true, true_and, and_true, Bool.and_true, Bool.true_and, nbeq, decide_false, Bool.or_false, Nat.reduceAdd, Nat.reduceEqDiff, Int.reduceAdd, decide_eq_false i1]
        refine ⟨by unfold lim; omega, k + 1, ?_, by omega, by omega⟩
        rw [seqL_succ h, e, List.append_nil]
        exact le_sl (by simp [leSl])
    · have h' : ¬ (k : Int) < (Z.length : Int) := by omega
      obtain rfl : k = Z.length := by omega
      rw [List.take_length] at *
      simp only [w_move, w_callF, w_aop, w_cons, awp, St.ev, St.step, setS, killS, AV.kill, AV.killL, Mem.kill, ACond_false, List.getD_cons_succ, List.getD_cons_zero, List.set_cons_succ, List.set_cons_zero, List.contains_nil, List.contains_cons, List.isEmpty_nil, Bool.false_eq_true, if_false, if_true, List.map_cons, List.map_nil, nbeq, decide_false, Bool.or_false, Nat.reduceAdd, Nat.reduceEqDiff, Int.reduceAdd, decide_eq_false h']
      generalize hO : seqL l Z = O at *
      refine acall_l (s83 O 0 (by omega)) (by simp [frz, AV.sub, intsA_pure]) rfl rfl ?_
      simp only [w_move, w_assign, w_pick, w_aop, w_aopg, w_gdb, w_some, w_anone, w_nil, w_cons, awp, asB, asN, St.ev, St.step, setS, killS, AV.kill, AV.killL, Mem.kill, ACond_false, List.getD_cons_succ, List.getD_cons_zero, List.set_cons_succ, List.set_cons_zero, List.getElem?_cons_succ, List.getElem?_cons_zero, List.contains_nil, List.contains_cons, List.isEmpty_nil, Option.getD_some, Bool.false_eq_true, if_false, if_true, beq_self_eq_true, nbeq, decide_false, Bool.or_false, Nat.reduceAdd, Nat.reduceEqDiff, Int.reduceAdd, Option.bind_some, w_bt]
      exact aend_frz rfl ⟨by simp [t3A, frz, AV.sub, AV.subL, intsA_pure], rfl⟩
  | false =>
    simp only [w_move, w_assign, w_load, w_not, w_extract, w_callF, w_aop, w_some, w_asome, w_anone, w_nil, w_cons, awp, asP, asT, asB, asN, loadA, St.ev, St.step, setS, killS, AV.kill, AV.killL, Mem.kill, AV.cells, AV.flat, AV.single, ACond_true, ACond_false, List.getD_cons_succ, List.getD_cons_zero, List.set_cons_succ, List.set_cons_zero, List.getElem?_cons_succ, List.getElem?_cons_zero, List.length_cons, List.length_nil, List.contains_nil, List.contains_cons, List.isEmpty_nil, Option.getD_some, Bool.false_eq_true, if_false, if_true, and_true, List.all_cons, List.all_nil, Bool.and_true, Bool.not_true, Bool.not_false, Nat.zero_add, beq_self_eq_true, List.map_cons, List.map_nil, decide_true, nbeq, decide_false, Bool.or_false, Nat.reduceAdd, Nat.reduceEqDiff, Nat.reduceLeDiff, Int.reduceAdd, ti24]
    refine acall_v h82 rfl rfl ?_
    cases c with
    | false =>
      simp only [w_move, w_assign, w_pick, w_not, w_extract, w_aop, w_aopg, w_gdb, w_some, w_asome, w_anone, w_nil, w_cons, awp, asT, asB, asN, Aw.newRow, St.ev, St.step, setS, killS, AV.kill, AV.killL, Mem.kill, ACond_true, ACond_false, List.getD_cons_succ, List.getD_cons_zero, List.set_cons_succ, List.set_cons_zero, List.getElem?_cons_succ, List.getElem?_cons_zero, List.length_cons, List.length_nil, List.cons_append, List.nil_append, List.contains_nil, List.contains_cons, List.isEmpty_nil, Option.getD_some, Bool.false_eq_true, if_false, if_true, Bool.not_false, Nat.zero_add, beq_self_eq_true, nbeq, decide_false, Bool.or_false, Nat.reduceAdd, Nat.reduceEqDiff, Int.reduceAdd, Option.bind_some, ti3, ti25]
      exact aend_frz rfl ⟨by simp [t3A, frz, AV.sub, AV.subL, AV.pureL]; rfl, rfl⟩
    | true =>
      have hZ := (hRo rfl).2.1.len
      simp only at hZ
      simp only [w_move, w_assign, w_pick, w_not, w_extract, w_len, w_aop, w_aopg, w_gdb, w_some, w_asome, w_anone, w_nil, w_cons, awp, asT, asB, asN, lenA, Aw.newRow, St.ev, St.step, setS, killS, AV.kill, AV.killL, Mem.kill, ACond_true, ACond_false, List.getD_cons_succ, List.getD_cons_zero, List.set_cons_succ, List.set_cons_zero, List.getElem?_cons_succ, List.getElem?_cons_zero, List.length_cons, List.length_nil, List.cons_append, List.nil_append, List.contains_nil, List.contains_cons, List.isEmpty_nil, Option.getD_some, Bool.false_eq_true, if_false, if_true, true_and, Bool.true_and, Bool.not_true, Bool.not_false, Option.isSome_some, Nat.zero_add, beq_self_eq_true, nbeq, decide_false, Bool.or_false, Bool.or_true, Nat.reduceAdd, Nat.reduceEqDiff, Int.reduceAdd, Option.bind_some, ti3, ti25, intsA_len]
      refine swp_loop' (fun k : Nat => ⟨[.bot, .s 1 (intsA l), .bot, .bot, .bot, .bot, .bot, .bot, .bot, .bot, B true, .o 1, .bot, .bot, .bot, .bot, .bot, .bot, .bot, .bot, .bot, .bot, .bot, .bot, .bot, .bot, .bot, .bot, .bot, .bot, .bot, .bot, .bot, .bot, .bot, .bot, .bot, .bot, .bot, .bot, .s 1 (intsA Y), I Y.length, I k, .bot, .bot, .bot, .bot, .bot, .bot, .bot, .bot, .bot, .bot, .bot, .bot, .bot, .bot, .bot, .bot, .bot, .bot, .bot, .bot, .bot, .bot, .bot, .bot, .bot, .bot, .bot, .bot, .bot], [some ⟨none, 3, 1, []⟩, some ⟨none, 3, 1, intsA (seqL l (Y.take k))⟩]⟩) (fun k => k ≤ Y.length) (fun k => Y.length - k) 0 (le_sl (by simp [leSl, seqL])) (Nat.zero_le _) ?_
      intro k hk
      refine awp_sound (own := [4, 11]) _ _ _ _ _ ?_
      have hsl := seqL_len hnd (Y.take k)
      have htk : (Y.take k).length ≤ 6 := by rw [List.length_take]; omega
      simp only [w_binOp, w_aop, w_some, w_asome, w_nil, w_cons, awp, binC, cmpC, asB, asI, St.ev, St.step, setS, killS, AV.kill, AV.killL, Mem.kill, ACond_false, List.getD_cons_succ, List.getD_cons_zero, List.set_cons_succ, List.set_cons_zero, List.contains_nil, List.contains_cons, List.isEmpty_nil, Bool.false_eq_true, if_false, if_true, true_and, Bool.true_and, nbeq, decide_false, Bool.or_false, Nat.reduceAdd, Nat.reduceEqDiff, Int.reduceAdd]
      by_cases h : k < Y.length
      · have h' : (k : Int) < (Y.length : Int) := by omega
        simp only [w_move, w_assign, w_load, w_indexAddr, w_callF, w_aop, w_some, w_asome, w_anone, w_nil, w_cons, awp, idxC, asP, asS, asI, asN, loadA, St.ev, St.step, setS, killS, AV.kill, AV.killL, Mem.kill, AV.cells, AV.flat, AV.single, ACond_true, ACond_false, List.getD_cons_succ, List.getD_cons_zero, List.set_cons_succ, List.set_cons_zero, List.getElem?_cons_zero, List.contains_nil, List.contains_cons, List.isEmpty_nil, Option.getD_some, Bool.false_eq_true, if_false, if_true, true_and, and_true, List.all_cons, List.all_nil, Bool.and_true, Bool.true_and, Bool.not_true, List.map_cons, List.map_nil, nbeq, decide_false, Bool.or_false, Nat.reduceAdd, Nat.reduceEqDiff, Int.reduceAdd, ti3, ti25, decide_eq_true h', aget_ints h, Int.toNat_natCast]
        refine ⟨by omega, acall_v (s83 l Y[k] hl) rfl rfl ?_⟩
        rcases ions_idx hnd Y[k] with ⟨i0, e⟩ | ⟨i0, e⟩
        · have i1 : (0 : Int) ≤ idxL l Y[k] := i0
          simp only [w_move, w_assign, w_binOp, w_buildSlice, w_append, w_aop, w_some, w_asome, w_anone, w_nil, w_cons, awp, binC, arithC, cmpC, asO, asS, asB, asI, asN, obA, St.ev, St.step, setS, killS, AV.kill, AV.killL, Mem.kill, AV.cells, AV.flat, AV.single, AV.cellular, AV.size, AV.pure, AV.pureL, ACond_true, ACond_false, Value.oneCell', List.getD_cons_succ, List.getD_cons_zero, List.set_cons_succ, List.set_cons_zero, List.getElem?_cons_succ, List.getElem?_cons_zero, List.length_cons, List.length_nil, List.contains_nil, List.contains_cons, List.isEmpty_nil, List.isEmpty_cons, Option.getD_some, Bool.false_eq_true, if_false, if_true, true_and, and_true, List.all_cons, List.all_nil, Bool.and_true, Bool.true_and, Nat.zero_add, beq_self_eq_true, List.map_cons, List.map_nil, decide_true, nbeq, decide_false, Bool.or_false, Bool.or_true, Nat.reduceAdd, Nat.reduceEqDiff, Nat.reduceMul, Nat.reduceLeDiff, Int.reduceAdd, Int.reduceMul, Option.map_some, ti3, ti25, decide_eq_true i1, intsA_len, intsA_kill]
          refine ⟨⟨by decide, rfl⟩, ⟨by decide, by omega⟩, by unfold lim; omega, k + 1, ?_, by omega, by omega⟩
          rw [seqL_succ h, e, ← intsA_app]
          exact le_sl (by simp [leSl])
        · have i1 : ¬ (0 : Int) ≤ idxL l Y[k] := by omega
          simp only [w_move, w_assign, w_binOp, w_aop, w_some, w_asome, w_anone, w_nil, w_cons, awp, binC, arithC, cmpC, asB, asI, asN, St.ev, St.step, setS, killS, AV.kill, AV.killL, Mem.kill, ACond_false, List.getD_cons_succ, List.getD_cons_zero, List.set_cons_succ, List.set_cons_zero, List.contains_nil, List.contains_cons, List.isEmpty_nil, Option.getD_some, Bool.false_eq_true, if_false, if_true, true_and, and_true, Bool.and_true, Bool.true_and, nbeq, decide_false, Bool.or_false, Nat.reduceAdd, Nat.reduceEqDiff, Int.reduceAdd, decide_eq_false i1]
          refine ⟨by unfold lim; omega, k + 1, ?_, by omega, by omega⟩
          rw [seqL_succ h, e, List.append_nil]
          exact le_sl (by simp [leSl])
      · have h' : ¬ (k : Int) < (Y.length : Int) := by omega
        obtain rfl : k = Y.length := by omega
        rw [List.take_length] at *
        simp only [w_move, w_callF, w_aop, w_cons, awp, St.ev, St.step, setS, killS, AV.kill, AV.killL, Mem.kill, ACond_false, List.getD_cons_succ, List.getD_cons_zero, List.set_cons_succ, List.set_cons_zero, List.contains_nil, List.contains_cons, List.isEmpty_nil, Bool.false_eq_true, if_false, if_true, List.map_cons, List.map_nil, nbeq, decide_false, Bool.or_false, Nat.reduceAdd, Nat.reduceEqDiff, Int.reduceAdd, decide_eq_false h']
        generalize hO : seqL l Y = O at *
        refine acall_l (s83 O 0 (by omega)) (by simp [frz, AV.sub, intsA_pure]) rfl rfl ?_
        by_cases hk0 : 0 < idxL O 0
        · simp only [w_move, w_assign, w_pick, w_binOp, w_aop, w_aopg, w_gdb, w_some, w_asome, w_anone, w_nil, w_cons, awp, binC, cmpC, asB, asI, asN, St.ev, St.step, setS, killS, AV.kill, AV.killL, Mem.kill, ACond_true, ACond_false, List.getD_cons_succ, List.getD_cons_zero, List.set_cons_succ, List.set_cons_zero, List.getElem?_cons_succ, List.getElem?_cons_zero, List.contains_nil, List.contains_cons, List.isEmpty_nil, Option.getD_some, Bool.false_eq_true, if_false, if_true, true_and, Bool.true_and, beq_self_eq_true, nbeq, decide_false, Bool.or_false, Nat.reduceAdd, Nat.reduceEqDiff, Int.reduceAdd, Option.bind_some, decide_eq_true hk0]
          have hb := idxL_lt O 0
          have hsub : ∀ m, List.drop m (intsA O) = intsA (O.drop m) := fun m => by simp [intsA, List.map_drop]
          refine swp_le (Le.trans (le_frz 1 (ty := 3) (k := 1) (xs := intsA O) rfl (intsA_pure _)) (le_sl (sl' := [.bot, .bot, .bot, .bot, .bot, .bot, .bot, .bot, .bot, .bot, .bot, .s 1 (intsA O), .bot, .bot, .bot, I (idxL O 0), .bot, .bot, .bot, .bot, .bot, .bot, .bot, .bot, .bot, .bot, .bot, .bot, .bot, .bot, .bot, .bot, .bot, .bot, .bot, .bot, .bot, .bot, .bot, .bot, .bot, .bot, .bot, .bot, .bot, .bot, .bot, .bot, .bot, .bot, .bot, .bot, .bot, .bot, .bot, .bot, .bot, .bot, .bot, .bot, .bot, .bot, .bot, .bot, .bot, .bot, .bot, .bot, .bot, .bot, .bot, .bot]) (by simp [leSl, frz1, AV.sub, AV.subL]))) ?_
          refine swp_draw (own := [4, 11]) (.take 0 .plain [] (.take 1 .plain [] (.take 2 .plain [] (.take 3 .plain [] (.take 4 .plain [] (.take 5 .plain [] (.take 6 .plain [] (.alt 7 (.alt 8 (.done) (.nil)) (.nil))))))))) [⟨64, 2048, 0, 0, true⟩, ⟨65, 32768, 0, 0, true⟩, ⟨66, 27670116110564327424, 3, 0, true⟩, ⟨67, 2048, 0, 0, true⟩, ⟨68, 32768, 0, 0, true⟩, ⟨69, 221360928884514619392, 24, 0, true⟩, ⟨70, 332041393326771929088, 36, 0, true⟩, ⟨71, 590295810358705651712, 64, 0, false⟩, ⟨12, 1180591620717411303424, 255, 0, false⟩] mo (by kernel_rfl) ?_
          simp only [w_move, w_buildSlice, w_slice, w_callF, w_aop, w_take, w_some, asS, bndA, St.ev, setS, AV.cells, AV.flat, AV.single, AV.cellular, AV.size, AV.pure, AV.pureL, ACond_false, Value.oneCell', List.getD_cons_succ, List.getD_cons_zero, List.set_cons_succ, List.set_cons_zero, List.getElem?_cons_succ, List.getElem?_cons_zero, List.contains_nil, List.contains_cons, Option.getD_some, Option.getD_none, true_and, and_true, List.all_cons, List.all_nil, Bool.and_true, Bool.true_and, List.map_cons, List.map_nil, decide_true, nbeq, decide_false, Bool.or_false, Nat.reduceEqDiff, Nat.reduceMul, Nat.reduceLeDiff, Int.reduceMul, Int.reduceLE, Int.toNat_zero, ASch, St.put, Md.mem, Md.need, ti3, ti25, ti96, intsA_len, bndA, intsA_take, List.drop_zero, List.take_length, hsub, Int.toNat_natCast]
          refine ⟨by omega, by omega, ⟨by decide, rfl⟩, ?_⟩
          have e2 : [AV.s 1 (intsA (O.drop (idxL O 0).toNat)), AV.s 1 (intsA (O.take (idxL O 0).toNat))] = rowI [O.drop (idxL O 0).toNat, O.take (idxL O 0).toNat] := rfl
          rw [e2]
          have hfl : [O.drop (idxL O 0).toNat, O.take (idxL O 0).toNat].flatten = rotL O := by simp [rotL, fstO]
          have h84 := s84 [O.drop (idxL O 0).toNat, O.take (idxL O 0).toNat] (by simp) (by rw [hfl, rotL_len]; omega)
          rw [hfl] at h84
          refine acall_o (x := .o 0) h84 (by simp [AV.pureL, AV.pure]) (intsA_pure _) ?_
          simp only [w_move, w_assign, w_aop, w_some, w_anone, w_nil, w_cons, awp, asN, St.ev, St.step, setS, killS, AV.kill, AV.killL, Mem.kill, ACond_false, List.getD_cons_succ, List.getD_cons_zero, List.set_cons_succ, List.set_cons_zero, List.getElem?_cons_succ, List.getElem?_cons_zero, List.contains_nil, List.contains_cons, List.isEmpty_nil, Option.getD_some, Bool.false_eq_true, if_false, if_true, and_true, Bool.and_true, Nat.zero_add, beq_self_eq_true, nbeq, decide_false, Bool.or_false, Bool.or_true, Nat.reduceAdd, Nat.reduceEqDiff, Int.reduceAdd, ASch, AV.up, AV.sub]
          exact aend_frz rfl ⟨by simp [t3A, frz, frzM, AV.sub, AV.subL, intsA_pure], rfl⟩
        · have hr : rotL O = O := rotL_id (by omega)
          rw [hr]
          simp only [w_move, w_assign, w_pick, w_binOp, w_aop, w_aopg, w_gdb, w_some, w_asome, w_anone, w_nil, w_cons, awp, binC, cmpC, asB, asI, asN, St.ev, St.step, setS, killS, AV.kill, AV.killL, Mem.kill, ACond_true, ACond_false, List.getD_cons_succ, List.getD_cons_zero, List.set_cons_succ, List.set_cons_zero, List.getElem?_cons_succ, List.getElem?_cons_zero, List.contains_nil, List.contains_cons, List.isEmpty_nil, Option.getD_some, Bool.false_eq_true, if_false, if_true, true_and, Bool.true_and, beq_self_eq_true, nbeq, decide_false, Bool.or_false, Nat.reduceAdd, Nat.reduceEqDiff, Int.reduceAdd, Option.bind_some, decide_eq_false hk0]
          exact aend_frz rfl ⟨by simp [t3A, frz, AV.sub, AV.subL, intsA_pure], rfl⟩
end Go.Proofs.Ytkolpijhgcijbaa

namespace Go.Proofs.Ytkolpijhgcijbaa
open Aw Go.RowKit
set_option linter.unusedSimpArgs false

theorem upL_zero (p : Int → Bool) : upL 0 p = [] := rfl
theorem no_zero {l Z : List Int} (hZ : Z.Nodup) {k : Nat} (hk : k < Z.length) (h0 : 0 < l.length) (hx : l[0] = Z[k]) : (0 : Int) ∉ seqL l (Z.take k) := by
  intro h
  simp only [seqL, List.mem_flatMap] at h
  obtain ⟨z, hz, h⟩ := h
  have h1 := (mem_upL.1 h).2
  rw [show ((0 : Int)).toNat = 0 from rfl, getD_at h0] at h1
  obtain ⟨j, hj, rfl⟩ := List.mem_take_iff_getElem.1 hz
  have hjm := Nat.lt_min.1 hj
  have e : Z[k] = Z[j] := by rw [← hx]; exact of_decide_eq_true h1
  have := nodup_at hZ hk hjm.2 e
  omega
theorem fstO_new {o : List Int} (h : (0 : Int) ∉ o) : fstO (o ++ [0]) = o.length := by
  have : idxL (o ++ [0]) 0 = o.length := idxL_some (by simp) (fun j hj hjl e => h (by
    rw [List.getElem_append_left hjl] at e
    rw [e]; exact List.getElem_mem hjl)) (by simp)
  rw [fstO, this]; exact Int.toNat_natCast _
theorem fstO_old {o : List Int} {x : Int} (hx : x ≠ 0) : fstO (o ++ [x]) = fstO o := by
  unfold fstO idxL
  congr 1
  rw [List.findIdx?_append]
  cases List.findIdx? (fun y => decide (0 = y)) o with
  | some i => rfl
  | none => simp [List.findIdx?_cons, Ne.symm hx]

theorem ok55 : okFn Try.prog 55 = true := by kernel_rfl
set_option maxRecDepth 20000 in
theorem s55 (n : Int) (ls : List (Int × Int)) (l : List Int) (hls : ls.length ≤ 1000000) (hl : l.length ≤ 1000000) : ASpec Try.prog 55 [trapA n ls, .s 1 (intsA l)] (fun r Ms => r = t3A (seqA n ls l) ∧ Ms = []) := by
  refine aspec_of (own := [4, 12, 71]) Try.func55 rfl ok55 ?_
  simp only [w_move, w_assign, w_box, w_load, w_callF, w_aop, w_some, w_asome, w_anone, w_nil, w_cons, awp, asP, asN, loadA, Aw.newRow, St.ev, St.step, setS, killS, AV.kill, AV.killL, Mem.kill, AV.cells, AV.flat, AV.single, AV.cellular, AV.pure, AV.pureL, ACond_false, List.getD_cons_succ, List.getD_cons_zero, List.set_cons_succ, List.set_cons_zero, List.getElem?_cons_zero, List.length_cons, List.length_nil, List.replicate_succ, List.replicate_zero, List.cons_append, List.nil_append, List.contains_nil, List.contains_cons, List.isEmpty_nil, Option.getD_some, Bool.false_eq_true, if_false, if_true, true_and, and_true, List.all_cons, List.all_nil, Bool.and_true, Bool.true_and, Bool.not_true, Nat.zero_add, Nat.add_zero, beq_self_eq_true, List.map_cons, List.map_nil, decide_true, nbeq, decide_false, Bool.or_false, Nat.reduceAdd, Nat.reduceEqDiff, Nat.reduceSub, Nat.reduceLeDiff, Int.reduceAdd, Int.reduceSub, ti3, ti24, ti25, Try.ntmps55, trapA]
  refine acall_v (s26 n ls l hls hl) rfl rfl ?_
  by_cases hv : vTP n ls l = 0
  case neg =>
    simp only [w_move, w_assign, w_binOp, w_aop, w_some, w_asome, w_anone, w_nil, w_cons, awp, binC, cmpC, asB, asI, asN, Aw.newRow, St.ev, St.step, setS, killS, AV.kill, AV.killL, Mem.kill, ACond_true, ACond_false, List.getD_cons_succ, List.getD_cons_zero, List.set_cons_succ, List.set_cons_zero, List.length_cons, List.length_nil, List.cons_append, List.nil_append, List.contains_nil, List.contains_cons, List.isEmpty_nil, Option.getD_some, Bool.false_eq_true, if_false, if_true, true_and, Bool.true_and, Bool.not_false, Nat.zero_add, beq_self_eq_true, nbeq, decide_false, Bool.or_false, Nat.reduceAdd, Nat.reduceEqDiff, Int.reduceAdd, ti3, ti25, decide_eq_false hv]
    exact aend_frz rfl ⟨by rw [seqA, if_pos hv]; simp [t3A, frz, AV.sub, AV.subL, AV.pureL]; rfl, rfl⟩
  simp only [w_move, w_assign, w_load, w_binOp, w_callF, w_aop, w_some, w_asome, w_anone, w_nil, w_cons, awp, binC, cmpC, asP, asB, asI, asN, loadA, St.ev, St.step, setS, killS, AV.kill, AV.killL, Mem.kill, AV.cells, AV.flat, AV.single, ACond_false, List.getD_cons_succ, List.getD_cons_zero, List.set_cons_succ, List.set_cons_zero, List.getElem?_cons_zero, List.length_cons, List.length_nil, List.contains_nil, List.contains_cons, List.isEmpty_nil, Option.getD_some, Bool.false_eq_true, if_false, if_true, true_and, and_true, List.all_cons, List.all_nil, Bool.and_true, Bool.true_and, Bool.not_true, Nat.zero_add, beq_self_eq_true, List.map_cons, List.map_nil, decide_true, nbeq, decide_false, Bool.or_false, Nat.reduceAdd, Nat.reduceEqDiff, Nat.reduceLeDiff, Int.reduceAdd, ti24, decide_eq_true hv]
  have hvt := vTP_vT hv
  obtain ⟨hn1, hls1, hnd1⟩ := vT_parts hvt
  have hnd := (vTP_iff.1 hv).2.2.2
  have hl4 := (vTP_iff.1 hv).2.1
  have h49 := s49' n ls hls
  have h51 := s51' n ls hls
  have hLo := lineP_ok hvt
  have hRo := ringP_ok hvt
  have hnv : ¬ vT n ls ≠ 0 := by simpa using hvt
  rw [lineA, if_neg hnv] at h49
  rw [ringA, if_neg hnv] at h51
  rw [seqA, if_neg (by simpa using hv)]
  rcases hL : lineP n ls with ⟨Z, b⟩
  rcases hR : ringP n ls with ⟨Y, c⟩
  rw [hL] at h49 hLo
  rw [hR] at h51 hRo
  cases b with
  | true =>
    have hZ := (hLo rfl).1.len
    have hZnd := (hLo rfl).1.nd
    simp only at hZ hZnd
    refine acall_v h49 rfl rfl ?_
    simp only [w_move, w_assign, w_not, w_extract, w_aop, w_some, w_asome, w_anone, w_nil, w_cons, awp, asT, asB, asN, Aw.newRow, St.ev, St.step, setS, killS, AV.kill, AV.killL, Mem.kill, ACond_false, List.getD_cons_succ, List.getD_cons_zero, List.set_cons_succ, List.set_cons_zero, List.getElem?_cons_succ, List.getElem?_cons_zero, List.length_cons, List.length_nil, List.cons_append, List.nil_append, List.contains_nil, List.contains_cons, List.isEmpty_nil, Option.getD_some, Bool.false_eq_true, if_false, if_true, Bool.not_true, Nat.zero_add, beq_self_eq_true, nbeq, decide_false, Bool.or_false, Bool.or_true, Nat.reduceAdd, Nat.reduceEqDiff, Int.reduceAdd, ti3, ti25, t3A]
    have hZ6 : Z.length ≤ 6 := by omega
    refine swp_loop' (fun k : Nat => ⟨[.bot, .s 1 (intsA l), .bot, .bot, .bot, .bot, .bot, .bot, .s 1 (intsA Z), B true, .bot, .bot, .o 1, I 0, I k, .bot, .bot, .bot, .bot, .bot, .bot, .bot, .bot, .bot, .bot, .bot, .bot, .bot, .bot, .bot, .bot, .bot, .bot, .bot, .bot, .bot, .bot, .bot, .bot, .bot, .bot, .bot, .bot, .bot, .bot, .bot, .bot, .bot, .bot, .bot, .bot, .bot, .bot, .bot, .bot, .bot, .bot, .bot, .bot, .bot, .bot, .bot, .bot, .bot, .bot, .bot, .bot, .bot, .bot, .bot, .bot, .bot, .bot, .bot, .bot, .bot, .bot, .bot, .bot, .bot], [some ⟨none, 3, 1, []⟩, some ⟨none, 3, 1, intsA (seqL l (Z.take k))⟩]⟩) (fun k => k ≤ Z.length) (fun k => Z.length - k) 0 (le_sl (by simp [leSl, seqL, fstO, idxL])) (Nat.zero_le _) ?_
    intro k hk
    refine awp_sound (own := [4, 12, 71]) _ _ _ _ _ ?_
    have hsl := seqL_len hnd (Z.take k)
    have htk : (Z.take k).length ≤ 6 := by rw [List.length_take]; omega
    simp only [w_move, w_binOp, w_len, w_aop, w_some, w_asome, w_nil, w_cons, awp, binC, cmpC, asB, asI, lenA, St.ev, St.step, setS, killS, AV.kill, AV.killL, Mem.kill, ACond_false, List.getD_cons_succ, List.getD_cons_zero, List.set_cons_succ, List.set_cons_zero, List.contains_nil, List.contains_cons, List.isEmpty_nil, Bool.false_eq_true, if_false, if_true, true_and, Bool.true_and, Option.isSome_some, nbeq, decide_false, Bool.or_false, Nat.reduceAdd, Nat.reduceEqDiff, Int.reduceAdd, ti25, intsA_len]
    by_cases h : k < Z.length
    case neg =>
      have h' : ¬ (k : Int) < (Z.length : Int) := by omega
      obtain rfl : k = Z.length := by omega
      rw [List.take_length] at *
      simp only [awp, ACond_false, if_true, decide_eq_false h']
      generalize hO : seqL l Z = O at *
      have hfl : fstO O ≤ O.length := by have := idxL_lt O 0; unfold fstO; omega
      have hsub : ∀ m, List.drop m (intsA O) = intsA (O.drop m) := fun m => by simp [intsA, List.map_drop]
      refine swp_le (Le.trans (le_frz 1 (ty := 3) (k := 1) (xs := intsA O) rfl (intsA_pure _)) (le_sl (sl' := [.bot, .bot, .bot, .bot, .bot, .bot, .bot, .bot, .bot, .bot, .bot, .bot, .s 1 (intsA O), I 0, .bot, .bot, .bot, .bot, .bot, .bot, .bot, .bot, .bot, .bot, .bot, .bot, .bot, .bot, .bot, .bot, .bot, .bot, .bot, .bot, .bot, .bot, .bot, .bot, .bot, .bot, .bot, .bot, .bot, .bot, .bot, .bot, .bot, .bot, .bot, .bot, .bot, .bot, .bot, .bot, .bot, .bot, .bot, .bot, .bot, .bot, .bot, .bot, .bot, .bot, .bot, .bot, .bot, .bot, .bot, .bot, .bot, .bot, .bot, .bot, .bot, .bot, .bot, .bot, .bot, .bot]) (by simp [leSl, frz1, AV.sub, AV.subL]))) ?_
      refine swp_draw (own := [4, 12, 71]) (.take 1 .plain [] (.take 2 .plain [] (.take 3 .plain [] (.take 5 .over [12] (.take 6 .over [13] (.take 7 .over [76, 77] (.alt 0 (.alt 4 (.alt 8 (.alt 9 (.take 10 .plain [] (.take 11 .plain [] (.done))) (.nil)) (.nil)) (.nil)) (.nil)))))))) [⟨72, 0, 0, 0, false⟩, ⟨73, 4096, 0, 0, true⟩, ⟨74, 8192, 0, 0, true⟩, ⟨75, 14167099448608935641088, 6, 0, true⟩, ⟨76, 21250649172913403461632, 9, 2, false⟩, ⟨77, 4096, 0, 0, true⟩, ⟨78, 8192, 0, 0, true⟩, ⟨79, 226673591177742970257408, 96, 0, true⟩, ⟨80, 340010386766614455386112, 144, 2, false⟩, ⟨5, 604462909807314587353088, 511, 0, false⟩, ⟨6, 0, 1023, 0, true⟩, ⟨7, 0, 2047, 0, true⟩] mo (by kernel_rfl) ?_
      have t1 : 0 < 1 ∧ [] = List.range 0 := ⟨by decide, rfl⟩
      have t2 : 0 < 1 ∧ (O.drop (fstO O)).length ≤ 1000000 := ⟨by decide, by rw [List.length_drop]; omega⟩
      have t3 : 0 < 1 ∧ (O.drop (fstO O)).length + (O.take (fstO O)).length ≤ 1000000 := ⟨by decide, by rw [List.length_drop, List.length_take]; omega⟩
      have hap : intsA (O.drop (fstO O)) ++ intsA (O.take (fstO O)) = intsA (rotL O) := by simp [rotL, intsA]
      simp only [w_move, w_assign, w_buildSlice, w_slice, w_append, w_aop, w_take, w_some, w_asome, w_anone, awp, asO, asS, asN, obA, bndA, Aw.newRow, St.ev, St.step, setS, killS, AV.kill, AV.killL, Mem.kill, AV.cells, AV.flat, AV.single, AV.cellular, AV.pure, ACond_true, Value.oneCell', List.getD_cons_succ, List.getD_cons_zero, List.set_cons_succ, List.set_cons_zero, List.getElem?_cons_succ, List.getElem?_cons_zero, List.length_cons, List.length_nil, List.cons_append, List.nil_append, List.contains_nil, List.contains_cons, List.isEmpty_nil, List.isEmpty_cons, Option.getD_some, Option.getD_none, Bool.false_eq_true, if_false, if_true, true_and, and_true, List.all_cons, List.all_nil, Bool.and_true, Bool.true_and, Nat.zero_add, beq_self_eq_true, List.map_cons, List.map_nil, nbeq, decide_false, Bool.or_false, Bool.or_true, Nat.reduceAdd, Nat.reduceEqDiff, Nat.reduceMul, Nat.reduceLeDiff, Int.reduceAdd, Int.reduceMul, Int.reduceLE, Int.toNat_zero, ASch, St.put, Md.mem, Md.need, Option.map_some, Option.map_none, ti3, ti25, intsA_len, bndA, intsA_take, List.drop_zero, List.take_length, hsub, Int.toNat_natCast, intsA_kill, frzM]
      refine ⟨by omega, by omega, t1, ⟨by decide, by omega⟩, ⟨by decide, by simp; omega⟩, ?_⟩
      refine aend_frz rfl ⟨?_, rfl⟩
      simp [t3A, frz, AV.sub, AV.subL, intsA, AV.killL]
      exact intsA_pure O
    have h' : (k : Int) < (Z.length : Int) := by omega
    simp only [w_assign, w_aop, w_anone, w_nil, w_cons, awp, asN, St.ev, St.step, setS, killS, AV.kill, AV.killL, Mem.kill, ACond_true, ACond_false, List.set_cons_succ, List.set_cons_zero, List.contains_nil, List.contains_cons, List.isEmpty_nil, Option.getD_some, Bool.false_eq_true, if_false, if_true, nbeq, decide_false, Bool.or_false, Nat.reduceAdd, Nat.reduceEqDiff, Int.reduceAdd, decide_eq_true h']
    have hio : ∀ i : Nat, i ≤ l.length → (upL i fun i => decide (l.getD i.toNat 0 = Z[k])).length ≤ i := fun i _ => upL_len i _
    refine swp_loop' (fun i : Nat => ⟨[.bot, .s 1 (intsA l), .bot, .bot, .bot, .bot, .bot, .bot, .s 1 (intsA Z), B true, .bot, .bot, .o 1, I 0, I k, I i, .bot, .bot, .bot, .bot, .bot, .bot, .bot, .bot, .bot, .bot, .bot, .bot, .bot, .bot, .bot, .bot, .bot, .bot, .bot, .bot, .bot, .bot, .bot, .bot, .bot, .bot, .bot, .bot, .bot, .bot, .bot, .bot, .bot, .bot, .bot, .bot, .bot, .bot, .bot, .bot, .bot, .bot, .bot, .bot, .bot, .bot, .bot, .bot, .bot, .bot, .bot, .bot, .bot, .bot, .bot, .bot, .bot, .bot, .bot, .bot, .bot, .bot, .bot, .bot], [some ⟨none, 3, 1, []⟩, some ⟨none, 3, 1, intsA (seqL l (Z.take k) ++ upL i fun i => decide (l.getD i.toNat 0 = Z[k]))⟩]⟩) (fun i => i ≤ l.length) (fun i => l.length - i) 0 (by simp only [upL_zero, List.append_nil]; exact le_sl (by simp [leSl])) (Nat.zero_le _) ?_
    intro i hi
    refine awp_sound (own := [4, 12, 71]) _ _ _ _ _ ?_
    simp only [w_move, w_binOp, w_len, w_aop, w_some, w_asome, w_nil, w_cons, awp, binC, cmpC, asB, asI, lenA, St.ev, St.step, setS, killS, AV.kill, AV.killL, Mem.kill, ACond_false, List.getD_cons_succ, List.getD_cons_zero, List.set_cons_succ, List.set_cons_zero, List.contains_nil, List.contains_cons, List.isEmpty_nil, Bool.false_eq_true, if_false, if_true, true_and, Bool.true_and, Option.isSome_some, nbeq, decide_false, Bool.or_false, Nat.reduceAdd, Nat.reduceEqDiff, Int.reduceAdd, ti25, intsA_len]
    by_cases h2 : i < l.length
    case neg =>
      have h2' : ¬ (i : Int) < (l.length : Int) := by omega
      obtain rfl : i = l.length := by omega
      simp only [w_move, w_assign, w_binOp, w_aop, w_some, w_asome, w_anone, w_nil, w_cons, awp, binC, arithC, cmpC, asI, asN, St.ev, St.step, setS, killS, AV.kill, AV.killL, Mem.kill, ACond_false, List.getD_cons_succ, List.getD_cons_zero, List.set_cons_succ, List.set_cons_zero, List.contains_nil, List.contains_cons, List.isEmpty_nil, Option.getD_some, Bool.false_eq_true, if_false, if_true, true_and, and_true, Bool.and_true, Bool.true_and, nbeq, decide_false, Bool.or_false, Nat.reduceAdd, Nat.reduceEqDiff, Int.reduceAdd, decide_eq_false h2']
      refine ⟨by unfold lim; omega, k + 1, ?_, by omega, by omega⟩
      rw [seqL_succ h]
      exact le_sl (by simp [leSl, ionsAt])
    have h2' : (i : Int) < (l.length : Int) := by omega
    have hgi : l.getD ((i : Int)).toNat 0 = l[i] := by rw [Int.toNat_natCast, getD_at h2]
    have hup := hio i hi
    simp only [awp, ACond_true, decide_eq_true h2']
    refine swp_draw (own := [4, 12, 71]) (.take 0 .plain [] (.take 1 .plain [] (.take 2 .reads [] (.take 3 .reads [] (.take 4 .plain [] (.take 5 .plain [] (.take 6 .reads [] (.take 7 .reads [] (.take 8 .plain [] (.done)))))))))) [⟨51, 2, 0, 0, true⟩, ⟨52, 32768, 0, 0, true⟩, ⟨53, 3377699720527872, 3, 0, true⟩, ⟨54, 4503599627370496, 4, 0, true⟩, ⟨55, 256, 0, 0, true⟩, ⟨56, 16384, 0, 0, true⟩, ⟨57, 54043195528445952, 48, 0, true⟩, ⟨58, 72057594037927936, 64, 0, true⟩, ⟨59, 153122387330596864, 136, 0, true⟩] mo (by kernel_rfl) ?_
    simp only [w_move, w_load, w_indexAddr, w_binOp, w_take, w_some, w_asome, awp, binC, idxC, cmpC, asP, asS, asB, asI, loadA, St.ev, setS, AV.cells, AV.flat, AV.single, List.getD_cons_succ, List.getD_cons_zero, List.set_cons_succ, List.set_cons_zero, List.getElem?_cons_succ, List.getElem?_cons_zero, Bool.false_eq_true, if_false, true_and, and_true, List.all_cons, List.all_nil, Bool.and_true, Bool.true_and, Bool.not_true, ASch, St.put, Md.mem, Md.need, ti3, ti25, aget_ints h2, aget_ints h, Int.toNat_natCast]
    refine ⟨by omega, by omega, ?_⟩
    by_cases hx : l[i] = Z[k]
    case neg =>
      simp only [w_move, w_assign, w_binOp, w_aop, w_some, w_asome, w_anone, w_nil, w_cons, awp, binC, arithC, cmpC, asI, asN, St.ev, St.step, setS, killS, AV.kill, AV.killL, Mem.kill, ACond_true, ACond_false, List.getD_cons_succ, List.getD_cons_zero, List.set_cons_succ, List.set_cons_zero, List.contains_nil, List.contains_cons, List.isEmpty_nil, Option.getD_some, Bool.false_eq_true, if_false, if_true, true_and, and_true, Bool.and_true, Bool.true_and, Bool.not_false, nbeq, decide_false, Bool.or_false, Nat.reduceAdd, Nat.reduceEqDiff, Int.reduceAdd, St.put, decide_eq_false hx]
      refine ⟨by unfold lim; omega, i + 1, ?_, by omega, by omega⟩
      rw [upL_false (by rw [hgi]; exact decide_eq_false hx)]
      exact le_sl (by simp [leSl])
    have hut := upL_true (p := fun i => decide (l.getD i.toNat 0 = Z[k])) (k := i) (by rw [hgi]; exact decide_eq_true hx)
    by_cases hi0 : (i : Int) = 0
    · simp only [w_move, w_assign, w_pick, w_binOp, w_not, w_buildSlice, w_append, w_aop, w_aopg, w_gdb, w_some, w_asome, w_anone, w_nil, w_cons, awp, binC, arithC, cmpC, asO, asS, asB, asI, asN, obA, St.ev, St.step, setS, killS, AV.kill, AV.killL, Mem.kill, AV.cells, AV.flat, AV.single, AV.cellular, AV.size, AV.pure, AV.pureL, ACond_true, ACond_false, Value.oneCell', List.getD_cons_succ, List.getD_cons_zero, List.set_cons_succ, List.set_cons_zero, List.getElem?_cons_succ, List.getElem?_cons_zero, List.length_cons, List.length_nil, List.contains_nil, List.contains_cons, List.isEmpty_nil, List.isEmpty_cons, Option.getD_some, Bool.false_eq_true, if_false, if_true, true_and, and_true, List.all_cons, List.all_nil, Bool.and_true, Bool.true_and, Bool.not_true, Nat.zero_add, beq_self_eq_true, List.map_cons, List.map_nil, decide_true, nbeq, decide_false, Bool.or_false, Bool.or_true, List.length_append, Nat.reduceAdd, Nat.reduceEqDiff, Nat.reduceMul, Nat.reduceLeDiff, Int.reduceAdd, Int.reduceMul, Option.bind_some, St.put, Option.map_some, ti3, ti25, decide_eq_true hx, decide_eq_true hi0, intsA_len, intsA_kill]
      refine ⟨⟨by decide, rfl⟩, ⟨by decide, by omega⟩, by unfold lim; omega, i + 1, ?_, by omega, by omega⟩
      rw [hut, ← List.append_assoc, ← intsA_app]
      exact le_sl (by simp [leSl])
    · simp only [w_move, w_assign, w_pick, w_binOp, w_buildSlice, w_append, w_aop, w_aopg, w_gdb, w_some, w_asome, w_anone, w_nil, w_cons, awp, binC, arithC, cmpC, asO, asS, asB, asI, asN, obA, St.ev, St.step, setS, killS, AV.kill, AV.killL, Mem.kill, AV.cells, AV.flat, AV.single, AV.cellular, AV.size, AV.pure, AV.pureL, ACond_false, Value.oneCell', List.getD_cons_succ, List.getD_cons_zero, List.set_cons_succ, List.set_cons_zero, List.getElem?_cons_succ, List.getElem?_cons_zero, List.length_cons, List.length_nil, List.contains_nil, List.contains_cons, List.isEmpty_nil, List.isEmpty_cons, Option.getD_some, Bool.false_eq_true, if_false, if_true, true_and, and_true, List.all_cons, List.all_nil, Bool.and_true, Bool.true_and, Bool.not_true, Nat.zero_add, beq_self_eq_true, List.map_cons, List.map_nil, decide_true, nbeq, decide_false, Bool.or_false, Bool.or_true, List.length_append, Nat.reduceAdd, Nat.reduceEqDiff, Nat.reduceMul, Nat.reduceLeDiff, Int.reduceAdd, Int.reduceMul, Option.bind_some, St.put, Option.map_some, w_bt, ti3, ti25, decide_eq_true hx, decide_eq_false hi0, intsA_len, intsA_kill]
      refine ⟨⟨by decide, rfl⟩, ⟨by decide, by omega⟩, by unfold lim; omega, i + 1, ?_, by omega, by omega⟩
      rw [hut, ← List.append_assoc, ← intsA_app]
      exact le_sl (by simp [leSl])
  | false =>
    refine acall_v h49 rfl rfl ?_
    simp only [w_move, w_assign, w_load, w_not, w_extract, w_callF, w_aop, w_some, w_asome, w_anone, w_nil, w_cons, awp, asP, asT, asB, asN, loadA, St.ev, St.step, setS, killS, AV.kill, AV.killL, Mem.kill, AV.cells, AV.flat, AV.single, ACond_true, ACond_false, List.getD_cons_succ, List.getD_cons_zero, List.set_cons_succ, List.set_cons_zero, List.getElem?_cons_succ, List.getElem?_cons_zero, List.length_cons, List.length_nil, List.contains_nil, List.contains_cons, List.isEmpty_nil, Option.getD_some, Bool.false_eq_true, if_false, if_true, and_true, List.all_cons, List.all_nil, Bool.and_true, Bool.not_true, Bool.not_false, Nat.zero_add, beq_self_eq_true, List.map_cons, List.map_nil, decide_true, nbeq, decide_false, Bool.or_false, Nat.reduceAdd, Nat.reduceEqDiff, Nat.reduceLeDiff, Int.reduceAdd, ti24, t3A]
    refine acall_v h51 rfl rfl ?_
    cases c with
    | false =>
      simp only [w_move, w_assign, w_not, w_extract, w_aop, w_some, w_asome, w_anone, w_nil, w_cons, awp, asT, asB, asN, Aw.newRow, St.ev, St.step, setS, killS, AV.kill, AV.killL, Mem.kill, ACond_true, ACond_false, List.getD_cons_succ, List.getD_cons_zero, List.set_cons_succ, List.set_cons_zero, List.getElem?_cons_succ, List.getElem?_cons_zero, List.length_cons, List.length_nil, List.cons_append, List.nil_append, List.contains_nil, List.contains_cons, List.isEmpty_nil, Option.getD_some, Bool.false_eq_true, if_false, if_true, Bool.not_false, Nat.zero_add, beq_self_eq_true, nbeq, decide_false, Bool.or_false, Nat.reduceAdd, Nat.reduceEqDiff, Int.reduceAdd, ti3, ti25, t3A]
      exact aend_frz rfl ⟨by simp [t3A, frz, AV.sub, AV.subL, AV.pureL]; rfl, rfl⟩
    | true =>
      have hZ := (hRo rfl).2.1.len
      have hZnd := (hRo rfl).2.1.nd
      simp only at hZ hZnd
      simp only [w_move, w_assign, w_not, w_extract, w_aop, w_some, w_asome, w_anone, w_nil, w_cons, awp, asT, asB, asN, Aw.newRow, St.ev, St.step, setS, killS, AV.kill, AV.killL, Mem.kill, ACond_false, List.getD_cons_succ, List.getD_cons_zero, List.set_cons_succ, List.set_cons_zero, List.getElem?_cons_succ, List.getElem?_cons_zero, List.length_cons, List.length_nil, List.cons_append, List.nil_append, List.contains_nil, List.contains_cons, List.isEmpty_nil, Option.getD_some, Bool.false_eq_true, if_false, if_true, Bool.not_true, Nat.zero_add, beq_self_eq_true, nbeq, decide_false, Bool.or_false, Bool.or_true, Nat.reduceAdd, Nat.reduceEqDiff, Int.reduceAdd, ti3, ti25, t3A]
      have hZ6 : Y.length ≤ 6 := by omega
      refine swp_loop' (fun k : Nat => ⟨[.bot, .s 1 (intsA l), .bot, .bot, .bot, .bot, .bot, .bot, .s 1 (intsA Y), B false, .bot, .bot, .o 1, I (fstO (seqL l (Y.take k)) : Nat), I k, .bot, .bot, .bot, .bot, .bot, .bot, .bot, .bot, .bot, .bot, .bot, .bot, .bot, .bot, .bot, .bot, .bot, .bot, .bot, .bot, .bot, .bot, .bot, .bot, .bot, .bot, .bot, .bot, .bot, .bot, .bot, .bot, .bot, .bot, .bot, .bot, .bot, .bot, .bot, .bot, .bot, .bot, .bot, .bot, .bot, .bot, .bot, .bot, .bot, .bot, .bot, .bot, .bot, .bot, .bot, .bot, .bot, .bot, .bot, .bot, .bot, .bot, .bot, .bot, .bot], [some ⟨none, 3, 1, []⟩, some ⟨none, 3, 1, intsA (seqL l (Y.take k))⟩]⟩) (fun k => k ≤ Y.length) (fun k => Y.length - k) 0 (le_sl (by simp [leSl, seqL, fstO, idxL])) (Nat.zero_le _) ?_
      intro k hk
      refine awp_sound (own := [4, 12, 71]) _ _ _ _ _ ?_
      have hsl := seqL_len hnd (Y.take k)
      have htk : (Y.take k).length ≤ 6 := by rw [List.length_take]; omega
      simp only [w_move, w_binOp, w_len, w_aop, w_some, w_asome, w_nil, w_cons, awp, binC, cmpC, asB, asI, lenA, St.ev, St.step, setS, killS, AV.kill, AV.killL, Mem.kill, ACond_false, List.getD_cons_succ, List.getD_cons_zero, List.set_cons_succ, List.set_cons_zero, List.contains_nil, List.contains_cons, List.isEmpty_nil, Bool.false_eq_true, if_false, if_true, true_and, Bool.true_and, Option.isSome_some, nbeq, decide_false, Bool.or_false, Nat.reduceAdd, Nat.reduceEqDiff, Int.reduceAdd, ti25, intsA_len]
      by_cases h : k < Y.length
      case neg =>
        have h' : ¬ (k : Int) < (Y.length : Int) := by omega
        obtain rfl : k = Y.length := by omega
        rw [List.take_length] at *
        simp only [awp, ACond_false, if_true, decide_eq_false h']
        generalize hO : seqL l Y = O at *
        have hfl : fstO O ≤ O.length := by have := idxL_lt O 0; unfold fstO; omega
        have hsub : ∀ m, List.drop m (intsA O) = intsA (O.drop m) := fun m => by simp [intsA, List.map_drop]
        refine swp_le (Le.trans (le_frz 1 (ty := 3) (k := 1) (xs := intsA O) rfl (intsA_pure _)) (le_sl (sl' := [.bot, .bot, .bot, .bot, .bot, .bot, .bot, .bot, .bot, .bot, .bot, .bot, .s 1 (intsA O), I (fstO (O) : Nat), .bot, .bot, .bot, .bot, .bot, .bot, .bot, .bot, .bot, .bot, .bot, .bot, .bot, .bot, .bot, .bot, .bot, .bot, .bot, .bot, .bot, .bot, .bot, .bot, .bot, .bot, .bot, .bot, .bot, .bot, .bot, .bot, .bot, .bot, .bot, .bot, .bot, .bot, .bot, .bot, .bot, .bot, .bot, .bot, .bot, .bot, .bot, .bot, .bot, .bot, .bot, .bot, .bot, .bot, .bot, .bot, .bot, .bot, .bot, .bot, .bot, .bot, .bot, .bot, .bot, .bot]) (by simp [leSl, frz1, AV.sub, AV.subL]))) ?_
        refine swp_draw (own := [4, 12, 71]) (.take 1 .plain [] (.take 2 .plain [] (.take 3 .plain [] (.take 5 .over [12] (.take 6 .over [13] (.take 7 .over [76, 77] (.alt 0 (.alt 4 (.alt 8 (.alt 9 (.take 10 .plain [] (.take 11 .plain [] (.done))) (.nil)) (.nil)) (.nil)) (.nil)))))))) [⟨72, 0, 0, 0, false⟩, ⟨73, 4096, 0, 0, true⟩, ⟨74, 8192, 0, 0, true⟩, ⟨75, 14167099448608935641088, 6, 0, true⟩, ⟨76, 21250649172913403461632, 9, 2, false⟩, ⟨77, 4096, 0, 0, true⟩, ⟨78, 8192, 0, 0, true⟩, ⟨79, 226673591177742970257408, 96, 0, true⟩, ⟨80, 340010386766614455386112, 144, 2, false⟩, ⟨5, 604462909807314587353088, 511, 0, false⟩, ⟨6, 0, 1023, 0, true⟩, ⟨7, 0, 2047, 0, true⟩] mo (by kernel_rfl) ?_
        have t1 : 0 < 1 ∧ [] = List.range 0 := ⟨by decide, rfl⟩
        have t2 : 0 < 1 ∧ (O.drop (fstO O)).length ≤ 1000000 := ⟨by decide, by rw [List.length_drop]; omega⟩
        have t3 : 0 < 1 ∧ (O.drop (fstO O)).length + (O.take (fstO O)).length ≤ 1000000 := ⟨by decide, by rw [List.length_drop, List.length_take]; omega⟩
        have hap : intsA (O.drop (fstO O)) ++ intsA (O.take (fstO O)) = intsA (rotL O) := by simp [rotL, intsA]
        simp only [w_move, w_assign, w_buildSlice, w_slice, w_append, w_aop, w_take, w_some, w_asome, w_anone, awp, asO, asS, asN, obA, bndA, Aw.newRow, St.ev, St.step, setS, killS, AV.kill, AV.killL, Mem.kill, AV.cells, AV.flat, AV.single, AV.cellular, AV.pure, ACond_true, Value.oneCell', List.getD_cons_succ, List.getD_cons_zero, List.set_cons_succ, List.set_cons_zero, List.getElem?_cons_succ, List.getElem?_cons_zero, List.length_cons, List.length_nil, List.cons_append, List.nil_append, List.contains_nil, List.contains_cons, List.isEmpty_nil, List.isEmpty_cons, Option.getD_some, Option.getD_none, Bool.false_eq_true, if_false, if_true, true_and, and_true, List.all_cons, List.all_nil, Bool.and_true, Bool.true_and, Nat.zero_add, beq_self_eq_true, List.map_cons, List.map_nil, nbeq, decide_false, Bool.or_false, Bool.or_true, Nat.reduceAdd, Nat.reduceEqDiff, Nat.reduceMul, Nat.reduceLeDiff, Int.reduceAdd, Int.reduceMul, Int.reduceLE, Int.toNat_zero, ASch, St.put, Md.mem, Md.need, Option.map_some, Option.map_none, ti3, ti25, intsA_len, bndA, intsA_take, List.drop_zero, List.take_length, hsub, Int.toNat_natCast, intsA_kill, hap, frzM]
        refine ⟨by omega, by omega, t1, t2, t3, ?_⟩
        refine aend_frz rfl ⟨?_, rfl⟩
        simp [t3A, frz, AV.sub, AV.subL, intsA_pure, AV.killL]
      have h' : (k : Int) < (Y.length : Int) := by omega
      simp only [w_assign, w_aop, w_anone, w_nil, w_cons, awp, asN, St.ev, St.step, setS, killS, AV.kill, AV.killL, Mem.kill, ACond_true, ACond_false, List.set_cons_succ, List.set_cons_zero, List.contains_nil, List.contains_cons, List.isEmpty_nil, Option.getD_some, Bool.false_eq_true, if_false, if_true, nbeq, decide_false, Bool.or_false, Nat.reduceAdd, Nat.reduceEqDiff, Int.reduceAdd, decide_eq_true h']
      have hio : ∀ i : Nat, i ≤ l.length → (upL i fun i => decide (l.getD i.toNat 0 = Y[k])).length ≤ i := fun i _ => upL_len i _
      refine swp_loop' (fun i : Nat => ⟨[.bot, .s 1 (intsA l), .bot, .bot, .bot, .bot, .bot, .bot, .s 1 (intsA Y), B false, .bot, .bot, .o 1, I (fstO (seqL l (Y.take k) ++ upL i fun i => decide (l.getD i.toNat 0 = Y[k])) : Nat), I k, I i, .bot, .bot, .bot, .bot, .bot, .bot, .bot, .bot, .bot, .bot, .bot, .bot, .bot, .bot, .bot, .bot, .bot, .bot, .bot, .bot, .bot, .bot, .bot, .bot, .bot, .bot, .bot, .bot, .bot, .bot, .bot, .bot, .bot, .bot, .bot, .bot, .bot, .bot, .bot, .bot, .bot, .bot, .bot, .bot, .bot, .bot, .bot, .bot, .bot, .bot, .bot, .bot, .bot, .bot, .bot, .bot, .bot, .bot, .bot, .bot, .bot, .bot, .bot, .bot], [some ⟨none, 3, 1, []⟩, some ⟨none, 3, 1, intsA (seqL l (Y.take k) ++ upL i fun i => decide (l.getD i.toNat 0 = Y[k]))⟩]⟩) (fun i => i ≤ l.length) (fun i => l.length - i) 0 (by simp only [upL_zero, List.append_nil]; exact le_sl (by simp [leSl])) (Nat.zero_le _) ?_
      intro i hi
      refine awp_sound (own := [4, 12, 71]) _ _ _ _ _ ?_
      simp only [w_move, w_binOp, w_len, w_aop, w_some, w_asome, w_nil, w_cons, awp, binC, cmpC, asB, asI, lenA, St.ev, St.step, setS, killS, AV.kill, AV.killL, Mem.kill, ACond_false, List.getD_cons_succ, List.getD_cons_zero, List.set_cons_succ, List.set_cons_zero, List.contains_nil, List.contains_cons, List.isEmpty_nil, Bool.false_eq_true, if_false, if_true, true_and, Bool.true_and, Option.isSome_some, nbeq, decide_false, Bool.or_false, Nat.reduceAdd, Nat.reduceEqDiff, Int.reduceAdd, ti25, intsA_len]
      by_cases h2 : i < l.length
      case neg =>
        have h2' : ¬ (i : Int) < (l.length : Int) := by omega
        obtain rfl : i = l.length := by omega
        simp only [w_move, w_assign, w_binOp, w_aop, w_some, w_asome, w_anone, w_nil, w_cons, awp, binC, arithC, cmpC, asI, asN, St.ev, St.step, setS, killS, AV.kill, AV.killL, Mem.kill, ACond_false, List.getD_cons_succ, List.getD_cons_zero, List.set_cons_succ, List.set_cons_zero, List.contains_nil, List.contains_cons, List.isEmpty_nil, Option.getD_some, Bool.false_eq_true, if_false, if_true, true_and, and_true, Bool.and_true, Bool.true_and, nbeq, decide_false, Bool.or_false, Nat.reduceAdd, Nat.reduceEqDiff, Int.reduceAdd, decide_eq_false h2']
        refine ⟨by unfold lim; omega, k + 1, ?_, by omega, by omega⟩
        rw [seqL_succ h]
        exact le_sl (by simp [leSl, ionsAt])
      have h2' : (i : Int) < (l.length : Int) := by omega
      have hgi : l.getD ((i : Int)).toNat 0 = l[i] := by rw [Int.toNat_natCast, getD_at h2]
      have hup := hio i hi
      simp only [awp, ACond_true, decide_eq_true h2']
      refine swp_draw (own := [4, 12, 71]) (.take 0 .plain [] (.take 1 .plain [] (.take 2 .reads [] (.take 3 .reads [] (.take 4 .plain [] (.take 5 .plain [] (.take 6 .reads [] (.take 7 .reads [] (.take 8 .plain [] (.done)))))))))) [⟨51, 2, 0, 0, true⟩, ⟨52, 32768, 0, 0, true⟩, ⟨53, 3377699720527872, 3, 0, true⟩, ⟨54, 4503599627370496, 4, 0, true⟩, ⟨55, 256, 0, 0, true⟩, ⟨56, 16384, 0, 0, true⟩, ⟨57, 54043195528445952, 48, 0, true⟩, ⟨58, 72057594037927936, 64, 0, true⟩, ⟨59, 153122387330596864, 136, 0, true⟩] mo (by kernel_rfl) ?_
      simp only [w_move, w_load, w_indexAddr, w_binOp, w_take, w_some, w_asome, awp, binC, idxC, cmpC, asP, asS, asB, asI, loadA, St.ev, setS, AV.cells, AV.flat, AV.single, List.getD_cons_succ, List.getD_cons_zero, List.set_cons_succ, List.set_cons_zero, List.getElem?_cons_succ, List.getElem?_cons_zero, Bool.false_eq_true, if_false, true_and, and_true, List.all_cons, List.all_nil, Bool.and_true, Bool.true_and, Bool.not_true, ASch, St.put, Md.mem, Md.need, ti3, ti25, aget_ints h2, aget_ints h, Int.toNat_natCast]
      refine ⟨by omega, by omega, ?_⟩
      by_cases hx : l[i] = Y[k]
      case neg =>
        simp only [w_move, w_assign, w_binOp, w_aop, w_some, w_asome, w_anone, w_nil, w_cons, awp, binC, arithC, cmpC, asI, asN, St.ev, St.step, setS, killS, AV.kill, AV.killL, Mem.kill, ACond_true, ACond_false, List.getD_cons_succ, List.getD_cons_zero, List.set_cons_succ, List.set_cons_zero, List.contains_nil, List.contains_cons, List.isEmpty_nil, Option.getD_some, Bool.false_eq_true, if_false, if_true, true_and, and_true, Bool.and_true, Bool.true_and, Bool.not_false, nbeq, decide_false, Bool.or_false, Nat.reduceAdd, Nat.reduceEqDiff, Int.reduceAdd, St.put, decide_eq_false hx]
        refine ⟨by unfold lim; omega, i + 1, ?_, by omega, by omega⟩
        rw [upL_false (by rw [hgi]; exact decide_eq_false hx)]
        exact le_sl (by simp [leSl])
      have hut := upL_true (p := fun i => decide (l.getD i.toNat 0 = Y[k])) (k := i) (by rw [hgi]; exact decide_eq_true hx)
      by_cases hi0 : (i : Int) = 0
      · obtain rfl : i = 0 := by omega
        have hno : (0 : Int) ∉ seqL l (Y.take k) := no_zero hZnd h h2 hx
        have hf : fstO (seqL l (Y.take k) ++ [0]) = (seqL l (Y.take k)).length := fstO_new hno
        simp only [w_move, w_assign, w_pick, w_binOp, w_not, w_buildSlice, w_len, w_append, w_aop, w_aopg, w_gdb, w_some, w_asome, w_anone, w_nil, w_cons, awp, binC, arithC, cmpC, asO, asS, asB, asI, asN, obA, lenA, St.ev, St.step, setS, killS, AV.kill, AV.killL, Mem.kill, AV.cells, AV.flat, AV.single, AV.cellular, AV.size, AV.pure, AV.pureL, ACond_true, ACond_false, Value.oneCell', List.getD_cons_succ, List.getD_cons_zero, List.set_cons_succ, List.set_cons_zero, List.getElem?_cons_succ, List.getElem?_cons_zero, List.length_cons, List.length_nil, List.contains_nil, List.contains_cons, List.isEmpty_nil, List.isEmpty_cons, Option.getD_some, Bool.false_eq_true, if_false, if_true, true_and, and_true, List.all_cons, List.all_nil, Bool.and_true, Bool.true_and, Bool.not_true, Bool.not_false, Option.isSome_some, Nat.zero_add, beq_self_eq_true, List.map_cons, List.map_nil, decide_true, nbeq, decide_false, Bool.or_false, Bool.or_true, Nat.reduceAdd, Nat.reduceEqDiff, Nat.reduceMul, Nat.reduceLeDiff, Int.reduceAdd, Int.reduceMul, Option.bind_some, St.put, Option.map_some, ti3, ti25, decide_eq_true hx, decide_eq_true hi0, intsA_len, intsA_kill, upL_zero, List.append_nil]
        refine ⟨⟨by decide, rfl⟩, ⟨by decide, by omega⟩, by unfold lim; omega, 0 + 1, ?_, by omega, by omega⟩
        rw [hut, upL_zero, List.nil_append]
        have e0 : ((0 : Nat) : Int) = 0 := rfl
        rw [e0, hf, ← intsA_app]
        exact le_sl (by simp [leSl])
      · have hf : fstO (seqL l (Y.take k) ++ (upL i fun i => decide (l.getD i.toNat 0 = Y[k])) ++ [(i : Int)]) = fstO (seqL l (Y.take k) ++ upL i fun i => decide (l.getD i.toNat 0 = Y[k])) := fstO_old (by omega)
        simp only [w_move, w_assign, w_pick, w_binOp, w_buildSlice, w_append, w_aop, w_aopg, w_gdb, w_some, w_asome, w_anone, w_nil, w_cons, awp, binC, arithC, cmpC, asO, asS, asB, asI, asN, obA, St.ev, St.step, setS, killS, AV.kill, AV.killL, Mem.kill, AV.cells, AV.flat, AV.single, AV.cellular, AV.size, AV.pure, AV.pureL, ACond_false, Value.oneCell', List.getD_cons_succ, List.getD_cons_zero, List.set_cons_succ, List.set_cons_zero, List.getElem?_cons_succ, List.getElem?_cons_zero, List.length_cons, List.length_nil, List.contains_nil, List.contains_cons, List.isEmpty_nil, List.isEmpty_cons, Option.getD_some, Bool.false_eq_true, if_false, if_true, true_and, and_true, List.all_cons, List.all_nil, Bool.and_true, Bool.true_and, Bool.not_true, Nat.zero_add, beq_self_eq_true, List.map_cons, List.map_nil, decide_true, nbeq, decide_false, Bool.or_false, Bool.or_true, List.length_append, Nat.reduceAdd, Nat.reduceEqDiff, Nat.reduceMul, Nat.reduceLeDiff, Int.reduceAdd, Int.reduceMul, Option.bind_some, St.put, Option.map_some, w_bt, ti3, ti25, decide_eq_true hx, decide_eq_false hi0, intsA_len, intsA_kill]
        refine ⟨⟨by decide, rfl⟩, ⟨by decide, by omega⟩, by unfold lim; omega, i + 1, ?_, by omega, by omega⟩
        rw [hut, ← List.append_assoc, hf, ← intsA_app]
        exact le_sl (by simp [leSl])

theorem seqA_len (n : Int) (ls : List (Int × Int)) (l : List Int) : (seqA n ls l).1.length ≤ 1000000 := by
  unfold seqA
  split
  · exact Nat.zero_le _
  · rename_i hv
    have hv := Decidable.not_not.1 hv
    have hvt := vTP_vT hv
    obtain ⟨hn1, _⟩ := vT_parts hvt
    have hnd := (vTP_iff.1 hv).2.2.2
    split
    · rename_i hL
      have h1 := (lineP_ok hvt hL).1.len
      have h2 := seqL_len hnd (lineP n ls).1
      simp only; omega
    · split
      · rename_i hR
        have h1 := (ringP_ok hvt hR).2.1.len
        have h2 := seqL_len hnd (ringP n ls).1
        simp only [rotL_len]; omega
      · exact Nat.zero_le _

theorem ok13 : okFn Try.prog 13 = true := by kernel_rfl
theorem s13 (n : Int) (ls : List (Int × Int)) (l : List Int) : ASpec Try.prog 13 [trapA n ls, .s 1 (intsA l)] (fun r Ms => r = B true ∧ Ms = []) := by
  refine aspec_of (own := []) Try.func13 rfl ok13 ?_
  simp only [w_assign, w_box, w_load, w_callF, w_aop, w_some, w_asome, w_anone, w_nil, w_cons, awp, asP, asN, loadA, St.ev, St.step, setS, killS, AV.kill, AV.killL, Mem.kill, AV.cells, AV.flat, AV.single, AV.cellular, AV.pure, AV.pureL, ACond_false, List.getD_cons_succ, List.getD_cons_zero, List.set_cons_succ, List.set_cons_zero, List.getElem?_cons_zero, List.length_cons, List.length_nil, List.replicate_succ, List.replicate_zero, List.cons_append, List.nil_append, List.contains_nil, List.isEmpty_nil, Option.getD_some, Bool.false_eq_true, if_false, if_true, true_and, and_true, List.all_cons, List.all_nil, Bool.and_true, Bool.true_and, Bool.not_true, Nat.zero_add, Nat.add_zero, beq_self_eq_true, List.map_cons, List.map_nil, decide_true, Nat.reduceAdd, Nat.reduceSub, Nat.reduceLeDiff, Int.reduceAdd, Int.reduceSub, ti24, Try.ntmps13, trapA]
  have known : ∀ {M : Mem} {K : HK (AV → Mem → Prop)}, K.k (B true) M → ACall Try.prog 18 [] M (K := K) := fun h => acall_v s18 rfl rfl h
  refine acall_v (s16 n ls) rfl rfl ?_
  by_cases h1 : (60 : Int) < ls.length
  · simp only [w_move, w_pick, w_callF, w_aop, w_aopg, w_gdb, w_some, w_nil, w_cons, awp, asB, St.ev, St.step, setS, killS, AV.kill, AV.killL, Mem.kill, ACond_true, ACond_false, List.getD_cons_succ, List.getD_cons_zero, List.set_cons_succ, List.set_cons_zero, List.getElem?_cons_succ, List.getElem?_cons_zero, List.contains_nil, List.isEmpty_nil, if_true, Bool.not_true, List.map_nil, Nat.reduceAdd, Int.reduceAdd, Option.bind_some, w_bf, decide_eq_true h1]
    refine known ?_
    simp only [w_assign, w_aop, w_anone, w_nil, w_cons, awp, asN, St.ev, St.step, setS, killS, AV.kill, AV.killL, Mem.kill, List.getD_cons_succ, List.getD_cons_zero, List.set_cons_succ, List.set_cons_zero, List.contains_nil, List.isEmpty_nil, Option.getD_some, Bool.false_eq_true, if_false, if_true]
    exact aend_frz rfl ⟨rfl, rfl⟩
  simp only [w_move, w_callF, w_aop, w_aopg, w_gdb, w_some, w_cons, St.ev, St.step, setS, killS, AV.kill, AV.killL, Mem.kill, ACond_true, List.getD_cons_succ, List.getD_cons_zero, List.set_cons_succ, List.set_cons_zero, List.getElem?_cons_succ, List.getElem?_cons_zero, List.isEmpty_nil, if_true, beq_self_eq_true, List.map_cons, List.map_nil, Option.bind_some, decide_eq_false h1]
  refine acall_v (s17 l) rfl rfl ?_
  by_cases h2 : (40 : Int) < l.length
  · simp only [w_pick, w_callF, w_aop, w_some, w_nil, w_cons, awp, asB, St.ev, St.step, setS, killS, AV.kill, AV.killL, Mem.kill, ACond_true, ACond_false, List.getD_cons_succ, List.getD_cons_zero, List.set_cons_succ, List.set_cons_zero, List.contains_nil, List.isEmpty_nil, if_true, List.map_nil, Nat.reduceAdd, Int.reduceAdd, decide_eq_true h2]
    refine known ?_
    simp only [w_assign, w_aop, w_anone, w_nil, w_cons, awp, asN, St.ev, St.step, setS, killS, AV.kill, AV.killL, Mem.kill, List.getD_cons_succ, List.getD_cons_zero, List.set_cons_succ, List.set_cons_zero, List.contains_nil, List.isEmpty_nil, Option.getD_some, Bool.false_eq_true, if_false, if_true]
    exact aend_frz rfl ⟨rfl, rfl⟩
  simp only [w_move, w_pick, w_load, w_callF, w_aop, w_some, w_asome, w_nil, w_cons, awp, asP, asB, loadA, St.ev, St.step, setS, killS, AV.kill, AV.killL, Mem.kill, AV.cells, AV.flat, AV.single, ACond_false, List.getD_cons_succ, List.getD_cons_zero, List.set_cons_succ, List.set_cons_zero, List.getElem?_cons_zero, List.length_cons, List.length_nil, List.contains_nil, List.isEmpty_nil, Bool.false_eq_true, if_false, if_true, and_true, List.all_cons, List.all_nil, Bool.and_true, Bool.not_true, Nat.zero_add, beq_self_eq_true, List.map_cons, List.map_nil, decide_true, Nat.reduceAdd, Nat.reduceLeDiff, Int.reduceAdd, ti24, decide_eq_false h2]
  have hls : ls.length ≤ 1000000 := by omega
  have hl : l.length ≤ 1000000 := by omega
  have a54 := s54 n ls l hls hl
  have a55 := s55 n ls l hls hl
  have hlen := seqA_len n ls l
  rcases hA : seqA n ls l with ⟨a, is, e⟩
  rw [hA] at a54 a55 hlen
  simp only at hlen
  have q1 := s27 a a hlen hlen
  rw [decide_eq_true rfl] at q1
  refine acall_v a54 rfl rfl ?_
  simp only [w_move, w_assign, w_load, w_extract, w_callF, w_aop, w_some, w_asome, w_anone, w_nil, w_cons, awp, asP, asT, asN, loadA, St.ev, St.step, setS, killS, AV.kill, AV.killL, Mem.kill, AV.cells, AV.flat, AV.single, ACond_false, List.getD_cons_succ, List.getD_cons_zero, List.set_cons_succ, List.set_cons_zero, List.getElem?_cons_succ, List.getElem?_cons_zero, List.length_cons, List.length_nil, List.contains_nil, List.isEmpty_nil, Option.getD_some, Bool.false_eq_true, if_false, if_true, and_true, List.all_cons, List.all_nil, Bool.and_true, Bool.not_true, Nat.zero_add, beq_self_eq_true, List.map_cons, List.map_nil, decide_true, Nat.reduceAdd, Nat.reduceLeDiff, Int.reduceAdd, ti24, t3A]
  refine acall_v a55 rfl rfl ?_
  simp only [w_move, w_assign, w_extract, w_callF, w_aop, w_some, w_anone, w_nil, w_cons, awp, asT, asN, St.ev, St.step, setS, killS, AV.kill, AV.killL, Mem.kill, ACond_false, List.getD_cons_succ, List.getD_cons_zero, List.set_cons_succ, List.set_cons_zero, List.getElem?_cons_succ, List.getElem?_cons_zero, List.contains_nil, List.isEmpty_nil, Option.getD_some, Bool.false_eq_true, if_false, if_true, List.map_cons, List.map_nil, Nat.reduceAdd, Int.reduceAdd, t3A]
  refine acall_v q1 rfl rfl ?_
  cases is <;>
  · simp only [w_move, w_pick, w_binOp, w_callF, w_aop, w_aopg, w_gdb, w_some, w_asome, w_anone, w_cons, binC, cmpC, eqC, asB, asI, St.ev, St.step, setS, killS, AV.kill, AV.killL, Mem.kill, ACond_true, List.getD_cons_succ, List.getD_cons_zero, List.set_cons_succ, List.set_cons_zero, List.getElem?_cons_succ, List.getElem?_cons_zero, List.isEmpty_nil, if_true, true_and, Bool.true_and, beq_self_eq_true, List.map_nil, decide_true, Option.bind_some, ti4]
    refine known ?_
    simp only [w_assign, w_pick, w_aop, w_some, w_anone, w_nil, w_cons, awp, asB, asN, St.ev, St.step, setS, killS, AV.kill, AV.killL, Mem.kill, ACond_true, List.getD_cons_succ, List.getD_cons_zero, List.set_cons_succ, List.set_cons_zero, List.contains_nil, List.isEmpty_nil, Option.getD_some, Bool.false_eq_true, if_false, if_true]
    exact aend_frz rfl ⟨rfl, rfl⟩
end Go.Proofs.Ytkolpijhgcijbaa
