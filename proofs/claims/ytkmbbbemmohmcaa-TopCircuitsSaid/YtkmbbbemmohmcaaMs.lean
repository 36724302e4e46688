/-
  Several texts in one: PlJ, DbK.
-/
import Derived.Test.YtkmbbbemmohmcaaMn
import Derived.Test.YtkmbbbemmohmcaaMf
import Derived.Test.YtkmbbbemmohmcaaMi
import Derived.Test.YtkmbbbemmohmcaaMd
set_option linter.unusedSimpArgs false
set_option linter.unusedVariables false
namespace Go.Proofs.Ytkmbbbemmohmcaa
open Aw

theorem fsN_succ (b : G4 → G4 → Bool) (c : List G4) (i : Nat) : fsN b c (i + 1) = fsN b c i ++ (if fst1 b c i then [i] else []) := by
  unfold fsN
  rw [List.range_succ, List.filter_append]
  cases h : fst1 b c i <;> simp [h]
def smK (b : G4 → G4 → Bool) (c : List G4) (l : List Nat) : Nat := (l.map fun i => Cn.cnt b (wo c i)).sum
theorem smK_app (b : G4 → G4 → Bool) (c : List G4) (l m : List Nat) : smK b c (l ++ m) = smK b c l + smK b c m := by simp [smK]
theorem fs_part (b : G4 → G4 → Bool) (c : List G4) : ∀ i, i ≤ c.length → smK b c (fsN b c i) + Cn.ss (Cn.fcn b) (c.take i) (c.drop i) = Cn.ss (Cn.fcn b) [] c
  | 0, _ => by simp [fsN, smK]
  | i + 1, h => by
    rw [← fs_part b c i (by omega), fsN_succ, smK_app, Cn.take_more (by omega), Cn.drop_more (show i < c.length by omega)]
    show _ = smK b c (fsN b c i) + (Cn.fcn b (c.take i) (c.getD i default) (c.drop (i + 1)) + Cn.ss (Cn.fcn b) (c.take i ++ [c.getD i default]) (c.drop (i + 1)))
    have : smK b c (if fst1 b c i then [i] else []) = Cn.fcn b (c.take i) (c.getD i default) (c.drop (i + 1)) := by
      unfold Cn.fcn
      show _ = if fst1 b c i = true then Cn.cnt b (wo c i) else 0
      cases fst1 b c i <;> simp [smK]
    rw [this]
    omega
theorem cnt_fs (b : G4 → G4 → Bool) {c : List G4} (h : c ≠ []) : smK b c (fsN b c c.length) = Cn.cnt b c := by
  have := fs_part b c c.length (Nat.le_refl _)
  rw [Cn.cnt_ss b h, ← this, List.drop_length]
  rfl
theorem smK_take (b : G4 → G4 → Bool) (c : List G4) {l : List Nat} {k : Nat} (h : k < l.length) : smK b c (l.take (k + 1)) = smK b c (l.take k) + Cn.cnt b (wo c l[k]) := by
  rw [List.take_add_one, List.getElem?_eq_getElem h, smK_app]
  simp [smK]
theorem smK_le (b : G4 → G4 → Bool) (c : List G4) (l : List Nat) (k : Nat) : smK b c (l.take k) ≤ smK b c l := by
  conv => rhs; rw [← List.take_append_drop k l]
  rw [smK_app]
  omega
theorem fs_al {c : List G4} (ho : Ok c) {i : Nat} (h : i ∈ fsN G4.bound c c.length) : ∃ hi : i < c.length, Al c (c[i] :: wo c i) := by
  rw [fsN_congr (cg_bound ho)] at h
  obtain ⟨hi, ha⟩ := Tr.fst_alk bT_bd (fst_iff.2 h)
  exact ⟨hi, by rw [wo_er]; exact ha⟩
end Go.Proofs.Ytkmbbbemmohmcaa

namespace Go.Proofs.Ytkmbbbemmohmcaa
open Aw Go.RowKit
set_option linter.unusedSimpArgs false

theorem vJ_zeroK {n : Int} {c d : List G4} (h : vJ n c d = 0) : vC n c = 0 ∧ vC n d = 0 ∧ c.length + d.length ≤ 10 := by
  unfold vJ at h
  split at h
  · rename_i h2
    obtain ⟨h3, h4⟩ := vC2_zero h2
    split at h
    · cases h
    · exact ⟨h3, h4, by omega⟩
  · exact absurd h (by assumption)
theorem vJ_ofK {n : Int} {c d : List G4} (h1 : vC n c = 0) (h2 : vC n d = 0) (h : c.length + d.length ≤ 10) : vJ n c d = 0 := by
  unfold vJ vC2
  rw [if_pos h1, h2, if_pos rfl, if_neg (by omega)]
theorem vC_joinK {n : Int} {c d : List G4} (h1 : vC n c = 0) (h2 : vC n d = 0) (h : c.length + d.length ≤ 10) : vC n (c ++ d) = 0 := by
  obtain ⟨k1, k2, k3⟩ := vC_iff.1 h1
  obtain ⟨_, _, k4⟩ := vC_iff.1 h2
  exact vC_iff.2 ⟨k1, by rw [List.length_append]; exact h, fun g hg => (List.mem_append.1 hg).elim (k3 g) (k4 g)⟩
theorem vC2_ofK {n : Int} {c d : List G4} (h1 : vC n c = 0) (h2 : vC n d = 0) : vC2 n c d = 0 := by rw [vC2, if_pos h1, h2]
def gx : G4 := ⟨0, 0, -1, 4⟩
theorem h18x : ASpec Try.prog 18 [I 1, .s 4 (gtsA [gx, gx]), gA gx] (fun r Ms => r = .t [I 8, I 0] ∧ Ms = []) := s18 1 [gx, gx] gx (by decide)

theorem ok3 : okFn Try.prog 3 = true := by kernel_rfl
set_option maxRecDepth 20000 in
set_option maxHeartbeats 4000000 in
theorem s3 (n : Int) (c d : List G4) : ASpec Try.prog 3 [I n, .s 4 (gtsA c), .s 4 (gtsA d)] (fun r Ms => r = B true ∧ Ms = []) := by
  refine aspec_of (own := [143, 171]) Try.func3 rfl ok3 ?_
  simp only [w_assign, w_alloc, w_load, w_store, w_build, w_buildSlice, w_callF, w_aop, w_some, w_anone, w_nil, w_cons, awp, asP, asQ, asN, obA, AGet_zero, loadA, storeA, fillA, putsA, mkA, Aw.newRow, St.ev, St.step, setS, killS, AV.kill, AV.killL, Mem.kill, AV.cells, AV.flat, AV.single, AV.cellular, AV.size, AV.sizeL, AV.pure, AV.pureL, ACond_false, Value.oneCell', List.getD_cons_succ, List.getD_cons_zero, List.set_cons_succ, List.set_cons_zero, List.getElem?_cons_succ, List.getElem?_cons_zero, List.length_cons, List.length_nil, List.replicate_succ, List.replicate_zero, List.cons_append, List.nil_append, List.contains_nil, List.contains_cons, List.isEmpty_nil, Option.getD_some, Bool.false_eq_true, if_false, if_true, true_and, and_true, List.all_cons, List.all_nil, Bool.and_true, Bool.true_and, Bool.not_true, Nat.zero_add, Nat.add_zero, beq_self_eq_true, List.map_cons, List.map_nil, decide_true, nbeq, decide_false, Bool.or_false, Nat.reduceAdd, Nat.reduceEqDiff, Nat.reduceMul, Nat.reduceSub, Nat.reduceLeDiff, Int.reduceAdd, Int.reduceSub, Int.reduceMul, Int.reduceNeg, ti22, ti24, Try.ntmps3]
  refine ⟨⟨by decide, rfl⟩, acall_v h18x rfl rfl ?_⟩
  simp only [w_move, w_assign, w_pick, w_binOp, w_extract, w_callF, w_aop, w_aopg, w_gdb, w_some, w_asome, w_anone, w_nil, w_cons, awp, binC, cmpC, asT, asB, asI, asN, St.ev, St.step, setS, killS, AV.kill, AV.killL, Mem.kill, ACond_true, ACond_false, List.getD_cons_succ, List.getD_cons_zero, List.set_cons_succ, List.set_cons_zero, List.getElem?_cons_succ, List.getElem?_cons_zero, List.contains_nil, List.contains_cons, List.isEmpty_nil, Option.getD_some, Bool.false_eq_true, if_false, if_true, true_and, Bool.true_and, Bool.not_true, beq_self_eq_true, List.map_cons, List.map_nil, decide_true, nbeq, decide_false, Bool.or_false, Nat.reduceAdd, Nat.reduceEqDiff, Int.reduceAdd, Int.reduceNeg, Option.bind_some]
  refine acall_v (s19 c) rfl rfl ?_
  by_cases hl : 50 < c.length
  · simp only [w_move, w_assign, w_pick, w_aop, w_aopg, w_gdb, w_some, w_anone, w_nil, w_cons, awp, asB, asN, St.ev, St.step, setS, killS, AV.kill, AV.killL, Mem.kill, ACond_true, ACond_false, List.getD_cons_succ, List.getD_cons_zero, List.set_cons_succ, List.set_cons_zero, List.getElem?_cons_succ, List.getElem?_cons_zero, List.contains_nil, List.contains_cons, List.isEmpty_nil, Option.getD_some, Bool.false_eq_true, if_false, if_true, Bool.not_true, nbeq, decide_false, Bool.or_false, Nat.reduceAdd, Nat.reduceEqDiff, Int.reduceAdd, Int.reduceNeg, Option.bind_some, w_bf, decide_eq_true hl]
    exact aend_frz rfl ⟨rfl, rfl⟩
  simp only [w_move, w_callF, w_aop, w_aopg, w_gdb, w_some, w_cons, St.ev, St.step, setS, killS, AV.kill, AV.killL, Mem.kill, ACond_true, List.getD_cons_succ, List.getD_cons_zero, List.set_cons_succ, List.set_cons_zero, List.getElem?_cons_succ, List.getElem?_cons_zero, List.contains_nil, List.isEmpty_nil, Bool.false_eq_true, if_false, if_true, beq_self_eq_true, List.map_cons, List.map_nil, Int.reduceNeg, Option.bind_some, decide_eq_false hl]
  refine acall_v (s19 d) rfl rfl ?_
  by_cases hl' : 50 < d.length
  · simp only [w_assign, w_pick, w_aop, w_some, w_anone, w_nil, w_cons, awp, asB, asN, St.ev, St.step, setS, killS, AV.kill, AV.killL, Mem.kill, ACond_true, ACond_false, List.getD_cons_succ, List.getD_cons_zero, List.set_cons_succ, List.set_cons_zero, List.contains_nil, List.contains_cons, List.isEmpty_nil, Option.getD_some, Bool.false_eq_true, if_false, if_true, nbeq, decide_false, Bool.or_false, Nat.reduceAdd, Nat.reduceEqDiff, Int.reduceAdd, Int.reduceNeg, decide_eq_true hl']
    exact aend_frz rfl ⟨rfl, rfl⟩
  simp only [w_move, w_pick, w_callF, w_aop, w_some, w_nil, w_cons, awp, asB, St.ev, St.step, setS, killS, AV.kill, AV.killL, Mem.kill, ACond_false, List.getD_cons_succ, List.getD_cons_zero, List.set_cons_succ, List.set_cons_zero, List.contains_nil, List.contains_cons, List.isEmpty_nil, Bool.false_eq_true, if_false, if_true, List.map_cons, List.map_nil, nbeq, decide_false, Bool.or_false, Nat.reduceAdd, Nat.reduceEqDiff, Int.reduceAdd, Int.reduceNeg, decide_eq_false hl']
  have k1 := s20 n c (by omega)
  by_cases hv : vC n c = 0
  · rw [if_pos hv, hv] at k1
    have h10 := vC_len hv
    have ho := vC_Ok hv
    have k2 := s22 n c (by omega)
    have k3 := s23 n c (by omega)
    have k4 := s24 n c (by omega)
    have k5 := s25 n c (by omega)
    rw [if_pos hv, hv] at k2 k3 k4 k5
    have hnl := nmS_len c
    have hnl' : ((nmS c).length : Int) = (c.length : Int) := by omega
    refine acall_v k1 rfl rfl ?_
    simp only [w_move, w_assign, w_binOp, w_extract, w_callF, w_aop, w_some, w_asome, w_anone, w_nil, w_cons, awp, binC, cmpC, asT, asB, asI, asN, St.ev, St.step, setS, killS, AV.kill, AV.killL, Mem.kill, ACond_false, List.getD_cons_succ, List.getD_cons_zero, List.set_cons_succ, List.set_cons_zero, List.getElem?_cons_succ, List.getElem?_cons_zero, List.contains_nil, List.contains_cons, List.isEmpty_nil, Option.getD_some, Bool.false_eq_true, if_false, if_true, true_and, Bool.true_and, Bool.not_true, List.map_cons, List.map_nil, decide_true, nbeq, decide_false, Bool.or_false, Nat.reduceAdd, Nat.reduceEqDiff, Int.reduceAdd, Int.reduceNeg]
    refine acall_v k2 rfl rfl ?_
    simp only [w_move, w_assign, w_extract, w_callF, w_aop, w_some, w_anone, w_nil, w_cons, awp, asT, asN, St.ev, St.step, setS, killS, AV.kill, AV.killL, Mem.kill, ACond_false, List.getD_cons_succ, List.getD_cons_zero, List.set_cons_succ, List.set_cons_zero, List.getElem?_cons_succ, List.getElem?_cons_zero, List.contains_nil, List.contains_cons, List.isEmpty_nil, Option.getD_some, Bool.false_eq_true, if_false, if_true, List.map_cons, List.map_nil, nbeq, decide_false, Bool.or_false, Nat.reduceAdd, Nat.reduceEqDiff, Int.reduceAdd, Int.reduceNeg]
    refine acall_v k3 rfl rfl ?_
    simp only [w_move, w_assign, w_extract, w_callF, w_aop, w_some, w_anone, w_nil, w_cons, awp, asT, asN, St.ev, St.step, setS, killS, AV.kill, AV.killL, Mem.kill, ACond_false, List.getD_cons_succ, List.getD_cons_zero, List.set_cons_succ, List.set_cons_zero, List.getElem?_cons_succ, List.getElem?_cons_zero, List.contains_nil, List.contains_cons, List.isEmpty_nil, Option.getD_some, Bool.false_eq_true, if_false, if_true, List.map_cons, List.map_nil, nbeq, decide_false, Bool.or_false, Nat.reduceAdd, Nat.reduceEqDiff, Int.reduceAdd, Int.reduceNeg]
    refine acall_v k4 rfl rfl ?_
    simp only [w_move, w_assign, w_extract, w_callF, w_aop, w_some, w_anone, w_nil, w_cons, awp, asT, asN, St.ev, St.step, setS, killS, AV.kill, AV.killL, Mem.kill, ACond_false, List.getD_cons_succ, List.getD_cons_zero, List.set_cons_succ, List.set_cons_zero, List.getElem?_cons_succ, List.getElem?_cons_zero, List.contains_nil, List.contains_cons, List.isEmpty_nil, Option.getD_some, Bool.false_eq_true, if_false, if_true, List.map_cons, List.map_nil, nbeq, decide_false, Bool.or_false, Nat.reduceAdd, Nat.reduceEqDiff, Int.reduceAdd, Int.reduceNeg]
    refine acall_v k5 rfl rfl ?_
    simp only [w_move, w_assign, w_pick, w_binOp, w_extract, w_len, w_aop, w_aopg, w_gdb, w_some, w_asome, w_anone, w_nil, w_cons, awp, binC, cmpC, asT, asB, asI, asN, lenA, St.ev, St.step, setS, killS, AV.kill, AV.killL, Mem.kill, ACond_true, ACond_false, List.getD_cons_succ, List.getD_cons_zero, List.set_cons_succ, List.set_cons_zero, List.getElem?_cons_succ, List.getElem?_cons_zero, List.contains_nil, List.contains_cons, List.isEmpty_nil, Option.getD_some, Bool.false_eq_true, if_false, if_true, true_and, Bool.true_and, Bool.not_true, Option.isSome_some, beq_self_eq_true, decide_true, nbeq, decide_false, Bool.or_false, Nat.reduceAdd, Nat.reduceEqDiff, Int.reduceAdd, Int.reduceNeg, Option.bind_some, gtsA_len, ti22, ti34, rowsA_len, gtsA_len, decide_eq_true hnl']
    obtain ⟨fs, hfs⟩ : ∃ fs, fs = fsN G4.bound c c.length := ⟨_, rfl⟩
    have hfi : fsI G4.bound c c.length = nz fs := by rw [hfs]; rfl
    have hcl := Cn.cnt_le G4.bound c.length c (Nat.le_refl _) h10
    have hcl2 : 10 ^ c.length ≤ 10000000000 := Nat.le_trans (Nat.pow_le_pow_right (by omega) h10) (Nat.le_refl _)
    have htot : smK G4.bound c fs ≤ 10000000000 := by
      by_cases hc : c = []
      · rw [hfs, hc]
        simp [fsN, smK]
      · rw [hfs, cnt_fs _ hc]
        omega
    have hfl : fs.length ≤ c.length := by
      have := fsI_len G4.bound c c.length
      rw [hfi, nz_len] at this
      exact this
    rw [hfi]
    refine swp_loop' (fun k : Nat => ⟨[I n, .s 4 (gtsA c), .s 4 (gtsA d), .bot, .bot, .bot, .bot, .bot, .bot, .bot, I (Cn.cnt G4.bound c : Nat), .bot, .s 1 (intsA (nz fs)), .bot, .bot, .bot, .bot, .bot, .s 4 (gtsA (nmS c)), .bot, I (smK G4.bound c (fs.take k) : Nat), I k, .bot, .bot, .bot, .bot, .bot, .bot, .bot, .bot, .bot, .bot, .bot, .bot, .bot, .bot, .bot, .bot, .bot, .bot, .bot, .bot, .bot, .bot, .bot, .bot, .bot, .bot, .bot, .bot, .bot, .bot, .bot, .bot, .bot, .bot, .bot, .bot, .bot, .bot, .bot, .bot, .bot, .bot, .bot, .bot, .bot, .bot, .bot, .bot, .bot, .bot, .bot, .bot, .bot, .bot, .bot, .bot, .bot, .bot, .bot, .bot, .bot, .bot, .bot, .bot, .bot, .bot, .bot, .bot, .bot, .bot, .bot, .bot, .bot, .bot, .bot, .bot, .bot, .bot, .bot, .bot, .bot, .bot, .bot, .bot, .bot, .bot, .bot, .bot, .bot, .bot, .bot, .bot, .bot, .bot, .bot, .bot, .bot, .bot, .bot, .bot, .bot, .bot, .bot, .bot, .bot, .bot, .bot, .bot, .bot, .bot, .bot, .bot, .bot, .bot, .bot, .bot, .bot, .bot, .bot, .bot, .bot, .bot, .bot, .bot, .bot, .bot, .bot, .bot, .bot, .bot, .bot, .bot, .bot, .bot, .bot, .bot, .bot, .bot, .bot, .bot, .bot, .bot, .bot, .bot, .bot, .bot, .bot, .bot, .bot, .bot, .bot, .bot, .bot, .bot, .bot, .bot, .bot, .bot, .bot, .bot, .bot, .bot, .bot, .bot, .bot, .bot, .bot, .bot, .bot, .bot, .bot, .bot, .bot, .bot, .bot, .bot, .bot, .bot, .bot, .bot, .bot, .bot, .bot, .bot, .bot, .bot, .bot, .bot, .bot, .bot, .bot, .bot, .bot, .bot, .bot, .bot, .bot, .bot, .bot, .bot, .bot, .bot, .bot, .bot, .bot, .bot, .bot, .bot, .bot, .bot, .bot, .bot, .bot, .bot, .bot, .bot, .bot, .bot, .bot, .bot, .bot, .bot, .bot, .bot, .bot, .bot, .bot, .bot, .bot, .bot, .bot, .bot, .bot, .bot, .bot, .bot, .bot, .bot, .bot, .bot, .bot, .bot, .bot, .bot, .bot, .bot, .bot, .bot, .bot, .bot, .bot, .bot, .bot, .bot, .bot, .bot, .bot, .bot, .bot, .bot, .bot, .bot, .bot, .bot, .bot, .bot, .bot, .bot, .bot, .bot, .bot, .bot, .bot, .bot, .bot, .bot, .bot, .bot, .bot, .bot, .bot, .bot, .bot, .bot, .bot, .bot, .bot, .bot, .bot, .bot, .bot, .bot, .bot, .bot, .bot, .bot, .bot, .bot, .bot, .bot, .bot, .bot, .bot, .bot, .bot, .bot, .bot, .bot, .bot, .bot, .bot, .bot, .bot, .bot, .bot, .bot, .bot, .bot, .bot, .bot, .bot, .bot, .bot, .bot, .bot, .bot], []⟩)
      (fun k => k ≤ fs.length) (fun k => fs.length - k) 0 (le_cut (Mx := [_]) (M' := []) (by simp [leSl, smK]) rfl (by simp [AV.freeL, AV.free, freeL_pure, gtsA_pure, intsA_pure]) rfl) (Nat.zero_le _) ?_
    intro k hk
    refine awp_sound (own := [143, 171]) _ _ _ _ _ ?_
    simp only [w_move, w_binOp, w_len, w_aop, w_some, w_asome, w_nil, w_cons, awp, binC, cmpC, asB, asI, lenA, St.ev, St.step, setS, killS, AV.kill, AV.killL, Mem.kill, ACond_false, List.getD_cons_succ, List.getD_cons_zero, List.set_cons_succ, List.set_cons_zero, List.contains_nil, List.contains_cons, List.isEmpty_nil, if_true, true_and, Bool.true_and, Option.isSome_some, nbeq, decide_false, Bool.or_false, Nat.reduceAdd, Nat.reduceEqDiff, Int.reduceAdd, intsA_len, ti31, intsA_len, nz_len]
    by_cases hkl : k < fs.length
    · have hkl' : (k : Int) < (fs.length : Int) := by omega
      have hkn : k < (nz fs).length := by rw [nz_len]; exact hkl
      have hgk : (nz fs)[k] = ((fs[k] : Nat) : Int) := by
        rw [nz_at hkn, List.getD_eq_getElem?_getD, List.getElem?_eq_getElem hkl]
        rfl
      obtain ⟨hi, hal⟩ := fs_al ho (show fs[k] ∈ fsN G4.bound c c.length by rw [← hfs]; exact List.getElem_mem hkl)
      have hsm := smK_take G4.bound c hkl
      have hsl := smK_le G4.bound c fs (k + 1)
      generalize fs[k] = i at hgk hi hal hsm
      have hi1 : ¬ (i : Int) < 0 := by omega
      have hi2 : ¬ (c.length : Int) ≤ (i : Int) := by omega
      simp only [w_move, w_assign, w_pick, w_load, w_indexAddr, w_binOp, w_len, w_aop, w_aopg, w_gdb, w_some, w_asome, w_anone, w_nil, w_cons, awp, binC, idxC, cmpC, asP, asS, asB, asI, asN, lenA, loadA, St.ev, St.step, setS, killS, AV.kill, AV.killL, Mem.kill, AV.cells, AV.flat, AV.single, ACond_true, ACond_false, List.getD_cons_succ, List.getD_cons_zero, List.set_cons_succ, List.set_cons_zero, List.getElem?_cons_succ, List.getElem?_cons_zero, List.contains_nil, List.contains_cons, List.isEmpty_nil, Option.getD_some, Bool.false_eq_true, if_false, if_true, true_and, and_true, List.all_cons, List.all_nil, Bool.and_true, Bool.true_and, Bool.not_true, Option.isSome_some, beq_self_eq_true, nbeq, decide_false, Bool.or_false, Nat.reduceAdd, Nat.reduceEqDiff, Int.reduceAdd, Option.bind_some, gtsA_len, ti3, ti22, ti31, decide_eq_true hkl', aget_ints hkn, Int.toNat_natCast, hgk, decide_eq_false hi1, decide_eq_false hi2, gtsA_len]
      have e1 : List.drop 0 (List.take (i : Int).toNat (gtsA c)) = gtsA (c.take i) := by rw [List.drop_zero, Int.toNat_natCast, gtsA_take]
      have e2 : List.drop ((i : Int) + 1).toNat (List.take (c.length : Int).toNat (gtsA c)) = gtsA (c.drop (i + 1)) := by
        rw [show ((i : Int) + 1).toNat = i + 1 by omega, Int.toNat_natCast, gtsA_take, List.take_length, gtsA_drop]
      have hlt : (c.take i).length ≤ 10000 := by simp; omega
      have hld : (c.drop (i + 1)).length ≤ 10000 := by simp; omega
      refine ⟨by omega, ?_⟩
      refine swp_draw (own := [143, 171]) (.take 1 .plain [] (.take 2 .plain [] (.take 3 .plain [] (.take 5 .over [1] (.take 6 .over [22] (.take 7 .over [149] (.take 8 .over [148, 150] (.alt 0 (.alt 4 (.alt 9 (.take 10 .plain [] (.done)) (.nil)) (.nil)) (.nil))))))))) [⟨144, 0, 0, 0, false⟩, ⟨145, 2, 0, 0, true⟩, ⟨146, 4194304, 0, 0, true⟩, ⟨147, 66902235595591869424607154817945084517941248, 6, 0, true⟩, ⟨148, 100353353393387804136910732226917626776911872, 9, 2, false⟩, ⟨149, 2, 0, 0, true⟩, ⟨150, 4194304, 0, 0, true⟩, ⟨151, 713623846352979940529142984724747568191373312, 64, 0, true⟩, ⟨152, 1784059615882449851322857461811868920478433280, 160, 0, true⟩, ⟨153, 3032901347000164747248857685080177164813336576, 272, 2, false⟩, ⟨24, 5708990770823839524233143877797980545530986496, 1023, 0, true⟩] mo (by kernel_rfl) ?_
      simp only [w_move, w_assign, w_binOp, w_buildSlice, w_slice, w_callF, w_append, w_aop, w_take, w_some, w_asome, w_anone, w_cons, awp, binC, arithC, cmpC, asO, asS, asI, asN, obA, bndA, Aw.newRow, St.ev, St.step, setS, killS, AV.kill, AV.killL, Mem.kill, AV.cells, AV.flat, AV.single, AV.cellular, AV.pure, ACond_true, ACond_false, Value.oneCell', List.getD_cons_succ, List.getD_cons_zero, List.set_cons_succ, List.set_cons_zero, List.getElem?_cons_succ, List.getElem?_cons_zero, List.length_nil, List.nil_append, List.contains_nil, List.contains_cons, List.isEmpty_nil, List.isEmpty_cons, Option.getD_some, Option.getD_none, Bool.false_eq_true, if_false, if_true, true_and, and_true, List.all_cons, List.all_nil, Bool.and_true, Bool.true_and, Nat.zero_add, beq_self_eq_true, List.map_cons, List.map_nil, nbeq, decide_false, Bool.or_false, Nat.reduceAdd, Nat.reduceEqDiff, Nat.reduceMul, Nat.reduceLeDiff, Int.reduceAdd, Int.reduceMul, Int.reduceLE, Int.toNat_zero, ASch, St.put, Md.mem, Md.need, Option.map_some, gtsA_len, ti22, ti24, e1, e2, gtsA_kill, gtsA_join, gtsA_len]
      have ew : c.take i ++ c.drop (i + 1) = wo c i := rfl
      rw [ew]
      have hwl := wo_len c hi
      have hvr := vC_al hv hal
      have hvw : vC n (wo c i) = 0 := by
        rw [vC_iff] at hv ⊢
        exact ⟨hv.1, by omega, fun g hg => hv.2.2 g (wo_mem hg)⟩
      have q1 := s20 n (wo c i) (by omega)
      rw [if_pos hvw, hvw] at q1
      have q2 := s26 n c (c[i] :: wo c i) (by omega) (by simp; omega)
      rw [vC2_ofK hv hvr, (nmS_iff _ _).2 hal, decide_eq_true rfl, decide_eq_true rfl] at q2
      have q2 : ASpec Try.prog 26 [I n, .s 4 (gtsA c), .s 4 (gtsA (c[i] :: wo c i))] (fun r Ms => r = .t [B true, I 0] ∧ Ms = []) := q2
      refine ⟨⟨by omega, by omega⟩, by unfold lim; omega, ⟨by omega, by omega, by omega⟩, ⟨by decide, rfl⟩, ⟨by decide, by omega⟩, ⟨by decide, by omega⟩, ?_⟩
      refine acall_l q1 (by simp [frz, AV.sub, gtsA_pure]) rfl rfl ?_
      simp only [w_move, w_assign, w_load, w_indexAddr, w_binOp, w_buildSlice, w_extract, w_callF, w_append, w_aop, w_some, w_asome, w_anone, w_nil, w_cons, awp, binC, idxC, arithC, cmpC, asP, asO, asS, asT, asB, asI, asN, obA, loadA, Aw.newRow, St.ev, St.step, setS, killS, AV.kill, AV.killL, Mem.kill, AV.cells, AV.flat, AV.single, AV.cellular, AV.size, AV.sizeL, ACond_true, ACond_false, Value.oneCell', List.getD_cons_succ, List.getD_cons_zero, List.set_cons_succ, List.set_cons_zero, List.getElem?_cons_succ, List.getElem?_cons_zero, List.length_cons, List.length_nil, List.cons_append, List.nil_append, List.contains_nil, List.contains_cons, List.isEmpty_nil, List.isEmpty_cons, Option.getD_some, Bool.false_eq_true, if_false, if_true, true_and, and_true, List.all_cons, List.all_nil, Bool.and_true, Bool.true_and, Bool.not_true, Nat.zero_add, Nat.add_zero, beq_self_eq_true, List.map_cons, List.map_nil, decide_true, nbeq, decide_false, Bool.or_false, Bool.or_true, Nat.reduceAdd, Nat.reduceEqDiff, Nat.reduceMul, Nat.reduceLeDiff, Int.reduceAdd, Int.reduceMul, ne_eq, not_false_eq_true, Option.map_some, gtsA_len, ti22, ti24, decide_eq_false hi2, gtsA_len, gtsA_kill, aget_gts hi, Int.toNat_natCast]
      have ec : AV.g [I c[i].k, I c[i].a, I c[i].b, I c[i].t] :: gtsA (wo c i) = gtsA (c[i] :: wo c i) := rfl
      rw [ec]
      refine ⟨by unfold lim; omega, by omega, ⟨by decide, rfl⟩, ⟨by decide, by omega⟩, ?_⟩
      refine acall_l q2 (by simp [frz, AV.sub, gtsA_pure]) rfl rfl ?_
      simp only [w_move, w_assign, w_pick, w_binOp, w_not, w_extract, w_aop, w_aopg, w_gdb, w_some, w_asome, w_anone, w_nil, w_cons, awp, binC, arithC, cmpC, asT, asB, asI, asN, St.ev, St.step, setS, killS, AV.kill, AV.killL, Mem.kill, ACond_true, ACond_false, List.getD_cons_succ, List.getD_cons_zero, List.set_cons_succ, List.set_cons_zero, List.getElem?_cons_succ, List.getElem?_cons_zero, List.contains_nil, List.contains_cons, List.isEmpty_nil, Option.getD_some, Bool.false_eq_true, if_false, if_true, true_and, and_true, Bool.and_true, Bool.true_and, Bool.not_true, beq_self_eq_true, decide_true, nbeq, decide_false, Bool.or_false, Nat.reduceAdd, Nat.reduceEqDiff, Int.reduceAdd, Option.bind_some]
      refine ⟨by unfold lim; omega, k + 1, ?_, hkl, by omega⟩
      rw [hsm, Int.natCast_add]
      exact le_cut (Mx := [_, _]) (M' := []) (by simp [leSl]) rfl (by simp [AV.freeL, AV.free, freeL_pure, gtsA_pure, intsA_pure]) rfl
    · have hkl' : ¬ (k : Int) < (fs.length : Int) := by omega
      have hke : k = fs.length := by omega
      subst hke
      have k6 := s27 n c (by omega)
      have k7 := s27 n (nmS c) (by omega)
      have k8 := s28 n (red c) (by have := red_len_le ho; omega)
      have hvn : vC n (nmS c) = 0 := vC_nm hv
      have hrn : red (nmS c) = red c := (red_eq ho (al_gq _ (nmS_al c) ho)).symm
      have hvr := vC_red hv
      have hor := vC_Ok hvr
      have hrl := red_len_le ho
      rw [if_pos hv, hv] at k6
      rw [if_pos hvn, hvn, hrn] at k7
      rw [if_pos hvr, hvr, invL_iv] at k8
      have k9 := s29 (red c) (red c) (by omega) (by omega)
      rw [decide_eq_true rfl] at k9
      have k10 := s28 n c (by omega)
      rw [if_pos hv, hv, invL_iv] at k10
      have hvi := vC_iv hv
      have hvi' := vC_iv hvr
      have hil := ivL_len c
      have hil' := ivL_len (red c)
      have k11 := s30 n (ivL c) (ivL (red c)) (by omega) (by omega)
      have hre : red (ivL c) = red (ivL (red c)) := red_eq (ivL_ok ho) (ivL_gq (red_gq ho))
      rw [vC2_ofK hvi hvi', hre, decide_eq_true rfl, decide_eq_true rfl] at k11
      have k11 : ASpec Try.prog 30 [I n, .s 4 (gtsA (ivL c)), .s 4 (gtsA (ivL (red c)))] (fun r Ms => r = .t [B true, I 0] ∧ Ms = []) := k11
      have k12 := s31 n c d (by omega) (by omega)
      simp only [w_move, w_binOp, w_len, w_aop, w_aopg, w_gdb, w_some, w_asome, w_cons, awp, binC, cmpC, asI, lenA, St.ev, St.step, setS, killS, AV.kill, AV.killL, Mem.kill, ACond_false, List.getD_cons_succ, List.getD_cons_zero, List.set_cons_succ, List.set_cons_zero, List.getElem?_cons_succ, List.getElem?_cons_zero, List.contains_nil, List.contains_cons, List.isEmpty_nil, if_true, true_and, Bool.true_and, Option.isSome_some, nbeq, decide_false, Bool.or_false, Nat.reduceAdd, Nat.reduceEqDiff, Int.reduceAdd, Option.bind_some, w_bt, gtsA_len, ti22, decide_eq_false hkl', List.take_length, gtsA_len]
      by_cases hc : 0 < c.length
      · have hc' : (0 : Int) < (c.length : Int) := by omega
        have hc2 : (smK G4.bound c fs : Int) = (Cn.cnt G4.bound c : Int) := by
          have : c ≠ [] := fun e => by rw [e] at hc; simp at hc
          rw [hfs, cnt_fs _ this]
        have hc3 : ¬ (c.length : Int) = 0 := by omega
        simp only [w_move, w_pick, w_binOp, w_callF, w_len, w_aop, w_aopg, w_gdb, w_some, w_asome, w_nil, w_cons, awp, binC, cmpC, asB, asI, lenA, St.ev, St.step, setS, killS, AV.kill, AV.killL, Mem.kill, ACond_true, ACond_false, List.getD_cons_succ, List.getD_cons_zero, List.set_cons_succ, List.set_cons_zero, List.getElem?_cons_succ, List.getElem?_cons_zero, List.contains_nil, List.contains_cons, List.isEmpty_nil, if_true, true_and, Bool.true_and, Bool.not_true, Option.isSome_some, beq_self_eq_true, List.map_cons, List.map_nil, nbeq, decide_false, Bool.or_false, Nat.reduceAdd, Nat.reduceEqDiff, Int.reduceAdd, Option.bind_some, w_bt, gtsA_len, ti22, decide_eq_true hc', decide_eq_true hc2, decide_eq_false hc3, gtsA_len]
        refine acall_v k6 rfl rfl ?_
        simp only [w_move, w_assign, w_extract, w_callF, w_aop, w_some, w_anone, w_nil, w_cons, awp, asT, asN, St.ev, St.step, setS, killS, AV.kill, AV.killL, Mem.kill, ACond_false, List.getD_cons_succ, List.getD_cons_zero, List.set_cons_succ, List.set_cons_zero, List.getElem?_cons_succ, List.getElem?_cons_zero, List.contains_nil, List.contains_cons, List.isEmpty_nil, Option.getD_some, Bool.false_eq_true, if_false, if_true, List.map_cons, List.map_nil, nbeq, decide_false, Bool.or_false, Nat.reduceAdd, Nat.reduceEqDiff, Int.reduceAdd]
        refine acall_v k7 rfl rfl ?_
        simp only [w_move, w_assign, w_extract, w_callF, w_aop, w_some, w_anone, w_nil, w_cons, awp, asT, asN, St.ev, St.step, setS, killS, AV.kill, AV.killL, Mem.kill, ACond_false, List.getD_cons_succ, List.getD_cons_zero, List.set_cons_succ, List.set_cons_zero, List.getElem?_cons_succ, List.getElem?_cons_zero, List.contains_nil, List.contains_cons, List.isEmpty_nil, Option.getD_some, Bool.false_eq_true, if_false, if_true, List.map_cons, List.map_nil, nbeq, decide_false, Bool.or_false, Nat.reduceAdd, Nat.reduceEqDiff, Int.reduceAdd]
        refine acall_v k8 rfl rfl ?_
        simp only [w_move, w_assign, w_pick, w_binOp, w_extract, w_callF, w_aop, w_aopg, w_gdb, w_some, w_asome, w_anone, w_nil, w_cons, awp, binC, cmpC, asT, asB, asI, asN, St.ev, St.step, setS, killS, AV.kill, AV.killL, Mem.kill, ACond_true, ACond_false, List.getD_cons_succ, List.getD_cons_zero, List.set_cons_succ, List.set_cons_zero, List.getElem?_cons_succ, List.getElem?_cons_zero, List.contains_nil, List.contains_cons, List.isEmpty_nil, Option.getD_some, Bool.false_eq_true, if_false, if_true, true_and, Bool.true_and, Bool.not_true, beq_self_eq_true, List.map_cons, List.map_nil, decide_true, nbeq, decide_false, Bool.or_false, Nat.reduceAdd, Nat.reduceEqDiff, Int.reduceAdd, Option.bind_some]
        refine acall_v k9 rfl rfl ?_
        simp only [w_move, w_pick, w_binOp, w_not, w_callF, w_aop, w_aopg, w_gdb, w_some, w_asome, w_nil, w_cons, awp, binC, cmpC, asB, asI, St.ev, St.step, setS, killS, AV.kill, AV.killL, Mem.kill, ACond_true, ACond_false, List.getD_cons_succ, List.getD_cons_zero, List.set_cons_succ, List.set_cons_zero, List.getElem?_cons_succ, List.getElem?_cons_zero, List.contains_nil, List.contains_cons, List.isEmpty_nil, if_true, true_and, Bool.true_and, Bool.not_true, beq_self_eq_true, List.map_cons, List.map_nil, decide_true, nbeq, decide_false, Bool.or_false, Nat.reduceAdd, Nat.reduceEqDiff, Int.reduceAdd, Option.bind_some]
        refine acall_v k10 rfl rfl ?_
        simp only [w_move, w_assign, w_extract, w_callF, w_aop, w_some, w_anone, w_nil, w_cons, awp, asT, asN, St.ev, St.step, setS, killS, AV.kill, AV.killL, Mem.kill, ACond_false, List.getD_cons_succ, List.getD_cons_zero, List.set_cons_succ, List.set_cons_zero, List.getElem?_cons_succ, List.getElem?_cons_zero, List.contains_nil, List.contains_cons, List.isEmpty_nil, Option.getD_some, Bool.false_eq_true, if_false, if_true, List.map_cons, List.map_nil, nbeq, decide_false, Bool.or_false, Nat.reduceAdd, Nat.reduceEqDiff, Int.reduceAdd]
        refine acall_v k11 rfl rfl ?_
        simp only [w_move, w_assign, w_pick, w_binOp, w_not, w_extract, w_callF, w_aop, w_aopg, w_gdb, w_some, w_asome, w_anone, w_nil, w_cons, awp, binC, cmpC, asT, asB, asI, asN, St.ev, St.step, setS, killS, AV.kill, AV.killL, Mem.kill, ACond_true, ACond_false, List.getD_cons_succ, List.getD_cons_zero, List.set_cons_succ, List.set_cons_zero, List.getElem?_cons_succ, List.getElem?_cons_zero, List.contains_nil, List.contains_cons, List.isEmpty_nil, Option.getD_some, Bool.false_eq_true, if_false, if_true, true_and, Bool.true_and, Bool.not_true, beq_self_eq_true, List.map_cons, List.map_nil, decide_true, nbeq, decide_false, Bool.or_false, Nat.reduceAdd, Nat.reduceEqDiff, Int.reduceAdd, Option.bind_some]
        by_cases hj : vJ n c d = 0
        · obtain ⟨_, vd, vl⟩ := vJ_zeroK hj
          rw [if_pos hj, hj] at k12
          have hod := vC_Ok vd
          have hrd := red_len_le hod
          have vrd := vC_red vd
          have hidl := ivL_len d
          have vid := vC_iv vd
          have hjr : vJ n (red c) (red d) = 0 := vJ_ofK hvr vrd (by omega)
          have hji : vJ n (ivL d) (ivL c) = 0 := vJ_ofK vid hvi (by omega)
          have vcd := vC_joinK hv vd vl
          have vrr := vC_joinK hvr vrd (by omega)
          have hal1 : (c ++ d).length ≤ 10 := vC_len vcd
          have hal2 : (red c ++ red d).length ≤ 10 := vC_len vrr
          have k13 := s27 n d (by omega)
          rw [if_pos vd, vd] at k13
          have k14 := s31 n (red c) (red d) (by omega) (by omega)
          rw [if_pos hjr, hjr] at k14
          have k15 := s27 n (c ++ d) (by omega)
          rw [if_pos vcd, vcd] at k15
          have k16 := s27 n (red c ++ red d) (by omega)
          rw [if_pos vrr, vrr, ← red_join ho hod] at k16
          have hr3 := red_len_le (vC_Ok vcd)
          have k17 := s29 (red (c ++ d)) (red (c ++ d)) (by omega) (by omega)
          rw [decide_eq_true rfl] at k17
          have k18 := s28 n d (by omega)
          rw [if_pos vd, vd, invL_iv] at k18
          have k19 := s28 n (c ++ d) (by omega)
          rw [if_pos vcd, vcd, invL_iv] at k19
          have k20 := s31 n (ivL d) (ivL c) (by omega) (by omega)
          rw [if_pos hji, hji, ← ivL_app] at k20
          have hi3 := ivL_len (c ++ d)
          have k21 := s29 (ivL (c ++ d)) (ivL (c ++ d)) (by omega) (by omega)
          rw [decide_eq_true rfl] at k21
          refine acall_v k12 rfl rfl ?_
          simp only [w_move, w_assign, w_binOp, w_extract, w_callF, w_aop, w_some, w_asome, w_anone, w_nil, w_cons, awp, binC, cmpC, asT, asB, asI, asN, St.ev, St.step, setS, killS, AV.kill, AV.killL, Mem.kill, ACond_false, List.getD_cons_succ, List.getD_cons_zero, List.set_cons_succ, List.set_cons_zero, List.getElem?_cons_succ, List.getElem?_cons_zero, List.contains_nil, List.contains_cons, List.isEmpty_nil, Option.getD_some, Bool.false_eq_true, if_false, if_true, true_and, Bool.true_and, Bool.not_true, List.map_cons, List.map_nil, decide_true, nbeq, decide_false, Bool.or_false, Nat.reduceAdd, Nat.reduceEqDiff, Int.reduceAdd]
          refine acall_v k13 rfl rfl ?_
          simp only [w_move, w_assign, w_extract, w_callF, w_aop, w_some, w_anone, w_nil, w_cons, awp, asT, asN, St.ev, St.step, setS, killS, AV.kill, AV.killL, Mem.kill, ACond_false, List.getD_cons_succ, List.getD_cons_zero, List.set_cons_succ, List.set_cons_zero, List.getElem?_cons_succ, List.getElem?_cons_zero, List.contains_nil, List.contains_cons, List.isEmpty_nil, Option.getD_some, Bool.false_eq_true, if_false, if_true, List.map_cons, List.map_nil, nbeq, decide_false, Bool.or_false, Nat.reduceAdd, Nat.reduceEqDiff, Int.reduceAdd]
          refine acall_v k14 rfl rfl ?_
          simp only [w_move, w_assign, w_extract, w_callF, w_aop, w_some, w_anone, w_nil, w_cons, awp, asT, asN, St.ev, St.step, setS, killS, AV.kill, AV.killL, Mem.kill, ACond_false, List.getD_cons_succ, List.getD_cons_zero, List.set_cons_succ, List.set_cons_zero, List.getElem?_cons_succ, List.getElem?_cons_zero, List.contains_nil, List.contains_cons, List.isEmpty_nil, Option.getD_some, Bool.false_eq_true, if_false, if_true, List.map_cons, List.map_nil, nbeq, decide_false, Bool.or_false, Nat.reduceAdd, Nat.reduceEqDiff, Int.reduceAdd]
          refine acall_v k15 rfl rfl ?_
          simp only [w_move, w_assign, w_extract, w_callF, w_aop, w_some, w_anone, w_nil, w_cons, awp, asT, asN, St.ev, St.step, setS, killS, AV.kill, AV.killL, Mem.kill, ACond_false, List.getD_cons_succ, List.getD_cons_zero, List.set_cons_succ, List.set_cons_zero, List.getElem?_cons_succ, List.getElem?_cons_zero, List.contains_nil, List.contains_cons, List.isEmpty_nil, Option.getD_some, Bool.false_eq_true, if_false, if_true, List.map_cons, List.map_nil, nbeq, decide_false, Bool.or_false, Nat.reduceAdd, Nat.reduceEqDiff, Int.reduceAdd]
          refine acall_v k16 rfl rfl ?_
          simp only [w_move, w_assign, w_pick, w_binOp, w_extract, w_callF, w_aop, w_aopg, w_gdb, w_some, w_asome, w_anone, w_nil, w_cons, awp, binC, cmpC, asT, asB, asI, asN, St.ev, St.step, setS, killS, AV.kill, AV.killL, Mem.kill, ACond_true, ACond_false, List.getD_cons_succ, List.getD_cons_zero, List.set_cons_succ, List.set_cons_zero, List.getElem?_cons_succ, List.getElem?_cons_zero, List.contains_nil, List.contains_cons, List.isEmpty_nil, Option.getD_some, Bool.false_eq_true, if_false, if_true, true_and, Bool.true_and, Bool.not_true, beq_self_eq_true, List.map_cons, List.map_nil, decide_true, nbeq, decide_false, Bool.or_false, Nat.reduceAdd, Nat.reduceEqDiff, Int.reduceAdd, Option.bind_some]
          refine acall_v k17 rfl rfl ?_
          simp only [w_move, w_pick, w_not, w_callF, w_aop, w_aopg, w_gdb, w_some, w_nil, w_cons, awp, asB, St.ev, St.step, setS, killS, AV.kill, AV.killL, Mem.kill, ACond_true, ACond_false, List.getD_cons_succ, List.getD_cons_zero, List.set_cons_succ, List.set_cons_zero, List.getElem?_cons_succ, List.getElem?_cons_zero, List.contains_nil, List.contains_cons, List.isEmpty_nil, if_true, Bool.not_true, beq_self_eq_true, List.map_cons, List.map_nil, nbeq, decide_false, Bool.or_false, Nat.reduceAdd, Nat.reduceEqDiff, Int.reduceAdd, Option.bind_some]
          refine acall_v k18 rfl rfl ?_
          simp only [w_move, w_assign, w_extract, w_callF, w_aop, w_some, w_anone, w_nil, w_cons, awp, asT, asN, St.ev, St.step, setS, killS, AV.kill, AV.killL, Mem.kill, ACond_false, List.getD_cons_succ, List.getD_cons_zero, List.set_cons_succ, List.set_cons_zero, List.getElem?_cons_succ, List.getElem?_cons_zero, List.contains_nil, List.contains_cons, List.isEmpty_nil, Option.getD_some, Bool.false_eq_true, if_false, if_true, List.map_cons, List.map_nil, nbeq, decide_false, Bool.or_false, Nat.reduceAdd, Nat.reduceEqDiff, Int.reduceAdd]
          refine acall_v k19 rfl rfl ?_
          simp only [w_move, w_assign, w_extract, w_callF, w_aop, w_some, w_anone, w_nil, w_cons, awp, asT, asN, St.ev, St.step, setS, killS, AV.kill, AV.killL, Mem.kill, ACond_false, List.getD_cons_succ, List.getD_cons_zero, List.set_cons_succ, List.set_cons_zero, List.getElem?_cons_succ, List.getElem?_cons_zero, List.contains_nil, List.contains_cons, List.isEmpty_nil, Option.getD_some, Bool.false_eq_true, if_false, if_true, List.map_cons, List.map_nil, nbeq, decide_false, Bool.or_false, Nat.reduceAdd, Nat.reduceEqDiff, Int.reduceAdd]
          refine acall_v k20 rfl rfl ?_
          simp only [w_move, w_assign, w_pick, w_binOp, w_extract, w_callF, w_aop, w_aopg, w_gdb, w_some, w_asome, w_anone, w_nil, w_cons, awp, binC, cmpC, asT, asB, asI, asN, St.ev, St.step, setS, killS, AV.kill, AV.killL, Mem.kill, ACond_true, ACond_false, List.getD_cons_succ, List.getD_cons_zero, List.set_cons_succ, List.set_cons_zero, List.getElem?_cons_succ, List.getElem?_cons_zero, List.contains_nil, List.contains_cons, List.isEmpty_nil, Option.getD_some, Bool.false_eq_true, if_false, if_true, true_and, Bool.true_and, beq_self_eq_true, List.map_cons, List.map_nil, decide_true, nbeq, decide_false, Bool.or_false, Nat.reduceAdd, Nat.reduceEqDiff, Int.reduceAdd, Option.bind_some]
          refine acall_v k21 rfl rfl ?_
          simp only [w_assign, w_pick, w_aop, w_some, w_anone, w_nil, w_cons, awp, asB, asN, St.ev, St.step, setS, killS, AV.kill, AV.killL, Mem.kill, ACond_true, List.getD_cons_succ, List.getD_cons_zero, List.set_cons_succ, List.set_cons_zero, List.contains_nil, List.contains_cons, List.isEmpty_nil, Option.getD_some, Bool.false_eq_true, if_false, if_true, nbeq, decide_false, Bool.or_false, Nat.reduceEqDiff]
          exact aend_frz rfl ⟨rfl, rfl⟩
        · rw [if_neg hj] at k12
          have e0 : ((([] : List G4).length : Int) = 0) := rfl
          generalize vJ n c d = E at k12 hj
          refine acall_v k12 rfl rfl ?_
          simp only [w_move, w_assign, w_binOp, w_extract, w_len, w_aop, w_some, w_asome, w_anone, w_nil, w_cons, awp, binC, cmpC, asT, asB, asI, asN, lenA, St.ev, St.step, setS, killS, AV.kill, AV.killL, Mem.kill, ACond_true, ACond_false, List.getD_cons_succ, List.getD_cons_zero, List.set_cons_succ, List.set_cons_zero, List.getElem?_cons_succ, List.getElem?_cons_zero, List.length_nil, List.contains_nil, List.contains_cons, List.isEmpty_nil, Option.getD_some, Bool.false_eq_true, if_false, if_true, true_and, Bool.true_and, Bool.not_false, Option.isSome_some, nbeq, decide_false, Bool.or_false, Nat.reduceAdd, Nat.reduceEqDiff, Int.reduceAdd, gtsA_len, ti22, decide_eq_false hj, gtsA_len, decide_eq_true e0]
          exact aend_frz rfl ⟨rfl, rfl⟩
      · have hc' : ¬ (0 : Int) < (c.length : Int) := by omega
        have hc3 : (c.length : Int) = 0 := by omega
        have hc2 : (Cn.cnt G4.bound c : Int) = 1 := by
          rw [List.eq_nil_of_length_eq_zero (show c.length = 0 by omega)]
          rfl
        simp only [w_move, w_pick, w_binOp, w_callF, w_len, w_aop, w_aopg, w_gdb, w_some, w_asome, w_nil, w_cons, awp, binC, cmpC, asB, asI, lenA, St.ev, St.step, setS, killS, AV.kill, AV.killL, Mem.kill, ACond_true, ACond_false, List.getD_cons_succ, List.getD_cons_zero, List.set_cons_succ, List.set_cons_zero, List.getElem?_cons_succ, List.getElem?_cons_zero, List.contains_nil, List.contains_cons, List.isEmpty_nil, if_true, true_and, Bool.true_and, Bool.not_true, Option.isSome_some, beq_self_eq_true, List.map_cons, List.map_nil, nbeq, decide_false, Bool.or_false, Nat.reduceAdd, Nat.reduceEqDiff, Int.reduceAdd, Option.bind_some, w_bt, gtsA_len, ti22, decide_eq_false hc', decide_eq_true hc2, decide_eq_true hc3, gtsA_len]
        refine acall_v k6 rfl rfl ?_
        simp only [w_move, w_assign, w_extract, w_callF, w_aop, w_some, w_anone, w_nil, w_cons, awp, asT, asN, St.ev, St.step, setS, killS, AV.kill, AV.killL, Mem.kill, ACond_false, List.getD_cons_succ, List.getD_cons_zero, List.set_cons_succ, List.set_cons_zero, List.getElem?_cons_succ, List.getElem?_cons_zero, List.contains_nil, List.contains_cons, List.isEmpty_nil, Option.getD_some, Bool.false_eq_true, if_false, if_true, List.map_cons, List.map_nil, nbeq, decide_false, Bool.or_false, Nat.reduceAdd, Nat.reduceEqDiff, Int.reduceAdd]
        refine acall_v k7 rfl rfl ?_
        simp only [w_move, w_assign, w_extract, w_callF, w_aop, w_some, w_anone, w_nil, w_cons, awp, asT, asN, St.ev, St.step, setS, killS, AV.kill, AV.killL, Mem.kill, ACond_false, List.getD_cons_succ, List.getD_cons_zero, List.set_cons_succ, List.set_cons_zero, List.getElem?_cons_succ, List.getElem?_cons_zero, List.contains_nil, List.contains_cons, List.isEmpty_nil, Option.getD_some, Bool.false_eq_true, if_false, if_true, List.map_cons, List.map_nil, nbeq, decide_false, Bool.or_false, Nat.reduceAdd, Nat.reduceEqDiff, Int.reduceAdd]
        refine acall_v k8 rfl rfl ?_
        simp only [w_move, w_assign, w_pick, w_binOp, w_extract, w_callF, w_aop, w_aopg, w_gdb, w_some, w_asome, w_anone, w_nil, w_cons, awp, binC, cmpC, asT, asB, asI, asN, St.ev, St.step, setS, killS, AV.kill, AV.killL, Mem.kill, ACond_true, ACond_false, List.getD_cons_succ, List.getD_cons_zero, List.set_cons_succ, List.set_cons_zero, List.getElem?_cons_succ, List.getElem?_cons_zero, List.contains_nil, List.contains_cons, List.isEmpty_nil, Option.getD_some, Bool.false_eq_true, if_false, if_true, true_and, Bool.true_and, Bool.not_true, beq_self_eq_true, List.map_cons, List.map_nil, decide_true, nbeq, decide_false, Bool.or_false, Nat.reduceAdd, Nat.reduceEqDiff, Int.reduceAdd, Option.bind_some]
        refine acall_v k9 rfl rfl ?_
        simp only [w_move, w_pick, w_binOp, w_not, w_callF, w_aop, w_aopg, w_gdb, w_some, w_asome, w_nil, w_cons, awp, binC, cmpC, asB, asI, St.ev, St.step, setS, killS, AV.kill, AV.killL, Mem.kill, ACond_true, ACond_false, List.getD_cons_succ, List.getD_cons_zero, List.set_cons_succ, List.set_cons_zero, List.getElem?_cons_succ, List.getElem?_cons_zero, List.contains_nil, List.contains_cons, List.isEmpty_nil, if_true, true_and, Bool.true_and, Bool.not_true, beq_self_eq_true, List.map_cons, List.map_nil, decide_true, nbeq, decide_false, Bool.or_false, Nat.reduceAdd, Nat.reduceEqDiff, Int.reduceAdd, Option.bind_some]
        refine acall_v k10 rfl rfl ?_
        simp only [w_move, w_assign, w_extract, w_callF, w_aop, w_some, w_anone, w_nil, w_cons, awp, asT, asN, St.ev, St.step, setS, killS, AV.kill, AV.killL, Mem.kill, ACond_false, List.getD_cons_succ, List.getD_cons_zero, List.set_cons_succ, List.set_cons_zero, List.getElem?_cons_succ, List.getElem?_cons_zero, List.contains_nil, List.contains_cons, List.isEmpty_nil, Option.getD_some, Bool.false_eq_true, if_false, if_true, List.map_cons, List.map_nil, nbeq, decide_false, Bool.or_false, Nat.reduceAdd, Nat.reduceEqDiff, Int.reduceAdd]
        refine acall_v k11 rfl rfl ?_
        simp only [w_move, w_assign, w_pick, w_binOp, w_not, w_extract, w_callF, w_aop, w_aopg, w_gdb, w_some, w_asome, w_anone, w_nil, w_cons, awp, binC, cmpC, asT, asB, asI, asN, St.ev, St.step, setS, killS, AV.kill, AV.killL, Mem.kill, ACond_true, ACond_false, List.getD_cons_succ, List.getD_cons_zero, List.set_cons_succ, List.set_cons_zero, List.getElem?_cons_succ, List.getElem?_cons_zero, List.contains_nil, List.contains_cons, List.isEmpty_nil, Option.getD_some, Bool.false_eq_true, if_false, if_true, true_and, Bool.true_and, Bool.not_true, beq_self_eq_true, List.map_cons, List.map_nil, decide_true, nbeq, decide_false, Bool.or_false, Nat.reduceAdd, Nat.reduceEqDiff, Int.reduceAdd, Option.bind_some]
        by_cases hj : vJ n c d = 0
        · obtain ⟨_, vd, vl⟩ := vJ_zeroK hj
          rw [if_pos hj, hj] at k12
          have hod := vC_Ok vd
          have hrd := red_len_le hod
          have vrd := vC_red vd
          have hidl := ivL_len d
          have vid := vC_iv vd
          have hjr : vJ n (red c) (red d) = 0 := vJ_ofK hvr vrd (by omega)
          have hji : vJ n (ivL d) (ivL c) = 0 := vJ_ofK vid hvi (by omega)
          have vcd := vC_joinK hv vd vl
          have vrr := vC_joinK hvr vrd (by omega)
          have hal1 : (c ++ d).length ≤ 10 := vC_len vcd
          have hal2 : (red c ++ red d).length ≤ 10 := vC_len vrr
          have k13 := s27 n d (by omega)
          rw [if_pos vd, vd] at k13
          have k14 := s31 n (red c) (red d) (by omega) (by omega)
          rw [if_pos hjr, hjr] at k14
          have k15 := s27 n (c ++ d) (by omega)
          rw [if_pos vcd, vcd] at k15
          have k16 := s27 n (red c ++ red d) (by omega)
          rw [if_pos vrr, vrr, ← red_join ho hod] at k16
          have hr3 := red_len_le (vC_Ok vcd)
          have k17 := s29 (red (c ++ d)) (red (c ++ d)) (by omega) (by omega)
          rw [decide_eq_true rfl] at k17
          have k18 := s28 n d (by omega)
          rw [if_pos vd, vd, invL_iv] at k18
          have k19 := s28 n (c ++ d) (by omega)
          rw [if_pos vcd, vcd, invL_iv] at k19
          have k20 := s31 n (ivL d) (ivL c) (by omega) (by omega)
          rw [if_pos hji, hji, ← ivL_app] at k20
          have hi3 := ivL_len (c ++ d)
          have k21 := s29 (ivL (c ++ d)) (ivL (c ++ d)) (by omega) (by omega)
          rw [decide_eq_true rfl] at k21
          refine acall_v k12 rfl rfl ?_
          simp only [w_move, w_assign, w_binOp, w_extract, w_callF, w_aop, w_some, w_asome, w_anone, w_nil, w_cons, awp, binC, cmpC, asT, asB, asI, asN, St.ev, St.step, setS, killS, AV.kill, AV.killL, Mem.kill, ACond_false, List.getD_cons_succ, List.getD_cons_zero, List.set_cons_succ, List.set_cons_zero, List.getElem?_cons_succ, List.getElem?_cons_zero, List.contains_nil, List.contains_cons, List.isEmpty_nil, Option.getD_some, Bool.false_eq_true, if_false, if_true, true_and, Bool.true_and, Bool.not_true, List.map_cons, List.map_nil, decide_true, nbeq, decide_false, Bool.or_false, Nat.reduceAdd, Nat.reduceEqDiff, Int.reduceAdd]
          refine acall_v k13 rfl rfl ?_
          simp only [w_move, w_assign, w_extract, w_callF, w_aop, w_some, w_anone, w_nil, w_cons, awp, asT, asN, St.ev, St.step, setS, killS, AV.kill, AV.killL, Mem.kill, ACond_false, List.getD_cons_succ, List.getD_cons_zero, List.set_cons_succ, List.set_cons_zero, List.getElem?_cons_succ, List.getElem?_cons_zero, List.contains_nil, List.contains_cons, List.isEmpty_nil, Option.getD_some, Bool.false_eq_true, if_false, if_true, List.map_cons, List.map_nil, nbeq, decide_false, Bool.or_false, Nat.reduceAdd, Nat.reduceEqDiff, Int.reduceAdd]
          refine acall_v k14 rfl rfl ?_
          simp only [w_move, w_assign, w_extract, w_callF, w_aop, w_some, w_anone, w_nil, w_cons, awp, asT, asN, St.ev, St.step, setS, killS, AV.kill, AV.killL, Mem.kill, ACond_false, List.getD_cons_succ, List.getD_cons_zero, List.set_cons_succ, List.set_cons_zero, List.getElem?_cons_succ, List.getElem?_cons_zero, List.contains_nil, List.contains_cons, List.isEmpty_nil, Option.getD_some, Bool.false_eq_true, if_false, if_true, List.map_cons, List.map_nil, nbeq, decide_false, Bool.or_false, Nat.reduceAdd, Nat.reduceEqDiff, Int.reduceAdd]
          refine acall_v k15 rfl rfl ?_
          simp only [w_move, w_assign, w_extract, w_callF, w_aop, w_some, w_anone, w_nil, w_cons, awp, asT, asN, St.ev, St.step, setS, killS, AV.kill, AV.killL, Mem.kill, ACond_false, List.getD_cons_succ, List.getD_cons_zero, List.set_cons_succ, List.set_cons_zero, List.getElem?_cons_succ, List.getElem?_cons_zero, List.contains_nil, List.contains_cons, List.isEmpty_nil, Option.getD_some, Bool.false_eq_true, if_false, if_true, List.map_cons, List.map_nil, nbeq, decide_false, Bool.or_false, Nat.reduceAdd, Nat.reduceEqDiff, Int.reduceAdd]
          refine acall_v k16 rfl rfl ?_
          simp only [w_move, w_assign, w_pick, w_binOp, w_extract, w_callF, w_aop, w_aopg, w_gdb, w_some, w_asome, w_anone, w_nil, w_cons, awp, binC, cmpC, asT, asB, asI, asN, St.ev, St.step, setS, killS, AV.kill, AV.killL, Mem.kill, ACond_true, ACond_false, List.getD_cons_succ, List.getD_cons_zero, List.set_cons_succ, List.set_cons_zero, List.getElem?_cons_succ, List.getElem?_cons_zero, List.contains_nil, List.contains_cons, List.isEmpty_nil, Option.getD_some, Bool.false_eq_true, if_false, if_true, true_and, Bool.true_and, Bool.not_true, beq_self_eq_true, List.map_cons, List.map_nil, decide_true, nbeq, decide_false, Bool.or_false, Nat.reduceAdd, Nat.reduceEqDiff, Int.reduceAdd, Option.bind_some]
          refine acall_v k17 rfl rfl ?_
          simp only [w_move, w_pick, w_not, w_callF, w_aop, w_aopg, w_gdb, w_some, w_nil, w_cons, awp, asB, St.ev, St.step, setS, killS, AV.kill, AV.killL, Mem.kill, ACond_true, ACond_false, List.getD_cons_succ, List.getD_cons_zero, List.set_cons_succ, List.set_cons_zero, List.getElem?_cons_succ, List.getElem?_cons_zero, List.contains_nil, List.contains_cons, List.isEmpty_nil, if_true, Bool.not_true, beq_self_eq_true, List.map_cons, List.map_nil, nbeq, decide_false, Bool.or_false, Nat.reduceAdd, Nat.reduceEqDiff, Int.reduceAdd, Option.bind_some]
          refine acall_v k18 rfl rfl ?_
          simp only [w_move, w_assign, w_extract, w_callF, w_aop, w_some, w_anone, w_nil, w_cons, awp, asT, asN, St.ev, St.step, setS, killS, AV.kill, AV.killL, Mem.kill, ACond_false, List.getD_cons_succ, List.getD_cons_zero, List.set_cons_succ, List.set_cons_zero, List.getElem?_cons_succ, List.getElem?_cons_zero, List.contains_nil, List.contains_cons, List.isEmpty_nil, Option.getD_some, Bool.false_eq_true, if_false, if_true, List.map_cons, List.map_nil, nbeq, decide_false, Bool.or_false, Nat.reduceAdd, Nat.reduceEqDiff, Int.reduceAdd]
          refine acall_v k19 rfl rfl ?_
          simp only [w_move, w_assign, w_extract, w_callF, w_aop, w_some, w_anone, w_nil, w_cons, awp, asT, asN, St.ev, St.step, setS, killS, AV.kill, AV.killL, Mem.kill, ACond_false, List.getD_cons_succ, List.getD_cons_zero, List.set_cons_succ, List.set_cons_zero, List.getElem?_cons_succ, List.getElem?_cons_zero, List.contains_nil, List.contains_cons, List.isEmpty_nil, Option.getD_some, Bool.false_eq_true, if_false, if_true, List.map_cons, List.map_nil, nbeq, decide_false, Bool.or_false, Nat.reduceAdd, Nat.reduceEqDiff, Int.reduceAdd]
          refine acall_v k20 rfl rfl ?_
          simp only [w_move, w_assign, w_pick, w_binOp, w_extract, w_callF, w_aop, w_aopg, w_gdb, w_some, w_asome, w_anone, w_nil, w_cons, awp, binC, cmpC, asT, asB, asI, asN, St.ev, St.step, setS, killS, AV.kill, AV.killL, Mem.kill, ACond_true, ACond_false, List.getD_cons_succ, List.getD_cons_zero, List.set_cons_succ, List.set_cons_zero, List.getElem?_cons_succ, List.getElem?_cons_zero, List.contains_nil, List.contains_cons, List.isEmpty_nil, Option.getD_some, Bool.false_eq_true, if_false, if_true, true_and, Bool.true_and, beq_self_eq_true, List.map_cons, List.map_nil, decide_true, nbeq, decide_false, Bool.or_false, Nat.reduceAdd, Nat.reduceEqDiff, Int.reduceAdd, Option.bind_some]
          refine acall_v k21 rfl rfl ?_
          simp only [w_assign, w_pick, w_aop, w_some, w_anone, w_nil, w_cons, awp, asB, asN, St.ev, St.step, setS, killS, AV.kill, AV.killL, Mem.kill, ACond_true, List.getD_cons_succ, List.getD_cons_zero, List.set_cons_succ, List.set_cons_zero, List.contains_nil, List.contains_cons, List.isEmpty_nil, Option.getD_some, Bool.false_eq_true, if_false, if_true, nbeq, decide_false, Bool.or_false, Nat.reduceEqDiff]
          exact aend_frz rfl ⟨rfl, rfl⟩
        · rw [if_neg hj] at k12
          have e0 : ((([] : List G4).length : Int) = 0) := rfl
          generalize vJ n c d = E at k12 hj
          refine acall_v k12 rfl rfl ?_
          simp only [w_move, w_assign, w_binOp, w_extract, w_len, w_aop, w_some, w_asome, w_anone, w_nil, w_cons, awp, binC, cmpC, asT, asB, asI, asN, lenA, St.ev, St.step, setS, killS, AV.kill, AV.killL, Mem.kill, ACond_true, ACond_false, List.getD_cons_succ, List.getD_cons_zero, List.set_cons_succ, List.set_cons_zero, List.getElem?_cons_succ, List.getElem?_cons_zero, List.length_nil, List.contains_nil, List.contains_cons, List.isEmpty_nil, Option.getD_some, Bool.false_eq_true, if_false, if_true, true_and, Bool.true_and, Bool.not_false, Option.isSome_some, nbeq, decide_false, Bool.or_false, Nat.reduceAdd, Nat.reduceEqDiff, Int.reduceAdd, gtsA_len, ti22, decide_eq_false hj, gtsA_len, decide_eq_true e0]
          exact aend_frz rfl ⟨rfl, rfl⟩
  · rw [if_neg hv] at k1
    have k2 := s21 n c (by omega)
    generalize vC n c = E at k1 k2 hv
    refine acall_v k1 rfl rfl ?_
    simp only [w_move, w_assign, w_binOp, w_extract, w_callF, w_aop, w_some, w_asome, w_anone, w_nil, w_cons, awp, binC, cmpC, asT, asB, asI, asN, St.ev, St.step, setS, killS, AV.kill, AV.killL, Mem.kill, ACond_true, ACond_false, List.getD_cons_succ, List.getD_cons_zero, List.set_cons_succ, List.set_cons_zero, List.getElem?_cons_succ, List.getElem?_cons_zero, List.contains_nil, List.contains_cons, List.isEmpty_nil, Option.getD_some, Bool.false_eq_true, if_false, if_true, true_and, Bool.true_and, Bool.not_false, List.map_cons, List.map_nil, nbeq, decide_false, Bool.or_false, Nat.reduceAdd, Nat.reduceEqDiff, Int.reduceAdd, Int.reduceNeg, decide_eq_false hv]
    refine acall_v k2 rfl rfl ?_
    simp only [w_move, w_assign, w_binOp, w_aop, w_some, w_asome, w_anone, w_nil, w_cons, awp, binC, cmpC, asI, asN, St.ev, St.step, setS, killS, AV.kill, AV.killL, Mem.kill, List.getD_cons_succ, List.getD_cons_zero, List.set_cons_succ, List.set_cons_zero, List.contains_nil, List.contains_cons, List.isEmpty_nil, Option.getD_some, Bool.false_eq_true, if_false, if_true, true_and, Bool.true_and, decide_true, nbeq, decide_false, Bool.or_false, Nat.reduceEqDiff, Int.reduceNeg]
    exact aend_frz rfl ⟨rfl, rfl⟩
end Go.Proofs.Ytkmbbbemmohmcaa
