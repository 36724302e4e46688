/-
  Several texts in one: CuI, CuJ, DaA.
-/
import Derived.Test.YtkmbbbemmohmcaaMh
import Derived.Test.YtkmbbbemmohmcaaMw
import Derived.Test.YtkmbbbemmohmcaaRows
import Derived.Test.YtkmbbbemmohmcaaChecked
import Derived.ProofKit
import Derived.Deep.Slices
import Derived.Deep.Fields
import Derived.Lib.SmallJoins
set_option linter.unusedSimpArgs false
set_option linter.unusedVariables false
namespace Go.Proofs.Ytkmbbbemmohmcaa
open Aw Go.RowKit
set_option linter.unusedSimpArgs false

/-- the places of the first gates, the last one first. -/
def fsR (bd : G4 → G4 → Bool) (d : List G4) : List Nat := (fsN bd d d.length).reverse
def layG (bd : G4 → G4 → Bool) (d : List G4) (k : Nat) : List G4 := ((fsR bd d).take k).map (d.getD · default)
def rstG (bd : G4 → G4 → Bool) (d : List G4) (k : Nat) : List G4 := ((fsR bd d).take k).foldl wo d
def layT (bd : G4 → G4 → Bool) (d : List G4) : List G4 := layG bd d (fsR bd d).length
def rstT (bd : G4 → G4 → Bool) (d : List G4) : List G4 := rstG bd d (fsR bd d).length
/-- the layers. -/
def lyF (bd : G4 → G4 → Bool) : Nat → List G4 → List (List G4)
  | 0, _ => []
  | n + 1, d => if d.isEmpty then [] else srt (layT bd d) :: lyF bd n (rstT bd d)
def lyR (bd : G4 → G4 → Bool) (d : List G4) : List (List G4) := lyF bd d.length d

theorem foldl_wo_take (m : Nat) : ∀ (rs : List Nat) (d : List G4), (∀ r ∈ rs, m ≤ r) → (rs.foldl wo d).take m = d.take m
  | [], d, _ => rfl
  | r :: rs, d, h => by
    rw [List.foldl_cons, foldl_wo_take m rs _ fun x hx => h x (by simp [hx])]
    have := h r (by simp)
    unfold wo
    rw [List.take_append, List.take_take, Nat.min_eq_left this]
    by_cases hr : r ≤ d.length
    · rw [List.length_take, Nat.min_eq_left hr, show m - r = 0 by omega]
      simp
    · rw [List.drop_of_length_le (by omega)]
      simp
theorem fsN_sorted (bd : G4 → G4 → Bool) (d : List G4) (k : Nat) : (fsN bd d k).Pairwise (· < ·) := by
  unfold fsN
  exact List.Pairwise.filter _ List.pairwise_lt_range
theorem fsR_len (bd : G4 → G4 → Bool) (d : List G4) : (fsR bd d).length ≤ d.length := by
  unfold fsR
  rw [List.length_reverse, ← fsI_lenN]
  exact fsI_len _ _ _
theorem fsR_lt {bd : G4 → G4 → Bool} {d : List G4} {k : Nat} (h : k < (fsR bd d).length) : (fsR bd d)[k] < d.length := by
  have : (fsR bd d)[k] ∈ (fsN bd d d.length).reverse := List.getElem_mem h
  exact fsN_lt (List.mem_reverse.1 this)
theorem fsR_down {bd : G4 → G4 → Bool} {d : List G4} {k : Nat} (h : k < (fsR bd d).length) : ∀ r ∈ (fsR bd d).take k, (fsR bd d)[k] + 1 ≤ r := by
  intro r hr
  obtain ⟨j, hj, rfl⟩ := List.mem_take_iff_getElem.1 hr
  have hp : (fsR bd d).Pairwise (fun a b => b < a) := by
    unfold fsR
    exact List.pairwise_reverse.2 (fsN_sorted bd d d.length)
  have := List.pairwise_iff_getElem.1 hp j k (by omega) h (by omega)
  omega
theorem rstG_at {bd : G4 → G4 → Bool} {d : List G4} {k : Nat} (h : k < (fsR bd d).length) : ∃ h' : (fsR bd d)[k] < (rstG bd d k).length, (rstG bd d k)[(fsR bd d)[k]] = d.getD (fsR bd d)[k] default := by
  have h1 := foldl_wo_take ((fsR bd d)[k] + 1) ((fsR bd d).take k) d (fsR_down h)
  have h2 := fsR_lt h
  have h3 : (rstG bd d k)[(fsR bd d)[k]]? = d[(fsR bd d)[k]]? := by
    have := congrArg (fun l => l[(fsR bd d)[k]]?) h1
    simp only [List.getElem?_take, Nat.lt_succ_self, if_true] at this
    exact this
  rw [List.getElem?_eq_getElem h2] at h3
  obtain ⟨h4, h5⟩ := List.getElem?_eq_some_iff.1 h3
  exact ⟨h4, by rw [h5]; simp [h2]⟩
theorem rstG_succ {bd : G4 → G4 → Bool} {d : List G4} {k : Nat} (h : k < (fsR bd d).length) : rstG bd d (k + 1) = wo (rstG bd d k) (fsR bd d)[k] := by
  unfold rstG
  rw [List.take_add_one, List.foldl_append, List.getElem?_eq_getElem h]
  rfl
theorem layG_succ {bd : G4 → G4 → Bool} {d : List G4} {k : Nat} (h : k < (fsR bd d).length) : layG bd d (k + 1) = layG bd d k ++ [d.getD (fsR bd d)[k] default] := by
  unfold layG
  rw [List.take_add_one, List.map_append, List.getElem?_eq_getElem h]
  rfl
theorem rstG_len {bd : G4 → G4 → Bool} {d : List G4} : ∀ {k : Nat}, k ≤ (fsR bd d).length → (rstG bd d k).length = d.length - k
  | 0, _ => rfl
  | k + 1, h => by
    obtain ⟨h1, _⟩ := rstG_at (show k < (fsR bd d).length by omega)
    rw [rstG_succ (by omega), wo_len _ h1, rstG_len (by omega)]
    omega
theorem layG_len (bd : G4 → G4 → Bool) (d : List G4) {k : Nat} (h : k ≤ (fsR bd d).length) : (layG bd d k).length = k := by
  unfold layG
  simp
  omega
theorem fsR_pos {bd : G4 → G4 → Bool} {d : List G4} (h : 0 < d.length) : 0 < (fsR bd d).length := by
  unfold fsR
  rw [List.length_reverse]
  exact List.length_pos_iff.2 (fsN_ne h)
theorem rstT_len {bd : G4 → G4 → Bool} {d : List G4} (h : 0 < d.length) : (rstT bd d).length < d.length := by
  unfold rstT
  rw [rstG_len (Nat.le_refl _)]
  have := fsR_pos (bd := bd) h
  omega
theorem lyF_more {bd : G4 → G4 → Bool} : ∀ (n m : Nat) (d : List G4), d.length ≤ n → n ≤ m → lyF bd m d = lyF bd n d
  | 0, m, d, h, _ => by
    have : d = [] := List.eq_nil_of_length_eq_zero (by omega)
    subst this
    cases m <;> rfl
  | n + 1, 0, d, h, hm => by omega
  | n + 1, m + 1, d, h, hm => by
    unfold lyF
    by_cases he : d.isEmpty = true
    · rw [if_pos he, if_pos he]
    · rw [if_neg he, if_neg he]
      have hp : 0 < d.length := by cases d with | nil => simp at he | cons => simp
      have := rstT_len (bd := bd) hp
      rw [lyF_more n m _ (by omega) (by omega)]
theorem lyR_step {bd : G4 → G4 → Bool} {d : List G4} (h : 0 < d.length) : lyR bd d = srt (layT bd d) :: lyR bd (rstT bd d) := by
  unfold lyR
  obtain ⟨n, hn⟩ : ∃ n, d.length = n + 1 := ⟨d.length - 1, by omega⟩
  have he : d.isEmpty = false := by cases d with | nil => simp at h | cons => rfl
  have := rstT_len (bd := bd) h
  conv => lhs; rw [hn]; unfold lyF
  rw [he, if_neg (by simp), lyF_more _ n _ (Nat.le_refl _) (by omega)]
theorem lyR_nil (bd : G4 → G4 → Bool) : lyR bd [] = [] := rfl

theorem rowsA_kill (Z : List Nat) (l : List (List G4)) : AV.killL Z (rowsA l) = rowsA l := killL_pure Z _ (rowsA_pure l)
theorem rowsA_sub (F : Nat → AV) (G : Nat → Nat → Nat → Nat → AV) : ∀ l : List (List G4), AV.subL F G (rowsA l) = rowsA l
  | [] => rfl
  | x :: l => by
    show AV.sub F G (.s 4 (gtsA x)) :: AV.subL F G (rowsA l) = .s 4 (gtsA x) :: rowsA l
    rw [rowsA_sub F G l]
    rfl
theorem ok59 : okFn Try.prog 59 = true := by kernel_rfl
set_option maxHeartbeats 2000000 in
theorem s59 (c : List G4) (hl : c.length ≤ 10) : ASpec Try.prog 59 [.s 4 (gtsA c)] (fun r Ms => r = .s 1 (rowsA (lyR G4.bound c)) ∧ Ms = []) := by
  refine aspecD_of Try.func59 rfl ok59 ?_
  simp only [List.length_cons, List.length_nil, List.replicate_succ, List.replicate_zero, List.cons_append, List.nil_append, Nat.zero_add, Nat.reduceSub, Int.reduceSub, Try.ntmps59]
  refine swpD_seq (swpD_of (awp_sound (own := [3, 4, 5]) _ _ _ _ _ ?_))
  simp only [w_assign, w_aop, w_anone, w_nil, w_cons, awp, asN, St.ev, St.step, setS, killS, AV.kill, AV.killL, Mem.kill, ACond_false, List.set_cons_succ, List.set_cons_zero, List.contains_nil, List.contains_cons, List.isEmpty_nil, Option.getD_some, Bool.false_eq_true, if_false, if_true, Nat.add_zero, nbeq, decide_false, Bool.or_false, Nat.reduceEqDiff]
  refine swpD_seq (swpD_of (awp_sound (own := [3, 4, 5]) _ _ _ _ _ ?_))
  simp only [w_move, w_alloc, w_store, w_build, w_aop, w_some, w_nil, w_cons, awp, asQ, obA, AGet_zero, storeA, fillA, putsA, mkA, Aw.newRow, St.ev, St.step, setS, killS, AV.kill, AV.killL, Mem.kill, AV.cells, AV.flat, AV.single, AV.cellular, ACond_false, List.getD_cons_succ, List.getD_cons_zero, List.set_cons_succ, List.set_cons_zero, List.getElem?_cons_zero, List.length_cons, List.length_nil, List.nil_append, List.contains_nil, List.contains_cons, List.isEmpty_nil, Bool.false_eq_true, if_false, if_true, true_and, and_true, List.all_cons, List.all_nil, Bool.and_true, Bool.true_and, Nat.zero_add, beq_self_eq_true, List.map_cons, List.map_nil, decide_true, nbeq, decide_false, Bool.or_false, Nat.reduceAdd, Nat.reduceEqDiff, Nat.reduceLeDiff, Int.reduceAdd, ti81]
  refine swpD_seq (swpD_of (awp_sound (own := [3, 4, 5]) _ _ _ _ _ ?_))
  simp only [w_assign, w_aop, w_some, w_asome, w_nil, w_cons, awp, asN, Aw.newRow, St.ev, St.step, setS, killS, AV.kill, AV.killL, Mem.kill, ACond_false, List.set_cons_succ, List.set_cons_zero, List.length_cons, List.length_nil, List.cons_append, List.nil_append, List.contains_nil, List.contains_cons, List.isEmpty_nil, Option.getD_some, Bool.false_eq_true, if_false, if_true, Nat.zero_add, beq_self_eq_true, nbeq, decide_false, Bool.or_false, Bool.or_true, Nat.reduceAdd, Nat.reduceEqDiff, Int.reduceAdd, ti22, ti34]
  refine swpD_seq (swpD_block (swpD_loop (fun j : List G4 × List (List G4) => ⟨[.s 4 (gtsA c), .bot, .bot, .q 0 2 0 0, .o 1, .bot, .bot, .bot, .bot, .bot, .bot, .bot, .bot, .bot, .bot, .bot, .bot, .bot, .bot, .bot, .bot, .bot, .bot, .bot, .bot, .bot, .bot, .bot, .bot, .bot, .bot, .bot, .bot], [some (rdO j.1 (c.length - j.1.length : Nat)), some ⟨none, 22, 1, rowsA j.2⟩]⟩) (fun j => j.1.length ≤ c.length ∧ j.2.length ≤ 10 - j.1.length ∧ lyR G4.bound c = j.2 ++ lyR G4.bound j.1) (fun j => j.1.length) (c, []) (by simp only [Nat.sub_self]; exact le_sl (by simp [leSl])) ⟨Nat.le_refl _, by simp, by simp⟩ ?_))
  rintro ⟨d, lss⟩ ⟨hd, hls, hn⟩
  simp only at hd hls hn
  refine swpD_seq (swpD_of (awp_sound (own := [3, 4, 5]) _ _ _ _ _ ?_))
  simp only [w_move, w_load, w_fieldAddr, w_binOp, w_len, w_aop, w_some, w_asome, w_anone, w_nil, w_cons, awp, binC, cmpC, asP, asQ, asB, asI, obA, AGet_zero, lenA, loadA, St.ev, St.step, setS, killS, AV.kill, AV.killL, Mem.kill, AV.cells, AV.flat, AV.single, ACond_false, List.getD_cons_succ, List.getD_cons_zero, List.set_cons_succ, List.set_cons_zero, List.getElem?_cons_succ, List.getElem?_cons_zero, List.length_cons, List.length_nil, List.contains_nil, List.contains_cons, List.isEmpty_nil, Bool.false_eq_true, if_false, if_true, true_and, and_true, List.all_cons, List.all_nil, Bool.and_true, Bool.true_and, Bool.not_true, Option.isSome_some, Nat.zero_add, decide_true, nbeq, decide_false, Bool.or_false, Bool.and_false, Nat.reduceAdd, Nat.reduceEqDiff, Nat.reduceLeDiff, Int.reduceAdd, ne_eq, not_false_eq_true, gtsA_len, ti3, ti22, ti81, rdO, gtsA_len]
  by_cases h : 0 < d.length
  · have h' : ((c.length - d.length : Nat) : Int) < (c.length : Int) := by omega
    simp only [awp, ACond_true, decide_eq_true h']
    obtain ⟨zs, hzs⟩ : ∃ zs, zs = fsI G4.bound d d.length := ⟨_, rfl⟩
    have hzl : zs.length = (fsR G4.bound d).length := by rw [hzs, fsI_lenN]; unfold fsR; simp
    have hz10 : zs.length ≤ 10 := by have := fsR_len G4.bound d; omega
    have hzat : ∀ k (hk : k < (fsR G4.bound d).length), zs.getD (zs.length - 1 - k) 0 = (((fsR G4.bound d)[k] : Nat) : Int) := by
      intro k hk
      have h1 : zs.length - 1 - k < zs.length := by omega
      have h2 : zs.length - 1 - k < (fsN G4.bound d d.length).length := by rw [hzs, fsI_lenN] at h1; rw [hzs, fsI_lenN]; exact h1
      rw [List.getD_eq_getElem?_getD, List.getElem?_eq_getElem h1, Option.getD_some]
      have h3 : zs[zs.length - 1 - k] = (((fsN G4.bound d d.length)[zs.length - 1 - k] : Nat) : Int) := by
        subst hzs
        exact fsI_at h2 h1
      have h4 : (fsR G4.bound d)[k]? = (fsN G4.bound d d.length)[zs.length - 1 - k]? := by
        rw [hzl]
        unfold fsR at hk ⊢
        rw [List.getElem?_reverse (by simpa using hk), List.length_reverse]
      rw [List.getElem?_eq_getElem hk, List.getElem?_eq_getElem h2] at h4
      injection h4 with h4
      rw [h3, h4]
    refine swpD_block (swpD_seq (swpD_of (awp_sound (own := [3, 4, 5]) _ _ _ _ _ ?_)))
    simp only [w_alloc, w_aop, w_some, w_nil, w_cons, awp, mkA, Aw.newRow, St.step, setS, killS, AV.kill, AV.killL, Mem.kill, ACond_false, List.set_cons_succ, List.set_cons_zero, List.length_cons, List.length_nil, List.cons_append, List.nil_append, List.contains_nil, List.contains_cons, List.isEmpty_nil, Bool.false_eq_true, if_false, if_true, true_and, Bool.true_and, Nat.zero_add, beq_self_eq_true, List.map_cons, List.map_nil, nbeq, decide_false, Bool.or_false, Bool.or_true, Nat.reduceAdd, Nat.reduceEqDiff, Int.reduceAdd, ti22]
    refine swpD_seq (swpD_seq (swpD_of (awp_sound (own := [3, 4, 5]) _ _ _ _ _ ?_)))
    simp only [w_load, w_fieldAddr, w_callF, w_aop, w_some, w_anone, w_cons, awp, asP, asQ, obA, AGet_zero, loadA, St.ev, St.step, setS, killS, AV.kill, AV.killL, Mem.kill, AV.cells, AV.flat, AV.single, ACond_false, List.getD_cons_succ, List.getD_cons_zero, List.set_cons_succ, List.set_cons_zero, List.getElem?_cons_zero, List.length_cons, List.length_nil, List.contains_nil, List.contains_cons, List.isEmpty_nil, Bool.false_eq_true, if_false, if_true, true_and, and_true, List.all_cons, List.all_nil, Bool.and_true, Bool.true_and, Bool.not_true, Nat.zero_add, Nat.add_zero, beq_self_eq_true, List.map_cons, List.map_nil, decide_true, nbeq, decide_false, Bool.or_false, Bool.and_false, Nat.reduceAdd, Nat.reduceEqDiff, Nat.reduceLeDiff, Int.reduceAdd, ne_eq, not_false_eq_true, ti60, ti81]
    refine acall_v (s58 d (by omega)) rfl rfl ?_
    simp only [w_callF, w_aop, w_cons, St.ev, St.step, setS, killS, AV.kill, AV.killL, Mem.kill, List.getD_cons_succ, List.getD_cons_zero, List.set_cons_succ, List.set_cons_zero, List.contains_nil, List.isEmpty_nil, Bool.false_eq_true, if_false, if_true, List.map_cons, List.map_nil]
    rw [← hzs]
    refine acall_o (s87 zs) (by simp [AV.pureL, AV.pure, intsA_pure]) (by simp [AV.pureL, AV.pure, intsA_pure]) ?_
    simp only [w_nil, St.step, setS, killS, AV.kill, AV.killL, Mem.kill, List.set_cons_succ, List.set_cons_zero, List.length_cons, List.length_nil, List.cons_append, List.nil_append, List.contains_nil, List.isEmpty_nil, Bool.false_eq_true, if_false, if_true, Nat.zero_add, Nat.reduceAdd, Int.reduceAdd, AV.up, AV.sub, AV.subL]
    refine swpD_block (swpD_rf (W := [7, 19, 20, 21, 22, 23, 24, 25]) (x1 := fun k => I ((zs.length - 1 - k : Nat) : Int)) (x2 := fun k => I (zs.getD (zs.length - 1 - k) 0))
      (fun k : Nat => ⟨[.s 4 (gtsA c), .bot, .bot, .q 0 2 0 0, .o 1, .q 2 1 0 0, .bot, .bot, .bot, .bot, .bot, .bot, .bot, .bot, .bot, .bot, .bot, .bot, .f (.func 102) [.q 3 1 0 0], .bot, .bot, .bot, .bot, .bot, .bot, .bot, .bot, .bot, .bot, .bot, .bot, .bot, .bot], [some (rdO (rstG G4.bound d k) (c.length - d.length + k : Nat)), some ⟨none, 22, 1, rowsA lss⟩, some ⟨none, 22, 1, [.o 4]⟩, some ⟨none, 31, 1, [.s 1 (intsA zs)]⟩, some ⟨none, 24, 4, gtsA (layG G4.bound d k)⟩]⟩)
      (iter_ints zs (by omega)) ?_ (fun k C a w hS => boxI_at hS (g := .tmp 18) (id := 3) rfl rfl) (by decide) (by decide) (fun k w T hv => by simp [RV]) (fun k w T hv => by simp [RV]) (fun k hk => ?_) ?_)
    · refine Le.trans (le_nil1 2 0 24 4 rfl rfl rfl) (le_sl ?_)
      simp [leSl]
    · rw [hzl] at hk
      obtain ⟨hr1, hr2⟩ := rstG_at (bd := G4.bound) (d := d) hk
      rw [hzat k hk]
      refine swpR_region (own := [4]) (by kernel_rfl) ?_
      simp only [w_assign, w_aop, w_anone, w_nil, w_cons, asN, St.ev, St.step, setS, killS, AV.kill, AV.killL, Mem.kill, List.getD_cons_succ, List.getD_cons_zero, List.set_cons_succ, List.set_cons_zero, List.contains_nil, List.contains_cons, List.isEmpty_nil, Option.getD_some, Bool.false_eq_true, if_false, if_true, nbeq, decide_false, Bool.or_false, Nat.reduceEqDiff, rdO]
      refine swpR_block (swpR_dr (own := [4]) (by kernel_rfl) 2 (.alt 0 (.alt 1 (.alt 2 (.alt 3 (.alt 4 (.alt 5 .done .nil) .nil) .nil) .nil) .nil) (.alt 1 (.alt 0 (.alt 2 (.alt 3 (.alt 4 (.alt 5 .done .nil) .nil) .nil) .nil) (.alt 2 (.alt 0 (.alt 3 (.alt 4 (.alt 5 .done .nil) .nil) .nil) (.alt 3 (.alt 0 (.alt 4 (.alt 5 .done .nil) .nil) .nil) .nil)) .nil)) .nil)) mo (by kernel_rfl) ?_)
      simp only [w_move, w_load, w_aop, w_some, w_anone, asP, asQ, obA, AGet_zero, loadA, St.ev, St.step, setS, killS, AV.kill, AV.killL, Mem.kill, AV.cells, AV.flat, AV.single, ACond_true, ACond_false, List.getD_cons_succ, List.getD_cons_zero, List.set_cons_succ, List.set_cons_zero, List.getElem?_cons_succ, List.getElem?_cons_zero, List.contains_nil, List.isEmpty_nil, Bool.false_eq_true, if_false, if_true, true_and, and_true, List.all_cons, List.all_nil, Bool.and_true, Bool.true_and, Bool.not_true, beq_self_eq_true, List.map_cons, List.map_nil, nbeq, decide_false, Nat.reduceEqDiff, ti22, ADr, afc]
      have hrl := rstG_len (bd := G4.bound) (d := d) (Nat.le_of_lt hk)
      have hls2 := layG_len G4.bound d (Nat.le_of_lt hk)
      have spec := s88f (rstG G4.bound d k) ((c.length - d.length + k : Nat) : Int) (fsR G4.bound d)[k] hr1 (by omega) (by unfold lim; omega) [some ⟨none, 22, 1, rowsA lss⟩, some ⟨none, 22, 1, [.o 4]⟩, some ⟨none, 31, 1, [.s 1 (intsA zs)]⟩, some ⟨none, 24, 4, gtsA (layG G4.bound d k)⟩] (by simp [freeM, AV.freeL, AV.free, freeL_pure, rowsA_pure, gtsA_pure])
      have e1 := rstG_succ (bd := G4.bound) (d := d) hk
      have e2 := layG_succ (bd := G4.bound) (d := d) hk
      rw [← e1] at spec
      rw [← hr2] at e2
      have hgk : layG G4.bound d k ++ [⟨((rstG G4.bound d k)[(fsR G4.bound d)[k]]).k, ((rstG G4.bound d k)[(fsR G4.bound d)[k]]).a, ((rstG G4.bound d k)[(fsR G4.bound d)[k]]).b, ((rstG G4.bound d k)[(fsR G4.bound d)[k]]).t⟩] = layG G4.bound d (k + 1) := e2.symm
      have hck : ((c.length - d.length + k : Nat) : Int) + 1 = ((c.length - d.length + (k + 1) : Nat) : Int) := by omega
      refine ⟨acall_f spec ?_, acall_f spec ?_, acall_f spec ?_⟩
      · simp only [w_store, w_buildSlice, w_append, w_aop, w_some, w_asome, asQ, asO, asS, obA, AGet_zero, storeA, putsA, St.ev, St.step, setS, killS, AV.kill, AV.killL, Mem.kill, AV.cells, AV.flat, AV.single, AV.cellular, AV.size, AV.sizeL, AV.pure, AV.pureL, ACond_false, Value.oneCell', List.getD_cons_succ, List.getD_cons_zero, List.set_cons_succ, List.set_cons_zero, List.getElem?_cons_succ, List.getElem?_cons_zero, List.length_cons, List.head?_cons, List.length_nil, List.contains_nil, List.contains_cons, List.isEmpty_nil, List.isEmpty_cons, Option.getD_some, Bool.false_eq_true, if_false, if_true, true_and, and_true, List.all_cons, List.all_nil, Bool.and_true, Bool.true_and, Nat.zero_add, Nat.add_zero, beq_self_eq_true, List.map_cons, List.map_nil, decide_true, nbeq, decide_false, Bool.or_false, Bool.and_false, List.getElem?_nil, Nat.reduceAdd, Nat.reduceEqDiff, Nat.reduceMul, Nat.reduceLeDiff, Int.reduceAdd, Int.reduceMul, Option.map_some, gtsA_len, ti22, ti24, rdO, gA, gtsA_len, gtsA_kill, rowsA_kill, gtsA_app, hgk, ADr, keepF, keepG, liveI, AV.sub, AV.subL, AV.isO, AV.isQ, List.any_cons, List.any_nil]
        refine ⟨⟨by decide, rfl⟩, ⟨by decide, by omega⟩, ?_⟩
        rw [hck]
        exact le_sl (by simp [leSl, mask, List.range_succ])
      · simp only [w_store, w_buildSlice, w_append, w_aop, w_some, w_asome, asQ, asO, asS, obA, AGet_zero, storeA, putsA, St.ev, St.step, setS, killS, AV.kill, AV.killL, Mem.kill, AV.cells, AV.flat, AV.single, AV.cellular, AV.size, AV.sizeL, AV.pure, AV.pureL, ACond_false, Value.oneCell', List.getD_cons_succ, List.getD_cons_zero, List.set_cons_succ, List.set_cons_zero, List.getElem?_cons_succ, List.getElem?_cons_zero, List.length_cons, List.head?_cons, List.length_nil, List.contains_nil, List.contains_cons, List.isEmpty_nil, List.isEmpty_cons, Option.getD_some, Bool.false_eq_true, if_false, if_true, true_and, and_true, List.all_cons, List.all_nil, Bool.and_true, Bool.true_and, Nat.zero_add, Nat.add_zero, beq_self_eq_true, List.map_cons, List.map_nil, decide_true, nbeq, decide_false, Bool.or_false, Bool.and_false, List.getElem?_nil, Nat.reduceAdd, Nat.reduceEqDiff, Nat.reduceMul, Nat.reduceLeDiff, Int.reduceAdd, Int.reduceMul, Option.map_some, gtsA_len, ti22, ti24, rdO, gA, gtsA_len, gtsA_kill, rowsA_kill, gtsA_app, hgk, ADr, keepF, keepG, liveI, AV.sub, AV.subL, AV.isO, AV.isQ, List.any_cons, List.any_nil]
        refine ⟨⟨by decide, rfl⟩, ⟨by decide, by omega⟩, ?_⟩
        rw [hck]
        exact le_sl (by simp [leSl, mask, List.range_succ])
      · simp only [w_load, w_store, w_buildSlice, w_append, w_aop, w_some, w_asome, w_anone, asP, asQ, asO, asS, obA, AGet_zero, loadA, storeA, putsA, St.ev, St.step, setS, killS, AV.kill, AV.killL, Mem.kill, AV.cells, AV.flat, AV.single, AV.cellular, AV.size, AV.sizeL, AV.pure, AV.pureL, ACond_false, Value.oneCell', List.getD_cons_succ, List.getD_cons_zero, List.set_cons_succ, List.set_cons_zero, List.getElem?_cons_succ, List.getElem?_cons_zero, List.length_cons, List.head?_cons, List.length_nil, List.contains_nil, List.contains_cons, List.isEmpty_nil, List.isEmpty_cons, Option.getD_some, Bool.false_eq_true, if_false, if_true, true_and, and_true, List.all_cons, List.all_nil, Bool.and_true, Bool.true_and, Bool.not_true, Nat.zero_add, Nat.add_zero, beq_self_eq_true, List.map_cons, List.map_nil, decide_true, nbeq, decide_false, Bool.or_false, Bool.and_false, List.getElem?_nil, Nat.reduceAdd, Nat.reduceEqDiff, Nat.reduceMul, Nat.reduceLeDiff, Int.reduceAdd, Int.reduceMul, Option.map_some, gtsA_len, ti22, ti24, rdO, gA, gtsA_len, gtsA_kill, rowsA_kill, gtsA_app, hgk, ADr, keepF, keepG, liveI, AV.sub, AV.subL, AV.isO, AV.isQ, List.any_cons, List.any_nil]
        refine ⟨⟨⟨by decide, rfl⟩, ⟨by decide, by omega⟩, ?_⟩, ⟨by decide, rfl⟩, ⟨by decide, by omega⟩, ?_⟩
        · rw [hck]
          exact le_sl (by simp [leSl, mask, List.range_succ])
        · rw [hck]
          exact le_sl (by simp [leSl, mask, List.range_succ])
    · simp only [w_move, w_assign, w_pick, w_box, w_alloc, w_load, w_store, w_fieldAddr, w_indexAddr, w_binOp, w_not, w_neg, w_build, w_buildSlice, w_extract, w_field, w_slice, w_makeFunc, w_nilCheck, w_callF, w_callT, w_len, w_makeMap, w_lookup, w_mapUpdate, w_insert, w_put, w_makeSlice, lenM, oneOf, w_min, w_max, w_append, w_aop, w_aopg, w_gdb, w_gdu, w_take, w_takeg, w_some, w_asome, w_anone, w_nil, w_cons, awp, binC, idxC, arithC, cmpC, eqC, asP, asQ, asO, asS, asT, asG, asF, asB, asI, asN, asE, obA, AGet_zero, bndA, lenA, minmaxA, loadA, storeA, fillA, putsA, mkA, Aw.newRow, St.ev, St.step, setS, killS, AV.kill, AV.killL, Mem.kill, AV.cells, AV.flat, AV.single, AV.cellular, AV.size, AV.sizeL, AV.pure, AV.pureL, ACond_true, ACond_false, Value.oneCell', ints, List.getD_cons_succ, List.getD_cons_zero, List.set_cons_succ, List.set_cons_zero, List.getElem?_cons_succ, List.getElem?_cons_zero, List.length_cons, List.head?_cons, List.length_nil, List.replicate_succ, List.replicate_zero, List.cons_append, List.nil_append, List.contains_nil, List.contains_cons, List.isEmpty_nil, List.isEmpty_cons, Option.getD_some, Option.getD_none, Bool.false_eq_true, if_false, if_true, true_and, and_true, List.all_cons, List.all_nil, Bool.and_true, Bool.true_and, Bool.not_true, Bool.not_false, Option.isSome_some, Nat.zero_add, Nat.add_zero, beq_self_eq_true, List.map_cons, List.map_nil, decide_true, nbeq, decide_false, Bool.or_false, Bool.or_true, Bool.false_or, Bool.true_or, eq_self, Bool.false_and, Bool.and_false, decide_eq_true_eq, List.getElem?_nil, List.length_append, Nat.reduceAdd, Nat.reduceEqDiff, Nat.reduceMul, Nat.reduceSub, Nat.reduceLeDiff, Nat.reduceBEq, Int.reduceAdd, Int.reduceSub, Int.reduceMul, Int.reduceNeg, Int.reduceToNat, Int.reduceLE, Int.reduceLT, Int.reduceEq, Int.toNat_zero, Int.toNat_one, Option.bind_some, Option.bind_none, ASch, St.put, Md.mem, Md.need, ne_eq, not_false_eq_true, Option.map_some, Option.map_none, w_bt, w_bf, gtsA_len, intsA_len, ti2, ti3, ti4, ti5, ti7, ti9, ti12, ti13, ti15, ti16, ti17, ti18, ti21, ti22, ti23, ti24, ti25, ti31, ti34, ti52, ti53, ti60, ti74, ti80, ti81, ti94, ti101, ti109, ti111, ti113, ti117, ti119, ti123, ti125, ti126, ti132, ti135, ti137, Try.ntmps59, gtsA_len]
      rw [hzl, show rstG G4.bound d (fsR G4.bound d).length = rstT G4.bound d from rfl, show layG G4.bound d (fsR G4.bound d).length = layT G4.bound d from rfl]
      have hrl : (rstT G4.bound d).length = d.length - (fsR G4.bound d).length := rstG_len (Nat.le_refl _)
      have hll : (layT G4.bound d).length = (fsR G4.bound d).length := layG_len G4.bound d (Nat.le_refl _)
      have hpos := fsR_pos (bd := G4.bound) h
      have hle := fsR_len G4.bound d
      have hst := lyR_step (bd := G4.bound) h
      have hnx : c.length - d.length + (fsR G4.bound d).length = c.length - (rstT G4.bound d).length := by omega
      rw [hnx]
      generalize rstT G4.bound d = rs at *
      generalize layT G4.bound d = ly at *
      have hsl := srt_len ly
      refine swpD_seq (swpD_le (le_to [4, 0, 1, 2] (sl1 := [.s 4 (gtsA c), .bot, .bot, .q 0 2 0 0, .o 1, .q 2 1 0 0, .bot, .bot, .bot, .bot, .bot, .bot, .bot, .bot, .bot, .bot, .bot, .bot, .bot, .bot, .bot, .bot, .bot, .bot, .bot, .bot, .bot, .bot, .bot, .bot, .bot, .bot, .bot]) (sl2 := [.s 4 (gtsA c), .bot, .bot, .q 1 2 0 0, .o 2, .q 3 1 0 0, .bot, .bot, .bot, .bot, .bot, .bot, .bot, .bot, .bot, .bot, .bot, .bot, .bot, .bot, .bot, .bot, .bot, .bot, .bot, .bot, .bot, .bot, .bot, .bot, .bot, .bot, .bot]) (M2 := [some ⟨none, 24, 4, gtsA ly⟩, some (rdO rs (c.length - rs.length : Nat)), some ⟨none, 22, 1, rowsA lss⟩, some ⟨none, 22, 1, [.o 0]⟩]) (by decide) (by simp [leSl]) rfl (by simp [reM, gtsA_sub, rowsA_sub, rdO, AV.sub, AV.subL]; rfl)) (swpD_of (swp_fm (own := [4]) 1 rfl rfl rfl ?_)))
      simp only [w_load, w_aop, w_some, w_anone, w_nil, w_cons, asP, asQ, obA, AGet_zero, loadA, St.ev, St.step, setS, killS, AV.kill, AV.killL, Mem.kill, AV.cells, AV.flat, AV.single, List.getD_cons_succ, List.getD_cons_zero, List.set_cons_succ, List.set_cons_zero, List.getElem?_cons_succ, List.getElem?_cons_zero, List.contains_nil, List.isEmpty_nil, Bool.false_eq_true, if_false, if_true, true_and, and_true, List.all_cons, List.all_nil, Bool.and_true, Bool.true_and, Bool.not_true, List.map_cons, List.map_nil, ti22, List.take_succ_cons, List.take_zero]
      refine acall_f (mspec_first2 (s89 ly (by omega)) [some (rdO rs (c.length - rs.length : Nat)), some ⟨none, 22, 1, rowsA lss⟩, some ⟨none, 22, 1, [.o 0]⟩] (by simp [AV.freeL, AV.free, Zr, List.range_succ]) (freeL_pure _ (gtsA_pure ly)) ?_) ?_
      · intro o ho
        simp only [List.mem_cons, Option.some.injEq, List.not_mem_nil, or_false] at ho
        rcases ho with rfl | rfl | rfl
        · simp [rdO, AV.subL, AV.sub, gtsA_sub]
        · exact rowsA_sub _ _ _
        · rfl
      simp only [w_nil, St.ev, setS, List.getD_cons_succ, List.getD_cons_zero, List.set_cons_succ, List.set_cons_zero, List.getElem?_cons_succ, List.getElem?_cons_zero, Bool.false_eq_true, if_false, if_true, beq_self_eq_true, List.map_cons, List.map_nil, nbeq, decide_false, Bool.or_false, List.getElem?_nil, Nat.reduceAdd, Nat.reduceEqDiff, Int.reduceAdd, keepF, keepG, liveI, AV.sub, AV.isO, AV.isQ, List.any_cons, List.any_nil, List.drop_succ_cons, List.drop_zero]
      refine swpD_le (le_to [0, 1, 2, 3] (sl1 := [.s 4 (gtsA c), .bot, .bot, .q 1 2 0 0, .o 2, .q 3 1 0 0, .bot, .bot, .bot, .bot, .bot, .bot, .bot, .bot, .bot, .bot, .bot, .bot, .bot, .bot, .bot, .bot, .bot, .bot, .bot, .bot, .bot, .bot, .bot, .bot, .bot, .bot, .bot]) (sl2 := [.s 4 (gtsA c), .bot, .bot, .q 1 2 0 0, .o 2, .q 3 1 0 0, .bot, .bot, .bot, .bot, .bot, .bot, .bot, .bot, .bot, .bot, .bot, .bot, .bot, .bot, .bot, .bot, .bot, .bot, .bot, .bot, .bot, .bot, .bot, .bot, .bot, .bot, .bot]) (M2 := [some ⟨none, 24, 4, gtsA (srt ly)⟩, some (rdO rs (c.length - rs.length : Nat)), some ⟨none, 22, 1, rowsA lss⟩, some ⟨none, 22, 1, [.o 0]⟩]) (by decide) (by simp [leSl]) rfl (by simp [reM, gtsA_sub, rowsA_sub, rdO, AV.sub, AV.subL]; rfl)) ?_
      refine swpD_le (le_frz 0 rfl (gtsA_pure _)) (swpD_of (swp_text (own := [4]) ?_))
      simp only [w_move, w_assign, w_load, w_buildSlice, w_append, w_aop, w_some, w_asome, w_anone, w_nil, w_cons, asP, asQ, asO, asS, asN, obA, AGet_zero, loadA, St.ev, St.step, setS, killS, AV.kill, AV.killL, Mem.kill, AV.cells, AV.flat, AV.single, AV.cellular, AV.size, AV.pure, AV.pureL, ACond_false, Value.oneCell', List.getD_cons_succ, List.getD_cons_zero, List.set_cons_succ, List.set_cons_zero, List.getElem?_cons_succ, List.getElem?_cons_zero, List.length_cons, List.length_nil, List.contains_nil, List.contains_cons, List.isEmpty_nil, List.isEmpty_cons, Option.getD_some, Bool.false_eq_true, if_false, if_true, true_and, and_true, List.all_cons, List.all_nil, Bool.and_true, Bool.true_and, Bool.not_true, Nat.zero_add, beq_self_eq_true, List.map_cons, List.map_nil, decide_true, nbeq, decide_false, Bool.or_false, Nat.reduceEqDiff, Nat.reduceMul, Nat.reduceLeDiff, Int.reduceMul, Option.map_some, Option.map_none, ti22, ti34, frz1, frzM, rdO, AV.sub, AV.subL, rowsA_sub, rowsA_kill]
      have hra : rowsA lss ++ [.s 4 (gtsA (srt ly))] = rowsA (lss ++ [srt ly]) := by simp [rowsA]
      rw [hra]
      refine ⟨⟨by decide, rfl⟩, ⟨by decide, by rw [rowsA_len]; omega⟩, (rs, lss ++ [srt ly]), le_to [1, 2] (sl1 := [.s 4 (gtsA c), .bot, .bot, .q 1 2 0 0, .o 2, .bot, .bot, .bot, .bot, .bot, .bot, .bot, .bot, .bot, .bot, .bot, .bot, .bot, .bot, .bot, .bot, .bot, .bot, .bot, .bot, .bot, .bot, .bot, .bot, .bot, .bot, .bot, .bot]) (by decide) (by simp [leSl]) rfl (by simp [reM, gtsA_sub, rowsA_sub, AV.sub, AV.subL]), ⟨by simp only; omega, by simp only [List.length_append, List.length_singleton]; omega, by rw [hn, hst]; simp⟩, by simp only; omega⟩
  · have h' : ¬ ((c.length - d.length : Nat) : Int) < (c.length : Int) := by omega
    simp only [awp, ACond_false, if_true, decide_eq_false h']
    refine swpD_of (awp_sound (own := [3, 4, 5]) _ _ _ _ _ ?_)
    simp only [w_move, w_assign, w_aop, w_anone, w_nil, w_cons, awp, asN, St.ev, St.step, setS, killS, AV.kill, AV.killL, Mem.kill, ACond_false, List.getD_cons_succ, List.getD_cons_zero, List.set_cons_succ, List.set_cons_zero, List.contains_nil, List.contains_cons, List.isEmpty_nil, Option.getD_some, Bool.false_eq_true, if_false, if_true, nbeq, decide_false, Bool.or_false, Nat.reduceAdd, Nat.reduceEqDiff, Int.reduceAdd]
    have hdn : d = [] := List.eq_nil_of_length_eq_zero (by omega)
    subst hdn
    rw [lyR_nil, List.append_nil] at hn
    refine aend_frz rfl ⟨?_, rfl⟩
    simp [frz, AV.sub, hn, rowsA_pure]
end Go.Proofs.Ytkmbbbemmohmcaa

namespace Go.Proofs.Ytkmbbbemmohmcaa
open Aw Go.RowKit
set_option linter.unusedSimpArgs false

theorem ok23 : okFn Try.prog 23 = true := by kernel_rfl
theorem s23 (n : Int) (c : List G4) (hl : c.length ≤ 10000) : ASpec Try.prog 23 [I n, .s 4 (gtsA c)] (fun r Ms => r = .t [.s 1 (rowsA (if vC n c = 0 then lyR G4.bound c else [])), I (vC n c)] ∧ Ms = []) := by
  refine aspec_of (own := [4]) Try.func23 rfl ok23 ?_
  simp only [w_move, w_assign, w_callF, w_aop, w_some, w_asome, w_anone, w_nil, w_cons, awp, asN, Aw.newRow, St.ev, St.step, setS, killS, AV.kill, AV.killL, Mem.kill, ACond_false, List.getD_cons_succ, List.getD_cons_zero, List.set_cons_succ, List.set_cons_zero, List.length_cons, List.length_nil, List.replicate_succ, List.replicate_zero, List.cons_append, List.nil_append, List.contains_nil, List.contains_cons, List.isEmpty_nil, Option.getD_some, Bool.false_eq_true, if_false, if_true, Nat.zero_add, Nat.add_zero, beq_self_eq_true, List.map_cons, List.map_nil, nbeq, decide_false, Bool.or_false, Nat.reduceAdd, Nat.reduceEqDiff, Nat.reduceSub, Int.reduceAdd, Int.reduceSub, ti22, ti34, Try.ntmps23]
  refine acall_v (s21 n c (by omega)) rfl rfl ?_
  simp only [w_move, w_assign, w_binOp, w_aop, w_some, w_asome, w_anone, w_nil, w_cons, awp, binC, cmpC, asB, asI, asN, St.ev, St.step, setS, killS, AV.kill, AV.killL, Mem.kill, ACond_false, List.getD_cons_succ, List.getD_cons_zero, List.set_cons_succ, List.set_cons_zero, List.contains_nil, List.contains_cons, List.isEmpty_nil, Option.getD_some, Bool.false_eq_true, if_false, if_true, true_and, Bool.true_and, nbeq, decide_false, Bool.or_false, Nat.reduceAdd, Nat.reduceEqDiff, Int.reduceAdd]
  by_cases hv : vC n c = 0
  · simp only [w_move, w_callF, w_aop, w_cons, awp, St.ev, St.step, setS, killS, AV.kill, AV.killL, Mem.kill, ACond_false, List.getD_cons_succ, List.getD_cons_zero, List.set_cons_succ, List.set_cons_zero, List.contains_nil, List.contains_cons, List.isEmpty_nil, Bool.false_eq_true, if_false, if_true, Bool.not_true, List.map_cons, List.map_nil, nbeq, decide_false, Bool.or_false, Nat.reduceAdd, Nat.reduceEqDiff, Int.reduceAdd, decide_eq_true hv]
    refine acall_v (s59 c (vC_len hv)) rfl rfl ?_
    simp only [w_assign, w_aop, w_anone, w_nil, w_cons, awp, asN, St.ev, St.step, setS, killS, AV.kill, AV.killL, Mem.kill, List.getD_cons_succ, List.getD_cons_zero, List.set_cons_succ, List.set_cons_zero, List.contains_nil, List.contains_cons, List.isEmpty_nil, Option.getD_some, Bool.false_eq_true, if_false, if_true, beq_self_eq_true, nbeq, decide_false, Bool.or_false, Nat.reduceEqDiff]
    exact aend_frz rfl ⟨by simp [frz, AV.sub, AV.subL, hv], rfl⟩
  · simp only [w_move, w_assign, w_aop, w_some, w_asome, w_anone, w_nil, w_cons, awp, asN, Aw.newRow, St.ev, St.step, setS, killS, AV.kill, AV.killL, Mem.kill, ACond_true, ACond_false, List.getD_cons_succ, List.getD_cons_zero, List.set_cons_succ, List.set_cons_zero, List.length_cons, List.length_nil, List.cons_append, List.nil_append, List.contains_nil, List.contains_cons, List.isEmpty_nil, Option.getD_some, Bool.false_eq_true, if_false, if_true, Bool.not_false, Nat.zero_add, beq_self_eq_true, nbeq, decide_false, Bool.or_false, Nat.reduceAdd, Nat.reduceEqDiff, Int.reduceAdd, ti22, ti34, decide_eq_false hv]
    refine aend_frz rfl ⟨?_, rfl⟩
    simp [frz, AV.sub, AV.subL, hv]
    rfl

theorem ok24 : okFn Try.prog 24 = true := by kernel_rfl
theorem s24 (n : Int) (c : List G4) (hl : c.length ≤ 10000) : ASpec Try.prog 24 [I n, .s 4 (gtsA c)] (fun r Ms => r = .t [I (if vC n c = 0 then ((lyR G4.bound c).length : Int) else 0), I (vC n c)] ∧ Ms = []) := by
  refine aspec_of (own := []) Try.func24 rfl ok24 ?_
  simp only [w_move, w_assign, w_callF, w_aop, w_anone, w_nil, w_cons, awp, asN, St.ev, St.step, setS, killS, AV.kill, AV.killL, Mem.kill, ACond_false, List.getD_cons_succ, List.getD_cons_zero, List.set_cons_succ, List.set_cons_zero, List.length_cons, List.length_nil, List.replicate_succ, List.replicate_zero, List.cons_append, List.nil_append, List.contains_nil, List.isEmpty_nil, Option.getD_some, Bool.false_eq_true, if_false, if_true, Nat.zero_add, Nat.add_zero, List.map_cons, List.map_nil, Nat.reduceAdd, Nat.reduceSub, Int.reduceAdd, Int.reduceSub, Try.ntmps24]
  refine acall_v (s21 n c (by omega)) rfl rfl ?_
  simp only [w_move, w_assign, w_binOp, w_aop, w_some, w_asome, w_anone, w_nil, w_cons, awp, binC, cmpC, asB, asI, asN, St.ev, St.step, setS, killS, AV.kill, AV.killL, Mem.kill, ACond_false, List.getD_cons_succ, List.getD_cons_zero, List.set_cons_succ, List.set_cons_zero, List.contains_nil, List.isEmpty_nil, Option.getD_some, Bool.false_eq_true, if_false, if_true, true_and, Bool.true_and, Nat.reduceAdd, Int.reduceAdd]
  by_cases hv : vC n c = 0
  · simp only [w_move, w_callF, w_aop, w_cons, awp, St.ev, St.step, setS, killS, AV.kill, AV.killL, Mem.kill, ACond_false, List.getD_cons_succ, List.getD_cons_zero, List.set_cons_succ, List.set_cons_zero, List.contains_nil, List.isEmpty_nil, if_true, Bool.not_true, List.map_cons, List.map_nil, Nat.reduceAdd, Int.reduceAdd, decide_eq_true hv]
    refine acall_v (s59 c (vC_len hv)) rfl rfl ?_
    simp only [w_assign, w_len, w_aop, w_some, w_asome, w_anone, w_nil, w_cons, awp, asN, lenA, St.ev, St.step, setS, killS, AV.kill, AV.killL, Mem.kill, List.getD_cons_succ, List.getD_cons_zero, List.set_cons_succ, List.set_cons_zero, List.contains_nil, List.isEmpty_nil, Option.getD_some, Bool.false_eq_true, if_false, if_true, true_and, Bool.true_and, Option.isSome_some, ti34, rowsA_len]
    exact aend_frz rfl ⟨by simp [hv, rowsA_len]; rfl, rfl⟩
  · simp only [w_move, w_assign, w_aop, w_anone, w_nil, w_cons, awp, asN, St.ev, St.step, setS, killS, AV.kill, AV.killL, Mem.kill, ACond_true, ACond_false, List.getD_cons_succ, List.getD_cons_zero, List.set_cons_succ, List.set_cons_zero, List.contains_nil, List.isEmpty_nil, Option.getD_some, Bool.false_eq_true, if_false, if_true, Bool.not_false, Nat.reduceAdd, Int.reduceAdd, decide_eq_false hv]
    exact aend_frz rfl ⟨by simp [hv]; rfl, rfl⟩

def kA : List G4 := [⟨0, 0, -1, 4⟩, ⟨1, 1, -1, 2⟩, ⟨0, 0, -1, 12⟩]
def kB : List G4 := [⟨0, 0, -1, 8⟩, ⟨1, 0, -1, 8⟩, ⟨0, 0, -1, 8⟩]
theorem kA_v : vC 2 kA = 0 := by decide
theorem kB_v : vC 1 kB = 0 := by decide
theorem kA_r : red kA = [⟨1, 1, -1, 2⟩] := by decide
theorem kB_p : pm kB = none := by decide
theorem kB_l : (lyR G4.bound kB).length = 3 := by decide

theorem ok32 : okFn Try.prog 32 = true := by kernel_rfl
theorem s32 : ASpec Try.prog 32 [] (fun r Ms => r = B true ∧ Ms = []) := by
  refine aspec_of (own := []) Try.func32 rfl ok32 ?_
  simp only [w_move, w_assign, w_build, w_buildSlice, w_callF, w_aop, w_some, w_anone, w_nil, w_cons, awp, asN, fillA, putsA, St.ev, St.step, setS, killS, AV.kill, AV.killL, Mem.kill, AV.cells, AV.flat, AV.single, AV.cellular, AV.size, AV.sizeL, AV.pure, AV.pureL, ACond_false, Value.oneCell', List.getD_cons_succ, List.getD_cons_zero, List.set_cons_succ, List.set_cons_zero, List.getElem?_cons_succ, List.getElem?_cons_zero, List.length_cons, List.length_nil, List.replicate_succ, List.replicate_zero, List.nil_append, List.contains_nil, List.isEmpty_nil, Option.getD_some, Bool.false_eq_true, if_false, if_true, true_and, and_true, List.all_cons, List.all_nil, Bool.and_true, Bool.true_and, Nat.zero_add, Nat.add_zero, beq_self_eq_true, List.map_cons, List.map_nil, decide_true, nbeq, Nat.reduceAdd, Nat.reduceMul, Nat.reduceSub, Nat.reduceLeDiff, Int.reduceAdd, Int.reduceSub, Int.reduceMul, Int.reduceNeg, ti22, ti24, Try.ntmps32]
  have h27 := s27 2 kA (by decide)
  have h33 := s33 1 kB (by decide)
  have h24 := s24 1 kB (by decide)
  rw [if_pos kA_v, kA_v, kA_r] at h27
  rw [kB_v, kB_p] at h33
  rw [if_pos kB_v, kB_v, kB_l] at h24
  have h33 : ASpec Try.prog 33 [I 1, .s 4 (gtsA kB)] (fun r Ms => r = .t [B true, I 0] ∧ Ms = []) := h33
  have h24 : ASpec Try.prog 24 [I 1, .s 4 (gtsA kB)] (fun r Ms => r = .t [I 3, I 0] ∧ Ms = []) := h24
  refine ⟨⟨by decide, rfl⟩, acall_v h27 rfl rfl ?_⟩
  simp only [w_move, w_assign, w_build, w_buildSlice, w_extract, w_callF, w_aop, w_some, w_anone, w_nil, w_cons, awp, asT, asN, fillA, putsA, St.ev, St.step, setS, killS, AV.kill, AV.killL, Mem.kill, AV.cells, AV.flat, AV.single, AV.cellular, AV.size, AV.sizeL, AV.pure, AV.pureL, ACond_false, Value.oneCell', List.getD_cons_succ, List.getD_cons_zero, List.set_cons_succ, List.set_cons_zero, List.getElem?_cons_succ, List.getElem?_cons_zero, List.length_cons, List.length_nil, List.contains_nil, List.isEmpty_nil, Option.getD_some, Bool.false_eq_true, if_false, if_true, true_and, and_true, List.all_cons, List.all_nil, Bool.and_true, Bool.true_and, Nat.zero_add, Nat.add_zero, beq_self_eq_true, List.map_cons, List.map_nil, decide_true, nbeq, Nat.reduceAdd, Nat.reduceMul, Nat.reduceLeDiff, Int.reduceAdd, Int.reduceMul, Int.reduceNeg, ti22, ti24]
  refine ⟨⟨by decide, rfl⟩, acall_v h33 rfl rfl ?_⟩
  simp only [w_move, w_assign, w_extract, w_callF, w_aop, w_some, w_anone, w_nil, w_cons, awp, asT, asN, St.ev, St.step, setS, killS, AV.kill, AV.killL, Mem.kill, ACond_false, List.getD_cons_succ, List.getD_cons_zero, List.set_cons_succ, List.set_cons_zero, List.getElem?_cons_succ, List.getElem?_cons_zero, List.contains_nil, List.isEmpty_nil, Option.getD_some, Bool.false_eq_true, if_false, if_true, List.map_cons, List.map_nil, Nat.reduceAdd, Int.reduceAdd, Int.reduceNeg]
  refine acall_v h24 rfl rfl ?_
  simp only [w_move, w_assign, w_binOp, w_extract, w_slice, w_callF, w_aop, w_aopg, w_gdb, w_some, w_asome, w_anone, w_nil, w_cons, awp, binC, cmpC, asS, asT, asI, asN, bndA, St.ev, St.step, setS, killS, AV.kill, AV.killL, Mem.kill, ACond_true, ACond_false, List.getD_cons_succ, List.getD_cons_zero, List.set_cons_succ, List.set_cons_zero, List.getElem?_cons_succ, List.getElem?_cons_zero, List.length_cons, List.length_nil, List.contains_nil, List.isEmpty_nil, Option.getD_some, Bool.false_eq_true, if_false, if_true, true_and, Bool.true_and, Nat.zero_add, beq_self_eq_true, List.map_cons, List.map_nil, decide_true, Nat.reduceAdd, Int.reduceAdd, Int.reduceNeg, Int.reduceToNat, Int.reduceLE, Int.toNat_one, Option.bind_some, ti22, ti24]
  have h29 : ASpec Try.prog 29 [.s 4 (gtsA [⟨1, 1, -1, 2⟩]), .s 4 (gtsA [⟨1, 1, -1, 2⟩])] (fun r Ms => r = B true ∧ Ms = []) := s29 [⟨1, 1, -1, 2⟩] [⟨1, 1, -1, 2⟩] (by decide) (by decide)
  refine ⟨by decide, acall_v h29 rfl rfl ?_⟩
  simp only [w_move, w_assign, w_pick, w_binOp, w_aop, w_aopg, w_gdb, w_some, w_asome, w_anone, w_nil, w_cons, awp, binC, cmpC, asB, asI, asN, St.ev, St.step, setS, killS, AV.kill, AV.killL, Mem.kill, ACond_true, List.getD_cons_succ, List.getD_cons_zero, List.set_cons_succ, List.set_cons_zero, List.getElem?_cons_succ, List.getElem?_cons_zero, List.contains_nil, List.isEmpty_nil, Option.getD_some, Bool.false_eq_true, if_false, if_true, true_and, Bool.true_and, beq_self_eq_true, decide_true, Int.reduceNeg, Option.bind_some]
  exact aend_frz rfl ⟨rfl, rfl⟩
end Go.Proofs.Ytkmbbbemmohmcaa

namespace Go.Proofs.Ytkmbbbemmohmcaa
open Aw Go.ChangeShapes Go.WideShapes Go.ChangeAt Go.RowKit Go.Deep Go.Joins

theorem Try.own : ownKnob Try.prog.godebug = none := by kernel_rfl
theorem Try.laidOut : laidOutB Try.prog = true := by kernel_rfl

/-- A LAW's last step: it has answered, below the old size of the heap nothing has turned, and each argument reads as it did. -/
theorem law_shut {P : Program} {H : Type} {enc : TypeId × Value → H} {f : Func} {s : ChangeSpec} {ap fr ho ag : Bool} {W W' : World} {args : Array Value} {v : Value} {ds : List (DataW H)} {before : List MemPlace}
    (hW : DataW.Whole enc P f.params.toList s.vars ap W args.toList ds [] before) (hb : Below W.heap.size W W') (hv : s.vars = [])
    (hr : ∀ (b : Nat) (sp : Nat → Bool) (hd : Bool), DataW.TrodAll enc P W' b sp hd f.resultTypes.toList (v.resultList f.resultTypes.size) (s.fn H (ds ++ [])).results [])
    (ha : ∀ sp : Nat → Bool, (∀ p ∈ before, sp p.block = true) → DataW.TrodAll enc P W' 0 sp true f.params.toList args.toList (s.fn H (ds ++ [])).args before) (hvs : (s.fn H (ds ++ [])).vars = [])
    (hk : ∀ (j : Nat) (t : TypeId) (r : Value), f.resultTypes[j]? = some t → (v.resultList f.resultTypes.size)[j]? = some r → Value.okWide P W' .any 0 t r) :
    s.post enc P f ap fr ho ag W args v W' := by
  have old : ∀ p ∈ before, p.block < W.heap.size := fun p hp => hW.lt p hp
  have vars : ∀ sp : Nat → Bool, DataW.TrodVars enc P W' sp s.vars (s.fn H (ds ++ [])).vars [] := fun sp => by rw [hv, hvs]; simp [DataW.TrodVars]
  have keep : W.keptBut W' (fun p => p ∈ before) := hb.frame (· ∈ before)
  obtain ⟨_, _, _, _, _, hz, hn⟩ := id hW
  refine ⟨ds, [], before, [], before, [], hW, hr _ _ _, ha _ fun p hp => by simpa using old p hp, vars _, World.keptBut_mono (fun p hp => ⟨hp, by simpa using hp⟩) keep, fun _ => ⟨hk, _, _, ([] ++ before) ++ [], ⟨[] ++ before, [], trodAll_append (ha _ fun _ _ => rfl) (hr _ _ _), vars _, rfl, fun b off hp => ?_, fun hap => ?_⟩, fun p hp _ => by simpa using hp⟩⟩
  · have hin : MemPlace.cell b off ∈ before := by simpa using hp
    rw [hb.frozen (old _ hin)]
    exact hz b off hin
  · simpa using hn hap
section
variable {H : Type} {enc : TypeId × Value → H} {w : World}

abbrev noA : Nat → Prop := fun _ => False

theorem cell_at_lit {a : Addr} {v : Value} (h : w.cell? a = some v) : a.spot = none ∧ a.block < w.heap.size := by
  unfold World.cell? at h
  split at h
  · rename_i c e f hh
    refine ⟨?_, (Array.getElem?_eq_some_iff.1 hh).1⟩
    cases hsp : a.spot with
    | none => rfl
    | some s => simp [hsp] at h
  · cases h

/-- a row of cells reads as a list of abstract values. -/
theorem s_of_cells {k : Nat} {a : Addr} {n cap : Nat} {xs : List AV} {us : List Value} (hn : xs.length = n) (hc : n ≤ cap) (hm : cap ≤ maxLen) (hk : ∀ x ∈ xs, x.size = k) (hr : RL w noA noHv xs us) (hpos : 0 < k)
    (hcell : ∀ (j : Nat) (u : Value), us[j]? = some u → w.cell? (a.add j) = some u) : RV w noA noHv (.s k xs) (.slice (some a) n cap) := by
  simp only [RV, R]
  refine ⟨some a, cap, us, by rw [hn], by omega, hm, hk, hr, fun hne => ?_⟩
  have hl := RL_len xs us hk hr
  have h0 : 0 < us.length := by
    rw [hl]
    exact Nat.mul_pos (List.length_pos_iff.2 hne) hpos
  have h1 := hcell 0 us[0] (List.getElem?_eq_getElem h0)
  have ea : a.add 0 = a := by simp [Addr.add]
  rw [ea] at h1
  obtain ⟨hs, hb⟩ := cell_at_lit h1
  obtain ⟨b, off, sp⟩ := a
  simp only at hs
  subst hs
  refine ⟨b, off, rfl, hb, fun h => h, fun j u hu => ?_⟩
  have := hcell j u hu
  rw [Addr.add_lit] at this
  exact this

theorem list_of {α : Type} (Φ : Nat → α → Prop) : ∀ n : Nat, (∀ i, i < n → ∃ x, Φ i x) → ∃ l : List α, l.length = n ∧ ∀ (i : Nat) (h : i < l.length), Φ i l[i]
  | 0, _ => ⟨[], rfl, by simp⟩
  | n + 1, h => by
    obtain ⟨l, hl, hp⟩ := list_of Φ n fun i hi => h i (by omega)
    obtain ⟨x, hx⟩ := h n (by omega)
    refine ⟨l ++ [x], by simp [hl], fun i hi => ?_⟩
    rcases Nat.lt_or_ge i l.length with hlt | hge
    · rw [List.getElem_append_left hlt]; exact hp i hlt
    · simp at hi
      obtain rfl : i = l.length := by omega
      simp only [List.getElem_append_right (Nat.le_refl _), Nat.sub_self, List.getElem_cons_zero]
      rw [hl]; exact hx

theorem Try.u3 : Try.prog.underlying 3 = some (.int .i64) := by kernel_rfl
theorem Try.u31 : Try.prog.underlying 31 = some (.slice 3) := by kernel_rfl
theorem Try.c3 : Try.prog.cellsOf 3 = 1 := by kernel_rfl
theorem Try.u22 : Try.prog.underlying 22 = some (.slice 24) := by kernel_rfl
theorem Try.c24 : Try.prog.cellsOf 24 = 4 := by kernel_rfl
theorem Try.c53 : Try.prog.cellsOf 53 = 8 := by kernel_rfl
theorem Try.u4 : Try.prog.underlying 4 = some .bool := by kernel_rfl

theorem rl_intsA (zs : List Int) : RL w noA noHv (intsA zs) (zs.map (Value.int .i64)) := by
  induction zs with
  | nil => simp [intsA, RL]
  | cons z zs ih =>
    simp only [intsA, List.map_cons, RL] at *
    exact ⟨[.int .i64 z], _, rfl, ⟨rfl, rfl⟩, ih⟩

theorem sa_ints {v : Value} {cs : List Value} {b0 : Nat} {sp : Nat → Bool} {hd : Bool} {fuel : Nat} {x : DataW H × List MemPlace} (hcs : cs = [v]) (h : DataW.trod enc Try.prog w b0 sp hd fuel 31 cs = some x) : ∃ l, RV w noA noHv (.s 1 (intsA l)) v := by
  rcases open_ints Try.u31 Try.u3 Try.c3 h with ⟨h1, _⟩ | ⟨a, len, cap, zs, h1, _, hl, hm, hz, _, hcell, _⟩
  · rw [hcs] at h1
    injection h1 with h1
    refine ⟨[], ?_⟩
    rw [h1]
    simp only [RV, R]
    exact ⟨none, 0, [], rfl, Nat.le_refl _, Nat.zero_le _, by simp [intsA], by simp [intsA, RL], fun h => absurd rfl h⟩
  · rw [hcs] at h1
    injection h1 with h1
    subst h1
    have hzl : len ≤ zs.length := by rw [hz]; split <;> omega
    refine ⟨zs.take len, s_of_cells (k := 1) (us := (zs.take len).map (Value.int .i64)) (by simp [intsA]; omega) hl hm (by intro y hy; simp only [intsA, List.mem_map] at hy; obtain ⟨q, _, rfl⟩ := hy; rfl) (rl_intsA _) (by decide) fun j u hu => ?_⟩
    simp only [List.getElem?_map, Option.map_eq_some_iff] at hu
    obtain ⟨z, hz1, rfl⟩ := hu
    have hj : j < (zs.take len).length := (List.getElem?_eq_some_iff.1 hz1).1
    simp at hj
    have := hcell j (by omega)
    rw [this]
    congr 2
    have e : (zs.take len)[j]? = zs[j]? := by rw [List.getElem?_take, if_pos (by omega)]
    rw [e] at hz1
    rw [List.getD_eq_getElem?_getD, hz1]
    rfl


theorem enc4_at (zs : List G4) : ∀ (j : Nat) (u : Value), (enc4 zs)[j]? = some u → ∃ (i : Nat) (h : i < zs.length), (j = i * 4 ∧ u = .int .i64 zs[i].k) ∨ (j = i * 4 + 1 ∧ u = .int .i64 zs[i].a) ∨ (j = i * 4 + 2 ∧ u = .int .i64 zs[i].b) ∨ (j = i * 4 + 3 ∧ u = .int .i64 zs[i].t) := by
  induction zs with
  | nil => intro j u h; simp [enc4] at h
  | cons z zs ih =>
    intro j u h
    have h : ([.int .i64 z.k, .int .i64 z.a, .int .i64 z.b, .int .i64 z.t] ++ enc4 zs)[j]? = some u := h
    match j with
    | 0 => simp at h; exact ⟨0, by simp, .inl ⟨rfl, h.symm⟩⟩
    | 1 => simp at h; exact ⟨0, by simp, .inr (.inl ⟨rfl, h.symm⟩)⟩
    | 2 => simp at h; exact ⟨0, by simp, .inr (.inr (.inl ⟨rfl, h.symm⟩))⟩
    | 3 => simp at h; exact ⟨0, by simp, .inr (.inr (.inr ⟨rfl, h.symm⟩))⟩
    | j + 4 =>
      simp at h
      obtain ⟨i, hi, h⟩ := ih j u (by simpa using h)
      refine ⟨i + 1, by simpa using hi, ?_⟩
      rcases h with ⟨h1, h2⟩ | ⟨h1, h2⟩ | ⟨h1, h2⟩ | ⟨h1, h2⟩
      · exact .inl ⟨by omega, by simpa using h2⟩
      · exact .inr (.inl ⟨by omega, by simpa using h2⟩)
      · exact .inr (.inr (.inl ⟨by omega, by simpa using h2⟩))
      · exact .inr (.inr (.inr ⟨by omega, by simpa using h2⟩))

set_option maxRecDepth 100000 in
theorem gate_cells {cs : List Value} {b0 : Nat} {sp : Nat → Bool} {hd : Bool} {fuel : Nat} {x : DataW H × List MemPlace} (hl : cs.length = 4) (h : DataW.trod enc Try.prog w b0 sp hd fuel 24 cs = some x) : ∃ g : G4, cs = [.int .i64 g.k, .int .i64 g.a, .int .i64 g.b, .int .i64 g.t] := by
  obtain ⟨y0, y1, y2, y3, n, _, _, t0, t1, t2, t3⟩ := trod_struct4 Try.underlying24 h
  match cs, hl with
  | [c0, c1, c2, c3], _ =>
    have t0 : DataW.trod enc Try.prog w b0 sp hd n 3 [c0] = some y0 := t0
    have t1 : DataW.trod enc Try.prog w b0 sp hd n 3 [c1] = some y1 := t1
    have t2 : DataW.trod enc Try.prog w b0 sp hd n 3 [c2] = some y2 := t2
    have t3 : DataW.trod enc Try.prog w b0 sp hd n 3 [c3] = some y3 := t3
    obtain ⟨n0, g0, _, _⟩ := DataW.trod_int Try.u3 t0
    obtain ⟨n1, g1, _, _⟩ := DataW.trod_int Try.u3 t1
    obtain ⟨n2, g2, _, _⟩ := DataW.trod_int Try.u3 t2
    obtain ⟨n3, g3, _, _⟩ := DataW.trod_int Try.u3 t3
    simp at g0 g1 g2 g3
    subst g0; subst g1; subst g2; subst g3
    exact ⟨⟨n0, n1, n2, n3⟩, rfl⟩

set_option maxRecDepth 100000 in
theorem sa_gate {v : Value} {r : Reach} {b1 b0 : Nat} {sp : Nat → Bool} {hd : Bool} {d : DataW H} {p : List MemPlace} (hv : Value.okWide Try.prog w r b1 24 v) (h : DataW.Trod enc Try.prog w b0 sp hd 24 v d p) : ∃ g, RV w noA noHv (gA g) v := by
  obtain ⟨cs, rfl, hsz⟩ := okWide_struct Try.underlying24 hv
  obtain ⟨fuel, hf⟩ := h
  obtain ⟨g, hg⟩ := gate_cells (cs := cs.toList) (by simpa using hsz.trans Try.c24) (by simpa [Value.cells] using hf)
  refine ⟨g, ?_⟩
  have : cs = #[.int .i64 g.k, .int .i64 g.a, .int .i64 g.b, .int .i64 g.t] := by rw [← Array.toList_inj, hg]
  subst this
  simp [gA, RV, RL, R, Value.oneCell']

set_option maxRecDepth 100000 in
theorem sa_two {v : Value} {r : Reach} {b1 b0 : Nat} {sp : Nat → Bool} {hd : Bool} {d : DataW H} {p : List MemPlace} (hv : Value.okWide Try.prog w r b1 53 v) (h : DataW.Trod enc Try.prog w b0 sp hd 53 v d p) : ∃ g h : G4, RV w noA noHv (.g [I g.k, I g.a, I g.b, I g.t, I h.k, I h.a, I h.b, I h.t]) v := by
  obtain ⟨cs, rfl, hsz⟩ := okWide_struct Try.underlying53 hv
  obtain ⟨fuel, hf⟩ := h
  obtain ⟨y0, y1, n, _, hl, t0, t1⟩ := trod_struct2 Try.underlying53 hf
  have hcs : cs.size = 8 := hsz.trans Try.c53
  have t0 : DataW.trod enc Try.prog w b0 sp hd n 24 ((cs.toList.drop 0).take (Try.prog.cellsOf 24)) = some y0 := by simpa [Value.cells] using t0
  have t1 : DataW.trod enc Try.prog w b0 sp hd n 24 ((cs.toList.drop 4).take (Try.prog.cellsOf 24)) = some y1 := by simpa [Value.cells] using t1
  rw [Try.c24] at t0 t1
  obtain ⟨g, hg⟩ := gate_cells (by simp [hcs]) t0
  obtain ⟨g', hg'⟩ := gate_cells (by simp [hcs]) t1
  refine ⟨g, g', ?_⟩
  have e : cs.toList = [.int .i64 g.k, .int .i64 g.a, .int .i64 g.b, .int .i64 g.t, .int .i64 g'.k, .int .i64 g'.a, .int .i64 g'.b, .int .i64 g'.t] := by
    have h1 : cs.toList = cs.toList.take 4 ++ cs.toList.drop 4 := (List.take_append_drop 4 _).symm
    have h2 : (cs.toList.drop 4).take 4 = cs.toList.drop 4 := List.take_of_length_le (by simp [hcs])
    rw [h1, ← h2, hg']
    rw [List.drop_zero] at hg
    rw [hg]
    rfl
  have : cs = #[.int .i64 g.k, .int .i64 g.a, .int .i64 g.b, .int .i64 g.t, .int .i64 g'.k, .int .i64 g'.a, .int .i64 g'.b, .int .i64 g'.t] := by rw [← Array.toList_inj, e]
  subst this
  simp [gA, RV, RL, R, Value.oneCell']

set_option maxRecDepth 100000 in
theorem sa_gts {v : Value} {r : Reach} {b1 b0 : Nat} {sp : Nat → Bool} {hd : Bool} {d : DataW H} {p : List MemPlace} (hv : Value.okWide Try.prog w r b1 22 v) (h : DataW.Trod enc Try.prog w b0 sp hd 22 v d p) : ∃ l, RV w noA noHv (.s 4 (gtsA l)) v := by
  obtain ⟨a0, len0, cap0, rfl⟩ := okWide_slice Try.u22 hv
  obtain ⟨fuel, hf⟩ := h
  rcases open_slice Try.u22 hf with ⟨h1, _⟩ | ⟨a, len, cap, m, n, D, Pl, h1, _, hl, hm, hmm, _, hi⟩
  · simp only [Value.cells] at h1
    refine ⟨[], ?_⟩
    have h1 : Value.slice a0 len0 cap0 = .slice none 0 0 := by simpa using h1
    rw [h1]
    simp only [RV, R]
    exact ⟨none, 0, [], rfl, Nat.le_refl _, Nat.zero_le _, by simp [gtsA], by simp [gtsA, RL], fun h => absurd rfl h⟩
  · have h1 : Value.slice a0 len0 cap0 = .slice (some a) len cap := by simpa [Value.cells] using h1
    rw [h1]
    have hml : len ≤ m := by rw [hmm]; split <;> omega
    obtain ⟨zs, hzl, hzs⟩ := list_of (fun i (z : G4) => w.cell? (a.add (i * 4)) = some (.int .i64 z.k) ∧ w.cell? (a.add (i * 4 + 1)) = some (.int .i64 z.a) ∧ w.cell? (a.add (i * 4 + 2)) = some (.int .i64 z.b) ∧ w.cell? (a.add (i * 4 + 3)) = some (.int .i64 z.t)) len fun i hil => by
      obtain ⟨cs', hc, htr⟩ := hi i (by omega)
      rw [Try.c24] at hc
      obtain ⟨_, hcl, hat⟩ := World.cells?_some hc
      obtain ⟨z, hz⟩ := gate_cells hcl htr
      refine ⟨z, ?_, ?_, ?_, ?_⟩
      · have := hat 0 (by omega)
        rw [Go.Deep.add_add, hz] at this
        simpa using this
      · have := hat 1 (by omega)
        rw [Go.Deep.add_add, hz] at this
        simpa using this
      · have := hat 2 (by omega)
        rw [Go.Deep.add_add, hz] at this
        simpa using this
      · have := hat 3 (by omega)
        rw [Go.Deep.add_add, hz] at this
        simpa using this
    refine ⟨zs, s_of_cells (k := 4) (us := enc4 zs) (by rw [gtsA_len]; exact hzl) hl hm (by intro y hy; obtain ⟨q, _, rfl⟩ := List.mem_map.1 hy; rfl) (rl_enc4 _) (by decide) fun j u hu => ?_⟩
    obtain ⟨i, hi', hh⟩ := enc4_at zs j u hu
    have := hzs i hi'
    rcases hh with ⟨rfl, rfl⟩ | ⟨rfl, rfl⟩ | ⟨rfl, rfl⟩ | ⟨rfl, rfl⟩
    · exact this.1
    · exact this.2.1
    · exact this.2.2.1
    · exact this.2.2.2

set_option maxRecDepth 100000 in
theorem sa_list {v : Value} {r : Reach} {b1 b0 : Nat} {sp : Nat → Bool} {hd : Bool} {d : DataW H} {p : List MemPlace} (hv : Value.okWide Try.prog w r b1 31 v) (h : DataW.Trod enc Try.prog w b0 sp hd 31 v d p) : ∃ l, RV w noA noHv (.s 1 (intsA l)) v := by
  obtain ⟨a0, len, cap, rfl⟩ := okWide_slice Try.u31 hv
  obtain ⟨fuel, hf⟩ := h
  exact sa_ints (cs := [.slice a0 len cap]) rfl hf

set_option maxRecDepth 100000 in
theorem sa_int {v : Value} {r : Reach} {b1 b0 : Nat} {sp : Nat → Bool} {hd : Bool} {d : DataW H} {p : List MemPlace} (hv : Value.okWide Try.prog w r b1 3 v) (h : DataW.Trod enc Try.prog w b0 sp hd 3 v d p) : ∃ k, RV w noA noHv (I k) v := by
  obtain ⟨z, rfl, rfl, rfl, wz⟩ := open_int Try.u3 hv h
  exact ⟨z, by simp [RV]⟩

/-- an argument reads as it did. -/
theorem arg_stays {P : Program} {t : TypeId} (hl : laidOutB P = true) (hr : P.readableRec t = true) (hrow : t < P.types.size) {W W' : World} {v : Value} {d : DataW H} {ps : List MemPlace} {sp : Nat → Bool}
    (h : DataW.Trod enc P W 0 (fun _ => true) true t v d ps) (hb : Below W.heap.size W W') (hlt : ∀ x ∈ ps, x.block < W.heap.size) (hsp : ∀ x ∈ ps, sp x.block = true) : DataW.Trod enc P W' 0 sp true t v d ps :=
  WideElems.Trod_stays hl hr hrow h (fun x hx => hb.same (hlt x hx)) hsp

theorem rr3 : Try.prog.readableRec 3 = true := by kernel_rfl
theorem lt3 : 3 < Try.prog.types.size := of_decide_eq_true (by kernel_rfl)
theorem rr22 : Try.prog.readableRec 22 = true := by kernel_rfl
theorem lt22 : 22 < Try.prog.types.size := of_decide_eq_true (by kernel_rfl)
theorem rr24 : Try.prog.readableRec 24 = true := by kernel_rfl
theorem lt24 : 24 < Try.prog.types.size := of_decide_eq_true (by kernel_rfl)
theorem rr31 : Try.prog.readableRec 31 = true := by kernel_rfl
theorem lt31 : 31 < Try.prog.types.size := of_decide_eq_true (by kernel_rfl)
theorem rr53 : Try.prog.readableRec 53 = true := by kernel_rfl
theorem lt53 : 53 < Try.prog.types.size := of_decide_eq_true (by kernel_rfl)

/-- a call that answers true. -/
theorem calls_true {f : FuncId} {xs : List AV} {vs : List Value} (h : ASpec Try.prog f xs (fun r Ms => r = B true ∧ Ms = [])) (hv : RVL w noA noHv xs vs) :
    Calls Try.prog f vs.toArray w fun e w' => e = .returned (.bool true) ∧ Below w.heap.size w w' := by
  refine (h.2 w vs noA (fun _ h => h.elim) hv).mono ?_
  rintro e w' ⟨r, Ms, v, hv', rfl, ⟨rfl, rfl⟩, _, hr, _, hb⟩
  simp only [RV] at hr
  subst hr
  exact ⟨rfl, hb⟩
end
end Go.Proofs.Ytkmbbbemmohmcaa
