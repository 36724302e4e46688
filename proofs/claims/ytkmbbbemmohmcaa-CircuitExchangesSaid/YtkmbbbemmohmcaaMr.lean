/-
  Several texts in one: PlF, DbJ.
-/
import Derived.Test.YtkmbbbemmohmcaaMf
import Derived.Test.YtkmbbbemmohmcaaMi
import Derived.Test.YtkmbbbemmohmcaaMo
import Derived.Test.YtkmbbbemmohmcaaMn
set_option linter.unusedSimpArgs false
set_option linter.unusedVariables false
namespace Go.Proofs.Ytkmbbbemmohmcaa
open Tr
set_option linter.unusedSimpArgs false

/-! the insertion sort. -/
theorem swpG_at {l : List G4} {j : Nat} (h : j + 1 < l.length) (i : Nat) : (swpG l (j + 1)).getD i default = if i = j then l.getD (j + 1) default else if i = j + 1 then l.getD j default else l.getD i default := by
  unfold swpG
  rw [Nat.add_sub_cancel, List.getD_eq_getElem?_getD, List.getElem?_set, List.getElem?_set]
  by_cases h1 : i = j
  · subst h1
    rw [if_pos rfl, if_pos rfl, if_pos (by simp; omega)]
    rfl
  · rw [if_neg (Ne.symm h1), if_neg h1]
    by_cases h2 : i = j + 1
    · subst h2
      rw [if_pos rfl, if_pos rfl, if_pos h]
      rfl
    · rw [if_neg (Ne.symm h2), if_neg h2, ← List.getD_eq_getElem?_getD]
theorem swpG_perm {l : List G4} {j : Nat} (h : j + 1 < l.length) : (swpG l (j + 1)).Perm l := by
  have e : l = l.take j ++ l[j] :: l[j + 1] :: l.drop (j + 2) := by
    conv => lhs; rw [← List.take_append_drop j l, List.drop_eq_getElem_cons (by omega), List.drop_eq_getElem_cons h]
  have e2 : swpG l (j + 1) = l.take j ++ l[j + 1] :: l[j] :: l.drop (j + 2) := by
    apply List.ext_getElem
    · rw [swpG_len]
      simp
      omega
    · intro i h1 h2
      have h3 := swpG_at h i
      rw [getD_at h1] at h3
      rw [h3]
      have hl : (l.take j).length = j := by simp; omega
      by_cases hi : i < j
      · rw [if_neg (by omega), if_neg (by omega), List.getElem_append_left (by omega), getD_at (by omega)]
        simp
      · rw [List.getElem_append_right (by omega)]
        by_cases h4 : i = j
        · subst h4
          simp only [hl, Nat.sub_self, if_true, List.getElem_cons_zero]
          exact getD_at h
        · rw [if_neg h4]
          by_cases h5 : i = j + 1
          · subst h5
            simp only [hl, show j + 1 - j = 1 by omega, if_true, List.getElem_cons_succ, List.getElem_cons_zero]
            exact getD_at (by omega)
          · rw [if_neg h5]
            obtain ⟨m, rfl⟩ : ∃ m, i = j + 2 + m := ⟨i - (j + 2), by omega⟩
            simp only [hl, show j + 2 + m - j = m + 1 + 1 by omega, List.getElem_cons_succ, List.getElem_drop]
            rw [swpG_len] at h1
            exact getD_at (by omega)
  rw [e2]
  conv => rhs; rw [e]
  exact List.Perm.append_left _ (List.Perm.swap _ _ _)
theorem bub_perm : ∀ (j : Nat) {l : List G4}, j < l.length → (bub j l).Perm l
  | 0, l, _ => List.Perm.refl _
  | j + 1, l, h => by
    unfold bub
    split
    · exact (bub_perm j (by rw [swpG_len]; omega)).trans (swpG_perm h)
    · exact List.Perm.refl _
theorem srtK_perm : ∀ (k : Nat) {l : List G4}, k < l.length → (srtK k l).Perm l
  | 0, l, _ => List.Perm.refl _
  | k + 1, l, h => by
    unfold srtK
    exact (bub_perm (k + 1) (by rw [srtK_len]; exact h)).trans (srtK_perm k (by omega))
theorem srt_perm (l : List G4) : (srt l).Perm l := by
  unfold srt
  cases l with
  | nil => exact List.Perm.refl _
  | cons x l => exact srtK_perm _ (by simp)

def okP (l : List G4) (a b : Nat) : Prop := G4.less (l.getD b default) (l.getD a default) = false
theorem bub_sorted (k : Nat) : ∀ (j : Nat) {l : List G4}, k < l.length → j ≤ k → (∀ a b, a < b → b ≤ k → a ≠ j → b ≠ j → okP l a b) → (∀ b, j < b → b ≤ k → okP l j b) → ∀ a b, a < b → b ≤ k → okP (bub j l) a b
  | 0, l, hk, _, h1, h2 => fun a b hab hb => by
    unfold bub
    by_cases ha : a = 0
    · subst ha; exact h2 b hab hb
    · exact h1 a b hab hb ha (by omega)
  | j + 1, l, hk, hj, h1, h2 => by
    unfold bub
    cases hc : G4.less (l.getD (j + 1) default) (l.getD j default) with
    | true =>
      rw [if_pos rfl]
      have hat := swpG_at (l := l) (j := j) (by omega)
      refine bub_sorted k j (by rw [swpG_len]; exact hk) (by omega) (fun a b hab hb ha hb' => ?_) (fun b hb hbk => ?_)
      · unfold okP
        rw [hat a, hat b, if_neg ha, if_neg hb']
        by_cases hb2 : b = j + 1
        · subst hb2
          rw [if_pos rfl, if_neg (by omega)]
          exact h1 a j (by omega) (by omega) (by omega) (by omega)
        · rw [if_neg hb2]
          by_cases ha2 : a = j + 1
          · subst ha2
            rw [if_pos rfl]
            exact h1 j b (by omega) hb (by omega) hb2
          · rw [if_neg ha2]
            exact h1 a b hab hb ha2 hb2
      · unfold okP
        rw [hat j, hat b, if_pos rfl, if_neg (by omega)]
        by_cases hb2 : b = j + 1
        · rw [if_pos hb2]
          exact less_as hc
        · rw [if_neg hb2]
          exact h2 b (by omega) hbk
    | false =>
      rw [if_neg (by simp)]
      intro a b hab hb
      by_cases hb2 : b = j + 1
      · subst hb2
        by_cases ha : a = j
        · subst ha; exact hc
        · exact less_nt hc (h1 a j (by omega) (by omega) (by omega) (by omega))
      · by_cases ha2 : a = j + 1
        · subst ha2; exact h2 b hab hb
        · exact h1 a b hab hb ha2 hb2
theorem srtK_sorted : ∀ (k : Nat) {l : List G4}, k < l.length → ∀ a b, a < b → b ≤ k → okP (srtK k l) a b
  | 0, l, _ => fun a b hab hb => by omega
  | k + 1, l, h => by
    unfold srtK
    refine bub_sorted (k + 1) (k + 1) (by rw [srtK_len]; exact h) (Nat.le_refl _) (fun a b hab hb ha hb' => srtK_sorted k (by omega) a b hab (by omega)) (fun b hb hbk => by omega)
theorem srt_sorted (l : List G4) : (srt l).Pairwise fun a b => G4.less b a = false := by
  rw [List.pairwise_iff_getElem]
  intro a b ha hb hab
  rw [srt_len] at ha hb
  have := srtK_sorted (l.length - 1) (l := l) (by omega) a b hab (by omega)
  unfold okP at this
  have e1 : (srtK (l.length - 1) l).getD a default = (srt l)[a]'(by rw [srt_len]; exact ha) := getD_at (by rw [srtK_len]; exact ha)
  have e2 : (srtK (l.length - 1) l).getD b default = (srt l)[b]'(by rw [srt_len]; exact hb) := getD_at (by rw [srtK_len]; exact hb)
  rw [e1, e2] at this
  exact this

/-! the first gates. -/
def unb (a b : G4) : Prop := bS a b = false
theorem layG_take {c : List G4} : layT bS c = (fsR bS c).map (c.getD · default) := by
  unfold layT layG
  rw [List.take_length]
theorem fst_unb {c : List G4} {i : Nat} (h : i ∈ fsN bS c c.length) : ∀ x ∈ c.take i, bS x (c.getD i default) = false := by
  obtain ⟨hi, h1⟩ := mem_fsN.1 h
  intro x hx
  unfold fst1 at h1
  rw [List.all_eq_true] at h1
  have := h1 x hx
  rw [bS_sym]
  simpa using this
theorem fsR_mem {c : List G4} {i : Nat} : i ∈ fsR bS c ↔ i ∈ fsN bS c c.length := by unfold fsR; simp
theorem lay_unb (c : List G4) : (layT bS c).Pairwise unb := by
  rw [layG_take, List.pairwise_map]
  unfold fsR
  rw [List.pairwise_reverse]
  refine List.Pairwise.imp_of_mem ?_ (fsN_sorted bS c c.length)
  intro a b ha hb hab
  have hal := fsN_lt ha
  have := fst_unb hb (c.getD a default) (by
    rw [getD_at hal]
    exact List.mem_take_iff_getElem.2 ⟨a, by have := fsN_lt hb; omega, rfl⟩)
  unfold unb
  rw [bS_sym]
  exact this
theorem lay_al {c : List G4} : ∀ {k : Nat}, k ≤ (fsR bS c).length → Al c (layG bS c k ++ rstG bS c k)
  | 0, _ => Alk.refl _
  | k + 1, h => by
    have hk : k < (fsR bS c).length := by omega
    obtain ⟨h1, h2⟩ := rstG_at (bd := bS) (d := c) hk
    refine (lay_al (Nat.le_of_lt hk)).trans ?_
    rw [layG_succ hk, rstG_succ hk, ← h2, List.append_assoc]
    refine Alk.pre _ ?_
    have hm : (fsR bS c)[k] ∈ fsN bS c c.length := fsR_mem.1 (List.getElem_mem hk)
    have ht : (rstG bS c k).take (fsR bS c)[k] = c.take (fsR bS c)[k] := foldl_wo_take _ _ _ fun r hr => by
      have := fsR_down hk r hr
      omega
    have hu := fst_unb hm
    rw [← h2, ← ht] at hu
    have := alk_front (ty := tyG) (bd := bT) bT_bd (g := (rstG bS c k)[(fsR bS c)[k]]) ((rstG bS c k).take (fsR bS c)[k]) ((rstG bS c k).drop ((fsR bS c)[k] + 1)) fun x hx => hu x hx
    rw [← split_at h1] at this
    exact this
theorem lay_rst (c : List G4) : Al c (layT bS c ++ rstT bS c) := lay_al (Nat.le_refl _)

theorem perm_al {l m : List G4} (h : l.Perm m) (hu : l.Pairwise unb) : Al l m := by
  intro x y hb
  have hp : (pj tyG x y l).Perm (pj tyG x y m) := h.filter _
  have hl : (pj tyG x y l).Pairwise unb := hu.filter _
  have hin : ∀ z ∈ pj tyG x y l, tyG z = x ∨ tyG z = y := fun z hz => by
    have := (List.mem_filter.1 hz).2
    simpa using this
  generalize pj tyG x y l = L at *
  cases L with
  | nil => exact (List.Perm.nil_eq hp)
  | cons a L =>
    cases L with
    | nil => exact (List.Perm.singleton_eq hp)
    | cons b L =>
      exfalso
      rw [List.pairwise_cons] at hl
      have h1 : bS a b = false := hl.1 b (by simp)
      unfold bS at h1
      have ha := hin a (by simp)
      have hb' := hin b (by simp)
      rcases ha with ha | ha <;> rcases hb' with hb' | hb' <;> rw [ha, hb'] at h1
      · rw [bT_bd.refl] at h1; cases h1
      · rw [hb] at h1; cases h1
      · rw [bT_bd.sym, hb] at h1; cases h1
      · rw [bT_bd.refl] at h1; cases h1
theorem srt_al {l : List G4} (hu : l.Pairwise unb) : Al (srt l) l := (perm_al (srt_perm l).symm hu).symm

theorem ly_al : ∀ (n : Nat) {c : List G4}, c.length ≤ n → Al (lyR bS c).flatten c
  | 0, c, h => by
    have : c = [] := List.eq_nil_of_length_eq_zero (by omega)
    subst this
    exact Alk.refl _
  | n + 1, c, h => by
    by_cases h0 : 0 < c.length
    · rw [lyR_step h0, List.flatten_cons]
      have h1 := rstT_len (bd := bS) h0
      have h2 := ly_al n (c := rstT bS c) (by omega)
      exact ((srt_al (lay_unb c)).post _).trans ((h2.pre _).trans (lay_rst c).symm)
    · have : c = [] := List.eq_nil_of_length_eq_zero (by omega)
      subst this
      exact Alk.refl _

theorem rstG_mem {bd : G4 → G4 → Bool} {c : List G4} : ∀ (rs : List Nat) (d : List G4), (∀ g ∈ d, g ∈ c) → ∀ g ∈ rs.foldl wo d, g ∈ c
  | [], d, h => h
  | r :: rs, d, h => rstG_mem (bd := bd) rs (wo d r) fun g hg => h g (wo_mem hg)
theorem fsR_congr {bd bd' : G4 → G4 → Bool} {c : List G4} (h : Cg bd bd' c) : fsR bd c = fsR bd' c := by
  unfold fsR
  rw [fsN_congr h]
theorem lyF_congr {bd bd' : G4 → G4 → Bool} : ∀ (n : Nat) {c : List G4}, Cg bd bd' c → lyF bd n c = lyF bd' n c
  | 0, c, _ => rfl
  | n + 1, c, h => by
    have e1 : layT bd c = layT bd' c := by unfold layT layG; rw [fsR_congr h]
    have e2 : rstT bd c = rstT bd' c := by unfold rstT rstG; rw [fsR_congr h]
    have h2 : Cg bd bd' (rstT bd' c) := fun g hg x hx => by
      unfold rstT rstG at hg hx
      exact h g (rstG_mem (bd := bd) _ c (fun _ h => h) g hg) x (rstG_mem (bd := bd) _ c (fun _ h => h) x hx)
    unfold lyF
    rw [e1, e2, lyF_congr n h2]
theorem ly_bound {c : List G4} (h : Ok c) : lyR G4.bound c = lyR bS c := lyF_congr _ (cg_bound h)
theorem ly_bdr {c : List G4} (h : Ok c) : lyR bdr c = lyR bS c := lyF_congr _ (cg_bdr h)

/-! alike circuits have one list of layers. -/
theorem lay_mem {c : List G4} {g : G4} : g ∈ layT bS c ↔ ∃ r, Al c (g :: r) := by
  rw [layG_take, List.mem_map]
  constructor
  · rintro ⟨i, hi, rfl⟩
    obtain ⟨hil, h⟩ := fst_alk bT_bd (fst_iff.2 (fsR_mem.1 hi))
    exact ⟨_, by rw [getD_at hil]; exact h⟩
  · rintro ⟨r, h⟩
    obtain ⟨i, hi, h1, h2, _⟩ := alk_fst bT_bd h
    exact ⟨i, fsR_mem.2 (fst_iff.1 h1), by rw [getD_at hi, h2]⟩
theorem strict_eq : ∀ {l m : List G4}, l.Pairwise (fun a b => G4.less a b = true) → m.Pairwise (fun a b => G4.less a b = true) → (∀ g, g ∈ l ↔ g ∈ m) → l = m
  | [], [], _, _, _ => rfl
  | [], b :: m, _, _, h => by have := (h b).2 (by simp); cases this
  | a :: l, [], _, _, h => by have := (h a).1 (by simp); cases this
  | a :: l, b :: m, hl, hm, h => by
    rw [List.pairwise_cons] at hl hm
    have hab : a = b := by
      have h1 := (h a).1 (by simp)
      have h2 := (h b).2 (by simp)
      rcases List.mem_cons.1 h1 with e | h1
      · exact e
      · rcases List.mem_cons.1 h2 with e | h2
        · exact e.symm
        · have k1 := hm.1 a h1
          have k2 := hl.1 b h2
          have := less_as k1
          rw [k2] at this
          cases this
    subst hab
    congr 1
    refine strict_eq hl.2 hm.2 fun g => ?_
    constructor
    · intro hg
      rcases List.mem_cons.1 ((h g).1 (by simp [hg])) with e | e
      · subst e
        have := hl.1 g hg
        rw [less_irr] at this
        cases this
      · exact e
    · intro hg
      rcases List.mem_cons.1 ((h g).2 (by simp [hg])) with e | e
      · subst e
        have := hm.1 g hg
        rw [less_irr] at this
        cases this
      · exact e
theorem srt_strict {l : List G4} (hu : l.Pairwise unb) : (srt l).Pairwise fun a b => G4.less a b = true := by
  have h2 : (srt l).Pairwise (fun a b => a ≠ b) := (srt_perm l).symm.pairwise (hu.imp fun {a b} h e => by
    subst e
    unfold unb bS at h
    rw [bT_bd.refl] at h
    cases h) (fun {a b} h e => h e.symm)
  refine ((srt_sorted l).and h2).imp fun {a b} h => ?_
  cases hc : G4.less a b with
  | true => rfl
  | false => exact absurd (less_tot hc h.1) h.2
theorem ly_same : ∀ (n : Nat) {c d : List G4}, c.length ≤ n → Al c d → lyR bS c = lyR bS d
  | 0, c, d, h, hA => by
    have : c = [] := List.eq_nil_of_length_eq_zero (by omega)
    subst this
    rw [alk_nil bT_bd hA]
  | n + 1, c, d, h, hA => by
    have hl := alk_len bT_bd c hA
    by_cases h0 : 0 < c.length
    · rw [lyR_step h0, lyR_step (by omega : 0 < d.length)]
      have e : srt (layT bS c) = srt (layT bS d) := by
        refine strict_eq (srt_strict (lay_unb c)) (srt_strict (lay_unb d)) fun g => ?_
        rw [(srt_perm _).mem_iff, (srt_perm _).mem_iff, lay_mem, lay_mem]
        exact ⟨fun ⟨r, hr⟩ => ⟨r, hA.symm.trans hr⟩, fun ⟨r, hr⟩ => ⟨r, hA.trans hr⟩⟩
      have h1 := rstT_len (bd := bS) h0
      have a1 := (lay_rst c).trans ((srt_al (lay_unb c)).symm.post (rstT bS c))
      have a2 := (lay_rst d).trans ((srt_al (lay_unb d)).symm.post (rstT bS d))
      rw [← e] at a2
      have a3 : Al (rstT bS c) (rstT bS d) := Alk.cut (srt (layT bS c)) (a1.symm.trans (hA.trans a2))
      rw [e, ly_same n (by omega) a3]
    · have : c = [] := List.eq_nil_of_length_eq_zero (by omega)
      subst this
      rw [alk_nil bT_bd hA]
end Go.Proofs.Ytkmbbbemmohmcaa

namespace Go.Proofs.Ytkmbbbemmohmcaa
open Aw Go.RowKit
set_option linter.unusedSimpArgs false

theorem ly_lenJ (bd : G4 → G4 → Bool) : ∀ (n : Nat) (c : List G4), (lyF bd n c).length ≤ n
  | 0, _ => Nat.le_refl _
  | n + 1, c => by
    unfold lyF
    split
    · simp
    · have := ly_lenJ bd n (rstT bd c)
      simp
      exact this
theorem mem_flatJ {l : List (List G4)} {x : List G4} (h : x ∈ l) : x.length ≤ l.flatten.length := by
  induction l with
  | nil => cases h
  | cons y l ih =>
    rw [List.flatten_cons, List.length_append]
    rcases List.mem_cons.1 h with rfl | h
    · omega
    · have := ih h; omega
theorem vC2_ofJ {n : Int} {c d : List G4} (h1 : vC n c = 0) (h2 : vC n d = 0) : vC2 n c d = 0 := by rw [vC2, if_pos h1, h2]
theorem okG_four {n : Int} (h4 : n ≤ 4) {g : G4} (h : okG n g = true) : okG 4 g = true := by
  rw [okG_iff] at h ⊢
  obtain ⟨h1, h2, h3⟩ := h
  exact ⟨h1, h2, by omega⟩
theorem exch {c : List G4} {k : Nat} (h : k + 1 < c.length) : ∃ u g h v, c = u ++ g :: h :: v ∧ u.length = k ∧ g = c.getD k default ∧ h = c.getD (k + 1) default := by
  refine ⟨c.take k, c.getD k default, c.getD (k + 1) default, c.drop (k + 2), ?_, by simp; omega, rfl, rfl⟩
  rw [← Cn.drop_more h, ← Cn.drop_more (show k < c.length by omega)]
  exact (List.take_append_drop k c).symm
theorem gts_set (l : List G4) (j : Nat) (g : G4) : (gtsA l).set j (.g [I g.k, I g.a, I g.b, I g.t]) = gtsA (l.set j g) := by
  unfold gtsA
  rw [List.map_set]
  rfl
theorem set_two (u v : List G4) (g h : G4) : ((u ++ g :: h :: v).set u.length h).set (u.length + 1) g = u ++ h :: g :: v := by
  rw [List.set_append_right _ _ (Nat.le_refl _), List.set_append_right _ _ (by omega)]
  simp

theorem ok17 : okFn Try.prog 17 = true := by kernel_rfl
set_option maxRecDepth 20000 in
set_option maxHeartbeats 2000000 in
theorem s17 (n : Int) (c : List G4) (a : Int) : ASpec Try.prog 17 [I n, .s 4 (gtsA c), I a] (fun r Ms => r = B true ∧ Ms = []) := by
  refine aspec_of (own := [74, 1011]) Try.func17 rfl ok17 ?_
  simp only [w_move, w_assign, w_callF, w_aop, w_anone, w_nil, w_cons, awp, asN, St.ev, St.step, setS, killS, AV.kill, AV.killL, Mem.kill, ACond_false, List.getD_cons_succ, List.getD_cons_zero, List.set_cons_succ, List.set_cons_zero, List.length_cons, List.length_nil, List.replicate_succ, List.replicate_zero, List.cons_append, List.nil_append, List.contains_nil, List.contains_cons, List.isEmpty_nil, Option.getD_some, Bool.false_eq_true, if_false, if_true, Nat.zero_add, Nat.add_zero, List.map_cons, List.map_nil, nbeq, decide_false, Bool.or_false, Nat.reduceAdd, Nat.reduceEqDiff, Nat.reduceSub, Int.reduceAdd, Int.reduceSub, Try.ntmps17]
  refine acall_v (s19 c) rfl rfl ?_
  by_cases hl : 50 < c.length
  · simp only [w_move, w_pick, w_callF, w_aop, w_aopg, w_gdb, w_some, w_nil, w_cons, awp, asB, St.ev, St.step, setS, killS, AV.kill, AV.killL, Mem.kill, ACond_true, ACond_false, List.getD_cons_succ, List.getD_cons_zero, List.set_cons_succ, List.set_cons_zero, List.getElem?_cons_succ, List.getElem?_cons_zero, List.contains_nil, List.contains_cons, List.isEmpty_nil, if_true, Bool.not_true, List.map_nil, nbeq, decide_false, Bool.or_false, Nat.reduceAdd, Nat.reduceEqDiff, Int.reduceAdd, Option.bind_some, w_bf, decide_eq_true hl]
    refine acall_v s32 rfl rfl ?_
    simp only [w_assign, w_aop, w_anone, w_nil, w_cons, awp, asN, St.ev, St.step, setS, killS, AV.kill, AV.killL, Mem.kill, List.getD_cons_succ, List.getD_cons_zero, List.set_cons_succ, List.set_cons_zero, List.contains_nil, List.contains_cons, List.isEmpty_nil, Option.getD_some, Bool.false_eq_true, if_false, if_true, nbeq, decide_false, Bool.or_false, Nat.reduceEqDiff]
    exact aend_frz rfl ⟨rfl, rfl⟩
  simp only [w_move, w_callF, w_aop, w_aopg, w_gdb, w_some, w_cons, St.ev, St.step, setS, killS, AV.kill, AV.killL, Mem.kill, ACond_true, List.getD_cons_succ, List.getD_cons_zero, List.set_cons_succ, List.set_cons_zero, List.getElem?_cons_succ, List.getElem?_cons_zero, List.isEmpty_nil, if_true, beq_self_eq_true, List.map_cons, List.map_nil, Option.bind_some, decide_eq_false hl]
  refine acall_v (s21 n c (by omega)) rfl rfl ?_
  simp only [w_move, w_pick, w_binOp, w_aop, w_aopg, w_gdb, w_some, w_asome, w_cons, binC, cmpC, asB, asI, St.ev, St.step, setS, killS, AV.kill, AV.killL, Mem.kill, ACond_true, ACond_false, List.getD_cons_succ, List.getD_cons_zero, List.set_cons_succ, List.set_cons_zero, List.getElem?_cons_succ, List.getElem?_cons_zero, List.isEmpty_nil, if_true, true_and, Bool.true_and, beq_self_eq_true, Option.bind_some, w_bf]
  by_cases hv : vC n c = 0
  · simp only [w_move, w_pick, w_binOp, w_aop, w_aopg, w_gdb, w_some, w_asome, w_cons, binC, cmpC, asB, asI, St.ev, St.step, setS, killS, AV.kill, AV.killL, Mem.kill, ACond_true, ACond_false, List.getD_cons_succ, List.getD_cons_zero, List.set_cons_succ, List.set_cons_zero, List.getElem?_cons_succ, List.getElem?_cons_zero, List.isEmpty_nil, if_true, true_and, Bool.true_and, Bool.not_true, Bool.not_false, beq_self_eq_true, Option.bind_some, w_bf, decide_eq_true hv]
    by_cases ha : a < 1
    · simp only [w_pick, w_callF, w_aop, w_aopg, w_gdb, w_some, w_nil, w_cons, awp, asB, St.ev, St.step, setS, killS, AV.kill, AV.killL, Mem.kill, ACond_true, ACond_false, List.getD_cons_succ, List.getD_cons_zero, List.set_cons_succ, List.set_cons_zero, List.getElem?_cons_succ, List.getElem?_cons_zero, List.contains_nil, List.contains_cons, List.isEmpty_nil, if_true, Bool.not_true, List.map_nil, nbeq, decide_false, Bool.or_false, Nat.reduceAdd, Nat.reduceEqDiff, Int.reduceAdd, Option.bind_some, w_bf, decide_eq_true ha]
      refine acall_v s32 rfl rfl ?_
      simp only [w_assign, w_aop, w_anone, w_nil, w_cons, awp, asN, St.ev, St.step, setS, killS, AV.kill, AV.killL, Mem.kill, List.getD_cons_succ, List.getD_cons_zero, List.set_cons_succ, List.set_cons_zero, List.contains_nil, List.contains_cons, List.isEmpty_nil, Option.getD_some, Bool.false_eq_true, if_false, if_true, nbeq, decide_false, Bool.or_false, Nat.reduceEqDiff]
      exact aend_frz rfl ⟨rfl, rfl⟩
    simp only [w_move, w_pick, w_binOp, w_len, w_aop, w_aopg, w_gdb, w_some, w_asome, w_nil, w_cons, awp, binC, cmpC, asB, asI, lenA, St.ev, St.step, setS, killS, AV.kill, AV.killL, Mem.kill, ACond_true, ACond_false, List.getD_cons_succ, List.getD_cons_zero, List.set_cons_succ, List.set_cons_zero, List.getElem?_cons_succ, List.getElem?_cons_zero, List.isEmpty_nil, if_true, true_and, Bool.true_and, Bool.not_false, Option.isSome_some, beq_self_eq_true, Option.bind_some, gtsA_len, ti22, decide_eq_false ha, gtsA_len]
    by_cases hb : (c.length : Int) ≤ a
    · simp only [w_callF, w_aop, w_cons, awp, ACond_true, ACond_false, List.contains_nil, List.contains_cons, List.map_nil, nbeq, decide_false, Bool.or_false, Nat.reduceAdd, Nat.reduceEqDiff, Int.reduceAdd, decide_eq_true hb]
      refine acall_v s32 rfl rfl ?_
      simp only [w_assign, w_aop, w_anone, w_nil, w_cons, awp, asN, St.ev, St.step, setS, killS, AV.kill, AV.killL, Mem.kill, List.getD_cons_succ, List.getD_cons_zero, List.set_cons_succ, List.set_cons_zero, List.contains_nil, List.contains_cons, List.isEmpty_nil, Option.getD_some, Bool.false_eq_true, if_false, if_true, nbeq, decide_false, Bool.or_false, Nat.reduceEqDiff]
      exact aend_frz rfl ⟨rfl, rfl⟩
    simp only [awp, ACond_false, decide_eq_false hb]
    obtain ⟨k, rfl⟩ : ∃ k : Nat, a = ((k + 1 : Nat) : Int) := ⟨(a - 1).toNat, by omega⟩
    have hk1 : k + 1 < c.length := by omega
    have hk0 : k < c.length := by omega
    have hn := vC_iff.1 hv
    have hg4 : okG 4 c[k] = true := okG_four hn.1.2 (hn.2.2 _ (List.getElem_mem hk0))
    have hh4 : okG 4 c[k + 1] = true := okG_four hn.1.2 (hn.2.2 _ (List.getElem_mem hk1))
    have h1 := s35 c[k] c[k + 1]
    have hvg : vG 4 [c[k], c[k + 1]] = 0 := by rw [vG2, if_pos ⟨hg4, hh4⟩]
    rw [hvg, decide_eq_true rfl, Bool.true_and] at h1
    have ek : ((k + 1 : Nat) : Int) - 1 = (k : Int) := by omega
    refine swp_draw (own := [74, 1011]) (.take 0 .plain [] (.take 1 .plain [] (.take 2 .plain [] (.take 3 .reads [] (.take 4 .reads [] (.take 5 .plain [] (.take 6 .plain [] (.take 7 .reads [] (.take 8 .reads [] (.alt 9 (.take 10 .plain [] (.take 11 .plain [] (.take 12 .plain [] (.take 13 .plain [] (.take 14 .plain [] (.done)))))) (.nil))))))))))) [⟨44, 2, 0, 0, true⟩, ⟨45, 4, 0, 0, true⟩, ⟨46, 17592186044416, 2, 0, true⟩, ⟨47, 43980465111040, 5, 0, true⟩, ⟨48, 70368744177664, 8, 0, true⟩, ⟨49, 2, 0, 0, true⟩, ⟨50, 4, 0, 0, true⟩, ⟨51, 844424930131968, 96, 0, true⟩, ⟨52, 1125899906842624, 128, 0, true⟩, ⟨53, 2392537302040576, 272, 0, false⟩, ⟨43, 4503599627370496, 512, 0, true⟩, ⟨54, 4398046511104, 1024, 0, true⟩, ⟨55, 4398046511104, 1024, 0, true⟩, ⟨8, 9007199254740992, 4095, 0, true⟩, ⟨9, 18014398509481984, 16383, 0, true⟩] mo (by kernel_rfl) ?_
    simp only [w_move, w_load, w_indexAddr, w_binOp, w_callF, w_aop, w_take, w_some, w_asome, w_anone, binC, idxC, arithC, cmpC, asP, asS, asI, loadA, St.ev, setS, AV.cells, AV.flat, AV.single, List.getD_cons_succ, List.getD_cons_zero, List.set_cons_succ, List.set_cons_zero, List.getElem?_cons_succ, List.getElem?_cons_zero, List.length_cons, List.length_nil, Bool.false_eq_true, if_false, if_true, true_and, and_true, List.all_cons, List.all_nil, Bool.and_true, Bool.true_and, Bool.not_true, Nat.zero_add, beq_self_eq_true, List.map_cons, List.map_nil, decide_true, Nat.reduceAdd, Nat.reduceLeDiff, Int.reduceAdd, ASch, St.put, Md.mem, Md.need, ti22, ti24, ek, Int.toNat_natCast, aget_gts hk0, aget_gts hk1]
    refine ⟨by unfold lim; omega, by omega, by omega, acall_v h1 rfl rfl ?_⟩
    cases hc : c[k].comm c[k + 1] with
    | false =>
      simp only [w_move, w_assign, w_binOp, w_extract, w_aop, w_take, w_some, w_asome, w_anone, w_nil, w_cons, awp, binC, cmpC, asT, asB, asI, asN, St.ev, St.step, setS, killS, AV.kill, AV.killL, Mem.kill, ACond_false, List.getD_cons_succ, List.getD_cons_zero, List.set_cons_succ, List.set_cons_zero, List.getElem?_cons_succ, List.getElem?_cons_zero, List.contains_nil, List.contains_cons, List.isEmpty_nil, Option.getD_some, Bool.false_eq_true, if_false, if_true, true_and, Bool.true_and, Bool.not_true, decide_true, nbeq, decide_false, Bool.or_false, Nat.reduceAdd, Nat.reduceEqDiff, Int.reduceAdd, ASch, St.put, Md.mem, Md.need]
      refine swp_draw (own := [74, 1011]) (.take 0 .plain [] (.take 1 .plain [] (.take 2 .plain [] (.take 3 .plain [] (.take 4 .plain [] (.take 5 .plain [] (.take 6 .reads [] (.take 7 .reads [] (.take 9 .plain [] (.take 10 .plain [] (.take 11 .reads [] (.take 12 .reads [] (.alt 8 (.alt 13 (.take 14 .plain [] (.take 15 .plain [] (.done))) (.nil)) (.nil)))))))))))))) [⟨58, 128, 0, 0, true⟩, ⟨59, 144115188075855872, 1, 0, true⟩, ⟨60, 288230376151711744, 2, 0, true⟩, ⟨61, 576460752303423490, 4, 0, true⟩, ⟨62, 576460752303423492, 4, 0, true⟩, ⟨63, 2882303761517117440, 20, 0, true⟩, ⟨64, 6341068275337658368, 44, 0, true⟩, ⟨65, 9799832789158199296, 68, 0, true⟩, ⟨66, 19023204826012975104, 132, 0, false⟩, ⟨67, 576460752303423490, 4, 0, true⟩, ⟨68, 576460752303423492, 4, 0, true⟩, ⟨69, 221937389636818042880, 1540, 0, true⟩, ⟨70, 295724365931656249344, 2052, 0, true⟩, ⟨71, 590872271111009075200, 4356, 0, false⟩, ⟨72, 1218061569617133830144, 8452, 0, true⟩, ⟨73, 2361759702187126030336, 16388, 0, true⟩] mo (by kernel_rfl) ?_
      simp only [w_move, w_pick, w_not, w_callF, w_aop, w_aopg, w_gdb, w_take, w_takeg, w_some, w_cons, awp, asB, St.ev, St.step, setS, killS, AV.kill, AV.killL, Mem.kill, ACond_true, ACond_false, List.getD_cons_succ, List.getD_cons_zero, List.set_cons_succ, List.set_cons_zero, List.getElem?_cons_succ, List.getElem?_cons_zero, List.contains_nil, List.contains_cons, List.isEmpty_nil, if_true, true_and, and_true, Bool.and_true, Bool.true_and, Bool.not_true, Bool.not_false, List.map_nil, nbeq, decide_false, Bool.or_false, Nat.reduceAdd, Nat.reduceEqDiff, Int.reduceAdd, Option.bind_some, ASch, St.put, Md.mem, Md.need, w_bf]
      refine acall_v s32 rfl rfl ?_
      simp only [w_assign, w_aop, w_anone, w_nil, w_cons, awp, asN, St.ev, St.step, setS, killS, AV.kill, AV.killL, Mem.kill, List.getD_cons_succ, List.getD_cons_zero, List.set_cons_succ, List.set_cons_zero, List.contains_nil, List.contains_cons, List.isEmpty_nil, Option.getD_some, Bool.false_eq_true, if_false, if_true, nbeq, decide_false, Bool.or_false, Nat.reduceEqDiff]
      exact aend_frz rfl ⟨rfl, rfl⟩
    | true =>
    simp only [w_move, w_assign, w_binOp, w_extract, w_aop, w_take, w_some, w_asome, w_anone, w_nil, w_cons, awp, binC, cmpC, asT, asB, asI, asN, St.ev, St.step, setS, killS, AV.kill, AV.killL, Mem.kill, ACond_false, List.getD_cons_succ, List.getD_cons_zero, List.set_cons_succ, List.set_cons_zero, List.getElem?_cons_succ, List.getElem?_cons_zero, List.contains_nil, List.contains_cons, List.isEmpty_nil, Option.getD_some, Bool.false_eq_true, if_false, if_true, true_and, Bool.true_and, Bool.not_true, decide_true, nbeq, decide_false, Bool.or_false, Nat.reduceAdd, Nat.reduceEqDiff, Int.reduceAdd, ASch, St.put, Md.mem, Md.need]
    refine swp_draw (own := [74, 1011]) (.take 0 .plain [] (.take 1 .plain [] (.take 2 .plain [] (.take 3 .plain [] (.take 4 .plain [] (.take 5 .plain [] (.take 6 .reads [] (.take 7 .reads [] (.take 9 .plain [] (.take 10 .plain [] (.take 11 .reads [] (.take 12 .reads [] (.alt 8 (.alt 13 (.take 14 .plain [] (.take 15 .plain [] (.done))) (.nil)) (.nil)))))))))))))) [⟨58, 128, 0, 0, true⟩, ⟨59, 144115188075855872, 1, 0, true⟩, ⟨60, 288230376151711744, 2, 0, true⟩, ⟨61, 576460752303423490, 4, 0, true⟩, ⟨62, 576460752303423492, 4, 0, true⟩, ⟨63, 2882303761517117440, 20, 0, true⟩, ⟨64, 6341068275337658368, 44, 0, true⟩, ⟨65, 9799832789158199296, 68, 0, true⟩, ⟨66, 19023204826012975104, 132, 0, false⟩, ⟨67, 576460752303423490, 4, 0, true⟩, ⟨68, 576460752303423492, 4, 0, true⟩, ⟨69, 221937389636818042880, 1540, 0, true⟩, ⟨70, 295724365931656249344, 2052, 0, true⟩, ⟨71, 590872271111009075200, 4356, 0, false⟩, ⟨72, 1218061569617133830144, 8452, 0, true⟩, ⟨73, 2361759702187126030336, 16388, 0, true⟩] mo (by kernel_rfl) ?_
    simp only [w_move, w_load, w_indexAddr, w_binOp, w_not, w_callF, w_aopg, w_gdb, w_take, w_takeg, w_some, w_asome, w_anone, binC, idxC, arithC, cmpC, asP, asS, asB, asI, loadA, St.ev, setS, AV.cells, AV.flat, AV.single, ACond_true, List.getD_cons_succ, List.getD_cons_zero, List.set_cons_succ, List.set_cons_zero, List.getElem?_cons_succ, List.getElem?_cons_zero, List.length_cons, List.length_nil, Bool.false_eq_true, if_false, if_true, true_and, and_true, List.all_cons, List.all_nil, Bool.and_true, Bool.true_and, Bool.not_true, Nat.zero_add, beq_self_eq_true, List.map_cons, List.map_nil, decide_true, Nat.reduceAdd, Nat.reduceLeDiff, Int.reduceAdd, Option.bind_some, ASch, St.put, Md.mem, Md.need, ti22, ti24, ek, Int.toNat_natCast, aget_gts hk0, aget_gts hk1]
    refine ⟨by unfold lim; omega, by omega, by omega, acall_v (s44 c[k]) rfl rfl ?_⟩
    simp only [w_callF, w_aopg, w_gdb, w_some, St.ev, St.step, setS, killS, AV.kill, AV.killL, Mem.kill, ACond_true, List.getD_cons_succ, List.getD_cons_zero, List.set_cons_succ, List.set_cons_zero, List.getElem?_cons_succ, List.getElem?_cons_zero, List.isEmpty_nil, if_true, and_true, Bool.and_true, beq_self_eq_true, List.map_cons, List.map_nil, Option.bind_some, ASch, gA]
    refine acall_v (s44 c[k + 1]) rfl rfl ?_
    simp only [w_pick, w_binOp, w_gdb, w_take, w_takeg, w_some, w_asome, w_anone, awp, binC, eqC, asG, asB, asI, St.ev, St.step, setS, killS, AV.kill, AV.killL, Mem.kill, ACond_true, ACond_false, ints, List.getD_cons_succ, List.getD_cons_zero, List.set_cons_succ, List.set_cons_zero, List.getElem?_cons_succ, List.getElem?_cons_zero, List.length_cons, List.length_nil, List.isEmpty_nil, if_true, true_and, and_true, Bool.and_true, Bool.true_and, Nat.zero_add, beq_self_eq_true, Nat.reduceAdd, Int.reduceAdd, Option.bind_some, ASch, St.put, Md.mem, Md.need, Option.map_some, ti24, gA]
    by_cases hs : [c[k].k, c[k].a, c[k].b, (0 : Int)] = [c[k + 1].k, c[k + 1].a, c[k + 1].b, 0]
    · simp only [w_callF, w_aop, w_cons, awp, St.ev, setS, ACond_true, ACond_false, List.getD_cons_succ, List.getD_cons_zero, List.set_cons_succ, List.set_cons_zero, List.contains_nil, List.contains_cons, List.map_nil, nbeq, decide_false, Bool.or_false, Nat.reduceAdd, Nat.reduceEqDiff, Int.reduceAdd, St.put, decide_eq_true hs]
      refine acall_v s32 rfl rfl ?_
      simp only [w_assign, w_aop, w_anone, w_nil, w_cons, awp, asN, St.ev, St.step, setS, killS, AV.kill, AV.killL, Mem.kill, List.getD_cons_succ, List.getD_cons_zero, List.set_cons_succ, List.set_cons_zero, List.contains_nil, List.contains_cons, List.isEmpty_nil, Option.getD_some, Bool.false_eq_true, if_false, if_true, nbeq, decide_false, Bool.or_false, Nat.reduceEqDiff]
      exact aend_frz rfl ⟨rfl, rfl⟩
    simp only [w_move, w_assign, w_load, w_store, w_indexAddr, w_binOp, w_buildSlice, w_append, w_aop, w_some, w_asome, w_anone, w_nil, w_cons, awp, binC, idxC, arithC, cmpC, asP, asQ, asO, asS, asI, asN, obA, loadA, storeA, putsA, Aw.newRow, St.ev, St.step, setS, killS, AV.kill, AV.killL, Mem.kill, AV.cells, AV.flat, AV.single, AV.cellular, ACond_true, ACond_false, Value.oneCell', List.getD_cons_succ, List.getD_cons_zero, List.set_cons_succ, List.set_cons_zero, List.getElem?_cons_zero, List.length_cons, List.length_nil, List.nil_append, List.contains_nil, List.contains_cons, List.isEmpty_nil, List.isEmpty_cons, Option.getD_some, Bool.false_eq_true, if_false, if_true, true_and, and_true, List.all_cons, List.all_nil, Bool.and_true, Bool.true_and, Bool.not_true, Nat.zero_add, beq_self_eq_true, List.map_cons, List.map_nil, decide_true, nbeq, decide_false, Bool.or_false, Nat.reduceAdd, Nat.reduceEqDiff, Nat.reduceMul, Nat.reduceLeDiff, Int.reduceAdd, Int.reduceMul, St.put, Option.map_some, gtsA_len, ti22, ti24, decide_eq_false hs, ek, Int.toNat_natCast, aget_gts hk0, aget_gts hk1, gtsA_len]
    have hsk : k + 1 < (c.set k c[k + 1]).length := by rw [List.length_set]; exact hk1
    rw [gts_set, gtsA_len, List.length_set, aget_gts hsk]
    refine ⟨⟨by decide, rfl⟩, ⟨by decide, by omega⟩, by unfold lim; omega, by omega, ⟨by omega, by omega⟩, by unfold lim; omega, by omega, ⟨by omega, by omega⟩, ?_⟩
    simp only [w_some, w_nil, awp, storeA, putsA, St.ev, St.step, setS, killS, AV.kill, AV.killL, Mem.kill, AV.cells, AV.flat, AV.single, AV.cellular, ACond_true, List.getD_cons_succ, List.getD_cons_zero, List.set_cons_succ, List.set_cons_zero, List.length_cons, List.length_nil, List.contains_nil, List.contains_cons, List.isEmpty_nil, Bool.false_eq_true, if_false, if_true, and_true, List.all_cons, List.all_nil, Bool.and_true, Nat.zero_add, beq_self_eq_true, decide_true, nbeq, decide_false, Bool.or_false, Bool.or_true, Nat.reduceAdd, Nat.reduceEqDiff, Nat.reduceLeDiff, Int.reduceAdd, gts_set]
    obtain ⟨u, g, h, v, ec, eu, eg, eh⟩ := exch hk1
    rw [getD_at hk0] at eg
    rw [getD_at hk1] at eh
    have eD : (c.set k c[k + 1]).set (k + 1) c[k] = u ++ h :: g :: v := by
      rw [← eg, ← eh]
      conv => lhs; rw [ec]
      rw [← eu, set_two]
    rw [eD]
    have hsame : g.same h = false := by
      unfold G4.same
      refine decide_eq_false fun e => hs ?_
      rw [← eg, ← eh, e.1, e.2.1, e.2.2]
    have hgo : okT g := by rw [eg]; exact okG_okT hg4
    have hho : okT h := by rw [eh]; exact okG_okT hh4
    have hb1 : bS g h = false := by
      have := comm_bS hgo hho hsame
      rw [eg, eh, hc, ← eg, ← eh] at this
      cases hx : bS g h with
      | false => rfl
      | true => rw [hx] at this; cases this
    have hbd : g.bound h = false := by rw [bound_bS hgo hho]; exact hb1
    have hbd' : h.bound g = false := by rw [bound_bS hho hgo, bS_sym]; exact hb1
    have hal : Al c (u ++ h :: g :: v) := by
      conv => lhs; rw [ec]
      exact Tr.alk_swap bT_bd hb1 u v
    have hcn : Cn.cnt G4.bound (u ++ h :: g :: v) = Cn.cnt G4.bound c := by
      conv => rhs; rw [ec]
      exact (Cn.cnt_swap G4.bound hbd hbd' _ u v (Nat.le_refl _)).symm
    have hvD := vC_al hv hal
    have hlD := Tr.alk_len bT_bd _ hal
    have hnm : nmS c = nmS (u ++ h :: g :: v) := (nmS_iff _ _).2 hal
    have hly : lyR G4.bound (u ++ h :: g :: v) = lyR G4.bound c := by
      rw [ly_bound (vC_Ok hvD), ly_bound (vC_Ok hv)]
      exact (ly_same c.length (Nat.le_refl _) hal).symm
    have k1 := s26 n c (u ++ h :: g :: v) (by omega) (by omega)
    rw [vC2_ofJ hv hvD, hnm, decide_eq_true rfl, decide_eq_true rfl] at k1
    have k1 : ASpec Try.prog 26 [I n, .s 4 (gtsA c), .s 4 (gtsA (u ++ h :: g :: v))] (fun r Ms => r = .t [B true, I 0] ∧ Ms = []) := k1
    have k2 := s25 n c (by omega)
    have k3 := s25 n (u ++ h :: g :: v) (by omega)
    rw [if_pos hv, hv] at k2
    rw [if_pos hvD, hvD, ← hnm] at k3
    have k4 := s23 n c (by omega)
    have k5 := s23 n (u ++ h :: g :: v) (by omega)
    rw [if_pos hv, hv] at k4
    rw [if_pos hvD, hvD, hly] at k5
    have k6 := s20 n c (by omega)
    have k7 := s20 n (u ++ h :: g :: v) (by omega)
    rw [if_pos hv, hv] at k6
    rw [if_pos hvD, hvD, hcn] at k7
    have hnl := nmS_len c
    have k8 := s29 (nmS c) (nmS c) (by omega) (by omega)
    rw [decide_eq_true rfl] at k8
    have hll : (lyR G4.bound c).length ≤ 10000 := by have := ly_lenJ G4.bound c.length c; unfold lyR; omega
    have hle : ∀ x ∈ lyR G4.bound c, x.length ≤ 10000 := fun x hx => by
      rw [ly_bound (vC_Ok hv)] at hx
      have h1 := mem_flatJ hx
      have h2 := Tr.alk_len bT_bd _ (ly_al c.length (Nat.le_refl c.length))
      omega
    have k9 := s46 (lyR G4.bound c) (lyR G4.bound c) hll hll hle hle
    rw [decide_eq_true rfl] at k9
    generalize u ++ h :: g :: v = D at k1 k3 k5 k7
    generalize nmS c = N at k2 k3 k8
    generalize lyR G4.bound c = L at k4 k5 k9
    generalize Cn.cnt G4.bound c = K at k6 k7
    refine swp_le (le_frz 0 rfl (gtsA_pure _)) (swp_text (own := [74]) ?_)
    simp only [w_move, w_callF, w_aop, w_cons, St.ev, St.step, setS, killS, AV.kill, AV.killL, Mem.kill, List.getD_cons_succ, List.getD_cons_zero, List.set_cons_succ, List.set_cons_zero, List.isEmpty_nil, if_true, List.map_cons, List.map_nil, Option.map_none, frz1, frzM, AV.sub, AV.subL]
    refine acall_v k1 rfl rfl ?_
    simp only [w_move, w_assign, w_extract, w_callF, w_aop, w_some, w_anone, w_nil, w_cons, awp, asT, asN, St.ev, St.step, setS, killS, AV.kill, AV.killL, Mem.kill, ACond_false, List.getD_cons_succ, List.getD_cons_zero, List.set_cons_succ, List.set_cons_zero, List.getElem?_cons_succ, List.getElem?_cons_zero, List.contains_nil, List.contains_cons, List.isEmpty_nil, Option.getD_some, Bool.false_eq_true, if_false, if_true, List.map_cons, List.map_nil, nbeq, decide_false, Bool.or_false, Nat.reduceAdd, Nat.reduceEqDiff, Int.reduceAdd]
    refine acall_v k2 rfl rfl ?_
    simp only [w_move, w_assign, w_extract, w_callF, w_aop, w_some, w_anone, w_nil, w_cons, awp, asT, asN, St.ev, St.step, setS, killS, AV.kill, AV.killL, Mem.kill, ACond_false, List.getD_cons_succ, List.getD_cons_zero, List.set_cons_succ, List.set_cons_zero, List.getElem?_cons_succ, List.getElem?_cons_zero, List.contains_nil, List.contains_cons, List.isEmpty_nil, Option.getD_some, Bool.false_eq_true, if_false, if_true, List.map_cons, List.map_nil, nbeq, decide_false, Bool.or_false, Nat.reduceAdd, Nat.reduceEqDiff, Int.reduceAdd]
    refine acall_v k3 rfl rfl ?_
    simp only [w_move, w_assign, w_extract, w_callF, w_aop, w_some, w_anone, w_nil, w_cons, awp, asT, asN, St.ev, St.step, setS, killS, AV.kill, AV.killL, Mem.kill, ACond_false, List.getD_cons_succ, List.getD_cons_zero, List.set_cons_succ, List.set_cons_zero, List.getElem?_cons_succ, List.getElem?_cons_zero, List.contains_nil, List.contains_cons, List.isEmpty_nil, Option.getD_some, Bool.false_eq_true, if_false, if_true, List.map_cons, List.map_nil, nbeq, decide_false, Bool.or_false, Nat.reduceAdd, Nat.reduceEqDiff, Int.reduceAdd]
    refine acall_v k4 rfl rfl ?_
    simp only [w_move, w_assign, w_extract, w_callF, w_aop, w_some, w_anone, w_nil, w_cons, awp, asT, asN, St.ev, St.step, setS, killS, AV.kill, AV.killL, Mem.kill, ACond_false, List.getD_cons_succ, List.getD_cons_zero, List.set_cons_succ, List.set_cons_zero, List.getElem?_cons_succ, List.getElem?_cons_zero, List.contains_nil, List.contains_cons, List.isEmpty_nil, Option.getD_some, Bool.false_eq_true, if_false, if_true, List.map_cons, List.map_nil, nbeq, decide_false, Bool.or_false, Nat.reduceAdd, Nat.reduceEqDiff, Int.reduceAdd]
    refine acall_v k5 rfl rfl ?_
    simp only [w_move, w_assign, w_extract, w_callF, w_aop, w_some, w_anone, w_nil, w_cons, awp, asT, asN, St.ev, St.step, setS, killS, AV.kill, AV.killL, Mem.kill, ACond_false, List.getD_cons_succ, List.getD_cons_zero, List.set_cons_succ, List.set_cons_zero, List.getElem?_cons_succ, List.getElem?_cons_zero, List.contains_nil, List.contains_cons, List.isEmpty_nil, Option.getD_some, Bool.false_eq_true, if_false, if_true, List.map_cons, List.map_nil, nbeq, decide_false, Bool.or_false, Nat.reduceAdd, Nat.reduceEqDiff, Int.reduceAdd]
    refine acall_v k6 rfl rfl ?_
    simp only [w_move, w_assign, w_extract, w_callF, w_aop, w_some, w_anone, w_nil, w_cons, awp, asT, asN, St.ev, St.step, setS, killS, AV.kill, AV.killL, Mem.kill, ACond_false, List.getD_cons_succ, List.getD_cons_zero, List.set_cons_succ, List.set_cons_zero, List.getElem?_cons_succ, List.getElem?_cons_zero, List.contains_nil, List.contains_cons, List.isEmpty_nil, Option.getD_some, Bool.false_eq_true, if_false, if_true, List.map_cons, List.map_nil, nbeq, decide_false, Bool.or_false, Nat.reduceAdd, Nat.reduceEqDiff, Int.reduceAdd]
    refine acall_v k7 rfl rfl ?_
    simp only [w_move, w_assign, w_pick, w_binOp, w_extract, w_callF, w_aop, w_aopg, w_gdb, w_some, w_asome, w_anone, w_nil, w_cons, awp, binC, cmpC, asT, asB, asI, asN, St.ev, St.step, setS, killS, AV.kill, AV.killL, Mem.kill, ACond_true, ACond_false, List.getD_cons_succ, List.getD_cons_zero, List.set_cons_succ, List.set_cons_zero, List.getElem?_cons_succ, List.getElem?_cons_zero, List.contains_nil, List.contains_cons, List.isEmpty_nil, Option.getD_some, Bool.false_eq_true, if_false, if_true, true_and, Bool.true_and, beq_self_eq_true, List.map_cons, List.map_nil, decide_true, nbeq, decide_false, Bool.or_false, Nat.reduceAdd, Nat.reduceEqDiff, Int.reduceAdd, Option.bind_some]
    refine acall_v k8 rfl rfl ?_
    simp only [w_move, w_pick, w_binOp, w_callF, w_aop, w_aopg, w_gdb, w_some, w_asome, w_cons, binC, cmpC, asB, asI, St.ev, St.step, setS, killS, AV.kill, AV.killL, Mem.kill, ACond_true, List.getD_cons_succ, List.getD_cons_zero, List.set_cons_succ, List.set_cons_zero, List.getElem?_cons_succ, List.getElem?_cons_zero, List.isEmpty_nil, if_true, true_and, Bool.true_and, beq_self_eq_true, List.map_cons, List.map_nil, decide_true, Option.bind_some]
    refine acall_v k9 rfl rfl ?_
    simp only [w_move, w_pick, w_binOp, w_callF, w_aop, w_aopg, w_gdb, w_some, w_asome, w_cons, binC, cmpC, asB, asI, St.ev, St.step, setS, killS, AV.kill, AV.killL, Mem.kill, ACond_true, List.getD_cons_succ, List.getD_cons_zero, List.set_cons_succ, List.set_cons_zero, List.getElem?_cons_succ, List.getElem?_cons_zero, List.isEmpty_nil, if_true, true_and, Bool.true_and, beq_self_eq_true, List.map_nil, decide_true, Option.bind_some]
    refine acall_v s32 rfl rfl ?_
    simp only [w_assign, w_pick, w_aop, w_some, w_anone, w_nil, w_cons, awp, asB, asN, St.ev, St.step, setS, killS, AV.kill, AV.killL, Mem.kill, ACond_true, List.getD_cons_succ, List.getD_cons_zero, List.set_cons_succ, List.set_cons_zero, List.contains_nil, List.contains_cons, List.isEmpty_nil, Option.getD_some, Bool.false_eq_true, if_false, if_true, nbeq, decide_false, Bool.or_false, Nat.reduceEqDiff]
    exact aend_frz rfl ⟨rfl, rfl⟩
  · simp only [w_move, w_pick, w_callF, w_aop, w_aopg, w_gdb, w_some, w_nil, w_cons, awp, asB, St.ev, St.step, setS, killS, AV.kill, AV.killL, Mem.kill, ACond_true, ACond_false, List.getD_cons_succ, List.getD_cons_zero, List.set_cons_succ, List.set_cons_zero, List.getElem?_cons_succ, List.getElem?_cons_zero, List.contains_nil, List.contains_cons, List.isEmpty_nil, if_true, Bool.not_true, Bool.not_false, List.map_nil, nbeq, decide_false, Bool.or_false, Nat.reduceAdd, Nat.reduceEqDiff, Int.reduceAdd, Option.bind_some, w_bf, decide_eq_false hv]
    refine acall_v s32 rfl rfl ?_
    simp only [w_assign, w_aop, w_anone, w_nil, w_cons, awp, asN, St.ev, St.step, setS, killS, AV.kill, AV.killL, Mem.kill, List.getD_cons_succ, List.getD_cons_zero, List.set_cons_succ, List.set_cons_zero, List.contains_nil, List.contains_cons, List.isEmpty_nil, Option.getD_some, Bool.false_eq_true, if_false, if_true, nbeq, decide_false, Bool.or_false, Nat.reduceEqDiff]
    exact aend_frz rfl ⟨rfl, rfl⟩
end Go.Proofs.Ytkmbbbemmohmcaa
