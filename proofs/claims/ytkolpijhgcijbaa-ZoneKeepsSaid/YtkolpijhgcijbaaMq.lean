/-
  Several texts in one: FnAN, FnAP, FnAQ.
-/
import Derived.Test.YtkolpijhgcijbaaMo
import Derived.Test.YtkolpijhgcijbaaMl
import Derived.Test.YtkolpijhgcijbaaMd
set_option linter.unusedSimpArgs false
set_option linter.unusedVariables false
namespace Go.Proofs.Ytkolpijhgcijbaa
open Aw Go.RowKit
set_option linter.unusedSimpArgs false

theorem lnk_sym (ls : List (Int × Int)) (a b : Int) : lnk ls a b = lnk ls b a := lnk_comm' ls a b
theorem lnk_irr {n : Int} {ls : List (Int × Int)} (hv : ∀ l ∈ ls, okLn n l) (a : Int) : lnk ls a a = false := by
  rw [Bool.eq_false_iff, lnk, ne_eq, memL_eq]
  intro h
  have := hv _ h
  simp [okLn] at this

/-- an order of all zones. -/
structure Ord (n : Int) (o : List Int) : Prop where
  len : o.length = n.toNat
  nd : o.Nodup
  rng : ∀ x ∈ o, 0 ≤ x ∧ x < n
theorem Ord.all {n : Int} {o : List Int} (h : Ord n o) {z : Int} (hz : 0 ≤ z ∧ z < n) : z ∈ o := by
  rcases Classical.em (z ∈ o) with h1 | h1
  · exact h1
  · have := nodup_rng (n := n) (z :: o) (List.nodup_cons.2 ⟨h1, h.nd⟩) (fun x hx => by
      rcases List.mem_cons.1 hx with rfl | hx
      · exact hz
      · exact h.rng x hx)
    simp only [List.length_cons, h.len] at this
    omega
theorem Ord.inj {n : Int} {o : List Int} (h : Ord n o) {i j : Nat} (hi : i < o.length) (hj : j < o.length) (e : o[i] = o[j]) : i = j := by
  have := h.nd
  rw [List.Nodup, List.pairwise_iff_getElem] at this
  rcases Nat.lt_trichotomy i j with h1 | h1 | h1
  · exact absurd e (this i j hi hj h1)
  · exact h1
  · exact absurd e.symm (this j i hj hi h1)

/-- the places i and j of an order are to have a link. -/
def nbF (m : Nat) (round : Bool) (i j : Nat) : Bool := decide (i + 1 = j) || decide (j + 1 = i) || (round && ((decide (i = 0) && decide (j + 1 = m)) || (decide (j = 0) && decide (i + 1 = m))))
theorem nbF_sym (m : Nat) (round : Bool) (i j : Nat) : nbF m round i j = nbF m round j i := by
  unfold nbF
  cases decide (i + 1 = j) <;> cases decide (j + 1 = i) <;> cases decide (i = 0) <;> cases decide (j = 0) <;> cases decide (j + 1 = m) <;> cases decide (i + 1 = m) <;> cases round <;> rfl
def Vld (ls : List (Int × Int)) (o : List Int) (round : Bool) : Prop := ∀ (i j : Nat) (hi : i < o.length) (hj : j < o.length), i ≠ j → lnk ls o[i] o[j] = nbF o.length round i j

theorem chR_iff {ls : List (Int × Int)} {o : List Int} {round : Bool} : chR ls o round = true ↔ Vld ls o round := by
  have hg : ∀ i (h : i < o.length), o.getD i 0 = o[i] := fun i h => by rw [List.getD_eq_getElem?_getD, List.getElem?_eq_getElem h]; rfl
  have hn : ∀ k i, k < i → i < o.length → nbr o.length round k i = nbF o.length round k i := by
    intro k i hk hi
    have e1 : decide (i + 1 = k) = false := decide_eq_false (by omega)
    have e2 : decide (i = 0) = false := decide_eq_false (by omega)
    have e3 : decide ((k : Int) = (i : Int) - 1) = decide (k + 1 = i) := decide_eq_decide.2 (by omega)
    have e4 : decide ((k : Int) = 0) = decide (k = 0) := decide_eq_decide.2 (by omega)
    have e5 : decide ((i : Int) = (o.length : Int) - 1) = decide (i + 1 = o.length) := decide_eq_decide.2 (by omega)
    simp only [nbr, nbF, e1, e2, e3, e4, e5, Bool.or_false, Bool.false_and, Bool.and_assoc]
  constructor
  · intro h
    have key : ∀ k i, k < i → (hi : i < o.length) → (hk : k < o.length) → lnk ls o[k] o[i] = nbF o.length round k i := by
      intro k i hki hi hk
      have h1 := List.all_eq_true.1 h i (List.mem_range.2 hi)
      have h2 := List.all_eq_true.1 h1 k (List.mem_range.2 hki)
      rw [hg k hk, hg i hi, hn k i hki hi] at h2
      simpa using h2
    intro i j hi hj hij
    rcases Nat.lt_or_ge i j with h1 | h1
    · exact key i j h1 hj hi
    · rw [lnk_sym, nbF_sym]; exact key j i (by omega) hi hj
  · intro h
    refine all_range_true fun i hi => all_range_true fun k hk => ?_
    rw [hg k (by omega), hg i hi, hn k i hk hi, h k i (by omega) hi (by omega)]
    simp

/-! the zones near one, in ascending order -/
theorem nr_sorted (n : Int) (ls : List (Int × Int)) (z : Int) : (nr n ls z).Pairwise (· < ·) := by
  unfold nr upL
  refine List.Pairwise.filter _ ?_
  rw [List.pairwise_map]
  refine List.pairwise_lt_range.imp ?_
  intro a b h; omega
theorem nr_nodup (n : Int) (ls : List (Int × Int)) (z : Int) : (nr n ls z).Nodup := (nr_sorted n ls z).imp fun h => by omega
theorem find_min {l : List Int} (hs : l.Pairwise (· < ·)) {p : Int → Bool} {y : Int} (hy : y ∈ l) (hp : p y = true) (hmin : ∀ x ∈ l, p x = true → y ≤ x) : l.find? p = some y := by
  cases hf : l.find? p with
  | none => rw [List.find?_eq_none] at hf; exact absurd hp (hf y hy)
  | some x =>
    rw [List.find?_eq_some_iff_getElem] at hf
    obtain ⟨hpx, i, hi, rfl, hno⟩ := hf
    obtain ⟨j, hj, rfl⟩ := List.mem_iff_getElem.1 hy
    have h1 := hmin l[i] (List.getElem_mem hi) hpx
    rcases Nat.lt_trichotomy i j with h | h | h
    · have := List.pairwise_iff_getElem.1 hs i j hi hj h
      omega
    · subst h; rfl
    · have := hno j h
      rw [hp] at this
      cases this

/-- the walk follows an order. -/
theorem chK_ord {n : Int} {ls : List (Int × Int)} {o : List Int} {round : Bool} (hn : 0 ≤ n) (ho : Ord n o) (hv : Vld ls o round) (h2 : round = true → ∀ (h1 : 1 < o.length), o[1] ≤ o[o.length - 1]) :
    ∀ (f j : Nat), j < o.length → o.length ≤ j + 1 + f → chK n ls f (o.take (j + 1)) = o
  | 0, j, hj, hf => by
    rw [List.take_of_length_le (by omega)]; rfl
  | f + 1, j, hj, hf => by
    have hlast : (o.take (j + 1)).getLastD 0 = o[j] := by
      rw [getLast_at (by simp; omega)]
      simp only [List.length_take, List.getElem_take]
      congr 1
      omega
    have hmem : ∀ (i : Nat) (hi : i < o.length), memL (o.take (j + 1)) o[i] = decide (i < j + 1) := by
      intro i hi
      by_cases h : i < j + 1
      · rw [decide_eq_true h, memL_eq]
        exact List.mem_take_iff_getElem.2 ⟨i, by omega, rfl⟩
      · rw [decide_eq_false h, Bool.eq_false_iff, ne_eq, memL_eq]
        intro hm
        obtain ⟨q, hq, e⟩ := List.mem_take_iff_getElem.1 hm
        have := ho.inj (by omega) hi e
        omega
    conv => lhs; unfold chK
    rw [hlast]
    by_cases hj1 : j + 1 < o.length
    · have hfind : (nr n ls o[j]).find? (fun z => !memL (o.take (j + 1)) z) = some o[j + 1] := by
        refine find_min (nr_sorted n ls o[j]) ((mem_nr hn).2 ⟨ho.rng _ (List.getElem_mem hj1), ?_⟩) ?_ ?_
        · rw [hv j (j + 1) hj hj1 (by omega)]
          simp [nbF]
        · rw [hmem (j + 1) hj1]; simp
        · intro x hx hp
          obtain ⟨hr, hl⟩ := (mem_nr hn).1 hx
          obtain ⟨i, hi, rfl⟩ := List.mem_iff_getElem.1 (ho.all hr)
          rw [hmem i hi] at hp
          have hij : ¬ i < j + 1 := by simpa using hp
          rw [hv j i hj hi (by omega)] at hl
          simp only [nbF, Bool.or_eq_true, Bool.and_eq_true, decide_eq_true_eq] at hl
          rcases hl with (hl | hl) | ⟨hr', hl | hl⟩
          · subst hl; exact Int.le_refl _
          · omega
          · obtain ⟨rfl, hl⟩ := hl
            have := h2 hr' (by omega)
            have e : i = o.length - 1 := by omega
            subst e
            exact this
          · omega
      rw [hfind]
      show chK n ls f (o.take (j + 1) ++ [o[j + 1]]) = o
      rw [List.take_append_getElem hj1]
      exact chK_ord hn ho hv h2 f (j + 1) hj1 (by omega)
    · have hfind : (nr n ls o[j]).find? (fun z => !memL (o.take (j + 1)) z) = none := by
        rw [List.find?_eq_none]
        intro x hx
        obtain ⟨hr, hl⟩ := (mem_nr hn).1 hx
        obtain ⟨i, hi, rfl⟩ := List.mem_iff_getElem.1 (ho.all hr)
        rw [hmem i hi]
        simp; omega
      rw [hfind]
      exact List.take_of_length_le (by omega)

/-- the links of an order's neighbors. -/
def lkE (o : List Int) : List (Int × Int) := (List.range (o.length - 1)).map fun i => (min (o.getD i 0) (o.getD (i + 1) 0), max (o.getD i 0) (o.getD (i + 1) 0))
theorem lkE_len (o : List Int) : (lkE o).length = o.length - 1 := by simp [lkE]
theorem getD_at {o : List Int} {i : Nat} (h : i < o.length) : o.getD i 0 = o[i] := by rw [List.getD_eq_getElem?_getD, List.getElem?_eq_getElem h]; rfl
theorem mem_lkE {o : List Int} {x : Int × Int} : x ∈ lkE o ↔ ∃ (i : Nat) (h : i + 1 < o.length), x = (min o[i] o[i + 1], max o[i] o[i + 1]) := by
  simp only [lkE, List.mem_map, List.mem_range]
  constructor
  · rintro ⟨i, hi, rfl⟩
    have h : i + 1 < o.length := by omega
    exact ⟨i, h, by rw [getD_at (by omega), getD_at h]⟩
  · rintro ⟨i, h, rfl⟩
    exact ⟨i, by omega, by rw [getD_at (by omega), getD_at h]⟩
theorem pair_eq {a b c d : Int} (h : (min a b, max a b) = (min c d, max c d)) : (a = c ∧ b = d) ∨ (a = d ∧ b = c) := by
  simp only [Prod.mk.injEq] at h
  omega
theorem lkE_nodup {n : Int} {o : List Int} (ho : Ord n o) : (lkE o).Nodup := by
  rw [List.Nodup, List.pairwise_iff_getElem]
  intro i j hi hj hij e
  rw [lkE_len] at hi hj
  simp only [lkE, List.getElem_map, List.getElem_range] at e
  rw [getD_at (show i < o.length by omega), getD_at (show i + 1 < o.length by omega), getD_at (show j < o.length by omega), getD_at (show j + 1 < o.length by omega)] at e
  rcases pair_eq e with ⟨h1, h2⟩ | ⟨h1, h2⟩
  · have := ho.inj _ _ h1; omega
  · have := ho.inj _ _ h1
    have := ho.inj _ _ h2
    omega
theorem lkE_sub {ls : List (Int × Int)} {o : List Int} (h : ∀ (i : Nat) (h : i + 1 < o.length), lnk ls o[i] o[i + 1] = true) : ∀ x ∈ lkE o, x ∈ ls := by
  intro x hx
  obtain ⟨i, hi, rfl⟩ := mem_lkE.1 hx
  exact (memL_eq _ _).1 (h i hi)
/-- each link is one of two places of an order. -/
theorem lk_at {n : Int} {ls : List (Int × Int)} (hls : ∀ l ∈ ls, okLn n l) {o : List Int} (ho : Ord n o) {x : Int × Int} (hx : x ∈ ls) : ∃ (i j : Nat) (hi : i < o.length) (hj : j < o.length), i ≠ j ∧ x = (min o[i] o[j], max o[i] o[j]) ∧ lnk ls o[i] o[j] = true := by
  have h1 := hls x hx
  obtain ⟨i, hi, e1⟩ := List.mem_iff_getElem.1 (ho.all (z := x.1) (by unfold okLn at h1; omega))
  obtain ⟨j, hj, e2⟩ := List.mem_iff_getElem.1 (ho.all (z := x.2) (by unfold okLn at h1; omega))
  unfold okLn at h1
  have e3 : x = (min o[i] o[j], max o[i] o[j]) := by
    rw [e1, e2, Int.min_eq_left (by omega), Int.max_eq_right (by omega)]
  refine ⟨i, j, hi, hj, ?_, e3, ?_⟩
  · rintro rfl
    rw [e1] at e2
    omega
  · rw [lnk, memL_eq, ← e3]; exact hx
theorem nodup_full {α : Type} [DecidableEq α] {a b : List α} (ha : a.Nodup) (hb : b.Nodup) (h : ∀ x ∈ a, x ∈ b) (hl : b.length ≤ a.length) : ∀ x ∈ b, x ∈ a := by
  intro x hx
  rcases Classical.em (x ∈ a) with h1 | h1
  · exact h1
  · have := nodup_sub (x :: a) b (List.nodup_cons.2 ⟨h1, ha⟩) (fun y hy => by
      rcases List.mem_cons.1 hy with rfl | hy
      · exact hx
      · exact h y hy)
    simp only [List.length_cons] at this
    omega

/-! a line -/
theorem line_len {n : Int} {ls : List (Int × Int)} (hls : ∀ l ∈ ls, okLn n l) (hnd : ls.Nodup) {o : List Int} (ho : Ord n o) (hv : Vld ls o false) : ls.length = o.length - 1 := by
  apply Nat.le_antisymm
  · rw [← lkE_len o]
    refine nodup_sub ls (lkE o) hnd fun x hx => ?_
    obtain ⟨i, j, hi, hj, hij, rfl, hl⟩ := lk_at hls ho hx
    rw [hv i j hi hj hij] at hl
    simp only [nbF, Bool.false_and, Bool.or_false, Bool.or_eq_true, decide_eq_true_eq] at hl
    rw [mem_lkE]
    rcases hl with rfl | rfl
    · exact ⟨i, hj, rfl⟩
    · exact ⟨j, hi, by rw [Int.min_comm, Int.max_comm]⟩
  · rw [← lkE_len o]
    exact nodup_sub _ _ (lkE_nodup ho) (lkE_sub fun i hi => by rw [hv i (i + 1) (by omega) hi (by omega)]; simp [nbF])

theorem len_le_one {l : List Int} (hnd : l.Nodup) {y : Int} (h : ∀ x ∈ l, x = y) : l.length ≤ 1 :=
  nodup_sub l [y] hnd fun x hx => by rw [h x hx]; simp
theorem two_le {l : List Int} {a b : Int} (ha : a ∈ l) (hb : b ∈ l) (hne : a ≠ b) : 2 ≤ l.length :=
  nodup_sub [a, b] l (by simp [hne]) fun x hx => by
    simp only [List.mem_cons, List.not_mem_nil, or_false] at hx
    rcases hx with rfl | rfl
    · exact ha
    · exact hb
theorem line_ends {n : Int} {ls : List (Int × Int)} (hn : 0 ≤ n) (hls : ∀ l ∈ ls, okLn n l) {o : List Int} (ho : Ord n o) (hv : Vld ls o false) {i : Nat} (hi : i < o.length) : (nr n ls o[i]).length ≤ 1 ↔ (i = 0 ∨ i + 1 = o.length) := by
  have near : ∀ x ∈ nr n ls o[i], ∃ (j : Nat) (hj : j < o.length), x = o[j] ∧ (i + 1 = j ∨ j + 1 = i) := by
    intro x hx
    obtain ⟨hr, hl⟩ := (mem_nr hn).1 hx
    obtain ⟨j, hj, rfl⟩ := List.mem_iff_getElem.1 (ho.all hr)
    have hij : i ≠ j := by rintro rfl; rw [lnk_irr hls] at hl; cases hl
    rw [hv i j hi hj hij] at hl
    simp only [nbF, Bool.false_and, Bool.or_false, Bool.or_eq_true, decide_eq_true_eq] at hl
    exact ⟨j, hj, rfl, hl⟩
  constructor
  · intro h
    rcases Classical.em (i = 0 ∨ i + 1 = o.length) with h1 | h1
    · exact h1
    · exfalso
      have hp : i - 1 < o.length := by omega
      have hs : i + 1 < o.length := by omega
      have m1 : o[i - 1] ∈ nr n ls o[i] := (mem_nr hn).2 ⟨ho.rng _ (List.getElem_mem hp), by rw [hv i (i - 1) hi hp (by omega)]; simp [nbF]; omega⟩
      have m2 : o[i + 1] ∈ nr n ls o[i] := (mem_nr hn).2 ⟨ho.rng _ (List.getElem_mem hs), by rw [hv i (i + 1) hi hs (by omega)]; simp [nbF]⟩
      have := two_le m1 m2 (fun e => by have := ho.inj hp hs e; omega)
      omega
  · intro h
    by_cases h1 : i = 0
    · subst h1
      by_cases h2 : 1 < o.length
      · refine len_le_one (nr_nodup n ls _) (y := o[1]) fun x hx => ?_
        obtain ⟨j, hj, rfl, h3⟩ := near x hx
        have : j = 1 := by omega
        subst this; rfl
      · refine len_le_one (nr_nodup n ls _) (y := 0) fun x hx => ?_
        obtain ⟨j, hj, rfl, h3⟩ := near x hx
        omega
    · have hp : i - 1 < o.length := by omega
      refine len_le_one (nr_nodup n ls _) (y := o[i - 1]) fun x hx => ?_
      obtain ⟨j, hj, rfl, h3⟩ := near x hx
      have : j = i - 1 := by omega
      subst this; rfl

theorem ord_rev {n : Int} {o : List Int} (ho : Ord n o) : Ord n o.reverse := ⟨by simp [ho.len], by rw [List.Nodup, List.pairwise_reverse]; exact ho.nd.imp fun h => Ne.symm h, fun x hx => ho.rng x (by simpa using hx)⟩
theorem vld_rev {ls : List (Int × Int)} {o : List Int} (hv : Vld ls o false) : Vld ls o.reverse false := by
  intro i j hi hj hij
  simp only [List.length_reverse] at hi hj
  simp only [List.getElem_reverse, List.length_reverse]
  rw [hv _ _ (by omega) (by omega) (by omega)]
  simp only [nbF, Bool.false_and, Bool.or_false]
  rw [Bool.or_comm]
  congr 1
  · exact decide_eq_decide.2 (by omega)
  · exact decide_eq_decide.2 (by omega)

/-- what the walk keeps. -/
structure ChJ (n : Int) (ls : List (Int × Int)) (z : Int) (out : List Int) : Prop where
  ci : ChI n out
  hd : out.head? = some z
  lk : ∀ (i : Nat) (h : i + 1 < out.length), lnk ls out[i] out[i + 1] = true
theorem chK_J {n : Int} {ls : List (Int × Int)} (hn : 0 ≤ n) {z : Int} : ∀ (f : Nat) (out : List Int), ChJ n ls z out → ChJ n ls z (chK n ls f out) ∧ out <+: chK n ls f out
  | 0, out, h => ⟨h, List.prefix_refl _⟩
  | f + 1, out, h => by
    unfold chK
    cases hf : (nr n ls (out.getLastD 0)).find? (fun z => !memL out z) with
    | none => exact ⟨h, List.prefix_refl _⟩
    | some y =>
      have hm : memL out y = false := by have := List.find?_some hf; simpa using this
      have hy := List.mem_of_find?_eq_some hf
      have hpos := h.ci.pos
      rw [getLast_at hpos] at hy
      have hl := ((mem_nr hn).1 hy).2
      have hJ : ChJ n ls z (out ++ [y]) := by
        refine ⟨h.ci.add hn hy hm, by rw [List.head?_append, h.hd]; rfl, fun i hi => ?_⟩
        simp only [List.length_append, List.length_singleton] at hi
        rcases Nat.lt_or_ge (i + 1) out.length with h1 | h1
        · rw [List.getElem_append_left (by omega), List.getElem_append_left h1]
          exact h.lk i h1
        · have e : i = out.length - 1 := by omega
          subst e
          rw [List.getElem_append_left (by omega), List.getElem_append_right (by omega)]
          simp only [List.getElem_singleton]
          exact hl
      obtain ⟨g1, g2⟩ := chK_J hn f _ hJ
      exact ⟨g1, (List.prefix_append out [y]).trans g2⟩
theorem ChJ.start {n : Int} {ls : List (Int × Int)} {z : Int} (hz : 0 ≤ z ∧ z < n) : ChJ n ls z [z] := ⟨⟨by simp, by simp, by simpa using hz⟩, rfl, fun i h => by simp at h⟩
theorem chK_head {n : Int} {ls : List (Int × Int)} {z : Int} (hz : 0 ≤ z ∧ z < n) (h : 0 < (chK n ls n.toNat [z]).length) : (chK n ls n.toNat [z])[0] = z := by
  have := (chK_J (ls := ls) (by omega) n.toNat [z] (ChJ.start hz)).1.hd
  rw [List.head?_eq_getElem?, List.getElem?_eq_getElem h] at this
  injection this

theorem line_of {n : Int} {ls : List (Int × Int)} (hn : 0 ≤ n) (hls : ∀ l ∈ ls, okLn n l) (hnd : ls.Nodup) {z : Int} (hz : 0 ≤ z ∧ z < n) (hl : ls.length = n.toNat - 1) (hlen : (chK n ls n.toNat [z]).length = n.toNat) : Ord n (chK n ls n.toNat [z]) ∧ Vld ls (chK n ls n.toNat [z]) false := by
  have hJ := (chK_J (ls := ls) hn n.toNat [z] (ChJ.start hz)).1
  generalize chK n ls n.toNat [z] = o at *
  have ho : Ord n o := ⟨hlen, hJ.ci.nd, hJ.ci.rng⟩
  have hfull := nodup_full (lkE_nodup ho) hnd (lkE_sub hJ.lk) (by rw [lkE_len, hl, hlen]; exact Nat.le_refl _)
  refine ⟨ho, fun i j hi hj hij => ?_⟩
  rw [Bool.eq_iff_iff]
  simp only [nbF, Bool.false_and, Bool.or_false, Bool.or_eq_true, decide_eq_true_eq]
  constructor
  · intro h
    have hx : (min o[i] o[j], max o[i] o[j]) ∈ ls := (memL_eq _ _).1 h
    obtain ⟨q, hq, e⟩ := mem_lkE.1 (hfull _ hx)
    rcases pair_eq e with ⟨h1, h2⟩ | ⟨h1, h2⟩
    · have := ho.inj _ _ h1
      have := ho.inj _ _ h2
      omega
    · have := ho.inj _ _ h1
      have := ho.inj _ _ h2
      omega
  · rintro (rfl | rfl)
    · exact hJ.lk i hj
    · rw [lnk_sym]; exact hJ.lk j hi
end Go.Proofs.Ytkolpijhgcijbaa

namespace Go.Proofs.Ytkolpijhgcijbaa
open Aw Go.RowKit
set_option linter.unusedSimpArgs false

/-! all orders -/
theorem cons_erase : ∀ (l : List Int) (i : Nat) (h : i < l.length), (l[i] :: l.eraseIdx i).Perm l
  | x :: l, 0, _ => List.Perm.refl _
  | x :: l, i + 1, h => by
    have := cons_erase l i (by simpa using h)
    simp only [List.getElem_cons_succ, List.eraseIdx_cons_succ]
    exact (List.Perm.swap x (l[i]'(by simpa using h)) _).trans (List.Perm.cons x this)
theorem mem_ordF : ∀ (k : Nat) (l o : List Int), l.length = k → (o ∈ ordF k l ↔ o.Perm l)
  | 0, l, o, hl => by
    have : l = [] := List.eq_nil_of_length_eq_zero hl
    subst this
    simp [ordF]
  | k + 1, l, o, hl => by
    have hd : ∀ (i : Nat) (h : i < l.length), l.getD i 0 = l[i] := fun i h => by rw [List.getD_eq_getElem?_getD, List.getElem?_eq_getElem h]; rfl
    have he : ∀ (i : Nat) (h : i < l.length), (l.eraseIdx i).length = k := fun i h => by rw [List.length_eraseIdx]; simp [h]; omega
    simp only [ordF, List.mem_flatMap, List.mem_range, List.mem_map]
    constructor
    · rintro ⟨i, hi, o', ho', rfl⟩
      have hil : i < l.length := by omega
      rw [mem_ordF k _ _ (he i hil)] at ho'
      rw [hd i hil]
      exact (List.Perm.cons _ ho').trans (cons_erase l i hil)
    · intro hp
      have hol : o.length = k + 1 := by rw [hp.length_eq, hl]
      match o, hol with
      | x :: o', _ =>
        have hx : x ∈ l := hp.subset (by simp)
        obtain ⟨i, hi, rfl⟩ := List.mem_iff_getElem.1 hx
        refine ⟨i, by omega, o', ?_, by rw [hd i hi]⟩
        rw [mem_ordF k _ _ (he i hi)]
        exact (hp.trans (cons_erase l i hi).symm).cons_inv

/-- one order comes no later than another one, by the first two numbers. -/
def le2 (a b : List Int) : Prop := a.getD 0 0 < b.getD 0 0 ∨ (a.getD 0 0 = b.getD 0 0 ∧ a.getD 1 0 ≤ b.getD 1 0)

theorem ordF_heads : ∀ (k : Nat) (l : List Int), l.length = k → l.Pairwise (· < ·) → (ordF k l).Pairwise (fun a b => a.getD 0 0 ≤ b.getD 0 0)
  | 0, l, _, _ => by simp [ordF]
  | k + 1, l, hl, hs => by
    have hd : ∀ (i : Nat) (h : i < l.length), l.getD i 0 = l[i] := fun i h => by rw [List.getD_eq_getElem?_getD, List.getElem?_eq_getElem h]; rfl
    rw [ordF, List.pairwise_flatMap]
    refine ⟨fun i hi => ?_, ?_⟩
    · rw [List.pairwise_map]
      exact List.Pairwise.imp_of_mem (fun _ _ _ => by simp) (List.pairwise_of_forall (R := fun _ _ => True) (by simp))
    · refine List.Pairwise.imp_of_mem ?_ List.pairwise_lt_range
      intro i j hi hj hij a ha b hb
      simp only [List.mem_map] at ha hb
      obtain ⟨a', _, rfl⟩ := ha
      obtain ⟨b', _, rfl⟩ := hb
      rw [List.mem_range] at hi hj
      simp only [List.getD_cons_zero]
      rw [hd i (by omega), hd j (by omega)]
      have := List.pairwise_iff_getElem.1 hs i j (by omega) (by omega) hij
      omega

theorem ordF_le2 (k : Nat) (l : List Int) (hl : l.length = k) (hs : l.Pairwise (· < ·)) : (ordF k l).Pairwise le2 := by
  cases k with
  | zero => simp [ordF]
  | succ k =>
    have hd : ∀ (i : Nat) (h : i < l.length), l.getD i 0 = l[i] := fun i h => by rw [List.getD_eq_getElem?_getD, List.getElem?_eq_getElem h]; rfl
    rw [ordF, List.pairwise_flatMap]
    refine ⟨fun i hi => ?_, ?_⟩
    · rw [List.mem_range] at hi
      rw [List.pairwise_map]
      have he : (l.eraseIdx i).length = k := by rw [List.length_eraseIdx]; simp [show i < l.length by omega]; omega
      refine (ordF_heads k (l.eraseIdx i) he (hs.sublist (List.eraseIdx_sublist l i))).imp ?_
      intro a b hab
      exact .inr ⟨by simp, by simpa using hab⟩
    · refine List.Pairwise.imp_of_mem ?_ List.pairwise_lt_range
      intro i j hi hj hij a ha b hb
      simp only [List.mem_map] at ha hb
      obtain ⟨a', _, rfl⟩ := ha
      obtain ⟨b', _, rfl⟩ := hb
      rw [List.mem_range] at hi hj
      left
      simp only [List.getD_cons_zero]
      rw [hd i (by omega), hd j (by omega)]
      exact List.pairwise_iff_getElem.1 hs i j (by omega) (by omega) hij

theorem find_first {α : Type} {l : List α} {R : α → α → Prop} (hl : l.Pairwise R) {p : α → Bool} {x y : α} (hf : l.find? p = some x) (hy : y ∈ l) (hp : p y = true) : x = y ∨ R x y := by
  rw [List.find?_eq_some_iff_getElem] at hf
  obtain ⟨_, i, hi, rfl, hno⟩ := hf
  obtain ⟨j, hj, rfl⟩ := List.mem_iff_getElem.1 hy
  rcases Nat.lt_trichotomy i j with h | h | h
  · exact .inr (List.pairwise_iff_getElem.1 hl i j hi hj h)
  · subst h; exact .inl rfl
  · have := hno j h
    rw [hp] at this
    cases this

theorem rng_sorted (k : Nat) : (upL k fun _ => true).Pairwise (· < ·) := by
  rw [upL_rng, List.pairwise_map]
  exact List.pairwise_lt_range.imp fun h => by omega
theorem ord_mem {n : Int} {o : List Int} : o ∈ ordF n.toNat (upL n.toNat fun _ => true) ↔ Ord n o := by
  rw [mem_ordF _ _ _ (upL_all_len _)]
  have hnd : (upL n.toNat fun _ => true).Nodup := (rng_sorted n.toNat).imp fun h => by omega
  constructor
  · intro h
    refine ⟨by rw [h.length_eq, upL_all_len], h.nodup_iff.2 hnd, fun x hx => ?_⟩
    have := mem_upL.1 (h.subset hx)
    omega
  · intro h
    rw [List.perm_ext_iff_of_nodup h.nd hnd]
    intro a
    rw [mem_upL]
    constructor
    · intro ha; have := h.rng a ha; exact ⟨by omega, rfl⟩
    · rintro ⟨ha, _⟩; exact h.all (by omega)

theorem vT_parts {n : Int} {ls : List (Int × Int)} (hv : vT n ls = 0) : (1 ≤ n ∧ n ≤ 6) ∧ (∀ l ∈ ls, okLn n l) ∧ ls.Nodup := vT_iff.1 hv

theorem line_eq {n : Int} {ls : List (Int × Int)} (hv : vT n ls = 0) : lineR n ls = if (lineP n ls).2 = true then lineP n ls else ([], false) := by
  obtain ⟨hn, hls, hnd⟩ := vT_parts hv
  have hn0 : 0 ≤ n := by omega
  -- a right order begins at a zone with at most one link; then the walk finds it
  have key : ∀ o, Ord n o → Vld ls o false → ∃ (h : 0 < o.length), (nr n ls o[0]).length ≤ 1 ∧ chK n ls n.toNat [o[0]] = o := by
    intro o ho hvo
    have hpos : 0 < o.length := by rw [ho.len]; omega
    refine ⟨hpos, (line_ends hn0 hls ho hvo hpos).2 (.inl rfl), ?_⟩
    have := chK_ord hn0 ho hvo (fun h => by cases h) n.toNat 0 hpos (by rw [ho.len]; omega)
    rwa [show o.take (0 + 1) = [o[0]] by rw [List.take_one, List.head?_eq_getElem?, List.getElem?_eq_getElem hpos]; rfl] at this
  cases hf : (ordF n.toNat (upL n.toNat fun _ => true)).find? (fun o => chR ls o false) with
  | none =>
    rw [lineR, hf]
    simp only
    by_cases hP : (lineP n ls).2 = true
    · exfalso
      unfold lineP at hP
      split at hP
      · cases hP
      · rename_i hl
        split at hP
        · cases hP
        · rename_i z hz
          have hlen : ((chK n ls n.toNat [z]).length : Int) = n := by simpa using hP
          have hzr := mem_upL.1 (List.mem_of_find?_eq_some hz)
          obtain ⟨h1, h2⟩ := line_of hn0 hls hnd (z := z) (by omega) (by omega) (by omega)
          rw [List.find?_eq_none] at hf
          exact hf _ (ord_mem.2 h1) (chR_iff.2 h2)
    · rw [if_neg hP]
  | some o =>
    have ho := ord_mem.1 (List.mem_of_find?_eq_some hf)
    have hvo := chR_iff.1 (List.find?_some (p := fun o => chR ls o false) hf)
    obtain ⟨hpos, h1, h2⟩ := key o ho hvo
    have hll := line_len hls hnd ho hvo
    -- the first zone with at most one link
    have hex : firL n ls ≠ none := by
      intro h
      rw [firL, List.find?_eq_none] at h
      have hr := ho.rng _ (List.getElem_mem hpos)
      exact h o[0] (mem_upL.2 ⟨by omega, rfl⟩) (by simpa using h1)
    obtain ⟨z, hz⟩ := Option.ne_none_iff_exists'.1 hex
    have hz1 : (nr n ls z).length ≤ 1 := by have := List.find?_some hz; simpa using this
    have hzr := mem_upL.1 (List.mem_of_find?_eq_some hz)
    obtain ⟨i, hi, rfl⟩ := List.mem_iff_getElem.1 (ho.all (z := z) (by omega))
    have hend := (line_ends hn0 hls ho hvo hi).1 hz1
    -- it is the first one of this order, or of the turned one
    obtain ⟨o', ho', hvo', hpos', h0'⟩ : ∃ o', Ord n o' ∧ Vld ls o' false ∧ ∃ h : 0 < o'.length, o'[0] = o[i] := by
      rcases hend with h | h
      · subst h; exact ⟨o, ho, hvo, hpos, rfl⟩
      · refine ⟨o.reverse, ord_rev ho, vld_rev hvo, by simpa using hpos, ?_⟩
        simp only [List.getElem_reverse]
        congr 1
        omega
    obtain ⟨_, _, h3⟩ := key o' ho' hvo'
    rw [h0'] at h3
    have hmin : o[0] ≤ o[i] := by
      have hfirst := find_first (ordF_le2 n.toNat _ (upL_all_len _) (rng_sorted _)) hf (ord_mem.2 ho') (chR_iff.2 hvo')
      rcases hfirst with e | h | ⟨h, _⟩
      · subst e; rw [h0']; exact Int.le_refl _
      · rw [getD_at hpos, getD_at hpos', h0'] at h; omega
      · rw [getD_at hpos, getD_at hpos', h0'] at h; omega
    have hmin2 : o[i] ≤ o[0] := by
      have hfirst := find_first (rng_sorted n.toNat) hz (y := o[0]) (mem_upL.2 ⟨by have := ho.rng _ (List.getElem_mem hpos); omega, rfl⟩) (by simpa using h1)
      rcases hfirst with e | h <;> omega
    have he : o[i] = o[0] := by omega
    have hoe : o' = o := by rw [← h3, he, h2]
    have hlp : lineP n ls = (o, true) := by
      rw [lineP, if_neg (by rw [hll, ho.len]; omega), hz]
      simp only
      rw [he, h2]
      congr 1
      rw [decide_eq_true_eq, ho.len]
      omega
    rw [lineR, hf, hlp]
    rfl

/-! a ring -/
theorem ring_deg {n : Int} {ls : List (Int × Int)} (hn : 0 ≤ n) (hls : ∀ l ∈ ls, okLn n l) {o : List Int} (ho : Ord n o) (hv : Vld ls o true) (h3 : 3 ≤ o.length) {i : Nat} (hi : i < o.length) : (nr n ls o[i]).length = 2 := by
  obtain ⟨a, b, ha, hb, hab, hia, hib, hon⟩ : ∃ a b : Nat, a < o.length ∧ b < o.length ∧ a ≠ b ∧ nbF o.length true i a = true ∧ nbF o.length true i b = true ∧ ∀ j, j < o.length → j ≠ i → nbF o.length true i j = true → j = a ∨ j = b := by
    simp only [nbF, Bool.true_and, Bool.or_eq_true, Bool.and_eq_true, decide_eq_true_eq]
    by_cases h0 : i = 0
    · exact ⟨1, o.length - 1, by omega, by omega, by omega, by omega, by omega, fun j hj hji h => by omega⟩
    · by_cases h1 : i + 1 = o.length
      · exact ⟨i - 1, 0, by omega, by omega, by omega, by omega, by omega, fun j hj hji h => by omega⟩
      · exact ⟨i - 1, i + 1, by omega, by omega, by omega, by omega, by omega, fun j hj hji h => by omega⟩
  have hai : i ≠ a := by rintro rfl; simp [nbF] at hia; omega
  have hbi : i ≠ b := by rintro rfl; simp [nbF] at hib; omega
  apply Nat.le_antisymm
  · have := nodup_sub (nr n ls o[i]) [o[a], o[b]] (nr_nodup n ls _) fun x hx => by
      obtain ⟨hr, hl⟩ := (mem_nr hn).1 hx
      obtain ⟨j, hj, rfl⟩ := List.mem_iff_getElem.1 (ho.all hr)
      have hij : i ≠ j := by rintro rfl; rw [lnk_irr hls] at hl; cases hl
      rw [hv i j hi hj hij] at hl
      rcases hon j hj (Ne.symm hij) hl with rfl | rfl <;> simp
    simpa using this
  · exact two_le ((mem_nr hn).2 ⟨ho.rng _ (List.getElem_mem ha), by rw [hv i a hi ha hai]; exact hia⟩) ((mem_nr hn).2 ⟨ho.rng _ (List.getElem_mem hb), by rw [hv i b hi hb hbi]; exact hib⟩) (fun e => hab (ho.inj ha hb e))

theorem ring_len {n : Int} {ls : List (Int × Int)} (hls : ∀ l ∈ ls, okLn n l) (hnd : ls.Nodup) {o : List Int} (ho : Ord n o) (hv : Vld ls o true) (h3 : 3 ≤ o.length) : ls.length = o.length := by
  have h0 : 0 < o.length := by omega
  have hl : o.length - 1 < o.length := by omega
  have hE : ((min o[0] o[o.length - 1], max o[0] o[o.length - 1]) :: lkE o).Nodup := by
    rw [List.nodup_cons]
    refine ⟨fun hm => ?_, lkE_nodup ho⟩
    obtain ⟨i, hi, e⟩ := mem_lkE.1 hm
    rcases pair_eq e with ⟨h1, h2⟩ | ⟨h1, h2⟩
    · have := ho.inj _ _ h1
      have := ho.inj _ _ h2
      omega
    · have := ho.inj _ _ h1
      have := ho.inj _ _ h2
      omega
  apply Nat.le_antisymm
  · have := nodup_sub ls ((min o[0] o[o.length - 1], max o[0] o[o.length - 1]) :: lkE o) hnd fun x hx => by
      obtain ⟨i, j, hi, hj, hij, rfl, hl'⟩ := lk_at hls ho hx
      rw [hv i j hi hj hij] at hl'
      simp only [nbF, Bool.true_and, Bool.or_eq_true, Bool.and_eq_true, decide_eq_true_eq] at hl'
      rw [List.mem_cons]
      rcases hl' with (rfl | rfl) | ⟨rfl, h⟩ | ⟨rfl, h⟩
      · exact .inr (mem_lkE.2 ⟨i, hj, rfl⟩)
      · exact .inr (mem_lkE.2 ⟨j, hi, by rw [Int.min_comm, Int.max_comm]⟩)
      · left; have : j = o.length - 1 := by omega
        subst this; rfl
      · left; have : i = o.length - 1 := by omega
        subst this; rw [Int.min_comm, Int.max_comm]
    rw [List.length_cons, lkE_len] at this
    omega
  · have := nodup_sub _ ls hE fun x hx => by
      rcases List.mem_cons.1 hx with rfl | hx
      · refine (memL_eq _ _).1 (?_ : lnk ls o[0] o[o.length - 1] = true)
        rw [hv 0 (o.length - 1) h0 hl (by omega)]
        simp only [nbF, Bool.true_and, Bool.or_eq_true, Bool.and_eq_true, decide_eq_true_eq]
        exact .inr (.inl ⟨trivial, by omega⟩)
      · exact lkE_sub (fun i hi => by rw [hv i (i + 1) (by omega) hi (by omega)]; simp [nbF]) x hx
    rw [List.length_cons, lkE_len] at this
    omega

/-- the turned order of a ring. -/
def turnO (o : List Int) : List Int := (List.range o.length).map fun i => if i = 0 then o.getD 0 0 else o.getD (o.length - i) 0
theorem turnO_len (o : List Int) : (turnO o).length = o.length := by simp [turnO]
theorem turnO_zero {o : List Int} (h : 0 < (turnO o).length) (h' : 0 < o.length) : (turnO o)[0] = o[0] := by simp [turnO, h']
theorem turnO_at {o : List Int} {i : Nat} (hi : i ≠ 0) (h : i < (turnO o).length) (h' : o.length - i < o.length) : (turnO o)[i] = o[o.length - i] := by simp [turnO, hi, h']
/-- where the turned order's places come from. -/
def trn (m i : Nat) : Nat := if i = 0 then 0 else m - i
theorem turnO_get {o : List Int} {i : Nat} (h : i < (turnO o).length) (h' : trn o.length i < o.length) : (turnO o)[i] = o[trn o.length i] := by
  by_cases hi : i = 0
  · subst hi; exact turnO_zero h (by simpa [trn] using h')
  · have e : trn o.length i = o.length - i := if_neg hi
    simp only [e] at h' ⊢
    exact turnO_at hi h h'
theorem trn_cases (m i : Nat) : (i = 0 ∧ trn m i = 0) ∨ (i ≠ 0 ∧ trn m i = m - i) := by
  by_cases h : i = 0
  · exact .inl ⟨h, if_pos h⟩
  · exact .inr ⟨h, if_neg h⟩
theorem trn_lt {m i : Nat} (h : i < m) : trn m i < m := by unfold trn; split <;> omega
theorem turn_ord {n : Int} {o : List Int} (ho : Ord n o) : Ord n (turnO o) := by
  refine ⟨by rw [turnO_len]; exact ho.len, ?_, fun x hx => ?_⟩
  · rw [List.Nodup, List.pairwise_iff_getElem]
    intro i j hi hj hij e
    rw [turnO_len] at hi hj
    rw [turnO_get _ (trn_lt hi), turnO_get _ (trn_lt hj)] at e
    have h := ho.inj _ _ e
    rcases trn_cases o.length i with ⟨a1, a2⟩ | ⟨a1, a2⟩ <;> rcases trn_cases o.length j with ⟨b1, b2⟩ | ⟨b1, b2⟩ <;> omega
  · obtain ⟨i, hi, rfl⟩ := List.mem_iff_getElem.1 hx
    have hi' : i < o.length := by rwa [turnO_len] at hi
    rw [turnO_get hi (trn_lt hi')]
    exact ho.rng _ (List.getElem_mem _)
theorem turn_vld {ls : List (Int × Int)} {o : List Int} (hv : Vld ls o true) : Vld ls (turnO o) true := by
  intro i j hi hj hij
  have hi' : i < o.length := by rwa [turnO_len] at hi
  have hj' : j < o.length := by rwa [turnO_len] at hj
  rw [turnO_get hi (trn_lt hi'), turnO_get hj (trn_lt hj'), turnO_len]
  rw [hv _ _ (trn_lt hi') (trn_lt hj') (by rcases trn_cases o.length i with ⟨a1, a2⟩ | ⟨a1, a2⟩ <;> rcases trn_cases o.length j with ⟨b1, b2⟩ | ⟨b1, b2⟩ <;> omega)]
  rw [Bool.eq_iff_iff]
  simp only [nbF, Bool.true_and, Bool.or_eq_true, Bool.and_eq_true, decide_eq_true_eq]
  rcases trn_cases o.length i with ⟨a1, a2⟩ | ⟨a1, a2⟩ <;> rcases trn_cases o.length j with ⟨b1, b2⟩ | ⟨b1, b2⟩ <;> rw [a2, b2] <;> constructor <;> intro h <;> omega

theorem ring_core {n : Int} {ls : List (Int × Int)} (hn : 3 ≤ n) (hls : ∀ l ∈ ls, okLn n l) (hdeg : ∀ z, 0 ≤ z → z < n → (nr n ls z).length = 2) {o : List Int} (hlen : o.length = n.toNat) (hJ : ChJ n ls 0 o) (hz : ∀ h : 0 < o.length, o[0] = 0) (hsec : ∀ (h1 : 1 < o.length), ∀ y ∈ nr n ls 0, o[1] ≤ y) :
    Ord n o ∧ Vld ls o true ∧ ∃ (h0 : 0 < o.length) (h1 : 1 < o.length), o[0] = 0 ∧ o[1] ≤ o[o.length - 1] := by
  have hn0 : 0 ≤ n := by omega
  have ho : Ord n o := ⟨hlen, hJ.ci.nd, hJ.ci.rng⟩
  have hol : 3 ≤ o.length := by rw [hlen]; omega
  have hnear : ∀ (i j : Nat) (hi : i < o.length) (hj : j < o.length), lnk ls o[i] o[j] = true → o[j] ∈ nr n ls o[i] := fun i j hi hj h => (mem_nr hn0).2 ⟨ho.rng _ (List.getElem_mem hj), h⟩
  -- two zones near one are all
  have htwo : ∀ (i a b j : Nat) (hi : i < o.length) (ha : a < o.length) (hb : b < o.length) (hj : j < o.length), a ≠ b → lnk ls o[i] o[a] = true → lnk ls o[i] o[b] = true → lnk ls o[i] o[j] = true → j = a ∨ j = b := by
    intro i a b j hi ha hb hj hab h1 h2 h3
    rcases Classical.em (j = a ∨ j = b) with h | h
    · exact h
    · exfalso
      have := nodup_sub [o[a], o[b], o[j]] (nr n ls o[i]) (by
        simp only [List.nodup_cons, List.mem_cons, List.not_mem_nil, or_false, not_or, not_false_eq_true, List.nodup_nil, and_true]
        exact ⟨⟨fun e => hab (ho.inj _ _ e), fun e => h (.inl (ho.inj _ _ e).symm)⟩, fun e => h (.inr (ho.inj _ _ e).symm)⟩) (fun x hx => by
        simp only [List.mem_cons, List.not_mem_nil, or_false] at hx
        rcases hx with rfl | rfl | rfl
        · exact hnear _ _ _ _ h1
        · exact hnear _ _ _ _ h2
        · exact hnear _ _ _ _ h3)
      have hd := hdeg o[i] (ho.rng _ (List.getElem_mem hi)).1 (ho.rng _ (List.getElem_mem hi)).2
      simp only [List.length_cons, List.length_nil] at this
      omega
  have hcons : ∀ (i : Nat) (h : i + 1 < o.length), lnk ls o[i + 1] o[i] = true := fun i h => by rw [lnk_sym]; exact hJ.lk i h
  have hint : ∀ (i j : Nat) (hi : i < o.length) (hj : j < o.length), 0 < i → i + 1 < o.length → lnk ls o[i] o[j] = true → i + 1 = j ∨ j + 1 = i := by
    intro i j hi hj h0 h1 hl
    obtain ⟨q, rfl⟩ : ∃ q, i = q + 1 := ⟨i - 1, by omega⟩
    have := htwo (q + 1) q (q + 2) j hi (by omega) (by omega) hj (by omega) (hcons q hi) (hJ.lk (q + 1) h1) hl
    omega
  have h00 : 0 < o.length := by omega
  have h01 : 1 < o.length := by omega
  have hll : o.length - 1 < o.length := by omega
  have hclose : lnk ls o[0] o[o.length - 1] = true := by
    obtain ⟨y, hy, hne⟩ : ∃ y ∈ nr n ls o[0], y ≠ o[1] := by
      rcases Classical.em (∃ y ∈ nr n ls o[0], y ≠ o[1]) with h | h
      · exact h
      · exfalso
        have := len_le_one (nr_nodup n ls o[0]) (y := o[1]) (fun x hx => by
          rcases Classical.em (x = o[1]) with h1 | h1
          · exact h1
          · exact absurd ⟨x, hx, h1⟩ h)
        have hd := hdeg o[0] (ho.rng _ (List.getElem_mem h00)).1 (ho.rng _ (List.getElem_mem h00)).2
        omega
    obtain ⟨hr, hl⟩ := (mem_nr hn0).1 hy
    obtain ⟨j, hj, rfl⟩ := List.mem_iff_getElem.1 (ho.all hr)
    have hj0 : j ≠ 0 := by rintro rfl; rw [lnk_irr hls] at hl; cases hl
    have hj1 : j ≠ 1 := fun e => hne (by subst e; rfl)
    by_cases hjl : j + 1 < o.length
    · have := hint j 0 hj h00 (by omega) hjl (by rw [lnk_sym]; exact hl)
      omega
    · have : j = o.length - 1 := by omega
      subst this
      exact hl
  refine ⟨ho, fun i j hi hj hij => ?_, h00, h01, hz h00, ?_⟩
  · rw [Bool.eq_iff_iff]
    simp only [nbF, Bool.true_and, Bool.or_eq_true, Bool.and_eq_true, decide_eq_true_eq]
    constructor
    · intro hl
      by_cases hi0 : i = 0
      · subst hi0
        have := htwo 0 1 (o.length - 1) j hi h01 hll hj (by omega) (hJ.lk 0 h01) hclose hl
        omega
      · by_cases hi1 : i + 1 < o.length
        · have := hint i j hi hj (by omega) hi1 hl
          omega
        · by_cases hj0 : j = 0
          · omega
          · have := hint j i hj hi (by omega) (by omega) (by rw [lnk_sym]; exact hl)
            omega
    · rintro ((rfl | rfl) | ⟨rfl, h⟩ | ⟨rfl, h⟩)
      · exact hJ.lk i hj
      · exact hcons j hi
      · have : j = o.length - 1 := by omega
        subst this; exact hclose
      · have : i = o.length - 1 := by omega
        subst this; rw [lnk_sym]; exact hclose
  · have := hsec h01 o[o.length - 1] (by rw [← hz h00]; exact hnear _ _ _ _ hclose)
    exact this

theorem ring_of {n : Int} {ls : List (Int × Int)} (hn : 3 ≤ n) (hls : ∀ l ∈ ls, okLn n l) (hdeg : ∀ z, 0 ≤ z → z < n → (nr n ls z).length = 2) (hlen : (chK n ls n.toNat [0]).length = n.toNat) :
    Ord n (chK n ls n.toNat [0]) ∧ Vld ls (chK n ls n.toNat [0]) true ∧ ∃ (h0 : 0 < (chK n ls n.toNat [0]).length) (h1 : 1 < (chK n ls n.toNat [0]).length), (chK n ls n.toNat [0])[0] = 0 ∧ (chK n ls n.toNat [0])[1] ≤ (chK n ls n.toNat [0])[(chK n ls n.toNat [0]).length - 1] := by
  have hn0 : 0 ≤ n := by omega
  have hJ := (chK_J (ls := ls) hn0 n.toNat [0] (ChJ.start (by omega))).1
  have hlen0 := hlen
  -- the second zone
  have hsec : ∀ (h1 : 1 < (chK n ls n.toNat [0]).length), ∀ y ∈ nr n ls 0, (chK n ls n.toNat [0])[1] ≤ y := by
    obtain ⟨f, hf⟩ : ∃ f, n.toNat = f + 1 := ⟨n.toNat - 1, by omega⟩
    rw [hf] at hlen ⊢
    have hm0 : ∀ y ∈ nr n ls 0, (!memL [(0 : Int)] y) = true := fun y hy => by
      have hl := ((mem_nr hn0).1 hy).2
      rw [Bool.not_eq_true', Bool.eq_false_iff, ne_eq, memL_eq]
      intro h
      simp only [List.mem_singleton] at h
      subst h
      rw [lnk_irr hls] at hl
      cases hl
    cases hfi : (nr n ls 0).find? (fun z => !memL [(0 : Int)] z) with
    | none =>
      intro _ y hy
      rw [List.find?_eq_none] at hfi
      exact absurd (hm0 y hy) (hfi y hy)
    | some x =>
      have e : chK n ls (f + 1) [0] = chK n ls f [0, x] := by
        conv => lhs; unfold chK
        rw [show ([(0 : Int)].getLastD 0) = 0 from rfl, hfi]
        rfl
      rw [e]
      have hx := List.mem_of_find?_eq_some hfi
      have hJ2 : ChJ n ls 0 [0, x] := by
        have hc : ChI n ([0] ++ [x]) := (ChJ.start (ls := ls) (show (0 : Int) ≤ 0 ∧ (0 : Int) < n by omega)).ci.add hn0 hx (by have := hm0 x hx; simpa using this)
        refine ⟨hc, rfl, fun i hi => ?_⟩
        have hi0 : i = 0 := by simp at hi; omega
        subst hi0
        exact ((mem_nr hn0).1 hx).2
      obtain ⟨t, ht⟩ := (chK_J (ls := ls) hn0 f _ hJ2).2
      intro h1 y hy
      have hc1 : (chK n ls f [0, x])[1] = x := by simp only [← ht]; rfl
      rw [hc1]
      rcases find_first (nr_sorted n ls 0) hfi hy (hm0 y hy) with h | h <;> omega
  exact ring_core hn hls hdeg hlen0 hJ (fun h => chK_head (by omega) h) hsec

theorem ring_eq {n : Int} {ls : List (Int × Int)} (hv : vT n ls = 0) : ringR n ls = ringP n ls := by
  obtain ⟨hn, hls, hnd⟩ := vT_parts hv
  have hn0 : 0 ≤ n := by omega
  by_cases h3 : n < 3
  · rw [ringR, if_pos h3, ringP, if_pos (.inl h3)]
  rw [ringR, if_neg h3]
  -- of a right order and the turned one the walk finds one
  have key : ∀ o, Ord n o → Vld ls o true → (h0 : 0 < o.length) → o[0] = 0 → (∀ (h1 : 1 < o.length), o[1] ≤ o[o.length - 1]) → chK n ls n.toNat [0] = o := by
    intro o ho hvo h0 hz h1
    have := chK_ord hn0 ho hvo (fun _ => h1) n.toNat 0 h0 (by rw [ho.len]; omega)
    rwa [show o.take (0 + 1) = [0] by rw [List.take_one, List.head?_eq_getElem?, List.getElem?_eq_getElem h0, hz]; rfl] at this
  have hall : ∀ o, Ord n o → Vld ls o true → ringP n ls = if ((chK n ls n.toNat [0]).length : Int) < n then ([], false) else (chK n ls n.toNat [0], true) := by
    intro o ho hvo
    have hl := ring_len hls hnd ho hvo (by rw [ho.len]; omega)
    rw [ringP, if_neg (by rw [hl, ho.len]; omega), if_neg]
    rw [List.any_eq_true]
    rintro ⟨z, hz, h2⟩
    have hzr := mem_upL.1 hz
    obtain ⟨i, hi, rfl⟩ := List.mem_iff_getElem.1 (ho.all (z := z) (by omega))
    have := ring_deg hn0 hls ho hvo (by rw [ho.len]; omega) hi
    simp [this] at h2
  cases hf : (ordF n.toNat (upL n.toNat fun _ => true)).find? (fun o => decide (o.getD 0 0 = 0) && chR ls o true) with
  | none =>
    simp only
    rw [List.find?_eq_none] at hf
    unfold ringP
    split
    · rfl
    · split
      · rfl
      · rename_i hc hd
        split
        · rfl
        · rename_i hlen
          exfalso
          have hle := (chK_J (ls := ls) hn0 n.toNat [0] (ChJ.start (by omega))).1.ci.le
          obtain ⟨g1, g2, g3, g4, g5, _⟩ := ring_of (by omega) hls (fun z h1 h2 => by
            rcases Classical.em ((nr n ls z).length = 2) with h | h
            · exact h
            · exact absurd (List.any_eq_true.2 ⟨z, mem_upL.2 ⟨by omega, rfl⟩, by simpa using h⟩) hd) (by omega)
          refine hf _ (ord_mem.2 g1) ?_
          rw [getD_at g3, g5, chR_iff.2 g2]
          rfl
  | some o =>
    simp only
    have ho := ord_mem.1 (List.mem_of_find?_eq_some hf)
    have hpo := List.find?_some (p := fun o => decide (o.getD 0 0 = 0) && chR ls o true) hf
    simp only [Bool.and_eq_true, decide_eq_true_eq] at hpo
    have hvo := chR_iff.1 hpo.2
    have h0 : 0 < o.length := by rw [ho.len]; omega
    have h1 : 1 < o.length := by rw [ho.len]; omega
    have hl : o.length - 1 < o.length := by omega
    have hz : o[0] = 0 := by rw [← getD_at h0]; exact hpo.1
    have hmin : o[1] ≤ o[o.length - 1] := by
      have ht0 : 0 < (turnO o).length := by rw [turnO_len]; exact h0
      have ht1 : 1 < (turnO o).length := by rw [turnO_len]; exact h1
      have hfirst := find_first (ordF_le2 n.toNat _ (upL_all_len _) (rng_sorted _)) hf (ord_mem.2 (turn_ord ho)) (by
        rw [getD_at ht0, turnO_zero ht0 h0, hz, chR_iff.2 (turn_vld hvo)]; rfl)
      have e1 : (turnO o)[1] = o[o.length - 1] := turnO_at (by omega) ht1 hl
      rcases hfirst with e | h | ⟨_, h⟩
      · rw [← e1]
        simp only [← e]
        exact Int.le_refl _
      · rw [getD_at h0, getD_at ht0, turnO_zero ht0 h0] at h; omega
      · rw [getD_at h1, getD_at ht1, e1] at h; exact h
    have hk := key o ho hvo h0 hz (fun _ => hmin)
    rw [hall o ho hvo, hk, if_neg (by rw [ho.len]; omega)]
end Go.Proofs.Ytkolpijhgcijbaa

namespace Go.Proofs.Ytkolpijhgcijbaa
open Aw Go.RowKit
set_option linter.unusedSimpArgs false

theorem lineP_ok {n : Int} {ls : List (Int × Int)} (hv : vT n ls = 0) (h : (lineP n ls).2 = true) : Ord n (lineP n ls).1 ∧ Vld ls (lineP n ls).1 false ∧ (ls.length : Int) = n - 1 := by
  obtain ⟨hn, hls, hnd⟩ := vT_parts hv
  unfold lineP at h ⊢
  split at h
  · cases h
  · rename_i hl
    rw [if_neg hl]
    split at h
    · cases h
    · rename_i z hz
      have hlen : ((chK n ls n.toNat [z]).length : Int) = n := by simpa using h
      have hzr := mem_upL.1 (List.mem_of_find?_eq_some hz)
      obtain ⟨h1, h2⟩ := line_of (by omega) hls hnd (z := z) (by omega) (by omega) (by omega)
      simp only
      exact ⟨h1, h2, by omega⟩
theorem ringP_ok {n : Int} {ls : List (Int × Int)} (hv : vT n ls = 0) (h : (ringP n ls).2 = true) : 3 ≤ n ∧ Ord n (ringP n ls).1 ∧ Vld ls (ringP n ls).1 true ∧ (ls.length : Int) = n ∧ (∀ h0 : 0 < (ringP n ls).1.length, (ringP n ls).1[0] = 0) := by
  obtain ⟨hn, hls, hnd⟩ := vT_parts hv
  have hn0 : 0 ≤ n := by omega
  unfold ringP at h ⊢
  split at h
  · cases h
  · rename_i hc
    rw [if_neg hc]
    split at h
    · cases h
    · rename_i hd
      rw [if_neg hd]
      split at h
      · cases h
      · rename_i hlen
        rw [if_neg hlen]
        simp only
        have hle := (chK_J (ls := ls) hn0 n.toNat [0] (ChJ.start (by omega))).1.ci.le
        obtain ⟨g1, g2, g3, g4, g5, _⟩ := ring_of (by omega) hls (fun z h1 h2 => by
          rcases Classical.em ((nr n ls z).length = 2) with h | h
          · exact h
          · exact absurd (List.any_eq_true.2 ⟨z, mem_upL.2 ⟨by omega, rfl⟩, by simpa using h⟩) hd) (by omega)
        exact ⟨by omega, g1, g2, by omega, fun _ => g5⟩
theorem line_deg {n : Int} {ls : List (Int × Int)} (hn : 0 ≤ n) (hls : ∀ l ∈ ls, okLn n l) {o : List Int} (ho : Ord n o) (hv : Vld ls o false) {i : Nat} (hi : i < o.length) : (nr n ls o[i]).length ≤ 2 := by
  have := nodup_sub (nr n ls o[i]) [o.getD (i - 1) 0, o.getD (i + 1) 0] (nr_nodup n ls _) fun x hx => by
    obtain ⟨hr, hl⟩ := (mem_nr hn).1 hx
    obtain ⟨j, hj, rfl⟩ := List.mem_iff_getElem.1 (ho.all hr)
    have hij : i ≠ j := by rintro rfl; rw [lnk_irr hls] at hl; cases hl
    rw [hv i j hi hj hij] at hl
    simp only [nbF, Bool.false_and, Bool.or_false, Bool.or_eq_true, decide_eq_true_eq] at hl
    rcases hl with rfl | rfl
    · rw [getD_at hj]; simp
    · rw [Nat.add_sub_cancel, getD_at hj]; simp
  simpa using this
theorem jun_none {n : Int} {ls : List (Int × Int)} (hn : 0 ≤ n) {o : List Int} (ho : Ord n o) (h : ∀ i (hi : i < o.length), (nr n ls o[i]).length ≤ 2) : junL n ls = [] := by
  rw [junL, upL, List.filter_eq_nil_iff]
  intro z hz
  obtain ⟨q, hq, rfl⟩ := List.mem_map.1 hz
  rw [List.mem_range] at hq
  obtain ⟨i, hi, e⟩ := List.mem_iff_getElem.1 (ho.all (z := (q : Int)) (by omega))
  have := h i hi
  rw [e] at this
  simp; omega

/-- what Line answers. -/
def lineA (n : Int) (ls : List (Int × Int)) : List Int × Bool × Int := if vT n ls ≠ 0 then ([], false, vT n ls) else if (lineP n ls).2 = true then ((lineP n ls).1, true, 0) else ([], false, 0)
def ringA (n : Int) (ls : List (Int × Int)) : List Int × Bool × Int := if vT n ls ≠ 0 then ([], false, vT n ls) else ((ringP n ls).1, (ringP n ls).2, 0)
def t3A (x : List Int × Bool × Int) : AV := .t [.s 1 (intsA x.1), B x.2.1, I x.2.2]
theorem s48' (n : Int) (ls : List (Int × Int)) (hls : ls.length ≤ 1000000) : ASpec Try.prog 48 [trapA n ls] (fun r Ms => r = t3A (lineA n ls) ∧ Ms = []) := by
  have := s48 n ls hls
  have e : (if vT n ls ≠ 0 then AV.t [.s 1 [], B false, I (vT n ls)] else if (lineP n ls).2 = true then .t [.s 1 (intsA (lineP n ls).1), B true, I 0] else .t [.s 1 [], B false, I 0]) = t3A (lineA n ls) := by
    unfold lineA
    split
    · rfl
    · split <;> rfl
  rwa [e] at this
theorem s49' (n : Int) (ls : List (Int × Int)) (hls : ls.length ≤ 1000000) : ASpec Try.prog 49 [trapA n ls] (fun r Ms => r = t3A (lineA n ls) ∧ Ms = []) := by
  have := s49 n ls hls
  have e : (if vT n ls ≠ 0 then AV.t [.s 1 [], B false, I (vT n ls)] else .t [.s 1 (intsA (lineR n ls).1), B (lineR n ls).2, I 0]) = t3A (lineA n ls) := by
    unfold lineA
    by_cases hv : vT n ls = 0
    · rw [if_neg (by simpa using hv), if_neg (by simpa using hv), line_eq hv]
      by_cases h : (lineP n ls).2 = true
      · rw [if_pos h, if_pos h]; simp only [t3A, h]
      · rw [if_neg h, if_neg h]; rfl
    · rw [if_pos hv, if_pos hv]; rfl
  rwa [e] at this
theorem s50' (n : Int) (ls : List (Int × Int)) (hls : ls.length ≤ 1000000) : ASpec Try.prog 50 [trapA n ls] (fun r Ms => r = t3A (ringA n ls) ∧ Ms = []) := by
  have := s50 n ls hls
  have e : (if vT n ls ≠ 0 then AV.t [.s 1 [], B false, I (vT n ls)] else .t [.s 1 (intsA (ringP n ls).1), B (ringP n ls).2, I 0]) = t3A (ringA n ls) := by
    unfold ringA
    split <;> rfl
  rwa [e] at this
theorem s51' (n : Int) (ls : List (Int × Int)) (hls : ls.length ≤ 1000000) : ASpec Try.prog 51 [trapA n ls] (fun r Ms => r = t3A (ringA n ls) ∧ Ms = []) := by
  have := s51 n ls hls
  have e : (if vT n ls ≠ 0 then AV.t [.s 1 [], B false, I (vT n ls)] else .t [.s 1 (intsA (ringR n ls).1), B (ringR n ls).2, I 0]) = t3A (ringA n ls) := by
    unfold ringA
    by_cases hv : vT n ls = 0
    · rw [if_neg (by simpa using hv), if_neg (by simpa using hv), ring_eq hv]; rfl
    · rw [if_pos hv, if_pos hv]; rfl
  rwa [e] at this

theorem lines_fact (n : Int) (ls : List (Int × Int)) : ((lineA n ls).2.1 = true → (ringA n ls).2.1 = true → False) ∧ ((lineA n ls).2.1 = true ∨ (ringA n ls).2.1 = true → junA n ls = .t [.s 1 [], I 0]) ∧ (lineA n ls).1.length ≤ 1000000 ∧ (ringA n ls).1.length ≤ 1000000 ∧ ∃ l e, junA n ls = .t [.s 1 (intsA l), I e] ∧ l.length ≤ 1000000 := by
  by_cases hv : vT n ls = 0
  case neg =>
    rw [lineA, if_pos hv, ringA, if_pos hv, junA, if_pos hv]
    exact ⟨fun h => (by cases h), fun h => (by rcases h with h | h <;> cases h), Nat.zero_le _, Nat.zero_le _, [], _, rfl, Nat.zero_le _⟩
  obtain ⟨hn, hls, hnd⟩ := vT_parts hv
  have hn0 : 0 ≤ n := by omega
  have hne : ¬ vT n ls ≠ 0 := by simpa using hv
  rw [lineA, if_neg hne, ringA, if_neg hne, junA, if_neg hne]
  have hjl := upL_len n.toNat (fun z => decide (3 ≤ ((nr n ls z).length : Int)))
  have h1 : (lineP n ls).2 = true → junL n ls = [] := fun h => by
    obtain ⟨g1, g2, _⟩ := lineP_ok hv h
    exact jun_none hn0 g1 fun i hi => line_deg hn0 hls g1 g2 hi
  have h2 : (ringP n ls).2 = true → junL n ls = [] := fun h => by
    obtain ⟨g0, g1, g2, _⟩ := ringP_ok hv h
    exact jun_none hn0 g1 fun i hi => Nat.le_of_eq (ring_deg hn0 hls g1 g2 (by rw [g1.len]; omega) hi)
  refine ⟨fun ha hb => ?_, fun h => ?_, ?_, ?_, _, _, rfl, by unfold junL; omega⟩
  · split at ha
    · rename_i hl
      have := (lineP_ok hv hl).2.2
      have := (ringP_ok hv hb).2.2.2.1
      omega
    · cases ha
  · rcases h with h | h
    · split at h
      · rename_i hl; rw [h1 hl]; rfl
      · cases h
    · rw [h2 h]; rfl
  · split
    · rename_i hl
      have := (lineP_ok hv hl).1.len
      simp only; omega
    · decide
  · by_cases hr : (ringP n ls).2 = true
    · have := (ringP_ok hv hr).2.1.len
      simp only; omega
    · simp only
      unfold ringP at hr ⊢
      split
      · decide
      · split
        · decide
        · split
          · decide
          · rename_i a b c
            rw [if_neg a, if_neg b, if_neg c] at hr
            exact absurd rfl hr

theorem ok12 : okFn Try.prog 12 = true := by kernel_rfl
set_option maxRecDepth 20000 in
theorem s12 (n : Int) (ls : List (Int × Int)) : ASpec Try.prog 12 [trapA n ls] (fun r Ms => r = B true ∧ Ms = []) := by
  refine aspec_of (own := []) Try.func12 rfl ok12 ?_
  simp only [w_assign, w_box, w_load, w_callF, w_aop, w_some, w_asome, w_anone, w_nil, w_cons, awp, asP, asN, loadA, St.ev, St.step, setS, killS, AV.kill, AV.killL, Mem.kill, AV.cells, AV.flat, AV.single, AV.cellular, AV.pure, AV.pureL, ACond_false, List.getD_cons_succ, List.getD_cons_zero, List.set_cons_succ, List.set_cons_zero, List.getElem?_cons_zero, List.length_cons, List.length_nil, List.replicate_succ, List.replicate_zero, List.cons_append, List.nil_append, List.contains_nil, List.isEmpty_nil, Option.getD_some, Bool.false_eq_true, if_false, if_true, true_and, and_true, List.all_cons, List.all_nil, Bool.and_true, Bool.true_and, Bool.not_true, Nat.zero_add, Nat.add_zero, beq_self_eq_true, List.map_cons, List.map_nil, decide_true, Nat.reduceAdd, Nat.reduceSub, Nat.reduceLeDiff, Int.reduceAdd, Int.reduceSub, ti24, Try.ntmps12, trapA]
  have known : ∀ {M : Mem} {K : HK (AV → Mem → Prop)}, K.k (B true) M → ACall Try.prog 18 [] M (K := K) := fun h => acall_v s18 rfl rfl h
  refine acall_v (s16 n ls) rfl rfl ?_
  by_cases h1 : (60 : Int) < ls.length
  · simp only [w_callF, w_aop, w_some, w_nil, w_cons, awp, asB, St.ev, St.step, setS, killS, AV.kill, AV.killL, Mem.kill, ACond_true, ACond_false, List.getD_cons_succ, List.getD_cons_zero, List.set_cons_succ, List.set_cons_zero, List.contains_nil, List.isEmpty_nil, if_true, List.map_nil, Nat.reduceAdd, Int.reduceAdd, decide_eq_true h1]
    refine known ?_
    simp only [w_assign, w_aop, w_anone, w_nil, w_cons, awp, asN, St.ev, St.step, setS, killS, AV.kill, AV.killL, Mem.kill, List.getD_cons_succ, List.getD_cons_zero, List.set_cons_succ, List.set_cons_zero, List.contains_nil, List.isEmpty_nil, Option.getD_some, Bool.false_eq_true, if_false, if_true]
    exact aend_frz rfl ⟨rfl, rfl⟩
  simp only [w_load, w_callF, w_aop, w_some, w_asome, w_nil, w_cons, awp, asP, asB, loadA, St.ev, St.step, setS, killS, AV.kill, AV.killL, Mem.kill, AV.cells, AV.flat, AV.single, ACond_false, List.getD_cons_succ, List.getD_cons_zero, List.set_cons_succ, List.set_cons_zero, List.getElem?_cons_zero, List.length_cons, List.length_nil, List.contains_nil, List.isEmpty_nil, Bool.false_eq_true, if_false, if_true, and_true, List.all_cons, List.all_nil, Bool.and_true, Bool.not_true, Nat.zero_add, beq_self_eq_true, List.map_cons, List.map_nil, decide_true, Nat.reduceAdd, Nat.reduceLeDiff, Int.reduceAdd, ti24, decide_eq_false h1]
  have hls : ls.length ≤ 1000000 := by omega
  have a48 := s48' n ls hls
  have a49 := s49' n ls hls
  have a50 := s50' n ls hls
  have a51 := s51' n ls hls
  have a52 := s52 n ls hls
  have a53 := s53 n ls hls
  obtain ⟨f1, f2, f3, f4, l, e, hl, f5⟩ := lines_fact n ls
  rcases hA : lineA n ls with ⟨a, is, ea⟩
  rcases hB : ringA n ls with ⟨c, ring, ec⟩
  rw [hA] at a48 a49 f1 f2 f3
  rw [hB] at a50 a51 f1 f2 f4
  rw [hl] at a52 a53 f2
  simp only at f1 f2 f3 f4
  have q1 := s27 a a f3 f3
  have q2 := s27 c c f4 f4
  have q3 := s27 l l f5 f5
  rw [decide_eq_true rfl] at q1 q2 q3
  refine acall_v a48 rfl rfl ?_
  simp only [w_move, w_assign, w_load, w_extract, w_callF, w_aop, w_some, w_asome, w_anone, w_nil, w_cons, awp, asP, asT, asN, loadA, St.ev, St.step, setS, killS, AV.kill, AV.killL, Mem.kill, AV.cells, AV.flat, AV.single, ACond_false, List.getD_cons_succ, List.getD_cons_zero, List.set_cons_succ, List.set_cons_zero, List.getElem?_cons_succ, List.getElem?_cons_zero, List.length_cons, List.length_nil, List.contains_nil, List.isEmpty_nil, Option.getD_some, Bool.false_eq_true, if_false, if_true, and_true, List.all_cons, List.all_nil, Bool.and_true, Bool.not_true, Nat.zero_add, beq_self_eq_true, List.map_cons, List.map_nil, decide_true, Nat.reduceAdd, Nat.reduceLeDiff, Int.reduceAdd, ti24, t3A]
  refine acall_v a49 rfl rfl ?_
  simp only [w_move, w_assign, w_load, w_extract, w_callF, w_aop, w_some, w_asome, w_anone, w_nil, w_cons, awp, asP, asT, asN, loadA, St.ev, St.step, setS, killS, AV.kill, AV.killL, Mem.kill, AV.cells, AV.flat, AV.single, ACond_false, List.getD_cons_succ, List.getD_cons_zero, List.set_cons_succ, List.set_cons_zero, List.getElem?_cons_succ, List.getElem?_cons_zero, List.length_cons, List.length_nil, List.contains_nil, List.isEmpty_nil, Option.getD_some, Bool.false_eq_true, if_false, if_true, and_true, List.all_cons, List.all_nil, Bool.and_true, Bool.not_true, Nat.zero_add, beq_self_eq_true, List.map_cons, List.map_nil, decide_true, Nat.reduceAdd, Nat.reduceLeDiff, Int.reduceAdd, ti24, t3A]
  refine acall_v a50 rfl rfl ?_
  simp only [w_move, w_assign, w_load, w_extract, w_callF, w_aop, w_some, w_asome, w_anone, w_nil, w_cons, awp, asP, asT, asN, loadA, St.ev, St.step, setS, killS, AV.kill, AV.killL, Mem.kill, AV.cells, AV.flat, AV.single, ACond_false, List.getD_cons_succ, List.getD_cons_zero, List.set_cons_succ, List.set_cons_zero, List.getElem?_cons_succ, List.getElem?_cons_zero, List.length_cons, List.length_nil, List.contains_nil, List.isEmpty_nil, Option.getD_some, Bool.false_eq_true, if_false, if_true, and_true, List.all_cons, List.all_nil, Bool.and_true, Bool.not_true, Nat.zero_add, beq_self_eq_true, List.map_cons, List.map_nil, decide_true, Nat.reduceAdd, Nat.reduceLeDiff, Int.reduceAdd, ti24, t3A]
  refine acall_v a51 rfl rfl ?_
  simp only [w_move, w_assign, w_load, w_extract, w_callF, w_aop, w_some, w_asome, w_anone, w_nil, w_cons, awp, asP, asT, asN, loadA, St.ev, St.step, setS, killS, AV.kill, AV.killL, Mem.kill, AV.cells, AV.flat, AV.single, ACond_false, List.getD_cons_succ, List.getD_cons_zero, List.set_cons_succ, List.set_cons_zero, List.getElem?_cons_succ, List.getElem?_cons_zero, List.length_cons, List.length_nil, List.contains_nil, List.isEmpty_nil, Option.getD_some, Bool.false_eq_true, if_false, if_true, and_true, List.all_cons, List.all_nil, Bool.and_true, Bool.not_true, Nat.zero_add, beq_self_eq_true, List.map_cons, List.map_nil, decide_true, Nat.reduceAdd, Nat.reduceLeDiff, Int.reduceAdd, ti24, t3A]
  refine acall_v a52 rfl rfl ?_
  simp only [w_move, w_assign, w_load, w_extract, w_callF, w_aop, w_some, w_asome, w_anone, w_nil, w_cons, awp, asP, asT, asN, loadA, St.ev, St.step, setS, killS, AV.kill, AV.killL, Mem.kill, AV.cells, AV.flat, AV.single, ACond_false, List.getD_cons_succ, List.getD_cons_zero, List.set_cons_succ, List.set_cons_zero, List.getElem?_cons_succ, List.getElem?_cons_zero, List.length_cons, List.length_nil, List.contains_nil, List.isEmpty_nil, Option.getD_some, Bool.false_eq_true, if_false, if_true, and_true, List.all_cons, List.all_nil, Bool.and_true, Bool.not_true, Nat.zero_add, beq_self_eq_true, List.map_cons, List.map_nil, decide_true, Nat.reduceAdd, Nat.reduceLeDiff, Int.reduceAdd, ti24]
  refine acall_v a53 rfl rfl ?_
  simp only [w_move, w_assign, w_extract, w_callF, w_aop, w_some, w_anone, w_nil, w_cons, awp, asT, asN, St.ev, St.step, setS, killS, AV.kill, AV.killL, Mem.kill, ACond_false, List.getD_cons_succ, List.getD_cons_zero, List.set_cons_succ, List.set_cons_zero, List.getElem?_cons_succ, List.getElem?_cons_zero, List.contains_nil, List.isEmpty_nil, Option.getD_some, Bool.false_eq_true, if_false, if_true, List.map_cons, List.map_nil, Nat.reduceAdd, Int.reduceAdd]
  refine acall_v q1 rfl rfl ?_
  simp only [w_move, w_pick, w_binOp, w_not, w_callF, w_aop, w_aopg, w_gdb, w_some, w_asome, w_anone, w_cons, binC, cmpC, eqC, asB, asI, St.ev, St.step, setS, killS, AV.kill, AV.killL, Mem.kill, ACond_true, ACond_false, List.getD_cons_succ, List.getD_cons_zero, List.set_cons_succ, List.set_cons_zero, List.getElem?_cons_succ, List.getElem?_cons_zero, List.isEmpty_nil, if_true, true_and, Bool.true_and, Bool.not_true, beq_self_eq_true, List.map_cons, List.map_nil, decide_true, Option.bind_some, ti4]
  refine acall_v q2 rfl rfl ?_
  simp only [w_move, w_pick, w_binOp, w_not, w_callF, w_aop, w_aopg, w_gdb, w_some, w_asome, w_anone, w_cons, binC, cmpC, eqC, asB, asI, St.ev, St.step, setS, killS, AV.kill, AV.killL, Mem.kill, ACond_true, ACond_false, List.getD_cons_succ, List.getD_cons_zero, List.set_cons_succ, List.set_cons_zero, List.getElem?_cons_succ, List.getElem?_cons_zero, List.isEmpty_nil, if_true, true_and, Bool.true_and, Bool.not_true, beq_self_eq_true, List.map_cons, List.map_nil, decide_true, Option.bind_some, ti4]
  refine acall_v q3 rfl rfl ?_
  simp only [w_move, w_pick, w_binOp, w_not, w_aop, w_aopg, w_gdb, w_some, w_asome, w_nil, w_cons, awp, binC, cmpC, asB, asI, St.ev, St.step, setS, killS, AV.kill, AV.killL, Mem.kill, ACond_true, ACond_false, List.getD_cons_succ, List.getD_cons_zero, List.set_cons_succ, List.set_cons_zero, List.getElem?_cons_succ, List.getElem?_cons_zero, List.contains_nil, List.isEmpty_nil, if_true, true_and, Bool.true_and, Bool.not_true, beq_self_eq_true, decide_true, Nat.reduceAdd, Int.reduceAdd, Option.bind_some, w_bt]
  have hl0 : is = true ∨ ring = true → l = [] := fun h => by
    have := f2 h
    simp only [AV.t.injEq, List.cons.injEq, AV.s.injEq, true_and] at this
    exact List.eq_nil_of_length_eq_zero (by have h := congrArg List.length this.1; simpa [intsA] using h)
  cases is with
  | true =>
    obtain rfl := hl0 (.inl rfl)
    cases ring with
    | true => exact (f1 rfl rfl).elim
    | false =>
      simp only [w_move, w_pick, w_binOp, w_not, w_callF, w_len, w_aop, w_aopg, w_gdb, w_some, w_asome, w_cons, binC, cmpC, asB, asI, lenA, St.ev, St.step, setS, killS, AV.kill, AV.killL, Mem.kill, ACond_true, ACond_false, List.getD_cons_succ, List.getD_cons_zero, List.set_cons_succ, List.set_cons_zero, List.getElem?_cons_succ, List.getElem?_cons_zero, List.length_nil, List.isEmpty_nil, if_true, true_and, Bool.true_and, Bool.not_true, Bool.not_false, Option.isSome_some, beq_self_eq_true, List.map_nil, decide_true, Option.bind_some, w_bt, ti25, intsA, Int.cast_ofNat_Int, decide_eq_true (show ((0 : Nat) : Int) = 0 from rfl)]
      refine known ?_
      simp only [w_assign, w_pick, w_aop, w_some, w_anone, w_nil, w_cons, awp, asB, asN, St.ev, St.step, setS, killS, AV.kill, AV.killL, Mem.kill, ACond_true, List.getD_cons_succ, List.getD_cons_zero, List.set_cons_succ, List.set_cons_zero, List.contains_nil, List.isEmpty_nil, Option.getD_some, Bool.false_eq_true, if_false, if_true]
      exact aend_frz rfl ⟨rfl, rfl⟩
  | false =>
    cases ring with
    | true =>
      obtain rfl := hl0 (.inr rfl)
      simp only [w_move, w_pick, w_binOp, w_not, w_callF, w_len, w_aop, w_aopg, w_gdb, w_some, w_asome, w_cons, binC, cmpC, asB, asI, lenA, St.ev, St.step, setS, killS, AV.kill, AV.killL, Mem.kill, ACond_true, ACond_false, List.getD_cons_succ, List.getD_cons_zero, List.set_cons_succ, List.set_cons_zero, List.getElem?_cons_succ, List.getElem?_cons_zero, List.length_nil, List.isEmpty_nil, if_true, true_and, Bool.true_and, Bool.not_true, Bool.not_false, Option.isSome_some, beq_self_eq_true, List.map_nil, decide_true, Option.bind_some, ti25, intsA, Int.cast_ofNat_Int, decide_eq_true (show ((0 : Nat) : Int) = 0 from rfl)]
      refine known ?_
      simp only [w_assign, w_pick, w_aop, w_some, w_anone, w_nil, w_cons, awp, asB, asN, St.ev, St.step, setS, killS, AV.kill, AV.killL, Mem.kill, ACond_true, List.getD_cons_succ, List.getD_cons_zero, List.set_cons_succ, List.set_cons_zero, List.contains_nil, List.isEmpty_nil, Option.getD_some, Bool.false_eq_true, if_false, if_true]
      exact aend_frz rfl ⟨rfl, rfl⟩
    | false =>
      simp only [w_move, w_pick, w_not, w_callF, w_aop, w_aopg, w_gdb, w_some, w_cons, asB, St.ev, St.step, setS, killS, AV.kill, AV.killL, Mem.kill, ACond_true, ACond_false, List.getD_cons_succ, List.getD_cons_zero, List.set_cons_succ, List.set_cons_zero, List.getElem?_cons_succ, List.getElem?_cons_zero, List.isEmpty_nil, if_true, Bool.not_true, Bool.not_false, beq_self_eq_true, List.map_nil, Option.bind_some, w_bf, intsA, decide_eq_true (show ((0 : Nat) : Int) = 0 from rfl)]
      refine known ?_
      simp only [w_assign, w_pick, w_aop, w_some, w_anone, w_nil, w_cons, awp, asB, asN, St.ev, St.step, setS, killS, AV.kill, AV.killL, Mem.kill, ACond_true, List.getD_cons_succ, List.getD_cons_zero, List.set_cons_succ, List.set_cons_zero, List.contains_nil, List.isEmpty_nil, Option.getD_some, Bool.false_eq_true, if_false, if_true]
      exact aend_frz rfl ⟨rfl, rfl⟩
end Go.Proofs.Ytkolpijhgcijbaa
