/-
  Several texts in one: PlA, PlB, PlC, PlD, PlE.
-/
import Derived.WalkKit
import Derived.Test.YtkmbbbemmohmcaaMe
set_option linter.unusedSimpArgs false
set_option linter.unusedVariables false
namespace Go.Proofs.Ytkmbbbemmohmcaa
namespace Tr

section
variable {α τ : Type} [DecidableEq τ]

/-- which types are bound to each other. -/
structure Bd (bd : τ → τ → Bool) : Prop where
  sym : ∀ x y, bd x y = bd y x
  refl : ∀ x, bd x x = true

/-- the gates of two types. -/
def pj (ty : α → τ) (x y : τ) (c : List α) : List α := c.filter fun g => decide (ty g = x) || decide (ty g = y)
/-- the same gates in the same order, for each two bound types. -/
def Alk (ty : α → τ) (bd : τ → τ → Bool) (c d : List α) : Prop := ∀ x y, bd x y = true → pj ty x y c = pj ty x y d

variable {ty : α → τ} {bd : τ → τ → Bool}

theorem pj_app (x y : τ) (c d : List α) : pj ty x y (c ++ d) = pj ty x y c ++ pj ty x y d := by simp [pj]
theorem pj_cons (x y : τ) (g : α) (c : List α) : pj ty x y (g :: c) = pj ty x y [g] ++ pj ty x y c := by rw [← pj_app]; rfl
theorem pj_nil (x y : τ) : pj ty x y ([] : List α) = [] := rfl
theorem pj_one_in {x y : τ} {g : α} (h : ty g = x ∨ ty g = y) : pj ty x y [g] = [g] := by
  simp only [pj, List.filter_cons, List.filter_nil]
  rw [if_pos (by simpa using h)]
theorem pj_one_out {x y : τ} {g : α} (h : ¬ (ty g = x ∨ ty g = y)) : pj ty x y [g] = [] := by
  simp only [pj, List.filter_cons, List.filter_nil]
  rw [if_neg (by simpa using h)]
theorem pj_none {x y : τ} {c : List α} (h : ∀ g ∈ c, ¬ (ty g = x ∨ ty g = y)) : pj ty x y c = [] := by
  rw [pj, List.filter_eq_nil_iff]
  intro g hg
  have := h g hg
  simpa using this

theorem Alk.refl (c : List α) : Alk ty bd c c := fun _ _ _ => rfl
theorem Alk.symm {c d : List α} (h : Alk ty bd c d) : Alk ty bd d c := fun x y hb => (h x y hb).symm
theorem Alk.trans {c d e : List α} (h : Alk ty bd c d) (k : Alk ty bd d e) : Alk ty bd c e := fun x y hb => (h x y hb).trans (k x y hb)
theorem Alk.pre (u : List α) {c d : List α} (h : Alk ty bd c d) : Alk ty bd (u ++ c) (u ++ d) := fun x y hb => by rw [pj_app, pj_app, h x y hb]
theorem Alk.post (u : List α) {c d : List α} (h : Alk ty bd c d) : Alk ty bd (c ++ u) (d ++ u) := fun x y hb => by rw [pj_app, pj_app, h x y hb]
theorem Alk.cut (u : List α) {c d : List α} (h : Alk ty bd (u ++ c) (u ++ d)) : Alk ty bd c d := fun x y hb => by
  have := h x y hb
  rw [pj_app, pj_app] at this
  exact List.append_cancel_left this
theorem Alk.cutr (u : List α) {c d : List α} (h : Alk ty bd (c ++ u) (d ++ u)) : Alk ty bd c d := fun x y hb => by
  have := h x y hb
  rw [pj_app, pj_app] at this
  exact List.append_cancel_right this
theorem Alk.cons (g : α) {c d : List α} (h : Alk ty bd c d) : Alk ty bd (g :: c) (g :: d) := h.pre [g]
theorem Alk.uncons {g : α} {c d : List α} (h : Alk ty bd (g :: c) (g :: d)) : Alk ty bd c d := Alk.cut [g] h

theorem alk_swap (hB : Bd bd) {g h : α} (hn : bd (ty g) (ty h) = false) (u v : List α) : Alk ty bd (u ++ g :: h :: v) (u ++ h :: g :: v) := by
  refine Alk.pre u ?_
  intro x y hb
  have e1 : g :: h :: v = [g] ++ ([h] ++ v) := rfl
  have e2 : h :: g :: v = [h] ++ ([g] ++ v) := rfl
  rw [e1, e2]
  simp only [pj_app]
  by_cases hg : ty g = x ∨ ty g = y
  · by_cases hh : ty h = x ∨ ty h = y
    · exfalso
      have hne : ty g ≠ ty h := fun e => by rw [e, hB.refl] at hn; cases hn
      rcases hg with rfl | rfl <;> rcases hh with h1 | h1
      · exact hne h1.symm
      · rw [h1, hb] at hn; cases hn
      · rw [h1, hB.sym, hb] at hn; cases hn
      · exact hne h1.symm
    · rw [pj_one_out hh]; simp
  · rw [pj_one_out hg]; simp

theorem alk_front (hB : Bd bd) {g : α} : ∀ (c1 c2 : List α), (∀ x ∈ c1, bd (ty x) (ty g) = false) → Alk ty bd (c1 ++ g :: c2) (g :: (c1 ++ c2))
  | [], c2, _ => Alk.refl _
  | x :: c1, c2, h => by
    have h1 := (alk_front hB c1 c2 fun y hy => h y (by simp [hy])).cons x
    exact h1.trans (alk_swap hB (h x (by simp)) [] (c1 ++ c2))

theorem filter_split {p : α → Bool} : ∀ (c : List α) {g : α} {r : List α}, c.filter p = g :: r → ∃ c1 c2, c = c1 ++ g :: c2 ∧ (∀ x ∈ c1, p x = false) ∧ p g = true ∧ c2.filter p = r
  | [], g, r, h => by simp at h
  | x :: c, g, r, h => by
    cases hp : p x with
    | true =>
      rw [List.filter_cons, if_pos hp] at h
      injection h with h1 h2
      subst h1
      exact ⟨[], c, rfl, by simp, hp, h2⟩
    | false =>
      rw [List.filter_cons, if_neg (by simp [hp])] at h
      obtain ⟨c1, c2, rfl, h1, h2, h3⟩ := filter_split c h
      exact ⟨x :: c1, c2, rfl, fun y hy => by
        rcases List.mem_cons.1 hy with rfl | hy
        · exact hp
        · exact h1 y hy, h2, h3⟩

/-- what an alike list begins with can be the first here. -/
theorem alk_take (hB : Bd bd) {c d : List α} {g : α} (h : Alk ty bd c (g :: d)) : ∃ c1 c2, c = c1 ++ g :: c2 ∧ (∀ x ∈ c1, bd (ty x) (ty g) = false) ∧ Alk ty bd (c1 ++ c2) d := by
  have h1 := h (ty g) (ty g) (hB.refl _)
  rw [pj_cons, pj_one_in (.inl rfl), pj] at h1
  obtain ⟨c1, c2, rfl, h2, _, _⟩ := filter_split c h1
  have hno : ∀ x ∈ c1, bd (ty x) (ty g) = false := by
    intro x hx
    cases hb : bd (ty x) (ty g) with
    | false => rfl
    | true =>
      exfalso
      have h3 := h (ty x) (ty g) hb
      rw [pj_cons (ty x) (ty g) g d, pj_one_in (.inr rfl), pj_app] at h3
      have hne : pj ty (ty x) (ty g) c1 ≠ [] := by
        intro e
        rw [pj, List.filter_eq_nil_iff] at e
        exact e x hx (by simp)
      obtain ⟨z, r, hz⟩ := List.exists_cons_of_ne_nil hne
      rw [hz] at h3
      simp only [List.cons_append, List.cons.injEq, List.nil_append] at h3
      have hzm : z ∈ c1 := (List.mem_filter.1 (show z ∈ pj ty (ty x) (ty g) c1 by rw [hz]; simp)).1
      have := h2 z hzm
      rw [h3.1] at this
      simp at this
  exact ⟨c1, c2, rfl, hno, Alk.uncons ((alk_front hB c1 c2 hno).symm.trans h)⟩

theorem alk_nil {d : List α} (hB : Bd bd) (h : Alk ty bd [] d) : d = [] := by
  cases d with
  | nil => rfl
  | cons g d =>
    obtain ⟨c1, c2, e, _⟩ := alk_take hB h
    simp at e

theorem alk_len (hB : Bd bd) : ∀ (c : List α) {d : List α}, Alk ty bd c d → c.length = d.length
  | [], d, h => by rw [alk_nil hB h]
  | g :: c, d, h => by
    obtain ⟨d1, d2, rfl, _, h2⟩ := alk_take hB h.symm
    have := alk_len hB c h2.symm
    simp only [List.length_append, List.length_cons] at this ⊢
    omega

/-- the places of the gates that can come first. -/
def Fst (ty : α → τ) (bd : τ → τ → Bool) (c : List α) (i : Nat) : Prop := ∃ h : i < c.length, ∀ (j : Nat) (hj : j < i), bd (ty (c[j]'(by omega))) (ty c[i]) = false

theorem split_at {c : List α} {i : Nat} (h : i < c.length) : c = c.take i ++ c[i] :: c.drop (i + 1) := by
  rw [← List.drop_eq_getElem_cons h, List.take_append_drop]
theorem erase_at {c : List α} {i : Nat} (h : i < c.length) : c.eraseIdx i = c.take i ++ c.drop (i + 1) := List.eraseIdx_eq_take_drop_succ c i

theorem fst_alk (hB : Bd bd) {c : List α} {i : Nat} (h : Fst ty bd c i) : ∃ hi : i < c.length, Alk ty bd c (c[i] :: c.eraseIdx i) := by
  obtain ⟨hi, hno⟩ := h
  refine ⟨hi, ?_⟩
  have := alk_front hB (g := c[i]) (c.take i) (c.drop (i + 1)) fun x hx => by
    obtain ⟨j, hj, rfl⟩ := List.mem_take_iff_getElem.1 hx
    exact hno j (by omega)
  rw [← split_at hi, ← erase_at hi] at this
  exact this
theorem fst_of {c1 c2 : List α} {g : α} (h : ∀ x ∈ c1, bd (ty x) (ty g) = false) : Fst ty bd (c1 ++ g :: c2) c1.length := by
  have _i : DecidableEq τ := inferInstance
  refine ⟨by simp, fun j hj => ?_⟩
  rw [List.getElem_append_left hj]
  simp only [List.getElem_append_right (Nat.le_refl _), Nat.sub_self, List.getElem_cons_zero]
  exact h _ (List.getElem_mem hj)
theorem alk_fst (hB : Bd bd) {c d : List α} {g : α} (h : Alk ty bd c (g :: d)) : ∃ (i : Nat) (hi : i < c.length), Fst ty bd c i ∧ c[i] = g ∧ Alk ty bd (c.eraseIdx i) d := by
  obtain ⟨c1, c2, rfl, h1, h2⟩ := alk_take hB h
  refine ⟨c1.length, by simp, fst_of h1, by simp, ?_⟩
  rw [List.eraseIdx_append_of_length_le (Nat.le_refl _)]
  simpa using h2

/-- a choice of one that can come first, by an order of the gates. -/
structure Pick (ty : α → τ) (bd : τ → τ → Bool) (le : α → α → Prop) (best : List α → Nat) : Prop where
  fst : ∀ c, c ≠ [] → Fst ty bd c (best c)
  min : ∀ c (hc : c ≠ []) i, Fst ty bd c i → ∀ (h1 : best c < c.length) (h2 : i < c.length), le c[best c] c[i]
/-- one after another. -/
def nm (best : List α → Nat) : Nat → List α → List α
  | 0, _ => []
  | f + 1, c => match c[best c]? with | some g => g :: nm best f (c.eraseIdx (best c)) | none => []

theorem nm_cons {best : List α → Nat} {f : Nat} {c : List α} (h : best c < c.length) : nm best (f + 1) c = c[best c] :: nm best f (c.eraseIdx (best c)) := by
  conv => lhs; unfold nm
  rw [List.getElem?_eq_getElem h]
theorem er_len {c : List α} {i : Nat} (h : i < c.length) : (c.eraseIdx i).length + 1 = c.length := by
  rw [List.length_eraseIdx, if_pos h]; omega

theorem nm_alk (hB : Bd bd) {le : α → α → Prop} {best : List α → Nat} (hp : Pick ty bd le best) : ∀ (f : Nat) (c : List α), c.length = f → Alk ty bd c (nm best f c)
  | 0, c, h => by
    have : c = [] := List.eq_nil_of_length_eq_zero h
    subst this; exact Alk.refl _
  | f + 1, c, h => by
    have hc : c ≠ [] := by rintro rfl; simp at h
    obtain ⟨hi, h1⟩ := fst_alk hB (hp.fst c hc)
    rw [nm_cons hi]
    refine h1.trans (Alk.cons _ (nm_alk hB hp f _ ?_))
    have := er_len hi
    omega
theorem alk_nm (hB : Bd bd) {le : α → α → Prop} {best : List α → Nat} (hp : Pick ty bd le best) (hanti : ∀ a b, le a b → le b a → a = b) : ∀ (f : Nat) (c d : List α), c.length = f → Alk ty bd c d → nm best f c = nm best f d
  | 0, c, d, h, _ => rfl
  | f + 1, c, d, h, hA => by
    have hlen := alk_len hB c hA
    have hc : c ≠ [] := by rintro rfl; simp at h
    have hd : d ≠ [] := by rintro rfl; rw [h] at hlen; simp at hlen
    obtain ⟨hi, h1⟩ := fst_alk hB (hp.fst c hc)
    obtain ⟨hj, h2⟩ := fst_alk hB (hp.fst d hd)
    obtain ⟨p, hpl, f1, e1, a1⟩ := alk_fst hB (hA.symm.trans h1)
    obtain ⟨q, hql, f2, e2, a2⟩ := alk_fst hB (hA.trans h2)
    have l1 := hp.min d hd p f1 hj hpl
    have l2 := hp.min c hc q f2 hi hql
    rw [e1] at l1
    rw [e2] at l2
    have e := hanti _ _ l1 l2
    rw [nm_cons hi, nm_cons hj, e]
    congr 1
    have hA' : Alk ty bd (c.eraseIdx (best c)) (d.eraseIdx (best d)) := by
      have h3 := h1.symm.trans (hA.trans h2)
      rw [e] at h3
      exact h3.uncons
    exact alk_nm hB hp hanti f _ _ (by have := er_len hi; omega) hA'
theorem nm_iff (hB : Bd bd) {le : α → α → Prop} {best : List α → Nat} (hp : Pick ty bd le best) (hanti : ∀ a b, le a b → le b a → a = b) (c d : List α) : nm best c.length c = nm best d.length d ↔ Alk ty bd c d := by
  constructor
  · intro h
    have h1 := nm_alk hB hp c.length c rfl
    have h2 := nm_alk hB hp d.length d rfl
    rw [← h] at h2
    exact h1.trans h2.symm
  · intro h
    rw [← alk_len hB c h]
    exact alk_nm hB hp hanti c.length c d rfl h
end
end Tr
end Go.Proofs.Ytkmbbbemmohmcaa

namespace Go.Proofs.Ytkmbbbemmohmcaa
open Tr
set_option linter.unusedSimpArgs false

abbrev Ty := Int × Int × Int
def tyG (g : G4) : Ty := (g.k, g.a, g.b)
def gT (x : Ty) : G4 := ⟨x.1, x.2.1, x.2.2, 0⟩
/-- which types keep their order. -/
def bT (x y : Ty) : Bool := (gT x).bound (gT y) || (gT y).bound (gT x)
theorem bT_bd : Bd bT := ⟨fun x y => Bool.or_comm _ _, fun x => by simp [bT, G4.bound, G4.same]⟩
theorem same_ty (g h : G4) : g.same h = decide (tyG g = tyG h) := by
  unfold G4.same tyG
  apply decide_eq_decide.2
  simp only [Prod.mk.injEq]

/-- a gate of some number of qubits. -/
def okT (g : G4) : Prop := 0 ≤ g.a ∧ ((g.k ≠ 2 ∧ g.b = -1) ∨ (g.k = 2 ∧ g.a < g.b)) ∧ 1 ≤ g.t ∧ g.t < 16
theorem okG_okT {n : Int} {g : G4} (h : okG n g = true) : okT g := by
  simp only [okG, decide_eq_true_eq] at h
  unfold okT
  omega

theorem touch_eq {g h : G4} (hg : okT g) (hh : okT h) : g.touch h = h.touch g := by
  unfold G4.touch
  apply decide_eq_decide.2
  unfold okT at hg hh
  omega
theorem meets_eq {g h : G4} (hg : okT g) (hh : okT h) : g.meets h = g.touch h := by
  unfold G4.touch G4.meets
  apply decide_eq_decide.2
  unfold okT at hg hh
  omega
theorem comm'_eq {g h : G4} (hg : okT g) (hh : okT h) : g.comm' h = g.comm h := by
  unfold G4.comm' G4.comm
  rw [meets_eq hg hh]
theorem same_sym (g h : G4) : g.same h = h.same g := by
  rw [same_ty, same_ty]
  exact decide_eq_decide.2 eq_comm
theorem comm_sym {g h : G4} (hg : okT g) (hh : okT h) : g.comm h = h.comm g := by
  unfold G4.comm
  rw [touch_eq hg hh, Bool.beq_comm]
theorem bound_sym {g h : G4} (hg : okT g) (hh : okT h) : g.bound h = h.bound g := by
  unfold G4.bound
  rw [same_sym, comm_sym hg hh]

/-- whether two gates keep their order. -/
def bS (g h : G4) : Bool := bT (tyG g) (tyG h)
theorem bS_sym (g h : G4) : bS g h = bS h g := bT_bd.sym _ _
theorem bound_bS {g h : G4} (hg : okT g) (hh : okT h) : g.bound h = bS g h := by
  show g.bound h = (g.bound h || h.bound g)
  rw [bound_sym hh hg, Bool.or_self]
theorem bound'_bS {g h : G4} (hg : okT g) (hh : okT h) : g.bound' h = bS g h := by
  rw [← bound_bS hg hh]
  unfold G4.bound' G4.bound
  rw [comm'_eq hg hh]
theorem bdr_bS {g h : G4} (hg : okT g) (hh : okT h) : bdr g h = bS g h := by
  unfold bdr
  rw [bound'_bS hh hg, bS_sym]
theorem same_bS {g h : G4} (he : g.same h = true) : bS g h = true := by
  rw [same_ty, decide_eq_true_eq] at he
  unfold bS
  rw [he]
  exact bT_bd.refl _
theorem comm_bS {g h : G4} (hg : okT g) (hh : okT h) (hs : g.same h = false) : g.comm h = !bS g h := by
  rw [← bound_bS hg hh]
  unfold G4.bound
  rw [hs]
  simp

/-- gates, all of them of some number of qubits. -/
def Ok (c : List G4) : Prop := ∀ g ∈ c, okT g
theorem vC_Ok {n : Int} {c : List G4} (h : vC n c = 0) : Ok c := fun g hg => okG_okT (vC_ok h g hg)
theorem Ok.app {c d : List G4} (h : Ok c) (k : Ok d) : Ok (c ++ d) := fun g hg => (List.mem_append.1 hg).elim (h g) (k g)
theorem Ok.left {c d : List G4} (h : Ok (c ++ d)) : Ok c := fun g hg => h g (List.mem_append_left _ hg)
theorem Ok.right {c d : List G4} (h : Ok (c ++ d)) : Ok d := fun g hg => h g (List.mem_append_right _ hg)
theorem Ok.nil : Ok [] := fun g hg => by cases hg
theorem Ok.cons {g : G4} {c : List G4} (h : okT g) (k : Ok c) : Ok (g :: c) := fun x hx => by
  rcases List.mem_cons.1 hx with rfl | hx
  · exact h
  · exact k x hx

/-- two relations that are one on some gates. -/
def Cg (bd bd' : G4 → G4 → Bool) (l : List G4) : Prop := ∀ g ∈ l, ∀ x ∈ l, bd g x = bd' g x
theorem cg_bound {l : List G4} (h : Ok l) : Cg G4.bound bS l := fun g hg x hx => bound_bS (h g hg) (h x hx)
theorem cg_bdr {l : List G4} (h : Ok l) : Cg bdr bS l := fun g hg x hx => bdr_bS (h g hg) (h x hx)

theorem fst1_congr {bd bd' : G4 → G4 → Bool} {l : List G4} (h : Cg bd bd' l) {i : Nat} (hi : i < l.length) : fst1 bd l i = fst1 bd' l i := by
  have hm : l.getD i default ∈ l := by
    rw [List.getD_eq_getElem?_getD, List.getElem?_eq_getElem hi]
    exact List.getElem_mem hi
  unfold fst1
  apply Bool.eq_iff_iff.2
  simp only [List.all_eq_true]
  constructor
  · intro H x hx
    rw [← h _ hm x (List.mem_of_mem_take hx)]
    exact H x hx
  · intro H x hx
    rw [h _ hm x (List.mem_of_mem_take hx)]
    exact H x hx
theorem fsN_congr {bd bd' : G4 → G4 → Bool} {l : List G4} (h : Cg bd bd' l) : fsN bd l l.length = fsN bd' l l.length := by
  unfold fsN
  refine List.filter_congr fun i hi => fst1_congr h (by simpa using hi)
theorem fsI_congr {bd bd' : G4 → G4 → Bool} {l : List G4} (h : Cg bd bd' l) : fsI bd l l.length = fsI bd' l l.length := by
  unfold fsI
  rw [fsN_congr h]
theorem wo_er (c : List G4) (i : Nat) : wo c i = c.eraseIdx i := (List.eraseIdx_eq_take_drop_succ c i).symm
theorem wo_mem {c : List G4} {i : Nat} {g : G4} (h : g ∈ wo c i) : g ∈ c := by
  unfold wo at h
  rcases List.mem_append.1 h with h | h
  · exact List.mem_of_mem_take h
  · exact List.mem_of_mem_drop h
theorem Cg.wo {bd bd' : G4 → G4 → Bool} {l : List G4} (h : Cg bd bd' l) (i : Nat) : Cg bd bd' (wo l i) := fun g hg x hx => h g (wo_mem hg) x (wo_mem hx)
theorem Ok.wo {l : List G4} (h : Ok l) (i : Nat) : Ok (wo l i) := fun g hg => h g (wo_mem hg)
theorem nmF_congr {lt bd bd' : G4 → G4 → Bool} : ∀ (n : Nat) {l : List G4}, Cg bd bd' l → nmF lt bd n l = nmF lt bd' n l
  | 0, l, _ => rfl
  | n + 1, l, h => by
    have e : bst lt bd l = bst lt bd' l := by unfold bst; rw [fsN_congr h]
    unfold nmF
    rw [e, nmF_congr n (h.wo _)]
theorem nmR_congr {lt bd bd' : G4 → G4 → Bool} {l : List G4} (h : Cg bd bd' l) : nmR lt bd l = nmR lt bd' l := nmF_congr _ h

/-- the name of a circuit. -/
def nmS (c : List G4) : List G4 := nmR G4.less bS c
theorem nm_bound {l : List G4} (h : Ok l) : nmR G4.less G4.bound l = nmS l := nmR_congr (cg_bound h)
theorem nm_bdr {l : List G4} (h : Ok l) : nmR G4.less bdr l = nmS l := nmR_congr (cg_bdr h)

theorem less_nt {g h k : G4} (h1 : g.less h = false) (h2 : h.less k = false) : g.less k = false := by
  unfold G4.less at *
  simp only [decide_eq_false_iff_not] at *
  omega
theorem less_as {g h : G4} (h1 : g.less h = true) : h.less g = false := by
  unfold G4.less at *
  simp only [decide_eq_false_iff_not, decide_eq_true_eq] at *
  omega
theorem less_tot {g h : G4} (h1 : g.less h = false) (h2 : h.less g = false) : g = h := by
  unfold G4.less at *
  simp only [decide_eq_false_iff_not] at *
  have : g.k = h.k ∧ g.a = h.a ∧ g.b = h.b ∧ g.t = h.t := by omega
  cases g; cases h
  simpa using this
theorem less_irr (g : G4) : g.less g = false := by
  unfold G4.less
  simp only [decide_eq_false_iff_not]
  omega

theorem foldl_min (c : List G4) : ∀ (t : List Nat) (x : Nat), ∀ y ∈ x :: t, G4.less (c.getD y default) (c.getD (t.foldl (fun b y => if G4.less (c.getD y default) (c.getD b default) then y else b) x) default) = false
  | [], x, y, hy => by
    have : y = x := by simpa using hy
    subst this
    exact less_irr _
  | z :: t, x, y, hy => by
    rw [List.foldl_cons]
    have ih := foldl_min c t (if G4.less (c.getD z default) (c.getD x default) then z else x)
    cases hz : G4.less (c.getD z default) (c.getD x default) with
    | true =>
      rw [hz, if_pos rfl] at ih
      rw [if_pos rfl]
      rcases List.mem_cons.1 hy with rfl | hy
      · exact less_nt (less_as hz) (ih z (by simp))
      · exact ih y hy
    | false =>
      rw [hz, if_neg (by simp)] at ih
      rw [if_neg (by simp)]
      rcases List.mem_cons.1 hy with rfl | hy
      · exact ih _ (by simp)
      · rcases List.mem_cons.1 hy with rfl | hy
        · exact less_nt hz (ih x (by simp))
        · exact ih y (by simp [hy])
theorem bstL_min (c : List G4) (l : List Nat) : ∀ y ∈ l, G4.less (c.getD y default) (c.getD (bstL G4.less c l) default) = false := by
  cases l with
  | nil => intro y hy; cases hy
  | cons x t => exact foldl_min c t x

theorem mem_fsN {bd : G4 → G4 → Bool} {c : List G4} {i : Nat} : i ∈ fsN bd c c.length ↔ i < c.length ∧ fst1 bd c i = true := by
  unfold fsN
  rw [List.mem_filter, List.mem_range]
theorem fst_iff {c : List G4} {i : Nat} : Fst tyG bT c i ↔ i ∈ fsN bS c c.length := by
  rw [mem_fsN]
  constructor
  · rintro ⟨hi, h⟩
    exact ⟨hi, fst1_true hi fun j hj hjl => by rw [bS_sym]; exact h j hj⟩
  · rintro ⟨hi, h⟩
    refine ⟨hi, fun j hj => ?_⟩
    cases hb : bT (tyG c[j]) (tyG c[i]) with
    | false => rfl
    | true =>
      have : bS c[i] c[j] = true := by rw [bS_sym]; exact hb
      rw [fst1_false hi hj this] at h
      cases h
theorem getD_at {c : List G4} {i : Nat} (h : i < c.length) : c.getD i default = c[i] := by
  rw [List.getD_eq_getElem?_getD, List.getElem?_eq_getElem h]
  rfl

theorem pick : Pick tyG bT (fun a b => G4.less b a = false) (bst G4.less bS) where
  fst := fun c hc => fst_iff.2 (bstL_mem _ _ _ (fsN_ne (List.length_pos_iff.2 hc)))
  min := fun c hc i hi h1 h2 => by
    have := bstL_min c (fsN bS c c.length) i (fst_iff.1 hi)
    rw [getD_at h2] at this
    show G4.less c[i] c[bst G4.less bS c] = false
    rw [← getD_at h1]
    exact this
theorem nmF_nm : ∀ (n : Nat) (c : List G4), c.length = n → nmF G4.less bS n c = nm (bst G4.less bS) n c
  | 0, c, _ => rfl
  | n + 1, c, h => by
    have hp : 0 < c.length := by omega
    have hb := bst_lt G4.less bS c hp
    have hne : c.isEmpty = false := by cases c with | nil => simp at h | cons => rfl
    rw [nm_cons hb, nmF, hne, if_neg (by simp), getD_at hb, wo_er]
    congr 1
    refine nmF_nm n _ ?_
    have := er_len hb
    omega
theorem nmS_nm (c : List G4) : nmS c = nm (bst G4.less bS) c.length c := nmF_nm _ _ rfl

/-- circuits that are alike. -/
abbrev Al (c d : List G4) : Prop := Alk tyG bT c d
theorem nmS_al (c : List G4) : Al c (nmS c) := by
  rw [nmS_nm]
  exact nm_alk bT_bd pick _ _ rfl
theorem nmS_iff (c d : List G4) : nmS c = nmS d ↔ Al c d := by
  rw [nmS_nm, nmS_nm]
  exact nm_iff bT_bd pick (fun a b h1 h2 => less_tot h2 h1) c d
theorem nmS_idem (c : List G4) : nmS (nmS c) = nmS c := (nmS_iff _ _).2 (nmS_al c).symm
theorem nmS_len (c : List G4) : (nmS c).length = c.length := nmR_len _ _ _ _ rfl

/-- alike circuits have the same gates. -/
theorem Al.mem {c d : List G4} (h : Al c d) {g : G4} (hg : g ∈ c) : g ∈ d := by
  have e := h (tyG g) (tyG g) (bT_bd.refl _)
  have : g ∈ pj tyG (tyG g) (tyG g) c := List.mem_filter.2 ⟨hg, by simp⟩
  rw [e] at this
  exact (List.mem_filter.1 this).1
theorem Al.ok {c d : List G4} (h : Al c d) (k : Ok c) : Ok d := fun g hg => k g (Al.mem h.symm hg)
theorem nmS_ok {c : List G4} (h : Ok c) : Ok (nmS c) := (nmS_al c).ok h

theorem prL_pj (c : List G4) (g h : G4) : prL c g h = pj tyG (tyG g) (tyG h) c := by
  unfold prL pj
  refine List.filter_congr fun x _ => ?_
  rw [same_ty, same_ty]

theorem alkB_al {c d : List G4} (hc : Ok c) (hd : Ok d) : alkB c d = true ↔ Al c d := by
  have hok : Ok (c ++ d) := hc.app hd
  rw [alkB_iff]
  constructor
  · intro H
    have key : ∀ g ∈ c ++ d, ∀ h ∈ c ++ d, bS g h = true → pj tyG (tyG g) (tyG h) c = pj tyG (tyG g) (tyG h) d := by
      intro g hg h hh hb
      obtain ⟨i, hi, rfl⟩ := List.mem_iff_getElem.1 hg
      obtain ⟨k, hk, rfl⟩ := List.mem_iff_getElem.1 hh
      have one : ∀ i (hi : i < (c ++ d).length) k (hk : k < (c ++ d).length), k ≤ i → bS (c ++ d)[i] (c ++ d)[k] = true → pj tyG (tyG (c ++ d)[i]) (tyG (c ++ d)[k]) c = pj tyG (tyG (c ++ d)[i]) (tyG (c ++ d)[k]) d := by
        intro i hi k hk hki hb
        have := H i hi k (by omega)
        unfold alk1 at this
        rw [getD_at hi, getD_at hk, bound'_bS (hok _ (List.getElem_mem hi)) (hok _ (List.getElem_mem hk)), hb, prL_pj, prL_pj] at this
        simpa using this
      rcases Nat.le_total k i with h | h
      · exact one i hi k hk h hb
      · have := one k hk i hi h (by rw [bS_sym]; exact hb)
        have sw : ∀ x y (l : List G4), pj tyG x y l = pj tyG y x l := fun x y l => by
          unfold pj
          refine List.filter_congr fun z _ => Bool.or_comm _ _
        rw [sw, this, sw]
    intro x y hb
    by_cases hx : ∃ g ∈ c ++ d, tyG g = x
    · obtain ⟨g, hg, rfl⟩ := hx
      by_cases hy : ∃ h ∈ c ++ d, tyG h = y
      · obtain ⟨h, hh, rfl⟩ := hy
        exact key g hg h hh hb
      · have e : ∀ l, (∀ z ∈ l, z ∈ c ++ d) → pj tyG (tyG g) y l = pj tyG (tyG g) (tyG g) l := fun l hl => by
          unfold pj
          refine List.filter_congr fun z hz => ?_
          have : ¬ tyG z = y := fun e => hy ⟨z, hl z hz, e⟩
          simp [this]
        rw [e c fun z hz => List.mem_append_left _ hz, e d fun z hz => List.mem_append_right _ hz]
        exact key g hg g hg (bT_bd.refl _)
    · by_cases hy : ∃ h ∈ c ++ d, tyG h = y
      · obtain ⟨h, hh, rfl⟩ := hy
        have e : ∀ l, (∀ z ∈ l, z ∈ c ++ d) → pj tyG x (tyG h) l = pj tyG (tyG h) (tyG h) l := fun l hl => by
          unfold pj
          refine List.filter_congr fun z hz => ?_
          have : ¬ tyG z = x := fun e => hx ⟨z, hl z hz, e⟩
          simp [this]
        rw [e c fun z hz => List.mem_append_left _ hz, e d fun z hz => List.mem_append_right _ hz]
        exact key h hh h hh (bT_bd.refl _)
      · rw [pj_none (c := c) fun z hz e => e.elim (fun e => hx ⟨z, List.mem_append_left _ hz, e⟩) (fun e => hy ⟨z, List.mem_append_left _ hz, e⟩),
          pj_none (c := d) fun z hz e => e.elim (fun e => hx ⟨z, List.mem_append_right _ hz, e⟩) (fun e => hy ⟨z, List.mem_append_right _ hz, e⟩)]
  · intro H i hi k hk
    have hkl : k < (c ++ d).length := by omega
    unfold alk1
    rw [getD_at hi, getD_at hkl, bound'_bS (hok _ (List.getElem_mem hi)) (hok _ (List.getElem_mem hkl)), prL_pj, prL_pj]
    cases hb : bS (c ++ d)[i] (c ++ d)[k] with
    | false => rfl
    | true => rw [H _ _ hb]; simp
theorem alkB_name {c d : List G4} (hc : Ok c) (hd : Ok d) : alkB c d = decide (nmS c = nmS d) := by
  apply Bool.eq_iff_iff.2
  rw [alkB_al hc hd, decide_eq_true_eq, nmS_iff]
end Go.Proofs.Ytkmbbbemmohmcaa

namespace Go.Proofs.Ytkmbbbemmohmcaa
open Tr
set_option linter.unusedSimpArgs false

/-- two gates of one type, put together. -/
def mg (g h : G4) : List G4 := if (g.t + h.t) % 16 = 0 then [] else [{ g with t := (g.t + h.t) % 16 }]
theorem mg_ty {g h z : G4} (hz : z ∈ mg g h) : tyG z = tyG g := by
  unfold mg at hz
  split at hz
  · cases hz
  · rw [List.mem_singleton] at hz
    subst hz
    rfl
theorem mg_ok {g h : G4} (hg : okT g) : Ok (mg g h) := fun z hz => by
  unfold mg at hz
  split at hz
  · cases hz
  · rw [List.mem_singleton] at hz
    subst hz
    unfold okT at hg ⊢
    simp only
    omega

/-- a gate of this type can be the first one; then the rest is this. -/
def Hd (x : Ty) (s : List G4) (a : G4) (r : List G4) : Prop := Al s (a :: r) ∧ tyG a = x
theorem Hd.uniq {x : Ty} {s r q : List G4} {a b : G4} (h1 : Hd x s a r) (h2 : Hd x s b q) : a = b ∧ Al r q := by
  have e : Al (a :: r) (b :: q) := h1.1.symm.trans h2.1
  have h := e x x (bT_bd.refl _)
  rw [pj_cons x x a, pj_one_in (.inl h1.2), pj_cons x x b, pj_one_in (.inl h2.2)] at h
  simp only [List.cons_append, List.cons.injEq] at h
  obtain ⟨rfl, _⟩ := h
  exact ⟨rfl, Alk.uncons e⟩
theorem Hd.al {x : Ty} {s s2 r : List G4} {a : G4} (h : Hd x s a r) (e : Al s s2) : Hd x s2 a r := ⟨e.symm.trans h.1, h.2⟩
theorem Hd.self (g : G4) (s : List G4) : Hd (tyG g) (g :: s) g s := ⟨Alk.refl _, rfl⟩
theorem Hd.skipL {x : Ty} {s r : List G4} {a : G4} (p : List G4) (hp : ∀ z ∈ p, bT (tyG z) x = false) (h : Hd x s a r) : Hd x (p ++ s) a (p ++ r) :=
  ⟨(h.1.pre p).trans (alk_front bT_bd p r fun z hz => by rw [h.2]; exact hp z hz), h.2⟩
theorem Hd.unskip {x : Ty} {s r : List G4} {a g : G4} (hb : bT (tyG g) x = false) (h : Hd x (g :: s) a r) : ∃ q, Hd x s a q ∧ Al r (g :: q) := by
  obtain ⟨c1, c2, e, h1, h2⟩ := alk_take bT_bd h.1
  cases c1 with
  | nil =>
    simp only [List.nil_append, List.cons.injEq] at e
    rw [e.1, h.2, bT_bd.refl] at hb
    cases hb
  | cons y c1 =>
    simp only [List.cons_append, List.cons.injEq] at e
    obtain ⟨rfl, rfl⟩ := e
    exact ⟨c1 ++ c2, ⟨alk_front bT_bd c1 c2 fun z hz => h1 z (by simp [hz]), h.2⟩, h2.symm⟩
theorem Hd.unskipL {x : Ty} {s : List G4} {a : G4} : ∀ (p : List G4), (∀ z ∈ p, bT (tyG z) x = false) → ∀ {r : List G4}, Hd x (p ++ s) a r → ∃ q, Hd x s a q
  | [], _, r, h => ⟨r, h⟩
  | z :: p, hp, r, h => by
    obtain ⟨q, h1, _⟩ := Hd.unskip (hp z (by simp)) h
    exact Hd.unskipL p (fun y hy => hp y (by simp [hy])) h1

open Classical in
/-- a gate put ahead of what is left. -/
noncomputable def push (g : G4) (s : List G4) : List G4 := if h : ∃ p : G4 × List G4, Hd (tyG g) s p.1 p.2 then mg g (Classical.choose h).1 ++ (Classical.choose h).2 else g :: s
def nH (x : Ty) (s : List G4) : Prop := ∀ a r, ¬ Hd x s a r
theorem nH_or (x : Ty) (s : List G4) : nH x s ∨ ∃ a r, Hd x s a r := by
  by_cases h : ∃ a r, Hd x s a r
  · exact .inr h
  · exact .inl fun a r k => h ⟨a, r, k⟩
theorem push_in {g a : G4} {s r : List G4} (h : Hd (tyG g) s a r) : Al (push g s) (mg g a ++ r) := by
  have he : ∃ p : G4 × List G4, Hd (tyG g) s p.1 p.2 := ⟨(a, r), h⟩
  unfold push
  rw [dif_pos he]
  obtain ⟨e1, e2⟩ := Hd.uniq (Classical.choose_spec he) h
  rw [e1]
  exact Alk.pre _ e2
theorem push_out {g : G4} {s : List G4} (h : nH (tyG g) s) : push g s = g :: s := by
  unfold push
  rw [dif_neg]
  rintro ⟨p, hp⟩
  exact h _ _ hp
theorem nH.al {x : Ty} {s s2 : List G4} (h : nH x s) (e : Al s s2) : nH x s2 := fun a r k => h a r (k.al e.symm)
theorem push_al (g : G4) {s s2 : List G4} (e : Al s s2) : Al (push g s) (push g s2) := by
  rcases nH_or (tyG g) s with h | ⟨a, r, h⟩
  · rw [push_out h, push_out (h.al e)]
    exact Alk.cons g e
  · exact (push_in h).trans (push_in (h.al e)).symm
theorem push_ok {g : G4} {s : List G4} (hg : okT g) (hs : Ok s) : Ok (push g s) := by
  rcases nH_or (tyG g) s with h | ⟨a, r, h⟩
  · rw [push_out h]
    exact hs.cons hg
  · have : Ok (a :: r) := Al.ok h.1 hs
    exact Al.ok (push_in h).symm ((mg_ok hg).app fun z hz => this z (by simp [hz]))

theorem al_swapL {p q : List G4} (h : ∀ y ∈ p, ∀ z ∈ q, bT (tyG y) (tyG z) = false) (t : List G4) : Al (p ++ (q ++ t)) (q ++ (p ++ t)) := by
  induction q generalizing t with
  | nil => exact Alk.refl _
  | cons z q ih =>
    have h1 : Al (p ++ z :: (q ++ t)) (z :: (p ++ (q ++ t))) := alk_front bT_bd p (q ++ t) fun y hy => h y hy z (by simp)
    exact h1.trans (Alk.cons z (ih (fun y hy x hx => h y hy x (by simp [hx])) t))

theorem push_comm1 {g h b : G4} {s r : List G4} (hb : bT (tyG g) (tyG h) = false) (hx : Hd (tyG g) s b r) (hy : nH (tyG h) s) : Al (push g (push h s)) (push h (push g s)) := by
  have hb' : bT (tyG h) (tyG g) = false := by rw [bT_bd.sym]; exact hb
  rw [push_out hy]
  have h1 := push_in (Hd.skipL [h] (fun z hz => by rw [List.mem_singleton] at hz; rw [hz]; exact hb') hx)
  have hm : ∀ z ∈ mg g b, bT (tyG z) (tyG h) = false := fun z hz => by rw [mg_ty hz]; exact hb
  have hn : nH (tyG h) (mg g b ++ r) := fun a q k => by
    obtain ⟨q', k'⟩ := Hd.unskipL _ hm k
    exact hy _ _ (Hd.al (Hd.skipL [b] (fun z hz => by rw [List.mem_singleton] at hz; rw [hz, hx.2]; exact hb) k') hx.1.symm)
  have h2 := push_al h (push_in hx)
  rw [push_out hn] at h2
  exact (h1.trans (alk_front bT_bd (mg g b) r hm)).trans h2.symm
theorem push_comm {g h : G4} {s : List G4} (hb : bT (tyG g) (tyG h) = false) : Al (push g (push h s)) (push h (push g s)) := by
  have hb' : bT (tyG h) (tyG g) = false := by rw [bT_bd.sym]; exact hb
  rcases nH_or (tyG g) s with hx | ⟨b, r, hx⟩
  · rcases nH_or (tyG h) s with hy | ⟨a, q, hy⟩
    · rw [push_out hx, push_out hy, push_out (s := h :: s), push_out (s := g :: s)]
      · exact alk_swap bT_bd hb [] s
      · intro a r k
        obtain ⟨q, k', _⟩ := Hd.unskip hb k
        exact hy _ _ k'
      · intro a r k
        obtain ⟨q, k', _⟩ := Hd.unskip hb' k
        exact hx _ _ k'
    · exact (push_comm1 hb' hy hx).symm
  · rcases nH_or (tyG h) s with hy | ⟨a, q, hy⟩
    · exact push_comm1 hb hx hy
    · obtain ⟨t, h1, h2⟩ := Hd.unskip (by rw [hx.2]; exact hb) (hy.al hx.1)
      -- s: b, a, t, in whatever order
      have ha := h1.2
      have hbt := hx.2
      have m1 : ∀ z ∈ mg g b, bT (tyG z) (tyG h) = false := fun z hz => by rw [mg_ty hz]; exact hb
      have m2 : ∀ z ∈ mg h a, bT (tyG z) (tyG g) = false := fun z hz => by rw [mg_ty hz]; exact hb'
      have y1 : Hd (tyG h) s a (b :: t) := ⟨hy.1.trans (Alk.cons a h2), hy.2⟩
      have x1 : Hd (tyG g) s b (a :: t) := ⟨hx.1.trans (Alk.cons b h1.1), hx.2⟩
      have y2 : Hd (tyG g) (mg h a ++ b :: t) b (mg h a ++ t) := Hd.skipL _ m2 ⟨Alk.refl _, hbt⟩
      have x2 : Hd (tyG h) (mg g b ++ a :: t) a (mg g b ++ t) := Hd.skipL _ m1 ⟨Alk.refl _, ha⟩
      have e1 := (push_al g (push_in y1)).trans (push_in y2)
      have e2 := (push_al h (push_in x1)).trans (push_in x2)
      refine (e1.trans (al_swapL (fun y hy z hz => ?_) t)).trans e2.symm
      rw [mg_ty hz]
      exact m1 y hy

theorem g4_ext {g h : G4} (h1 : tyG g = tyG h) (h2 : g.t = h.t) : g = h := by
  unfold tyG at h1
  simp only [Prod.mk.injEq] at h1
  cases g; cases h
  simp only [G4.mk.injEq]
  exact ⟨h1.1, h1.2.1, h1.2.2, h2⟩
theorem push_merge {g h : G4} {s : List G4} (hgo : okT g) (hho : okT h) (hs : Ok s) (he : tyG g = tyG h) (hn : ∀ a r, Hd (tyG g) s a r → nH (tyG g) r) : Al (push g (push h s)) ((mg g h).foldr push s) := by
  rcases nH_or (tyG g) s with hx | ⟨a, r, hx⟩
  · rw [push_out (g := h) (he ▸ hx)]
    refine (push_in (g := g) (a := h) (r := s) ⟨Alk.refl _, he.symm⟩).trans ?_
    unfold mg
    split
    · exact Alk.refl _
    · show Al _ (push { g with t := (g.t + h.t) % 16 } s)
      rw [push_out (g := { g with t := (g.t + h.t) % 16 }) hx]
      exact Alk.refl _
  · have hao : okT a := Al.ok hx.1 hs a (by simp)
    have hr := hn _ _ hx
    have e1 : Al (push h s) (mg h a ++ r) := push_in (he ▸ hx)
    refine (push_al g e1).trans ?_
    unfold okT at hgo hho hao
    by_cases c1 : (h.t + a.t) % 16 = 0
    · rw [show mg h a = [] from if_pos c1, List.nil_append, push_out hr]
      by_cases c2 : (g.t + h.t) % 16 = 0
      · rw [show mg g h = [] from if_pos c2]
        have : g = a := g4_ext hx.2.symm (by omega)
        rw [this]
        exact hx.1.symm
      · rw [show mg g h = [_] from if_neg c2]
        refine Alk.symm ((push_in (g := { g with t := (g.t + h.t) % 16 }) hx).trans ?_)
        have c3 : ((g.t + h.t) % 16 + a.t) % 16 = g.t := by omega
        have : mg { g with t := (g.t + h.t) % 16 } a = [g] := by
          unfold mg
          simp only [c3]
          rw [if_neg (by omega)]
        rw [this]
        exact Alk.refl _
    · rw [show mg h a = [_] from if_neg c1]
      have e2 : Hd (tyG g) ([{ h with t := (h.t + a.t) % 16 }] ++ r) { h with t := (h.t + a.t) % 16 } r := ⟨Alk.refl _, he.symm⟩
      refine (push_in e2).trans ?_
      by_cases c2 : (g.t + h.t) % 16 = 0
      · rw [show mg g h = [] from if_pos c2]
        have c3 : (g.t + (h.t + a.t) % 16) % 16 = a.t := by omega
        have : mg g { h with t := (h.t + a.t) % 16 } = [a] := by
          unfold mg
          simp only [c3]
          rw [if_neg (by omega)]
          congr 1
          exact g4_ext hx.2.symm rfl
        rw [this]
        exact hx.1.symm
      · rw [show mg g h = [_] from if_neg c2]
        refine Alk.symm ((push_in (g := { g with t := (g.t + h.t) % 16 }) hx).trans ?_)
        have : mg { g with t := (g.t + h.t) % 16 } a = mg g { h with t := (h.t + a.t) % 16 } := by
          have c3 : ((g.t + h.t) % 16 + a.t) % 16 = (g.t + (h.t + a.t) % 16) % 16 := by omega
          unfold mg
          simp only [c3]
        rw [this]
        exact Alk.refl _

/-- no two neighbors of one type. -/
def NoAdj (ts : List Ty) : Prop := ∀ u x v, ts ≠ u ++ x :: x :: v
/-- nothing can be taken together. -/
def Sh (s : List G4) : Prop := ∀ l, Al s l → NoAdj (l.map tyG)
theorem Sh.al {s s2 : List G4} (h : Sh s) (e : Al s s2) : Sh s2 := fun l hl => h l (e.trans hl)
theorem Sh.tail {g : G4} {s : List G4} (h : Sh (g :: s)) : Sh s := fun l hl u x v e => h (g :: l) (Alk.cons g hl) (tyG g :: u) x v (by simp [e])
theorem Sh.nil : Sh [] := fun l hl => by
  rw [alk_nil bT_bd hl]
  intro u x v e
  cases u <;> simp at e
theorem Sh.hd {x : Ty} {s r : List G4} {a : G4} (h : Sh s) (k : Hd x s a r) : nH x r := fun b q k2 =>
  h (a :: b :: q) (k.1.trans (Alk.cons a k2.1)) [] x (q.map tyG) (by simp [k.2, k2.2])
theorem Sh.head {a b : G4} {s : List G4} (h : Sh (a :: s)) (e : tyG a = tyG b) : Sh (b :: s) := fun l hl => by
  obtain ⟨c1, c2, rfl, h1, h2⟩ := alk_take bT_bd hl.symm
  have h3 := h (c1 ++ a :: c2) ((Alk.cons a h2.symm).trans (alk_front bT_bd c1 c2 fun x hx => by rw [e]; exact h1 x hx).symm)
  rw [List.map_append, List.map_cons, e] at h3
  rw [List.map_append, List.map_cons]
  exact h3
theorem Sh.cons {g : G4} {s : List G4} (h : Sh s) (hn : nH (tyG g) s) : Sh (g :: s) := fun l hl => by
  obtain ⟨c1, c2, rfl, h1, h2⟩ := alk_take bT_bd hl.symm
  have h3 := h (c1 ++ c2) h2.symm
  rw [List.map_append] at h3
  have nof : ∀ v, c2.map tyG ≠ tyG g :: v := fun v e => by
    cases c2 with
    | nil => simp at e
    | cons b c2 =>
      simp only [List.map_cons, List.cons.injEq] at e
      exact hn b (c1 ++ c2) ⟨h2.symm.trans (alk_front bT_bd c1 c2 fun x hx => by rw [e.1]; exact h1 x hx), e.1⟩
  intro u x v e
  rw [List.map_append, List.map_cons] at e
  rcases List.append_eq_append_iff.1 e with ⟨w, e1, e2⟩ | ⟨w, e1, e2⟩
  · cases w with
    | nil =>
      simp only [List.nil_append, List.cons.injEq] at e2
      exact nof v (by rw [e2.2, e2.1])
    | cons y w =>
      simp only [List.cons_append, List.cons.injEq] at e2
      exact h3 (c1.map tyG ++ w) x v (by rw [e2.2, List.append_assoc])
  · cases w with
    | nil =>
      simp only [List.nil_append, List.cons.injEq] at e2
      exact nof v (by rw [← e2.2, e2.1])
    | cons y w =>
      simp only [List.cons_append, List.cons.injEq] at e2
      obtain ⟨rfl, e2⟩ := e2
      cases w with
      | nil =>
        simp only [List.nil_append, List.cons.injEq] at e2
        have hm : x ∈ c1.map tyG := by rw [e1]; simp
        obtain ⟨z, hz, hzx⟩ := List.mem_map.1 hm
        have := h1 z hz
        rw [hzx, e2.1, bT_bd.refl] at this
        cases this
      | cons y2 w =>
        simp only [List.cons_append, List.cons.injEq] at e2
        obtain ⟨rfl, e2⟩ := e2
        exact h3 u x (w ++ c2.map tyG) (by rw [e1]; simp)
theorem Sh.push {g : G4} {s : List G4} (h : Sh s) : Sh (push g s) := by
  rcases nH_or (tyG g) s with hx | ⟨a, r, hx⟩
  · rw [push_out hx]
    exact h.cons hx
  · refine Sh.al ?_ (push_in hx).symm
    have h1 := h.al hx.1
    unfold mg
    split
    · exact h1.tail
    · exact h1.head hx.2

/-- all gates of a circuit put ahead. -/
noncomputable def nf (c s : List G4) : List G4 := c.foldr push s
theorem nf_cons (g : G4) (c s : List G4) : nf (g :: c) s = push g (nf c s) := rfl
theorem nf_app (c d s : List G4) : nf (c ++ d) s = nf c (nf d s) := List.foldr_append
theorem nf_sh (c : List G4) {s : List G4} (h : Sh s) : Sh (nf c s) := by
  induction c with
  | nil => exact h
  | cons g c ih => exact Sh.push ih
theorem nf_ok {c s : List G4} (hc : Ok c) (h : Ok s) : Ok (nf c s) := by
  induction c with
  | nil => exact h
  | cons g c ih => exact push_ok (hc g (by simp)) (ih fun z hz => hc z (by simp [hz]))
theorem nf_al2 (c : List G4) {s s2 : List G4} (e : Al s s2) : Al (nf c s) (nf c s2) := by
  induction c with
  | nil => exact e
  | cons g c ih => exact push_al g ih
theorem nf_short : ∀ c, Sh c → Al (nf c []) c
  | [], _ => Alk.refl _
  | g :: c, h => by
    have h1 := push_al g (nf_short c h.tail)
    rw [push_out (h.hd (Hd.self g c))] at h1
    exact h1

/-- circuits that are equal: by exchanges, and by taking together. -/
inductive Gq : List G4 → List G4 → Prop
  | refl (c : List G4) : Gq c c
  | symm {c d : List G4} : Gq c d → Gq d c
  | trans {c d e : List G4} : Gq c d → Gq d e → Gq c e
  | swap (u v : List G4) (g h : G4) : Ok u → Ok v → okT g → okT h → bT (tyG g) (tyG h) = false → Gq (u ++ g :: h :: v) (u ++ h :: g :: v)
  | merge (u v : List G4) (g h : G4) : Ok u → Ok v → okT g → okT h → tyG g = tyG h → Gq (u ++ g :: h :: v) (u ++ (mg g h ++ v))
theorem Gq.ok {c d : List G4} (h : Gq c d) : Ok c ↔ Ok d := by
  induction h with
  | refl => exact Iff.rfl
  | symm _ ih => exact ih.symm
  | trans _ _ i1 i2 => exact i1.trans i2
  | swap u v g h hu hv hg hh _ => exact ⟨fun _ => hu.app ((hv.cons hg).cons hh), fun _ => hu.app ((hv.cons hh).cons hg)⟩
  | merge u v g h hu hv hg hh _ => exact ⟨fun _ => hu.app ((mg_ok hg).app hv), fun _ => hu.app ((hv.cons hh).cons hg)⟩
theorem Gq.sound {c d : List G4} (h : Gq c d) : ∀ s, Sh s → Ok s → Al (nf c s) (nf d s) := by
  induction h with
  | refl => exact fun _ _ _ => Alk.refl _
  | symm _ ih => exact fun s h1 h2 => (ih s h1 h2).symm
  | trans _ _ i1 i2 => exact fun s h1 h2 => (i1 s h1 h2).trans (i2 s h1 h2)
  | swap u v g h hu hv hg hh hb =>
    intro s h1 h2
    rw [nf_app, nf_app]
    exact nf_al2 u (push_comm hb)
  | merge u v g h hu hv hg hh he =>
    intro s h1 h2
    rw [nf_app, nf_app, nf_app]
    exact nf_al2 u (push_merge hg hh (nf_ok hv h2) he fun a r k => (nf_sh v h1).hd k)
theorem Gq.ctx {c d : List G4} (h : Gq c d) {p q : List G4} (hp : Ok p) (hq : Ok q) : Gq (p ++ (c ++ q)) (p ++ (d ++ q)) := by
  induction h with
  | refl => exact .refl _
  | symm _ ih => exact .symm ih
  | trans _ _ i1 i2 => exact .trans i1 i2
  | swap u v g h hu hv hg hh hb =>
    have := Gq.swap (p ++ u) (v ++ q) g h (hp.app hu) (hv.app hq) hg hh hb
    simpa using this
  | merge u v g h hu hv hg hh he =>
    have := Gq.merge (p ++ u) (v ++ q) g h (hp.app hu) (hv.app hq) hg hh he
    simpa using this
theorem Gq.pre {c d : List G4} (h : Gq c d) {p : List G4} (hp : Ok p) : Gq (p ++ c) (p ++ d) := by
  have := h.ctx hp Ok.nil
  simpa using this
theorem Gq.post {c d : List G4} (h : Gq c d) {q : List G4} (hq : Ok q) : Gq (c ++ q) (d ++ q) := by
  have := h.ctx Ok.nil hq
  simpa using this
theorem gq_front {g : G4} (hg : okT g) {c2 : List G4} (h2 : Ok c2) : ∀ (c1 : List G4), Ok c1 → (∀ x ∈ c1, bT (tyG x) (tyG g) = false) → Gq (c1 ++ g :: c2) (g :: (c1 ++ c2))
  | [], _, _ => .refl _
  | x :: c1, hc, h => by
    have hx : okT x := hc x (by simp)
    have hc1 : Ok c1 := fun y hy => hc y (by simp [hy])
    have h1 := (gq_front hg h2 c1 hc1 fun y hy => h y (by simp [hy])).pre (p := [x]) (Ok.nil.cons hx)
    exact .trans h1 (.swap [] (c1 ++ c2) x g Ok.nil (hc1.app h2) hx hg (h x (by simp)))
theorem al_gq : ∀ (d : List G4) {c : List G4}, Al c d → Ok c → Gq c d
  | [], c, h, _ => by
    rw [alk_nil bT_bd h.symm]
    exact .refl _
  | g :: d, c, h, hc => by
    obtain ⟨c1, c2, rfl, h1, h2⟩ := alk_take bT_bd h
    have hg : okT g := hc g (by simp)
    have k1 : Ok c1 := hc.left
    have k2 : Ok c2 := fun z hz => hc z (by simp [hz])
    exact .trans (gq_front hg k2 c1 k1 h1) ((al_gq d h2 (k1.app k2)).pre (p := [g]) (Ok.nil.cons hg))

/-! two gates that meet. -/
theorem mtIn_some {g : G4} : ∀ {l : List G4} {j : Nat}, mtIn g l = some j → ∃ w h v, l = w ++ h :: v ∧ w.length = j ∧ g.same h = true ∧ ∀ x ∈ w, g.same x = false ∧ g.comm' x = true
  | [], j, h => by simp [mtIn] at h
  | x :: l, j, h => by
    unfold mtIn at h
    cases hs : g.same x with
    | true =>
      rw [hs, if_pos rfl] at h
      injection h with h
      exact ⟨[], x, l, rfl, h, hs, by simp⟩
    | false =>
      rw [hs, if_neg (by simp)] at h
      cases hc : g.comm' x with
      | false => rw [hc] at h; simp at h
      | true =>
        rw [hc, if_pos rfl] at h
        obtain ⟨i, hi, rfl⟩ := Option.map_eq_some_iff.1 h
        obtain ⟨w, y, v, rfl, h1, h2, h3⟩ := mtIn_some hi
        refine ⟨x :: w, y, v, rfl, by simp [h1], h2, fun z hz => ?_⟩
        rcases List.mem_cons.1 hz with rfl | hz
        · exact ⟨hs, hc⟩
        · exact h3 z hz
theorem mtIn_none {g : G4} (hg : okT g) : ∀ {l : List G4}, Ok l → mtIn g l = none → ∀ w h v, l = w ++ h :: v → tyG h = tyG g → (∀ x ∈ w, bT (tyG x) (tyG g) = false) → False
  | [], _, _, w, h, v, e, _, _ => by simp at e
  | x :: l, ho, hn, w, h, v, e, he, hw => by
    unfold mtIn at hn
    cases w with
    | nil =>
      simp only [List.nil_append, List.cons.injEq] at e
      have : g.same x = true := by rw [same_ty, e.1, he]; simp
      rw [this, if_pos rfl] at hn
      cases hn
    | cons y w =>
      simp only [List.cons_append, List.cons.injEq] at e
      obtain ⟨rfl, e⟩ := e
      have hx := ho x (by simp)
      have hb : bT (tyG x) (tyG g) = false := hw x (by simp)
      have hs : g.same x = false := by
        cases hs : g.same x with
        | false => rfl
        | true =>
          have := same_bS hs
          rw [bS_sym] at this
          unfold bS at this
          rw [this] at hb
          cases hb
      have hc : g.comm' x = true := by
        rw [comm'_eq hg hx, comm_bS hg hx hs, bS_sym]
        unfold bS
        rw [hb]
        rfl
      rw [hs, if_neg (by simp), hc, if_pos rfl, Option.map_eq_none_iff] at hn
      exact mtIn_none hg (fun z hz => ho z (by simp [hz])) hn w h v e he fun z hz => hw z (by simp [hz])
theorem sh_of_mt : ∀ {c : List G4}, Ok c → mt c = none → Sh c
  | [], _, _ => Sh.nil
  | g :: c, ho, h => by
    have hc : Ok c := fun z hz => ho z (by simp [hz])
    unfold mt at h
    cases hm : mtIn g c with
    | some k => rw [hm] at h; cases h
    | none =>
      rw [hm] at h
      have h' : mt c = none := by simpa using h
      refine Sh.cons (sh_of_mt hc h') fun a r k => ?_
      obtain ⟨c1, c2, e, h1, _⟩ := alk_take bT_bd k.1
      exact mtIn_none (ho g (by simp)) hc hm c1 a c2 e k.2 fun x hx => by rw [← k.2]; exact h1 x hx
theorem mt_some : ∀ {c : List G4} {i k : Nat}, Ok c → mt c = some (i, k) → ∃ u g w h v, c = u ++ g :: (w ++ h :: v) ∧ u.length = i ∧ k = i + 1 + w.length ∧ tyG g = tyG h ∧ ∀ x ∈ w, bT (tyG x) (tyG h) = false
  | [], i, k, _, h => by simp [mt] at h
  | g :: c, i, k, ho, h => by
    have hc : Ok c := fun z hz => ho z (by simp [hz])
    have hg := ho g (by simp)
    unfold mt at h
    cases hm : mtIn g c with
    | some j =>
      rw [hm] at h
      simp only [Option.some.injEq, Prod.mk.injEq] at h
      obtain ⟨w, y, v, e, h1, h2, h3⟩ := mtIn_some hm
      have het : tyG g = tyG y := by rw [same_ty, decide_eq_true_eq] at h2; exact h2
      refine ⟨[], g, w, y, v, by rw [e]; rfl, h.1, by omega, het, fun x hx => ?_⟩
      have hxo : okT x := hc x (by rw [e]; simp [hx])
      have := h3 x hx
      rw [comm'_eq hg hxo, comm_bS hg hxo this.1] at this
      have h4 := this.2
      rw [← het, bT_bd.sym]
      unfold bS at h4
      simpa using h4
    | none =>
      rw [hm] at h
      obtain ⟨p, hp, hpe⟩ := Option.map_eq_some_iff.1 h
      simp only [Prod.mk.injEq] at hpe
      obtain ⟨u, y, w, z, v, e, h1, h2, h3, h4⟩ := mt_some (i := p.1) (k := p.2) hc hp
      exact ⟨g :: u, y, w, z, v, by rw [e]; rfl, by simp; omega, by omega, h3, h4⟩
theorem mt_none {c : List G4} (ho : Ok c) (h : Sh c) : mt c = none := by
  cases hm : mt c with
  | none => rfl
  | some p =>
    exfalso
    obtain ⟨u, g, w, y, v, rfl, _, _, h3, h4⟩ := mt_some (i := p.1) (k := p.2) ho hm
    have h5 : Al (u ++ g :: (w ++ y :: v)) (u ++ g :: y :: (w ++ v)) := (Alk.cons g (alk_front bT_bd w v h4)).pre u
    exact h _ h5 (u.map tyG) (tyG g) ((w ++ v).map tyG) (by simp [h3])
theorem mt_al {c d : List G4} (ho : Ok c) (h : Al c d) : mt c = none ↔ mt d = none :=
  ⟨fun k => mt_none (h.ok ho) ((sh_of_mt ho k).al h), fun k => mt_none ho ((sh_of_mt (h.ok ho) k).al h.symm)⟩

/-- one step: two gates that meet are put together. -/
def rstep (c : List G4) (i k : Nat) : List G4 :=
  let t := ((c.getD i default).t + (c.getD k default).t) % 16
  let c2 := wo (c.set i { c.getD i default with t := t }) k
  if t = 0 then wo c2 i else c2
theorem rstep_eq {u w v : List G4} {g h : G4} : rstep (u ++ g :: (w ++ h :: v)) u.length (u.length + 1 + w.length) = u ++ (mg g h ++ (w ++ v)) := by
  have e1 : (u ++ g :: (w ++ h :: v)).getD u.length default = g := by simp
  have e2 : (u ++ g :: (w ++ h :: v)).getD (u.length + 1 + w.length) default = h := by
    rw [List.getD_eq_getElem?_getD, List.getElem?_append_right (by omega), show u.length + 1 + w.length - u.length = w.length + 1 by omega, List.getElem?_cons_succ, List.getElem?_append_right (by omega), Nat.sub_self]
    rfl
  have e3 : ∀ z : G4, (u ++ g :: (w ++ h :: v)).set u.length z = u ++ z :: (w ++ h :: v) := fun z => by simp
  have e4 : ∀ z : G4, wo (u ++ z :: (w ++ h :: v)) (u.length + 1 + w.length) = u ++ z :: (w ++ v) := fun z => by
    rw [wo_er, List.eraseIdx_append_of_length_le (by omega), show u.length + 1 + w.length - u.length = w.length + 1 by omega, List.eraseIdx_cons_succ, List.eraseIdx_append_of_length_le (by omega), Nat.sub_self]
    rfl
  have e5 : ∀ z : G4, wo (u ++ z :: (w ++ v)) u.length = u ++ (w ++ v) := fun z => by
    rw [wo_er, List.eraseIdx_append_of_length_le (by omega), Nat.sub_self]
    rfl
  unfold rstep
  rw [e1, e2]
  simp only [e3, e4, e5]
  unfold mg
  split <;> rfl
def rdF : Nat → List G4 → List G4
  | 0, c => c
  | n + 1, c => match mt c with | none => c | some p => rdF n (rstep c p.1 p.2)
theorem mg_len (g h : G4) : (mg g h).length ≤ 1 := by unfold mg; split <;> simp
theorem rstep_len {c : List G4} {i k : Nat} (ho : Ok c) (h : mt c = some (i, k)) : (rstep c i k).length < c.length := by
  obtain ⟨u, g, w, y, v, rfl, rfl, rfl, h3, h4⟩ := mt_some ho h
  rw [rstep_eq]
  have := mg_len g y
  simp
  omega
theorem rstep_gq {c : List G4} {i k : Nat} (ho : Ok c) (h : mt c = some (i, k)) : Gq c (rstep c i k) := by
  obtain ⟨u, g, w, y, v, rfl, rfl, rfl, h3, h4⟩ := mt_some ho h
  rw [rstep_eq]
  have hu : Ok u := ho.left
  have hg : okT g := ho g (by simp)
  have hw : Ok w := fun z hz => ho z (by simp [hz])
  have hy : okT y := ho y (by simp)
  have hv : Ok v := fun z hz => ho z (by simp [hz])
  have k1 := ((gq_front hy hv w hw h4).pre (p := [g]) (Ok.nil.cons hg)).pre hu
  exact .trans k1 (.merge u (w ++ v) g y hu (hw.app hv) hg hy h3)
theorem rdF_gq : ∀ (n : Nat) {c : List G4}, Ok c → Gq c (rdF n c)
  | 0, c, _ => .refl _
  | n + 1, c, ho => by
    unfold rdF
    cases hm : mt c with
    | none => exact .refl _
    | some p =>
      have h1 := rstep_gq ho (show mt c = some (p.1, p.2) from hm)
      exact .trans h1 (rdF_gq n ((h1.ok).1 ho))
theorem rdF_mt : ∀ (n : Nat) {c : List G4}, Ok c → c.length ≤ n → mt (rdF n c) = none
  | 0, c, _, h => by
    have : c = [] := List.eq_nil_of_length_eq_zero (by omega)
    subst this
    rfl
  | n + 1, c, ho, h => by
    unfold rdF
    cases hm : mt c with
    | none => exact hm
    | some p =>
      have h1 := rstep_gq ho (show mt c = some (p.1, p.2) from hm)
      have h2 := rstep_len ho (show mt c = some (p.1, p.2) from hm)
      exact rdF_mt n ((h1.ok).1 ho) (by omega)
theorem rdF_more : ∀ (n m : Nat) {c : List G4}, Ok c → c.length ≤ n → n ≤ m → rdF m c = rdF n c
  | 0, m, c, _, h, _ => by
    have : c = [] := List.eq_nil_of_length_eq_zero (by omega)
    subst this
    cases m <;> rfl
  | n + 1, 0, c, _, _, h => by omega
  | n + 1, m + 1, c, ho, h, hm => by
    unfold rdF
    cases hx : mt c with
    | none => rfl
    | some p =>
      have h1 := rstep_gq ho (show mt c = some (p.1, p.2) from hx)
      have h2 := rstep_len ho (show mt c = some (p.1, p.2) from hx)
      exact rdF_more n m ((h1.ok).1 ho) (by omega) (by omega)
/-- what is left of a circuit. -/
def red (c : List G4) : List G4 := nmS (rdF c.length c)
theorem red_al {c : List G4} (ho : Ok c) : Al (red c) (nf c []) := by
  have h1 := rdF_gq c.length ho
  have h2 := (h1.ok).1 ho
  have h3 := nf_short _ (sh_of_mt h2 (rdF_mt c.length ho (Nat.le_refl _)))
  exact (nmS_al _).symm.trans (h3.symm.trans (h1.sound [] Sh.nil Ok.nil).symm)
theorem red_gq {c : List G4} (ho : Ok c) : Gq c (red c) := by
  have h1 := rdF_gq c.length ho
  exact .trans h1 (al_gq _ (nmS_al _) ((h1.ok).1 ho))
theorem red_ok {c : List G4} (ho : Ok c) : Ok (red c) := ((red_gq ho).ok).1 ho
theorem red_name (c : List G4) : nmS (red c) = red c := nmS_idem _
theorem red_of {c d : List G4} (hc : Ok c) (hd : Ok d) (h : Al (nf c []) (nf d [])) : red c = red d := by
  have : Al (red c) (red d) := (red_al hc).trans (h.trans (red_al hd).symm)
  have := (nmS_iff _ _).2 this
  rwa [red_name, red_name] at this
theorem red_eq {c d : List G4} (hc : Ok c) (h : Gq c d) : red c = red d := red_of hc ((h.ok).1 hc) (h.sound [] Sh.nil Ok.nil)
theorem gq_of_red {c d : List G4} (hc : Ok c) (hd : Ok d) (h : red c = red d) : Gq c d := .trans (red_gq hc) (h ▸ .symm (red_gq hd))
theorem red_short {c : List G4} (ho : Ok c) : mt (red c) = none := by
  have h1 := rdF_gq c.length ho
  exact (mt_al ((h1.ok).1 ho) (nmS_al _)).1 (rdF_mt c.length ho (Nat.le_refl _))
theorem rdF_len : ∀ (n : Nat) {c : List G4}, Ok c → (rdF n c).length ≤ c.length ∧ (n = 0 ∨ mt c = none ∨ (rdF n c).length < c.length)
  | 0, c, _ => ⟨Nat.le_refl _, .inl rfl⟩
  | n + 1, c, ho => by
    unfold rdF
    cases hm : mt c with
    | none => exact ⟨Nat.le_refl _, .inr (.inl rfl)⟩
    | some p =>
      have h1 := rstep_gq ho (show mt c = some (p.1, p.2) from hm)
      have h2 := rstep_len ho (show mt c = some (p.1, p.2) from hm)
      have := (rdF_len n ((h1.ok).1 ho)).1
      exact ⟨Nat.le_trans this (by omega), .inr (.inr (Nat.lt_of_le_of_lt this h2))⟩
theorem rdF_none {c : List G4} (n : Nat) (h : mt c = none) : rdF n c = c := by
  cases n with
  | zero => rfl
  | succ n => unfold rdF; rw [h]
theorem red_len_iff {c : List G4} (ho : Ok c) : (red c).length = c.length ↔ mt c = none := by
  unfold red
  rw [nmS_len]
  constructor
  · intro h
    rcases (rdF_len c.length ho).2 with h1 | h1 | h1
    · have : c = [] := List.eq_nil_of_length_eq_zero h1
      subst this
      rfl
    · exact h1
    · omega
  · intro h
    rw [rdF_none _ h]
theorem red_len_le {c : List G4} (ho : Ok c) : (red c).length ≤ c.length := by
  unfold red
  rw [nmS_len]
  exact (rdF_len _ ho).1
theorem red_red {c : List G4} (ho : Ok c) : red (red c) = red c := (red_eq ho (red_gq ho)).symm
end Go.Proofs.Ytkmbbbemmohmcaa

namespace Go.Proofs.Ytkmbbbemmohmcaa
open Tr
set_option linter.unusedSimpArgs false

theorem pmIn_wait {g : G4} (hg : okT g) : ∀ {l : List G4} {beh : List G4}, Ok l → Ok beh → (∃ x ∈ beh, bS x g = true) → pmIn g beh l = none
  | [], beh, _, _, _ => rfl
  | h :: l, beh, hl, hb, hx => by
    obtain ⟨x, hxm, hxb⟩ := hx
    have hh := hl h (by simp)
    have hl' : Ok l := fun z hz => hl z (by simp [hz])
    unfold pmIn
    cases hs : g.same h with
    | true =>
      have hw : (beh.any fun x => h.bound x) = true := by
        rw [List.any_eq_true]
        refine ⟨x, hxm, ?_⟩
        rw [bound_bS hh (hb x hxm), bS_sym]
        unfold bS at hxb ⊢
        rw [same_ty, decide_eq_true_eq] at hs
        rw [← hs]
        exact hxb
      simp only [hw, Bool.not_true, Bool.and_false, Bool.false_eq_true, if_false, Bool.true_or, if_true]
      rw [pmIn_wait hg hl' (hb.app (Ok.nil.cons hh)) ⟨x, List.mem_append_left _ hxm, hxb⟩]
      rfl
    | false =>
      simp only [Bool.false_and, Bool.false_eq_true, if_false]
      split
      · rw [pmIn_wait hg hl' (hb.app (Ok.nil.cons hh)) ⟨x, List.mem_append_left _ hxm, hxb⟩]
        rfl
      · rw [pmIn_wait hg hl' hb ⟨x, hxm, hxb⟩]
        rfl
theorem pmIn_mt {g : G4} (hg : okT g) : ∀ {l : List G4}, Ok l → pmIn g [] l = mtIn g l
  | [], _ => rfl
  | h :: l, hl => by
    have hh := hl h (by simp)
    have hl' : Ok l := fun z hz => hl z (by simp [hz])
    unfold pmIn mtIn
    cases hs : g.same h with
    | true => simp
    | false =>
      simp only [Bool.false_and, Bool.false_eq_true, if_false, List.any_nil, Bool.false_or]
      rw [comm'_eq hg hh, comm_bS hg hh hs, ← bound_bS hg hh]
      cases hb : g.bound h with
      | true =>
        simp only [if_true, Bool.not_true, Bool.false_eq_true, if_false, List.nil_append]
        rw [pmIn_wait hg hl' (Ok.nil.cons hh) ⟨h, by simp, by rw [bS_sym, ← bound_bS hg hh]; exact hb⟩]
        rfl
      | false =>
        simp only [Bool.false_eq_true, if_false, Bool.not_false, if_true]
        rw [pmIn_mt hg hl']
theorem pm_mt : ∀ {c : List G4}, Ok c → pm c = mt c
  | [], _ => rfl
  | g :: c, h => by
    have hc : Ok c := fun z hz => h z (by simp [hz])
    unfold pm mt
    rw [pmIn_mt (h g (by simp)) hc, pm_mt hc]
    try (cases mtIn g c <;> rfl)
theorem mt_lt {c : List G4} {i k : Nat} (ho : Ok c) (h : mt c = some (i, k)) : i < k ∧ k < c.length := by
  obtain ⟨u, g, w, y, v, rfl, rfl, rfl, h3, h4⟩ := mt_some ho h
  refine ⟨by omega, by simp; omega⟩
theorem rdF_step {c : List G4} {i k : Nat} (ho : Ok c) (h : mt c = some (i, k)) : rdF c.length c = rdF (rstep c i k).length (rstep c i k) := by
  have hl := rstep_len ho h
  obtain ⟨n, hn⟩ : ∃ n, c.length = n + 1 := ⟨c.length - 1, by omega⟩
  have ho2 := ((rstep_gq ho h).ok).1 ho
  rw [hn]
  conv => lhs; unfold rdF
  rw [h]
  exact rdF_more _ _ ho2 (Nat.le_refl _) (by omega)
theorem red_none {c : List G4} (h : mt c = none) : red c = nmS c := by
  unfold red
  rw [rdF_none _ h]
theorem red_step {c : List G4} {i k : Nat} (ho : Ok c) (h : mt c = some (i, k)) : red c = red (rstep c i k) := by
  unfold red
  rw [rdF_step ho h]
theorem rstep_ok {c : List G4} {i k : Nat} (ho : Ok c) (h : mt c = some (i, k)) : Ok (rstep c i k) := ((rstep_gq ho h).ok).1 ho
end Go.Proofs.Ytkmbbbemmohmcaa

namespace Go.Proofs.Ytkmbbbemmohmcaa
open Tr
set_option linter.unusedSimpArgs false

theorem vC_iff {n : Int} {c : List G4} : vC n c = 0 ↔ (1 ≤ n ∧ n ≤ 4) ∧ c.length ≤ 10 ∧ ∀ g ∈ c, okG n g = true := by
  unfold vC vG
  constructor
  · intro h
    split at h
    · cases h
    · split at h
      · cases h
      · split at h
        · exact ⟨by omega, by omega, by assumption⟩
        · cases h
  · rintro ⟨h1, h2, h3⟩
    rw [if_neg (by omega), if_neg (by omega), if_pos h3]
theorem mg_okG {n : Int} {g h z : G4} (hg : okG n g = true) (hz : z ∈ mg g h) : okG n z = true := by
  unfold mg at hz
  split at hz
  · cases hz
  · rw [List.mem_singleton] at hz
    subst hz
    simp only [okG, decide_eq_true_eq] at hg ⊢
    omega
theorem rdF_okG {n : Int} : ∀ (m : Nat) {c : List G4}, (∀ g ∈ c, okG n g = true) → ∀ g ∈ rdF m c, okG n g = true
  | 0, c, h => h
  | m + 1, c, h => by
    unfold rdF
    have ho : Ok c := fun g hg => okG_okT (h g hg)
    cases hm : mt c with
    | none => exact h
    | some p =>
      refine rdF_okG m ?_
      obtain ⟨u, g, w, y, v, rfl, h1, h2, h3, h4⟩ := mt_some (i := p.1) (k := p.2) ho hm
      rw [h2, ← h1, rstep_eq]
      intro z hz
      simp only [List.mem_append] at hz
      rcases hz with hz | hz | hz | hz
      · exact h z (by simp [hz])
      · exact mg_okG (h g (by simp)) hz
      · exact h z (by simp [hz])
      · exact h z (by simp [hz])
theorem vC_nm {n : Int} {c : List G4} (h : vC n c = 0) : vC n (nmS c) = 0 := by
  obtain ⟨h1, h2, h3⟩ := vC_iff.1 h
  exact vC_iff.2 ⟨h1, by rw [nmS_len]; exact h2, fun g hg => h3 g (Al.mem (nmS_al c).symm hg)⟩
theorem vC_al {n : Int} {c d : List G4} (h : vC n c = 0) (k : Al c d) : vC n d = 0 := by
  obtain ⟨h1, h2, h3⟩ := vC_iff.1 h
  exact vC_iff.2 ⟨h1, by rw [← alk_len bT_bd c k]; exact h2, fun g hg => h3 g (Al.mem k.symm hg)⟩
theorem vC_red {n : Int} {c : List G4} (h : vC n c = 0) : vC n (red c) = 0 := by
  obtain ⟨h1, h2, h3⟩ := vC_iff.1 h
  refine vC_iff.2 ⟨h1, Nat.le_trans (red_len_le (vC_Ok h)) h2, fun g hg => ?_⟩
  exact rdF_okG c.length h3 g (Al.mem (nmS_al _).symm hg)

/-! the angle of a type. -/
theorem anS_cons (x : G4) (c : List G4) (g : G4) : anS (x :: c) g = (if x.same g then x.t else 0) + anS c g := by
  unfold anS
  rw [List.filter_cons]
  split <;> simp
theorem anS_nil (g : G4) : anS [] g = 0 := rfl
theorem anS_app (c d : List G4) (g : G4) : anS (c ++ d) g = anS c g + anS d g := by
  unfold anS
  simp
theorem anS_gq {c d : List G4} (h : Gq c d) (x : G4) : anS c x % 16 = anS d x % 16 := by
  induction h with
  | refl => rfl
  | symm _ ih => exact ih.symm
  | trans _ _ i1 i2 => exact i1.trans i2
  | swap u v g h hu hv hg hh _ =>
    simp only [anS_app, anS_cons]
    omega
  | merge u v g h hu hv hg hh he =>
    have e : h.same x = g.same x := by rw [same_ty, same_ty, he]
    simp only [anS_app, anS_cons, e]
    by_cases hz : (g.t + h.t) % 16 = 0
    · rw [show mg g h = [] from if_pos hz, anS_nil]
      split <;> omega
    · rw [show mg g h = [_] from if_neg hz, anS_cons, anS_nil]
      have e2 : G4.same { g with t := (g.t + h.t) % 16 } x = g.same x := rfl
      rw [e2]
      split <;> (try simp only) <;> omega

/-! the inverse. -/
theorem inv_ty (g : G4) : tyG g.inv = tyG g := rfl
theorem inv_ok {g : G4} (h : okT g) : okT g.inv := by
  unfold okT at h ⊢
  simp only [G4.inv]
  omega
theorem inv_okG {n : Int} {g : G4} (h : okG n g = true) : okG n g.inv = true := by
  cases g with | mk k a b t =>
  unfold okG at h
  obtain ⟨h1, h2, h3⟩ := of_decide_eq_true h
  simp only at h1 h2 h3
  refine decide_eq_true ⟨?_, ?_, h3⟩
  · show 1 ≤ 16 - t
    omega
  · show 16 - t < 16
    omega
theorem inv_inv (g : G4) : g.inv.inv = g := by
  cases g
  simp [G4.inv]
  omega
/-- the inverse of a circuit. -/
def ivL (c : List G4) : List G4 := c.reverse.map G4.inv
theorem invL_iv (c : List G4) : invL c c.length = ivL c := by
  unfold invL ivL
  rw [List.take_of_length_le (by simp)]
theorem ivL_len (c : List G4) : (ivL c).length = c.length := by simp [ivL]
theorem ivL_iv (c : List G4) : ivL (ivL c) = c := by
  unfold ivL
  rw [← List.map_reverse, List.reverse_reverse, List.map_map]
  have : G4.inv ∘ G4.inv = id := by funext g; exact inv_inv g
  simp [this]
theorem ivL_app (c d : List G4) : ivL (c ++ d) = ivL d ++ ivL c := by simp [ivL]
theorem ivL_ok {c : List G4} (h : Ok c) : Ok (ivL c) := fun g hg => by
  unfold ivL at hg
  obtain ⟨x, hx, rfl⟩ := List.mem_map.1 hg
  exact inv_ok (h x (by simpa using hx))
theorem vC_iv {n : Int} {c : List G4} (h : vC n c = 0) : vC n (ivL c) = 0 := by
  obtain ⟨h1, h2, h3⟩ := vC_iff.1 h
  refine vC_iff.2 ⟨h1, by rw [ivL_len]; exact h2, fun g hg => ?_⟩
  unfold ivL at hg
  obtain ⟨x, hx, rfl⟩ := List.mem_map.1 hg
  exact inv_okG (h3 x (by simpa using hx))

/-- a gate and its inverse are nothing. -/
theorem push_inv {g : G4} (hg : okT g) {s : List G4} (hs : Ok s) (hsh : Sh s) : Al (push g (push g.inv s)) s := by
  have := push_merge (g := g) (h := g.inv) hg (inv_ok hg) hs rfl fun a r k => hsh.hd k
  have e : mg g g.inv = [] := if_pos (by simp [G4.inv]; omega)
  rw [e] at this
  exact this
theorem nf_inv : ∀ (c : List G4) {s : List G4}, Ok c → Ok s → Sh s → Al (nf (c ++ ivL c) s) s
  | [], s, _, _, _ => Alk.refl _
  | g :: c, s, hc, hs, hsh => by
    have hg : okT g := hc g (by simp)
    have hc' : Ok c := fun z hz => hc z (by simp [hz])
    have e : g :: c ++ ivL (g :: c) = g :: (c ++ ivL c ++ [g.inv]) := by simp [ivL]
    rw [e, nf_cons, nf_app]
    have h1 : nf [g.inv] s = push g.inv s := rfl
    rw [h1]
    have h2 := nf_inv c (s := push g.inv s) hc' (push_ok (inv_ok hg) hs) (Sh.push hsh)
    exact (push_al g h2).trans (push_inv hg hs hsh)
theorem red_inv {c : List G4} (hc : Ok c) : red (c ++ ivL c) = [] := by
  have h1 := red_al (hc.app (ivL_ok hc))
  have h2 := nf_inv c hc Ok.nil Sh.nil
  exact alk_nil bT_bd (h1.trans h2).symm
/-- two circuits together. -/
theorem gq_app {c c' d d' : List G4} (hc : Ok c) (hd : Ok d) (h : Gq c c') (k : Gq d d') : Gq (c ++ d) (c' ++ d') :=
  .trans (h.post hd) (k.pre ((h.ok).1 hc))
theorem red_join {c d : List G4} (hc : Ok c) (hd : Ok d) : red (c ++ d) = red (red c ++ red d) := red_eq (hc.app hd) (gq_app hc hd (red_gq hc) (red_gq hd))
theorem ivL_gq {c d : List G4} (h : Gq c d) : Gq (ivL c) (ivL d) := by
  induction h with
  | refl => exact .refl _
  | symm _ ih => exact .symm ih
  | trans _ _ i1 i2 => exact .trans i1 i2
  | swap u v g h hu hv hg hh hb =>
    have := Gq.swap (ivL v) (ivL u) h.inv g.inv (ivL_ok hv) (ivL_ok hu) (inv_ok hh) (inv_ok hg) (by rw [inv_ty, inv_ty, bT_bd.sym]; exact hb)
    simpa [ivL] using this
  | merge u v g h hu hv hg hh he =>
    have := Gq.merge (ivL v) (ivL u) h.inv g.inv (ivL_ok hv) (ivL_ok hu) (inv_ok hh) (inv_ok hg) (by rw [inv_ty, inv_ty]; exact he.symm)
    have e : mg h.inv g.inv = ivL (mg g h) := by
      unfold okT at hg hh
      unfold mg
      by_cases hz : (g.t + h.t) % 16 = 0
      · have hz2 : (h.inv.t + g.inv.t) % 16 = 0 := by simp only [G4.inv]; omega
        rw [if_pos hz, if_pos hz2]
        rfl
      · have hz2 : ¬ (h.inv.t + g.inv.t) % 16 = 0 := by simp only [G4.inv]; omega
        rw [if_neg hz, if_neg hz2]
        unfold tyG at he
        simp only [Prod.mk.injEq] at he
        simp only [ivL, G4.inv, List.reverse_singleton, List.map_cons, List.map_nil, List.cons.injEq, and_true, G4.mk.injEq]
        refine ⟨he.1.symm, he.2.1.symm, he.2.2.symm, by omega⟩
    rw [e] at this
    simpa [ivL] using this
end Go.Proofs.Ytkmbbbemmohmcaa
