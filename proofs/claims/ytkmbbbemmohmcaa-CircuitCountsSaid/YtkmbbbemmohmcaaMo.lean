/-
  Several texts in one: PlI.
-/
import Derived.Test.YtkmbbbemmohmcaaMn
import Derived.Test.YtkmbbbemmohmcaaMf
import Derived.Test.YtkmbbbemmohmcaaMe
set_option linter.unusedSimpArgs false
set_option linter.unusedVariables false
namespace Go.Proofs.Ytkmbbbemmohmcaa
open Aw
set_option linter.unusedSectionVars false

def fT (to : List Int) (p : Int) : Int := to.getD p.toNat 0
/-- a renumbering of 0 to n - 1. -/
def Pm (n : Int) (to : List Int) : Prop := ∀ p q, 0 ≤ p → p < n → 0 ≤ q → q < n → (0 ≤ fT to p ∧ fT to p < n) ∧ (fT to p = fT to q → p = q)
theorem pm_of {n : Int} {to : List Int} (h1 : 1 ≤ n) (h4 : n ≤ 4) (h : ordB to n = true) : Pm n to := by
  have hl := ordB_len h
  have hm : ∀ k : Nat, k < to.length → (k : Int) ∈ to := by
    unfold ordB at h
    rw [Bool.and_eq_true, List.all_eq_true] at h
    intro k hk
    have := h.2 k (by simpa using hk)
    simpa [memL] using this
  intro p q hp hp' hq hq'
  match to, hl, hm with
  | [], hl, _ => simp at hl; omega
  | [a], hl, hm =>
    have e0 := hm 0 (by simp)
    simp at hl e0
    obtain rfl : p = 0 := by omega
    obtain rfl : q = 0 := by omega
    simp [fT]
    omega
  | [a, b], hl, hm =>
    have e0 := hm 0 (by simp)
    have e1 := hm 1 (by simp)
    simp at hl e0 e1
    have hp2 : p = 0 ∨ p = 1 := by omega
    have hq2 : q = 0 ∨ q = 1 := by omega
    rcases hp2 with rfl | rfl <;> rcases hq2 with rfl | rfl <;> simp [fT] <;> omega
  | [a, b, c], hl, hm =>
    have e0 := hm 0 (by simp)
    have e1 := hm 1 (by simp)
    have e2 := hm 2 (by simp)
    simp at hl e0 e1 e2
    have hp2 : p = 0 ∨ p = 1 ∨ p = 2 := by omega
    have hq2 : q = 0 ∨ q = 1 ∨ q = 2 := by omega
    rcases hp2 with rfl | rfl | rfl <;> rcases hq2 with rfl | rfl | rfl <;> simp [fT] <;> omega
  | [a, b, c, d], hl, hm =>
    have e0 := hm 0 (by simp)
    have e1 := hm 1 (by simp)
    have e2 := hm 2 (by simp)
    have e3 := hm 3 (by simp)
    simp at hl e0 e1 e2 e3
    have hp2 : p = 0 ∨ p = 1 ∨ p = 2 ∨ p = 3 := by omega
    have hq2 : q = 0 ∨ q = 1 ∨ q = 2 ∨ q = 3 := by omega
    rcases hp2 with rfl | rfl | rfl | rfl <;> rcases hq2 with rfl | rfl | rfl | rfl <;> simp [fT] <;> omega
  | a :: b :: c :: d :: e :: t, hl, _ => simp at hl; omega

theorem okG_iff {n : Int} {g : G4} : okG n g = true ↔ 1 ≤ g.t ∧ g.t < 16 ∧ (((g.k = 0 ∨ g.k = 1) ∧ 0 ≤ g.a ∧ g.a < n ∧ g.b = -1) ∨ (g.k = 2 ∧ 0 ≤ g.a ∧ g.a < g.b ∧ g.b < n)) := by
  unfold okG
  rw [decide_eq_true_eq]
theorem rn_two {to : List Int} {g : G4} (h : g.k = 2) : rnG to g = ⟨2, min (fT to g.a) (fT to g.b), max (fT to g.a) (fT to g.b), g.t⟩ := by unfold rnG; rw [if_pos h, h]; rfl
theorem rn_one {to : List Int} {g : G4} (h : ¬ g.k = 2) : rnG to g = ⟨g.k, fT to g.a, g.b, g.t⟩ := by unfold rnG; rw [if_neg h]; rfl
theorem rn_okG {n : Int} {to : List Int} (hp : Pm n to) {g : G4} (h : okG n g = true) : okG n (rnG to g) = true := by
  rw [okG_iff] at h ⊢
  obtain ⟨h1, h2, h3⟩ := h
  by_cases hk : g.k = 2
  · obtain ⟨_, h4, h5, h6⟩ := h3.resolve_left (by omega)
    rw [rn_two hk]
    have p1 := hp g.a g.b h4 (by omega) (by omega) h6
    have p2 := hp g.b g.a (by omega) h6 h4 (by omega)
    have : fT to g.a ≠ fT to g.b := fun e => by have := p1.2 e; omega
    refine ⟨h1, h2, .inr ⟨rfl, ?_⟩⟩
    simp only
    omega
  · obtain ⟨h4, h5, h6, h7⟩ := h3.resolve_right (by omega)
    rw [rn_one hk]
    have p1 := hp g.a g.a h5 h6 h5 h6
    exact ⟨h1, h2, .inl ⟨h4, p1.1.1, p1.1.2, h7⟩⟩
theorem rn_k {to : List Int} {g : G4} : (rnG to g).k = g.k := by
  by_cases hk : g.k = 2
  · rw [rn_two hk, hk]
  · rw [rn_one hk]
theorem rn_t {to : List Int} {g : G4} : (rnG to g).t = g.t := by
  by_cases hk : g.k = 2
  · rw [rn_two hk]
  · rw [rn_one hk]
section
variable {n : Int} {to : List Int} (hp : Pm n to) {g h : G4} (hg : okG n g = true) (hh : okG n h = true)
include hp hg hh
theorem rn_same : (rnG to g).same (rnG to h) = g.same h := by
  rw [okG_iff] at hg hh
  unfold G4.same
  apply decide_eq_decide.2
  rw [rn_k, rn_k]
  obtain ⟨_, _, hg⟩ := hg
  obtain ⟨_, _, hh⟩ := hh
  by_cases hk : g.k = 2
  · by_cases hk' : h.k = 2
    · rw [rn_two hk, rn_two hk']
      obtain ⟨_, g1, g2, g3⟩ := hg.resolve_left (by omega)
      obtain ⟨_, h1, h2, h3⟩ := hh.resolve_left (by omega)
      have q1 := (hp g.a h.a g1 (by omega) h1 (by omega)).2
      have q2 := (hp g.a h.b g1 (by omega) (by omega) h3).2
      have q3 := (hp g.b h.a (by omega) g3 h1 (by omega)).2
      have q4 := (hp g.b h.b (by omega) g3 (by omega) h3).2
      constructor
      · rintro ⟨e1, e2, e3⟩
        simp only at e2 e3
        omega
      · rintro ⟨e1, e2, e3⟩
        rw [e2, e3]
        exact ⟨e1, rfl, rfl⟩
    · exact ⟨fun e => (hk' (by omega)).elim, fun e => (hk' (by omega)).elim⟩
  · by_cases hk' : h.k = 2
    · exact ⟨fun e => (hk (by omega)).elim, fun e => (hk (by omega)).elim⟩
    · rw [rn_one hk, rn_one hk']
      obtain ⟨_, g1, g2, g3⟩ := hg.resolve_right (by omega)
      obtain ⟨_, h1, h2, h3⟩ := hh.resolve_right (by omega)
      have q1 := (hp g.a h.a g1 (by omega) h1 (by omega)).2
      exact ⟨fun e => ⟨e.1, q1 e.2.1, e.2.2⟩, fun e => ⟨e.1, by simp only; rw [e.2.1], e.2.2⟩⟩
theorem rn_touch : (rnG to g).touch (rnG to h) = g.touch h := by
  rw [okG_iff] at hg hh
  unfold G4.touch
  apply decide_eq_decide.2
  obtain ⟨_, _, hg⟩ := hg
  obtain ⟨_, _, hh⟩ := hh
  by_cases hk : g.k = 2
  · obtain ⟨_, g1, g2, g3⟩ := hg.resolve_left (by omega)
    have p1 := (hp g.a g.a g1 (by omega) g1 (by omega)).1
    have p2 := (hp g.b g.b (by omega) g3 (by omega) g3).1
    by_cases hk' : h.k = 2
    · rw [rn_two hk, rn_two hk']
      obtain ⟨_, h1, h2, h3⟩ := hh.resolve_left (by omega)
      have q1 := (hp g.a h.a g1 (by omega) h1 (by omega)).2
      have q2 := (hp g.a h.b g1 (by omega) (by omega) h3).2
      have q3 := (hp g.b h.a (by omega) g3 h1 (by omega)).2
      have q4 := (hp g.b h.b (by omega) g3 (by omega) h3).2
      have r1 : g.a = h.a → fT to g.a = fT to h.a := fun e => by rw [e]
      have r2 : g.a = h.b → fT to g.a = fT to h.b := fun e => by rw [e]
      have r3 : g.b = h.a → fT to g.b = fT to h.a := fun e => by rw [e]
      have r4 : g.b = h.b → fT to g.b = fT to h.b := fun e => by rw [e]
      simp only
      omega
    · rw [rn_two hk, rn_one hk']
      obtain ⟨_, h1, h2, h3⟩ := hh.resolve_right (by omega)
      have q1 := (hp g.a h.a g1 (by omega) h1 (by omega)).2
      have q3 := (hp g.b h.a (by omega) g3 h1 (by omega)).2
      have r1 : g.a = h.a → fT to g.a = fT to h.a := fun e => by rw [e]
      have r3 : g.b = h.a → fT to g.b = fT to h.a := fun e => by rw [e]
      simp only
      omega
  · obtain ⟨_, g1, g2, g3⟩ := hg.resolve_right (by omega)
    have p1 := (hp g.a g.a g1 (by omega) g1 (by omega)).1
    by_cases hk' : h.k = 2
    · rw [rn_one hk, rn_two hk']
      obtain ⟨_, h1, h2, h3⟩ := hh.resolve_left (by omega)
      have q1 := (hp g.a h.a g1 (by omega) h1 (by omega)).2
      have q2 := (hp g.a h.b g1 (by omega) (by omega) h3).2
      have r1 : g.a = h.a → fT to g.a = fT to h.a := fun e => by rw [e]
      have r2 : g.a = h.b → fT to g.a = fT to h.b := fun e => by rw [e]
      simp only
      omega
    · rw [rn_one hk, rn_one hk']
      obtain ⟨_, h1, h2, h3⟩ := hh.resolve_right (by omega)
      have q1 := (hp g.a h.a g1 (by omega) h1 (by omega)).2
      have r1 : g.a = h.a → fT to g.a = fT to h.a := fun e => by rw [e]
      simp only
      omega
theorem rn_comm : (rnG to g).comm (rnG to h) = g.comm h := by
  unfold G4.comm
  rw [rn_touch hp hg hh, rn_k, rn_k]
theorem rn_comm' : (rnG to g).comm' (rnG to h) = g.comm' h := by
  rw [comm'_eq (okG_okT (rn_okG hp hg)) (okG_okT (rn_okG hp hh)), comm'_eq (okG_okT hg) (okG_okT hh), rn_comm hp hg hh]
theorem rn_bound : (rnG to g).bound (rnG to h) = g.bound h := by
  unfold G4.bound
  rw [rn_same hp hg hh, rn_comm hp hg hh]
end

theorem rn_mtIn {n : Int} {to : List Int} (hp : Pm n to) {g : G4} (hg : okG n g = true) : ∀ {c : List G4}, (∀ x ∈ c, okG n x = true) → mtIn (rnG to g) (rnL to c) = mtIn g c
  | [], _ => rfl
  | h :: t, hc => by
    have hh := hc h (by simp)
    show (if (rnG to g).same (rnG to h) then some 0 else if (rnG to g).comm' (rnG to h) then (mtIn (rnG to g) (rnL to t)).map (· + 1) else none) = if g.same h then some 0 else if g.comm' h then (mtIn g t).map (· + 1) else none
    rw [rn_same hp hg hh, rn_comm' hp hg hh, rn_mtIn hp hg fun x hx => hc x (by simp [hx])]
theorem rn_mt {n : Int} {to : List Int} (hp : Pm n to) : ∀ {c : List G4}, (∀ x ∈ c, okG n x = true) → mt (rnL to c) = mt c
  | [], _ => rfl
  | g :: t, hc => by
    have hg := hc g (by simp)
    have ht : ∀ x ∈ t, okG n x = true := fun x hx => hc x (by simp [hx])
    show (match mtIn (rnG to g) (rnL to t) with | some k => some (0, k + 1) | none => (mt (rnL to t)).map fun p : Nat × Nat => (p.1 + 1, p.2 + 1)) = match mtIn g t with | some k => some (0, k + 1) | none => (mt t).map fun p : Nat × Nat => (p.1 + 1, p.2 + 1)
    rw [rn_mtIn hp hg ht, rn_mt hp ht]
theorem rn_at {to : List Int} {c : List G4} {i : Nat} (h : i < c.length) : (rnL to c).getD i default = rnG to (c.getD i default) := by
  unfold rnL
  rw [List.getD_eq_getElem?_getD, List.getElem?_map, List.getElem?_eq_getElem h, List.getD_eq_getElem?_getD, List.getElem?_eq_getElem h]
  rfl
theorem rn_wo (to : List Int) (c : List G4) (i : Nat) : wo (rnL to c) i = rnL to (wo c i) := by
  unfold wo rnL
  rw [List.map_append, List.map_take, List.map_drop]
theorem rn_set (to : List Int) (g : G4) (t : Int) : ({ rnG to g with t := t } : G4) = rnG to { g with t := t } := by
  unfold rnG
  split <;> rfl
theorem rn_rstep {to : List Int} {c : List G4} {i k : Nat} (hi : i < c.length) (hk : k < c.length) : rstep (rnL to c) i k = rnL to (rstep c i k) := by
  unfold rstep
  simp only [rn_at hi, rn_at hk, rn_t, rn_set]
  have e : (rnL to c).set i (rnG to { c.getD i default with t := ((c.getD i default).t + (c.getD k default).t) % 16 }) = rnL to (c.set i { c.getD i default with t := ((c.getD i default).t + (c.getD k default).t) % 16 }) := by
    unfold rnL
    rw [List.map_set]
  rw [e, rn_wo]
  split
  · rw [rn_wo]
  · rfl
theorem okG_Ok {n : Int} {c : List G4} (h : ∀ x ∈ c, okG n x = true) : Ok c := fun g hg => okG_okT (h g hg)
theorem rn_rdF {n : Int} {to : List Int} (hp : Pm n to) : ∀ (m : Nat) {c : List G4}, (∀ x ∈ c, okG n x = true) → rdF m (rnL to c) = rnL to (rdF m c)
  | 0, c, _ => rfl
  | m + 1, c, hc => by
    unfold rdF
    rw [rn_mt hp hc]
    cases hm : mt c with
    | none => rfl
    | some p =>
      obtain ⟨i, k⟩ := p
      have hlt := mt_lt (okG_Ok hc) hm
      have h1 : ∀ x ∈ rstep c i k, okG n x = true := by
        have := rdF_okG (n := n) 1 hc
        unfold rdF at this
        rw [hm] at this
        exact this
      show rdF m (rstep (rnL to c) i k) = rnL to (rdF m (rstep c i k))
      rw [rn_rstep (by omega) (by omega), rn_rdF hp m h1]
theorem rnL_len (to : List Int) (c : List G4) : (rnL to c).length = c.length := by simp [rnL]
theorem red_rn {n : Int} {to : List Int} (hp : Pm n to) {c : List G4} (hc : ∀ x ∈ c, okG n x = true) : (red (rnL to c)).length = (red c).length := by
  unfold red
  rw [nmS_len, nmS_len, rnL_len, rn_rdF hp _ hc, rnL_len]
theorem vC_rn {n : Int} {to : List Int} (hp : Pm n to) {c : List G4} (h : vC n c = 0) : vC n (rnL to c) = 0 := by
  rw [vC_iff] at h ⊢
  refine ⟨h.1, by rw [rnL_len]; exact h.2.1, fun g hg => ?_⟩
  unfold rnL at hg
  obtain ⟨x, hx, rfl⟩ := List.mem_map.1 hg
  exact rn_okG hp (h.2.2 x hx)
theorem cnt_rn {n : Int} {to : List Int} (hp : Pm n to) {c : List G4} (hc : ∀ x ∈ c, okG n x = true) : Cn.cnt G4.bound (rnL to c) = Cn.cnt G4.bound c := by
  unfold rnL
  rw [Cn.cnt_map (rnG to) G4.bound c.length c (Nat.le_refl _)]
  exact Cn.cnt_congr c.length c (Nat.le_refl _) fun x hx y hy => rn_bound hp (hc x hx) (hc y hy)
end Go.Proofs.Ytkmbbbemmohmcaa
