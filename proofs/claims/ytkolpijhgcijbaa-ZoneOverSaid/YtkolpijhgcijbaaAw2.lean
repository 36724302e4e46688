/-
  The calculus: lemmas on lists of abstract values.
-/
import Derived.Test.YtkolpijhgcijbaaAw1
namespace Go.Proofs.Ytkolpijhgcijbaa
namespace Aw
open Go.RowKit

section
variable {A : Nat → Prop} {w : World} {T : Nat → Prop} {hv : Nat → Option Value}

theorem R_one : ∀ (a : AV) (hv : Nat → Option Value) (us : List Value), R w T hv a us → ∀ u ∈ us, u.oneCell' = true := by
  intro a
  refine AV.rec (motive_1 := fun a => ∀ hv us, R w T hv a us → ∀ u ∈ us, u.oneCell' = true) (motive_2 := fun l => ∀ hv us, RL w T hv l us → ∀ u ∈ us, u.oneCell' = true)
    ?_ ?_ ?_ ?_ ?_ ?_ ?_ ?_ ?_ ?_ ?_ a
  · intro hv us h; simp only [R] at h; obtain ⟨u, rfl, h1⟩ := h; simpa using h1
  · intro x hv us h; simp only [R] at h; obtain ⟨rfl, h⟩ := h; simpa using h
  · intro k xs _ hv us h; simp only [R] at h; obtain ⟨A, c, ws, rfl, _⟩ := h; simp [Value.oneCell']
  · intro xs ih hv us h; simp only [R] at h; exact ih _ _ h
  · intro xs _ hv us h; simp [R] at h
  · intro x off _ hv us h; simp only [R] at h; obtain ⟨b, o, ws, rfl, _⟩ := h; simp [Value.oneCell']
  · intro i hv us h; simp only [R] at h; obtain ⟨v, _, rfl, h1⟩ := h; simpa using h1
  · intro i k j off hv us h; simp only [R] at h; obtain ⟨b, n, c, _, rfl⟩ := h; simp [Value.oneCell']
  · intro fn cap _ hv us h; simp only [R] at h; obtain ⟨cs, rfl, _⟩ := h; simp [Value.oneCell']
  · intro hv us h; simp only [RL] at h; subst h; simp
  · intro x xs ih1 ih2 hv us h
    simp only [RL] at h
    obtain ⟨u1, u2, rfl, h1, h2⟩ := h
    intro u hu
    rcases List.mem_append.1 hu with hu | hu
    · exact ih1 _ _ h1 u hu
    · exact ih2 _ _ h2 u hu

theorem RL_one : ∀ (l : List AV) (us : List Value), RL w T hv l us → ∀ u ∈ us, u.oneCell' = true
  | [], us, h => by simp only [RL] at h; subst h; simp
  | x :: xs, us, h => by
    simp only [RL] at h
    obtain ⟨u1, u2, rfl, h1, h2⟩ := h
    intro u hu
    rcases List.mem_append.1 hu with hu | hu
    · exact R_one x hv _ h1 u hu
    · exact RL_one xs _ h2 u hu

theorem RL_app : ∀ (l l' : List AV) (us us' : List Value), RL w T hv l us → RL w T hv l' us' → RL w T hv (l ++ l') (us ++ us')
  | [], l', us, us', h, h' => by simp only [RL] at h; subst h; simpa using h'
  | x :: xs, l', us, us', h, h' => by
    simp only [RL, List.cons_append] at h ⊢
    obtain ⟨u1, u2, rfl, h1, h2⟩ := h
    exact ⟨u1, u2 ++ us', by simp, h1, RL_app xs l' u2 us' h2 h'⟩

theorem RL_split : ∀ (l l' : List AV) (us : List Value), RL w T hv (l ++ l') us → ∃ u1 u2, us = u1 ++ u2 ∧ RL w T hv l u1 ∧ RL w T hv l' u2
  | [], l', us, h => ⟨[], us, rfl, by simp [RL], by simpa using h⟩
  | x :: xs, l', us, h => by
    simp only [RL, List.cons_append] at h ⊢
    obtain ⟨u1, u2, rfl, h1, h2⟩ := h
    obtain ⟨v1, v2, rfl, h3, h4⟩ := RL_split xs l' u2 h2
    exact ⟨u1 ++ v1, v2, by simp, ⟨u1, v1, rfl, h1, h3⟩, h4⟩

theorem RL_len {k : Nat} : ∀ (l : List AV) (us : List Value), (∀ x ∈ l, x.size = k) → RL w T hv l us → us.length = l.length * k
  | [], us, _, h => by simp only [RL] at h; subst h; simp
  | x :: xs, us, hk, h => by
    simp only [RL] at h
    obtain ⟨u1, u2, rfl, h1, h2⟩ := h
    have e1 := R_size x hv u1 h1
    have e2 := RL_len xs u2 (fun y hy => hk y (List.mem_cons_of_mem _ hy)) h2
    rw [hk x List.mem_cons_self] at e1
    simp only [List.length_append, List.length_cons, e1, e2, Nat.add_mul, Nat.one_mul, Nat.add_comm]

/-- an element of a list of abstract values, and its cells. -/
theorem RL_at {k : Nat} {l : List AV} {us : List Value} (hk : ∀ x ∈ l, x.size = k) (h : RL w T hv l us) {i : Nat} {x : AV} (hx : l[i]? = some x) :
    ∃ u1 u2 u3, us = u1 ++ u2 ++ u3 ∧ u1.length = i * k ∧ R w T hv x u2 ∧ u2.length = k ∧ RL w T hv (l.take i) u1 ∧ RL w T hv (l.drop (i + 1)) u3 := by
  have hi : i < l.length := (List.getElem?_eq_some_iff.1 hx).1
  have hl : l = l.take i ++ (x :: l.drop (i + 1)) := by
    have e : l[i] = x := (List.getElem?_eq_some_iff.1 hx).2
    rw [← e, ← List.drop_eq_getElem_cons hi, List.take_append_drop]
  rw [hl] at h
  obtain ⟨u1, u2, rfl, h1, h2⟩ := RL_split _ _ _ h
  simp only [RL] at h2
  obtain ⟨v1, v2, rfl, h3, h4⟩ := h2
  refine ⟨u1, v1, v2, by simp, ?_, h3, ?_, h1, h4⟩
  · have := RL_len (l.take i) u1 (fun y hy => hk y (List.mem_of_mem_take hy)) h1
    rw [List.length_take, Nat.min_eq_left (by omega)] at this
    exact this
  · rw [R_size x hv v1 h3, hk x (List.mem_of_getElem? hx)]

theorem RL_take {k : Nat} {l : List AV} {us : List Value} (hk : ∀ x ∈ l, x.size = k) (h : RL w T hv l us) (n : Nat) : RL w T hv (l.take n) (us.take (n * k)) := by
  by_cases hn : n ≤ l.length
  · have hl : l = l.take n ++ l.drop n := by simp
    rw [hl] at h
    obtain ⟨u1, u2, rfl, h1, h2⟩ := RL_split _ _ _ h
    have := RL_len (l.take n) u1 (fun y hy => hk y (List.mem_of_mem_take hy)) h1
    rw [List.length_take, Nat.min_eq_left hn] at this
    rw [← this, List.take_left]
    exact h1
  · rw [List.take_of_length_le (by omega), List.take_of_length_le]
    · exact h
    · rw [RL_len l us hk h]; exact Nat.mul_le_mul_right k (by omega)

theorem RL_drop {k : Nat} {l : List AV} {us : List Value} (hk : ∀ x ∈ l, x.size = k) (h : RL w T hv l us) (n : Nat) : RL w T hv (l.drop n) (us.drop (n * k)) := by
  by_cases hn : n ≤ l.length
  · have hl : l = l.take n ++ l.drop n := by simp
    rw [hl] at h
    obtain ⟨u1, u2, rfl, h1, h2⟩ := RL_split _ _ _ h
    have := RL_len (l.take n) u1 (fun y hy => hk y (List.mem_of_mem_take hy)) h1
    rw [List.length_take, Nat.min_eq_left hn] at this
    rw [← this, List.drop_left]
    exact h2
  · rw [List.drop_of_length_le (by omega), List.drop_of_length_le]
    · simp [RL]
    · rw [RL_len l us hk h]; exact Nat.mul_le_mul_right k (by omega)

end

/-- the cells of a value. -/
def AV.cells : AV → List AV
  | .g xs => xs
  | a => [a]

def AV.cellular : AV → Bool
  | .bot | .t _ => false
  | .v x => x.oneCell'
  | _ => true

/-- all cells of one size. -/
def AV.flat (a : AV) : Bool := a.cells.all fun x => x.single

theorem AV.size_single {a : AV} (h : a.single = true) : a.size = 1 := by cases a <;> simp_all [AV.single, AV.size]

section
variable {A : Nat → Prop} {w : World} {T : Nat → Prop} {hv : Nat → Option Value}

theorem RV_R {a : AV} {v : Value} (hc : a.cellular = true) (h : RV w T hv a v) : R w T hv a v.cells.toList := by
  cases a with
  | bot => simp [AV.cellular] at hc
  | t xs => simp [AV.cellular] at hc
  | g xs => simp only [RV] at h; obtain ⟨cs, rfl, h⟩ := h; simpa [R, Value.cells] using h
  | v x => simp only [RV] at h; subst h; simp only [AV.cellular] at hc; refine ⟨?_, hc⟩; cases v <;> first | rfl | cases hc
  | s k xs => simp only [RV] at h; have := R_one _ _ _ h v (by simp); cases v <;> first | exact h | cases this
  | p x off => simp only [RV] at h; have := R_one _ _ _ h v (by simp); cases v <;> first | exact h | cases this
  | o i => simp only [RV] at h; have := R_one _ _ _ h v (by simp); cases v <;> first | exact h | cases this
  | q i k j off => simp only [RV] at h; have := R_one _ _ _ h v (by simp); cases v <;> first | exact h | cases this
  | f fn cap => simp only [RV] at h; have := R_one _ _ _ h v (by simp); cases v <;> first | exact h | cases this

theorem RV_R1 {a : AV} {v : Value} (hs : a.single = true) (hc : a.cellular = true) (h : RV w T hv a v) : R w T hv a [v] := by
  cases a with
  | g xs => simp [AV.single] at hs
  | t xs => simp [AV.single] at hs
  | bot => simp [AV.cellular] at hc
  | v x => simp only [RV] at h; subst h; exact ⟨rfl, hc⟩
  | s k xs => simpa only [RV] using h
  | p x off => simpa only [RV] using h
  | o i => simpa only [RV] using h
  | q i k j off => simpa only [RV] using h
  | f fn cap => simpa only [RV] using h

theorem R_RV {a : AV} {v : Value} (hs : a.single = true) (h : R w T hv a [v]) : RV w T hv a v := by
  cases a with
  | g xs => simp [AV.single] at hs
  | t xs => simp [AV.single] at hs
  | bot => simp [RV]
  | v x => simp only [R, List.cons.injEq, and_true] at h; simpa only [RV] using h.1
  | s k xs => simpa only [RV] using h
  | p x off => simpa only [RV] using h
  | o i => simpa only [RV] using h
  | q i k j off => simpa only [RV] using h
  | f fn cap => simpa only [RV] using h

theorem R_cells {a : AV} (hf : a.flat = true) {us : List Value} : R w T hv a us ↔ RL w T hv a.cells us := by
  cases a with
  | g xs => simp [R, AV.cells]
  | t xs => simp [AV.flat, AV.cells, AV.single] at hf
  | bot => simp [AV.cells, RL]
  | v x => simp [AV.cells, RL]
  | s k xs => simp [AV.cells, RL]
  | p x off => simp [AV.cells, RL]
  | o i => simp [AV.cells, RL]
  | q i k j off => simp [AV.cells, RL]
  | f fn cap => simp [AV.cells, RL]

theorem flat_size {a : AV} (hf : a.flat = true) : ∀ x ∈ a.cells, x.size = 1 := fun x hx => AV.size_single (by simp only [AV.flat, List.all_eq_true] at hf; exact hf x hx)

/-- one cell of a flat value. -/
theorem cell_at {l : List AV} {us : List Value} (hf : ∀ x ∈ l, x.size = 1) (h : RL w T hv l us) {i : Nat} {x : AV} (hx : l[i]? = some x) : ∃ u, us[i]? = some u ∧ R w T hv x [u] := by
  obtain ⟨u1, u2, u3, rfl, h1, h2, h3, _⟩ := RL_at hf h hx
  match u2, h3 with
  | [u], _ => exact ⟨u, by simp at h1; simp [← h1], h2⟩

theorem RL_set {l : List AV} {us : List Value} (hf : ∀ x ∈ l, x.size = 1) (h : RL w T hv l us) {i : Nat} (hi : i < l.length) {x : AV} {u : Value} (hx : R w T hv x [u]) :
    RL w T hv (l.set i x) (us.set i u) := by
  obtain ⟨u1, u2, u3, rfl, h1, _, h3, h4, h5⟩ := RL_at hf h (List.getElem?_eq_getElem hi)
  match u2, h3 with
  | [v], _ =>
    have e1 : l.set i x = l.take i ++ (x :: l.drop (i + 1)) := by rw [List.set_eq_take_append_cons_drop, if_pos hi]
    have e2 : (u1 ++ [v] ++ u3).set i u = u1 ++ (u :: u3) := by simp at h1; subst h1; simp
    rw [e1, e2]
    refine RL_app _ _ _ _ h4 ?_
    simp only [RL]
    exact ⟨[u], u3, rfl, hx, h5⟩

/-- an element of a row is changed. -/
theorem RL_setAt {k : Nat} {l : List AV} {us : List Value} (hk : ∀ x ∈ l, x.size = k) (h : RL w T hv l us) {i : Nat} (hi : i < l.length) {x : AV} {u : List Value} (hx : R w T hv x u) :
    RL w T hv (l.set i x) (us.take (i * k) ++ u ++ us.drop (i * k + k)) := by
  obtain ⟨u1, u2, u3, rfl, h1, _, h3, h4, h5⟩ := RL_at hk h (List.getElem?_eq_getElem hi)
  have e1 : l.set i x = l.take i ++ (x :: l.drop (i + 1)) := by rw [List.set_eq_take_append_cons_drop, if_pos hi]
  have e2 : (u1 ++ u2 ++ u3).take (i * k) ++ u ++ (u1 ++ u2 ++ u3).drop (i * k + k) = u1 ++ (u ++ u3) := by
    rw [← h1]
    have : u1.length + k = (u1 ++ u2).length := by simp [h3]
    rw [this, List.drop_left, List.append_assoc u1 u2 u3, List.take_left]
    simp
  rw [e1, e2]
  refine RL_app _ _ _ _ h4 ?_
  simp only [RL]
  exact ⟨u, u3, rfl, hx, h5⟩
end

end Aw
end Go.Proofs.Ytkolpijhgcijbaa
