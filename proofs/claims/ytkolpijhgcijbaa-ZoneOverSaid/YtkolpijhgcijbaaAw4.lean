/-
  The calculus: 'core' is sound: lemmas on memory, and the operations that make none.
-/
import Derived.Test.YtkolpijhgcijbaaAw3
namespace Go.Proofs.Ytkolpijhgcijbaa
namespace Aw
open Go.RowKit

def Ob.kill (Z : List Nat) (ob : Ob) : Ob := { ob with xs := AV.killL Z ob.xs }

theorem Mem.kill_get (Z : List Nat) (M : Mem) (i : Nat) : (Mem.kill Z M)[i]? = (M[i]?).map fun o => o.map (Ob.kill Z) := by
  simp only [Mem.kill, List.getElem?_map]; rfl
theorem Ob.kill_nil (ob : Ob) : ob.kill [] = ob := by cases ob; simp [Ob.kill, AV.killL_nil]
theorem Mem.kill_nil (M : Mem) : Mem.kill [] M = M := by
  apply List.ext_getElem?
  intro i
  rw [Mem.kill_get]
  cases M[i]? with
  | none => rfl
  | some o => cases o with
    | none => rfl
    | some ob => simp [Ob.kill_nil]

section
variable {A : Nat → Prop} {w w' : World} {hv hv' : Nat → Option Value} {M : Mem} {Z : List Nat}

theorem ownsRow_of_block {e : TypeId} {k n : Nat} {v : Value} {xs : List Value} (h : w.ownsRow 0 e k v n xs) (hb : ∀ b, v.ownBlock = some b → w'.heap[b]? = w.heap[b]?) : w'.ownsRow 0 e k v n xs := by
  refine ⟨h.1, ?_⟩
  rcases h.2 with h | ⟨g, cap, cur, rfl, h1, h2, h3⟩
  · exact .inl h
  · exact .inr ⟨g, cap, cur, rfl, h1, (hb g rfl).trans h2, h3⟩

theorem live_step (hM : MemR A w hv M) (hs : StepR A w hv Z w' hv') {i : Nat} {ob : Ob} (hrow : ∀ v b, hv i = some v → blk v = some b → w'.heap[b]? = w.heap[b]?)
    (hi : i ∉ Z) (h : M[i]? = some (some ob)) : ∃ v, hv i = some v ∧ hv' i = some v ∧ ObR w' (OwnA A hv') hv' (ob.kill Z) v := by
  obtain ⟨v, hv1, hob⟩ := hM.live i ob h
  cases hm : ob.mp with
  | some ks =>
    obtain ⟨vals, h1, h3⟩ := hob.map hm
    exact ⟨_, hv1, hs.hv i _ hi hv1, ObR.of_map (ob := ob.kill Z) (ks := ks) hm ⟨vals, h1.block fun b hb => hrow _ b hv1 hb, RVL_keep hs.keeps hs.hv _ _ h3⟩⟩
  | none =>
  obtain ⟨us, hr, hsz, hl⟩ := hob.row hm
  refine ⟨v, hv1, hs.hv i v hi hv1, ObR.of_row hm ⟨us, ?_, ?_, RL_keep hs.keeps hs.hv _ _ hl⟩⟩
  · simp only [Ob.kill, AV.killL_map, List.length_map]
    exact ownsRow_of_block hr fun b hb => hrow v b hv1 (by rw [blk_row hr]; exact hb)
  · intro x hx
    simp only [Ob.kill, AV.killL_map, List.mem_map] at hx
    obtain ⟨y, hy, rfl⟩ := hx
    rw [AV.size_kill]
    exact hsz y hy

/-- all own rows are kept. -/
theorem mem_keep (hM : MemR A w hv M) (hb : Below w.heap.size w w') : MemR A w' hv M ∧ StepR A w hv [] w' hv := by
  have hs : StepR A w hv [] w' hv := ⟨⟨hb.size, fun b h _ => hb.block b h, fun _ _ h => h⟩, fun _ _ _ h => h, hb.os, hb.tape, hb.output⟩
  refine ⟨⟨fun i ob h => ?_, hM.dom, hM.inj, fun b h => Nat.lt_of_lt_of_le (hM.old b h) hb.size⟩, hs⟩
  obtain ⟨v, h1, h2, h3⟩ := live_step hM hs (fun v b h1 h2 => hb.block b (hM.own_lt ⟨i, v, h1, h2⟩)) (by simp) h
  rw [Ob.kill_nil] at h3
  exact ⟨v, h1, h3⟩

def hvAdd (hv : Nat → Option Value) (m : Nat) (v : Value) : Nat → Option Value := fun i => if i = m then some v else hv i

theorem hvAdd_self (m : Nat) (v : Value) : hvAdd hv m v m = some v := by simp [hvAdd]
theorem hvAdd_ne {m i : Nat} (v : Value) (h : i ≠ m) : hvAdd hv m v i = hv i := by simp [hvAdd, h]

theorem mem_none (hM : MemR A w hv M) {i : Nat} (h : M.length ≤ i) : hv i = none := by
  cases hh : hv i with
  | none => rfl
  | some v =>
    obtain ⟨ob, hob⟩ := hM.dom i v hh
    rw [List.getElem?_eq_none h] at hob
    cases hob

theorem own_add {m : Nat} {v : Value} {b : Nat} (hn : hv m = none) : Own (hvAdd hv m v) b ↔ Own hv b ∨ blk v = some b := by
  constructor
  · rintro ⟨i, u, hi, hu⟩
    by_cases h : i = m
    · subst h; rw [hvAdd_self] at hi; injection hi with hi; subst hi; exact .inr hu
    · rw [hvAdd_ne v h] at hi; exact .inl ⟨i, u, hi, hu⟩
  · rintro (⟨i, u, hi, hu⟩ | h)
    · exact ⟨i, u, by rw [hvAdd_ne v (by rintro rfl; rw [hn] at hi; cases hi)]; exact hi, hu⟩
    · exact ⟨m, v, hvAdd_self m v, h⟩

/-- a new object, in a new block (or none yet). -/
theorem mem_add (hM : MemR A w hv M) (hb : Below w.heap.size w w') {ob : Ob} {v : Value} (hnew : ∀ b, blk v = some b → w.heap.size ≤ b)
    (hob : StepR A w hv [] w' (hvAdd hv M.length v) → ObR w' (OwnA A (hvAdd hv M.length v)) (hvAdd hv M.length v) ob v) :
    MemR A w' (hvAdd hv M.length v) (M ++ [some ob]) ∧ StepR A w hv [] w' (hvAdd hv M.length v) := by
  have hn := mem_none hM (Nat.le_refl M.length)
  have hs : StepR A w hv [] w' (hvAdd hv M.length v) := by
    refine ⟨⟨hb.size, fun b h _ => hb.block b h, fun b hlt h => ?_⟩, fun i u _ h => ?_, hb.os, hb.tape, hb.output⟩
    · rcases (own_add hn).1 h with h | h
      · exact h
      · have := hnew b h; omega
    · rw [hvAdd_ne v (by rintro rfl; rw [hn] at h; cases h)]; exact h
  refine ⟨⟨fun i o h => ?_, fun i u h => ?_, fun i j vi vj b hi hj hbi hbj => ?_, fun b h => Nat.lt_of_lt_of_le (hM.old b h) hb.size⟩, hs⟩
  · by_cases hi : i = M.length
    · subst hi
      simp at h
      subst h
      exact ⟨v, hvAdd_self _ _, hob hs⟩
    · have hlt : i < M.length := by
        rcases Nat.lt_or_ge i M.length with h' | h'
        · exact h'
        · rw [List.getElem?_eq_none (by simp; omega)] at h; cases h
      rw [List.getElem?_append_left hlt] at h
      obtain ⟨v, h1, h2, h3⟩ := live_step hM hs (fun v b h1 h2 => hb.block b (hM.own_lt ⟨i, v, h1, h2⟩)) (by simp) h
      rw [Ob.kill_nil] at h3
      exact ⟨v, h2, h3⟩
  · by_cases hi : i = M.length
    · subst hi; exact ⟨ob, by simp⟩
    · rw [hvAdd_ne v hi] at h
      obtain ⟨o, ho⟩ := hM.dom i u h
      exact ⟨o, by rw [List.getElem?_append_left (List.getElem?_eq_some_iff.1 ho).1]; exact ho⟩
  · by_cases h1 : i = M.length <;> by_cases h2 : j = M.length
    · omega
    · subst h1
      rw [hvAdd_self] at hi
      rw [hvAdd_ne v h2] at hj
      injection hi with hi
      subst hi
      have := hM.own_lt ⟨j, vj, hj, hbj⟩
      have := hnew b hbi
      omega
    · subst h2
      rw [hvAdd_self] at hj
      rw [hvAdd_ne v h1] at hi
      injection hj with hj
      subst hj
      have := hM.own_lt ⟨i, vi, hi, hbi⟩
      have := hnew b hbj
      omega
    · rw [hvAdd_ne v h1] at hi
      rw [hvAdd_ne v h2] at hj
      exact hM.inj i j vi vj b hi hj hbi hbj

/-- a pure value says the same of every naming of the objects. -/
theorem R_pure : ∀ (a : AV) {T : Nat → Prop} (hv hv' : Nat → Option Value) (us : List Value), a.pure = true → R w T hv a us → R w T hv' a us := by
  intro a T
  refine AV.rec (motive_1 := fun a => ∀ hv hv' us, a.pure = true → R w T hv a us → R w T hv' a us) (motive_2 := fun l => ∀ hv hv' us, AV.pureL l = true → RL w T hv l us → RL w T hv' l us)
    ?_ ?_ ?_ ?_ ?_ ?_ ?_ ?_ ?_ ?_ ?_ a
  · intro hv hv' us hp h; simpa only [R] using h
  · intro x hv hv' us hp h; simpa only [R] using h
  · intro k xs _ hv hv' us hp h; simpa only [R] using h
  · intro xs ih hv hv' us hp h; simp only [R, AV.pure] at *; exact ih _ _ _ hp h
  · intro xs _ hv hv' us hp h; simp [R] at h
  · intro x off _ hv hv' us hp h; simpa only [R] using h
  · intro i hv hv' us hp h; simp [AV.pure] at hp
  · intro i k j off hv hv' us hp h; simp [AV.pure] at hp
  · intro fn cap ih hv hv' us hp h
    simp only [R, AV.pure] at *
    obtain ⟨cs, h1, h2, h3⟩ := h
    exact ⟨cs, h1, h2, ih _ _ _ hp h3⟩
  · intro hv hv' us hp h; simpa only [RL] using h
  · intro x xs ih1 ih2 hv hv' us hp h
    simp only [RL, AV.pureL, Bool.and_eq_true] at *
    obtain ⟨u1, u2, rfl, h1, h2⟩ := h
    exact ⟨u1, u2, rfl, ih1 _ _ _ hp.1 h1, ih2 _ _ _ hp.2 h2⟩
theorem RV_pure {T : Nat → Prop} (a : AV) (hv hv' : Nat → Option Value) (v : Value) (hp : a.pure = true) (h : RV w T hv a v) : RV w T hv' a v := by
  revert hp h
  refine AV.rec (motive_1 := fun a => ∀ v, a.pure = true → RV w T hv a v → RV w T hv' a v) (motive_2 := fun l => ∀ vs, AV.pureL l = true → RVL w T hv l vs → RVL w T hv' l vs)
    ?_ ?_ ?_ ?_ ?_ ?_ ?_ ?_ ?_ ?_ ?_ a v
  · intro v _ _; simp [RV]
  · intro x v _ h; simpa only [RV] using h
  · intro k xs _ v hp h; have := R_pure (.s k xs) hv hv' [v] hp (by simpa only [RV] using h); simpa only [RV] using this
  · intro xs _ v hp h
    simp only [RV, AV.pure] at *
    obtain ⟨cs, rfl, h⟩ := h
    refine ⟨cs, rfl, ?_⟩
    have := R_pure (.g xs) hv hv' cs.toList (by simpa only [AV.pure] using hp) (by simpa only [R] using h)
    simpa only [R] using this
  · intro xs ih v hp h
    simp only [RV, AV.pure] at *
    obtain ⟨vs, rfl, h⟩ := h
    exact ⟨vs, rfl, ih _ hp h⟩
  · intro x off _ v hp h; have := R_pure (.p x off) hv hv' [v] hp (by simpa only [RV] using h); simpa only [RV] using this
  · intro i v hp h; simp [AV.pure] at hp
  · intro i k j off v hp h; simp [AV.pure] at hp
  · intro fn cap _ v hp h; have := R_pure (.f fn cap) hv hv' [v] hp (by simpa only [RV] using h); simpa only [RV] using this
  · intro vs _ h; simpa only [RVL] using h
  · intro x xs ih1 ih2 vs hp h
    simp only [RVL, AV.pureL, Bool.and_eq_true] at *
    obtain ⟨u, us, rfl, h1, h2⟩ := h
    exact ⟨u, us, rfl, ih1 u hp.1 h1, ih2 us hp.2 h2⟩
theorem RVL_pure {T : Nat → Prop} : ∀ (l : List AV) (hv hv' : Nat → Option Value) (us : List Value), AV.pureL l = true → RVL w T hv l us → RVL w T hv' l us
  | [], hv, hv', us, hp, h => by simpa only [RVL] using h
  | x :: xs, hv, hv', us, hp, h => by
    simp only [RVL, AV.pureL, Bool.and_eq_true] at *
    obtain ⟨u, u2, rfl, h1, h2⟩ := h
    exact ⟨u, u2, rfl, RV_pure x _ _ _ hp.1 h1, RVL_pure xs _ _ _ hp.2 h2⟩
theorem RL_pure {T : Nat → Prop} : ∀ (l : List AV) (hv hv' : Nat → Option Value) (us : List Value), AV.pureL l = true → RL w T hv l us → RL w T hv' l us
  | [], hv, hv', us, hp, h => by simpa only [RL] using h
  | x :: xs, hv, hv', us, hp, h => by
    simp only [RL, AV.pureL, Bool.and_eq_true] at *
    obtain ⟨u1, u2, rfl, h1, h2⟩ := h
    exact ⟨u1, u2, rfl, R_pure x _ _ _ hp.1 h1, RL_pure xs _ _ _ hp.2 h2⟩
end

/-- what holds behind an operation. -/
def After (A : Nat → Prop) (o : Oper) (a : Act) (w : World) (hv : Nat → Option Value) (K : Kont) : Act → World → Prop := fun a' w' =>
  ∃ r Z M' hv' v, K r Z M' ∧ a' = a.put o.dst v ∧ MemR A w' hv' M' ∧ RV w' (OwnA A hv') hv' r v ∧ StepR A w hv Z w' hv'

section
variable {A : Nat → Prop} {P : Program} {o : Oper} {a : Act} {w : World} {hv : Nat → Option Value} {M : Mem} {K : Kont} {Q : Exit → Act → World → Prop}

theorem wp_value {next : Act → World → Prop} {v : Value} {w' : World} (h : (execOp a.eval o).run P w = .ok (.value v) w') (hp : next (a.put o.dst v) w') : o.wp P a w next Q := by
  unfold Oper.wp; rw [h]; exact hp
theorem wp_skip' {next : Act → World → Prop} {w' : World} (h : (execOp a.eval o).run P w = .ok .skip w') (hp : next (a.put o.dst undef) w') : o.wp P a w next Q := by
  unfold Oper.wp; rw [h]; exact hp

/-- an operation that makes no memory. -/
theorem after_same {v : Value} {r : AV} (h : (execOp a.eval o).run P w = .ok (.value v) w) (hM : MemR A w hv M) (hr : RV w (OwnA A hv) hv r v) (hK : K r [] M) : o.wp P a w (After A o a w hv K) Q :=
  wp_value h ⟨r, [], M, hv, v, hK, rfl, hM, hr, StepR.refl A w hv⟩
end

end Aw
end Go.Proofs.Ytkolpijhgcijbaa
