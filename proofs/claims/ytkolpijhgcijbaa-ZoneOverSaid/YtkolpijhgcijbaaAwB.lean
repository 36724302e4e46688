/-
  The calculus: 'core' is sound: calls; all operations.
-/
import Derived.Test.YtkolpijhgcijbaaAwA
namespace Go.Proofs.Ytkolpijhgcijbaa
namespace Aw
open Go.RowKit

theorem AV.subL_map (F : Nat → AV) (G : Nat → Nat → Nat → Nat → AV) : ∀ l : List AV, AV.subL F G l = l.map (AV.sub F G)
  | [] => rfl
  | x :: xs => by simp [AV.subL, AV.subL_map F G xs]

theorem AV.single_up (m : Nat) (a : AV) (h : a.single = true) : (a.up m).single = true := by cases a <;> simp_all [AV.single, AV.up, AV.sub]

theorem AV.size_up (m : Nat) (a : AV) : (a.up m).size = a.size := by
  refine AV.rec (motive_1 := fun a => (a.up m).size = a.size) (motive_2 := fun l => AV.sizeL (AV.subL (fun i => .o (i + m)) (fun i k j off => .q (i + m) k j off) l) = AV.sizeL l) ?_ ?_ ?_ ?_ ?_ ?_ ?_ ?_ ?_ ?_ ?_ a <;> intros <;> simp_all [AV.up, AV.sub, AV.subL, AV.size, AV.sizeL]

section
variable {A : Nat → Prop} {w : World} {T T' : Nat → Prop} {m : Nat}

theorem R_up (hT : ∀ b, T' b → T b) {hv hv' : Nat → Option Value} (hh : ∀ i v, hv i = some v → hv' (i + m) = some v) : ∀ (a : AV) (us : List Value), R w T hv a us → R w T' hv' (a.up m) us := by
  have hk : Keeps w T w T' := ⟨Nat.le_refl _, fun _ _ _ => rfl, fun b _ h => hT b h⟩
  intro a
  refine AV.rec (motive_1 := fun a => ∀ us, R w T hv a us → R w T' hv' (a.up m) us)
    (motive_2 := fun l => ∀ us, RL w T hv l us → RL w T' hv' (AV.subL (fun i => .o (i + m)) (fun i k j off => .q (i + m) k j off) l) us)
    ?_ ?_ ?_ ?_ ?_ ?_ ?_ ?_ ?_ ?_ ?_ a
  · intro us h; simpa only [R, AV.up, AV.sub] using h
  · intro x us h; simpa only [R, AV.up, AV.sub] using h
  · intro k xs _ us h
    have := R_keep hk (.s k xs) [] hv hv us (fun _ _ _ h => h) h
    rw [AV.kill_nil] at this
    simpa only [R, AV.up, AV.sub] using this
  · intro xs ih us h; simp only [R, AV.up, AV.sub] at h ⊢; exact ih us h
  · intro xs _ us h; simp [R] at h
  · intro x off _ us h
    have := R_keep hk (.p x off) [] hv hv us (fun _ _ _ h => h) h
    rw [AV.kill_nil] at this
    simpa only [R, AV.up, AV.sub] using this
  · intro i us h; simp only [R, AV.up, AV.sub] at h ⊢; obtain ⟨v, h1, h2⟩ := h; exact ⟨v, hh i v h1, h2⟩
  · intro i k j off us h; simp only [R, AV.up, AV.sub] at h ⊢; obtain ⟨b, n, c, h1, h2⟩ := h; exact ⟨b, n, c, hh i _ h1, h2⟩
  · intro fn cap ih us h
    simp only [R, AV.up, AV.sub] at h ⊢
    obtain ⟨cs, h1, h2, h3⟩ := h
    exact ⟨cs, h1, fun x hx => by rw [AV.subL_map] at hx; obtain ⟨y, hy, rfl⟩ := List.mem_map.1 hx; exact AV.single_up m y (h2 y hy), ih _ h3⟩
  · intro us h; simpa only [RL, AV.subL] using h
  · intro x xs ih1 ih2 us h
    simp only [RL, AV.subL] at h ⊢
    obtain ⟨u1, u2, rfl, h1, h2⟩ := h
    exact ⟨u1, u2, rfl, ih1 u1 h1, ih2 u2 h2⟩

theorem RL_up (hT : ∀ b, T' b → T b) {hv hv' : Nat → Option Value} (hh : ∀ i v, hv i = some v → hv' (i + m) = some v) : ∀ (l : List AV) (us : List Value), RL w T hv l us → RL w T' hv' (l.map (AV.up m)) us
  | [], us, h => by simpa only [RL, List.map_nil] using h
  | x :: xs, us, h => by
    simp only [RL, List.map_cons] at h ⊢
    obtain ⟨u1, u2, rfl, h1, h2⟩ := h
    exact ⟨u1, u2, rfl, R_up hT hh x u1 h1, RL_up hT hh xs u2 h2⟩

theorem RV_up (hT : ∀ b, T' b → T b) {hv hv' : Nat → Option Value} (hh : ∀ i v, hv i = some v → hv' (i + m) = some v) : ∀ (a : AV) (v : Value), RV w T hv a v → RV w T' hv' (a.up m) v := by
  intro a
  refine AV.rec (motive_1 := fun a => ∀ v, RV w T hv a v → RV w T' hv' (a.up m) v)
    (motive_2 := fun l => ∀ vs, RVL w T hv l vs → RVL w T' hv' (AV.subL (fun i => .o (i + m)) (fun i k j off => .q (i + m) k j off) l) vs)
    ?_ ?_ ?_ ?_ ?_ ?_ ?_ ?_ ?_ ?_ ?_ a
  · intro v _; simp [RV, AV.up, AV.sub]
  · intro x v h; simpa only [RV, AV.up, AV.sub] using h
  · intro k xs _ v h; have := R_up (w := w) hT hh (.s k xs) [v] h; simpa only [RV, AV.up, AV.sub] using this
  · intro xs _ v h
    simp only [RV, AV.up, AV.sub] at h ⊢
    obtain ⟨cs, rfl, h⟩ := h
    refine ⟨cs, rfl, ?_⟩
    rw [AV.subL_map]
    exact RL_up hT hh xs _ h
  · intro xs ih v h
    simp only [RV, AV.up, AV.sub] at h ⊢
    obtain ⟨vs, rfl, h⟩ := h
    exact ⟨vs, rfl, ih _ h⟩
  · intro x off _ v h; have := R_up (w := w) hT hh (.p x off) [v] h; simpa only [RV, AV.up, AV.sub] using this
  · intro i v h; have := R_up (w := w) hT hh (.o i) [v] h; simpa only [RV, AV.up, AV.sub] using this
  · intro i k j off v h; have := R_up (w := w) hT hh (.q i k j off) [v] h; simpa only [RV, AV.up, AV.sub] using this
  · intro fn cap _ v h; have := R_up (w := w) hT hh (.f fn cap) [v] h; simpa only [RV, AV.up, AV.sub] using this
  · intro vs h; simpa only [RVL, AV.subL] using h
  · intro x xs ih1 ih2 vs h
    simp only [RVL, AV.subL] at h ⊢
    obtain ⟨u, us, rfl, h1, h2⟩ := h
    exact ⟨u, us, rfl, ih1 u h1, ih2 us h2⟩
theorem RVL_up (hT : ∀ b, T' b → T b) {hv hv' : Nat → Option Value} (hh : ∀ i v, hv i = some v → hv' (i + m) = some v) : ∀ (l : List AV) (us : List Value), RVL w T hv l us → RVL w T' hv' (l.map (AV.up m)) us
  | [], us, h => by simpa only [RVL, List.map_nil] using h
  | x :: xs, us, h => by
    simp only [RVL, List.map_cons] at h ⊢
    obtain ⟨u, u2, rfl, h1, h2⟩ := h
    exact ⟨u, u2, rfl, RV_up hT hh x u h1, RVL_up hT hh xs u2 h2⟩
end

section
variable {A : Nat → Prop} {P : Program} {w w' : World} {hv : Nat → Option Value} {M : Mem}

theorem coe_rvl {lend : Bool} (hM : MemR A w hv M) : ∀ (as bs : List AV) (vs : List Value), CoeL lend M as bs → RVL w (OwnA A hv) hv as vs → RVL w (if lend then fun _ => False else OwnA A hv) noHv bs vs
  | [], [], vs, _, h => by simpa only [RVL] using h
  | a :: as, b :: bs, vs, hc, h => by
    simp only [CoeL] at hc
    simp only [RVL] at h ⊢
    obtain ⟨u, us, rfl, h1, h2⟩ := h
    exact ⟨u, us, rfl, hc.1 A w hv u hM h1, coe_rvl hM as bs us hc.2 h2⟩
  | [], _ :: _, vs, hc, _ => by simp [CoeL] at hc
  | _ :: _, [], vs, hc, _ => by simp [CoeL] at hc

/-- what is all its own says the same whatever is to be kept away from. -/
theorem R_tfree {T T' : Nat → Prop} : ∀ (a : AV) (hv : Nat → Option Value) (us : List Value), a.tfree = true → R w T hv a us → R w T' hv a us := by
  intro a
  refine AV.rec (motive_1 := fun a => ∀ hv us, a.tfree = true → R w T hv a us → R w T' hv a us) (motive_2 := fun l => ∀ hv us, AV.tfreeL l = true → RL w T hv l us → RL w T' hv l us)
    ?_ ?_ ?_ ?_ ?_ ?_ ?_ ?_ ?_ ?_ ?_ a
  · intro hv us _ h; simpa only [R] using h
  · intro x hv us _ h; simpa only [R] using h
  · intro k xs _ hv us ht h
    simp only [AV.tfree, List.isEmpty_iff] at ht
    subst ht
    simp only [R] at h ⊢
    obtain ⟨A, c, ws, h1, h2, h3, h4, h5, _⟩ := h
    exact ⟨A, c, ws, h1, h2, h3, h4, by simpa only [RL] using h5, fun h => absurd rfl h⟩
  · intro xs ih hv us ht h; simp only [R, AV.tfree] at *; exact ih hv us ht h
  · intro xs _ hv us _ h; simp [R] at h
  · intro x off _ hv us ht h; simp [AV.tfree] at ht
  · intro i hv us _ h; simpa only [R] using h
  · intro i k j off hv us _ h; simpa only [R] using h
  · intro fn cap ih hv us ht h
    simp only [R, AV.tfree] at *
    obtain ⟨cs, h1, h2, h3⟩ := h
    exact ⟨cs, h1, h2, ih hv _ ht h3⟩
  · intro hv us _ h; simpa only [RL] using h
  · intro x xs ih1 ih2 hv us ht h
    simp only [RL, AV.tfreeL, Bool.and_eq_true] at *
    obtain ⟨u1, u2, rfl, h1, h2⟩ := h
    exact ⟨u1, u2, rfl, ih1 hv u1 ht.1 h1, ih2 hv u2 ht.2 h2⟩
theorem RL_tfree {T T' : Nat → Prop} {hv : Nat → Option Value} : ∀ (l : List AV) (us : List Value), AV.tfreeL l = true → RL w T hv l us → RL w T' hv l us
  | [], us, _, h => by simpa only [RL] using h
  | x :: xs, us, ht, h => by
    simp only [RL, AV.tfreeL, Bool.and_eq_true] at *
    obtain ⟨u1, u2, rfl, h1, h2⟩ := h
    exact ⟨u1, u2, rfl, R_tfree x hv u1 ht.1 h1, RL_tfree xs u2 ht.2 h2⟩
theorem RV_tfree {T T' : Nat → Prop} {hv : Nat → Option Value} : ∀ (a : AV) (v : Value), a.tfree = true → RV w T hv a v → RV w T' hv a v := by
  intro a
  refine AV.rec (motive_1 := fun a => ∀ v, a.tfree = true → RV w T hv a v → RV w T' hv a v) (motive_2 := fun l => ∀ vs, AV.tfreeL l = true → RVL w T hv l vs → RVL w T' hv l vs)
    ?_ ?_ ?_ ?_ ?_ ?_ ?_ ?_ ?_ ?_ ?_ a
  · intro v _ _; simp [RV]
  · intro x v _ h; simpa only [RV] using h
  · intro k xs _ v ht h; have := R_tfree (T' := T') (.s k xs) hv [v] ht (by simpa only [RV] using h); simpa only [RV] using this
  · intro xs _ v ht h
    simp only [RV, AV.tfree] at *
    obtain ⟨cs, rfl, h⟩ := h
    exact ⟨cs, rfl, RL_tfree xs _ ht h⟩
  · intro xs ih v ht h
    simp only [RV, AV.tfree] at *
    obtain ⟨vs, rfl, h⟩ := h
    exact ⟨vs, rfl, ih _ ht h⟩
  · intro x off _ v ht h; simp [AV.tfree] at ht
  · intro i v _ h; simpa only [RV, R] using h
  · intro i k j off v _ h; simpa only [RV, R] using h
  · intro fn cap _ v ht h; have := R_tfree (T' := T') (.f fn cap) hv [v] ht (by simpa only [RV] using h); simpa only [RV] using this
  · intro vs _ h; simpa only [RVL] using h
  · intro x xs ih1 ih2 vs ht h
    simp only [RVL, AV.tfreeL, Bool.and_eq_true] at *
    obtain ⟨u, us, rfl, h1, h2⟩ := h
    exact ⟨u, us, rfl, ih1 u ht.1 h1, ih2 us ht.2 h2⟩

theorem RVL_tfree {T T' : Nat → Prop} {hv : Nat → Option Value} : ∀ (l : List AV) (us : List Value), AV.tfreeL l = true → RVL w T hv l us → RVL w T' hv l us
  | [], us, _, h => by simpa only [RVL] using h
  | x :: xs, us, ht, h => by
    simp only [RVL, AV.tfreeL, Bool.and_eq_true] at *
    obtain ⟨u, u2, rfl, h1, h2⟩ := h
    exact ⟨u, u2, rfl, RV_tfree x u ht.1 h1, RVL_tfree xs u2 ht.2 h2⟩

/-- the callee's objects behind the caller's. -/
def hvJoin (hv hvC : Nat → Option Value) (m : Nat) : Nat → Option Value := fun i => if i < m then hv i else hvC (i - m)

theorem own_join {hvC : Nat → Option Value} {m : Nat} (hn : ∀ i, m ≤ i → hv i = none) {b : Nat} : Own (hvJoin hv hvC m) b ↔ Own hv b ∨ Own hvC b := by
  constructor
  · rintro ⟨i, v, hi, hb⟩
    unfold hvJoin at hi
    split at hi
    · exact .inl ⟨i, v, hi, hb⟩
    · exact .inr ⟨i - m, v, hi, hb⟩
  · rintro (⟨i, v, hi, hb⟩ | ⟨i, v, hi, hb⟩)
    · refine ⟨i, v, ?_, hb⟩
      unfold hvJoin
      rw [if_pos]
      · exact hi
      · rcases Nat.lt_or_ge i m with h | h
        · exact h
        · rw [hn i h] at hi; cases hi
    · refine ⟨i + m, v, ?_, hb⟩
      unfold hvJoin
      rw [if_neg (by omega), Nat.add_sub_cancel]
      exact hi

theorem mem_join {hvC : Nat → Option Value} {Ms : List Ob} (hM : MemR A w hv M) (hb : Below w.heap.size w w') (hC : MemR (OwnA A hv) w' hvC (Ms.map some)) (hf : ∀ b, Own hvC b → w.heap.size ≤ b) :
    MemR A w' (hvJoin hv hvC M.length) (M ++ Ms.map fun ob => some (ob.up M.length)) ∧ StepR A w hv [] w' (hvJoin hv hvC M.length) := by
  have hn : ∀ i, M.length ≤ i → hv i = none := fun i h => mem_none hM h
  have hT : ∀ b, OwnA A (hvJoin hv hvC M.length) b → OwnA (OwnA A hv) hvC b := fun b h => by
    rcases h with h | h
    · exact .inl (.inl h)
    rcases (own_join hn).1 h with h | h
    · exact .inl (.inr h)
    · exact .inr h
  have hs : StepR A w hv [] w' (hvJoin hv hvC M.length) := by
    refine ⟨⟨hb.size, fun b h _ => hb.block b h, fun b hlt h => ?_⟩, fun i u _ h => ?_, hb.os, hb.tape, hb.output⟩
    · rcases (own_join hn).1 h with h | h
      · exact h
      · have := hf b h; omega
    · unfold hvJoin
      rw [if_pos]
      · exact h
      · rcases Nat.lt_or_ge i M.length with h' | h'
        · exact h'
        · rw [hn i h'] at h; cases h
  refine ⟨⟨fun i ob h => ?_, fun i u h => ?_, fun i j vi vj b hi hj hbi hbj => ?_, fun b h => Nat.lt_of_lt_of_le (hM.old b h) hb.size⟩, hs⟩
  · rcases Nat.lt_or_ge i M.length with hlt | hge
    · rw [List.getElem?_append_left hlt] at h
      obtain ⟨v, h1, h2, h3⟩ := live_step hM hs (fun v b h1 h2 => hb.block b (hM.own_lt ⟨i, v, h1, h2⟩)) (by simp) h
      rw [Ob.kill_nil] at h3
      exact ⟨v, h2, h3⟩
    · rw [List.getElem?_append_right hge, List.getElem?_map] at h
      simp only [Option.map_eq_some_iff] at h
      obtain ⟨ob0, h0, h⟩ := h
      injection h with h
      subst h
      obtain ⟨v, h1, hob⟩ := hC.live (i - M.length) ob0 (by rw [List.getElem?_map, h0]; rfl)
      have hh1 : ∀ (i : Nat) (v : Value), hvC i = some v → hvJoin hv hvC M.length (i + M.length) = some v := fun i v h => by unfold hvJoin; rw [if_neg (by omega), Nat.add_sub_cancel]; exact h
      cases hm : ob0.mp with
      | some ks =>
        obtain ⟨vals, g1, g3⟩ := hob.map hm
        exact ⟨_, by unfold hvJoin; rw [if_neg (by omega)]; exact h1, ObR.of_map (ob := ob0.up M.length) (ks := ks) hm ⟨vals, g1, RVL_up hT hh1 _ _ g3⟩⟩
      | none =>
      obtain ⟨us, h2, h3, h4⟩ := hob.row hm
      refine ⟨v, by unfold hvJoin; rw [if_neg (by omega)]; exact h1, ObR.of_row (ob := ob0.up M.length) hm ⟨us, by simpa [Ob.up] using h2, ?_, ?_⟩⟩
      · intro x hx
        simp only [Ob.up, List.mem_map] at hx
        obtain ⟨y, hy, rfl⟩ := hx
        rw [AV.size_up]; exact h3 y hy
      · exact RL_up hT (fun i v h => by unfold hvJoin; rw [if_neg (by omega), Nat.add_sub_cancel]; exact h) _ _ h4
  · unfold hvJoin at h
    split at h
    · rename_i hlt
      obtain ⟨o, ho⟩ := hM.dom i u h
      exact ⟨o, by rw [List.getElem?_append_left hlt]; exact ho⟩
    · rename_i hge
      obtain ⟨o, ho⟩ := hC.dom _ u h
      rw [List.getElem?_map] at ho
      simp only [Option.map_eq_some_iff, Option.some.injEq, exists_eq_right] at ho
      exact ⟨o.up M.length, by rw [List.getElem?_append_right (by omega), List.getElem?_map, ho]; rfl⟩
  · unfold hvJoin at hi hj
    split at hi <;> split at hj
    · exact hM.inj i j vi vj b hi hj hbi hbj
    · have := hM.own_lt ⟨i, vi, hi, hbi⟩
      have := hf b ⟨_, vj, hj, hbj⟩
      omega
    · have := hM.own_lt ⟨j, vj, hj, hbj⟩
      have := hf b ⟨_, vi, hi, hbi⟩
      omega
    · have := hC.inj _ _ vi vj b hi hj hbi hbj
      omega

theorem mem_tfree {A' : Nat → Prop} {hvC : Nat → Option Value} {Ms : List Ob} (h : MemR A w hvC (Ms.map some)) (ht : ∀ ob ∈ Ms, AV.tfreeL ob.xs = true) (hA : ∀ b, A' b → b < w.heap.size) : MemR A' w hvC (Ms.map some) := by
  refine ⟨fun i ob hi => ?_, h.dom, h.inj, hA⟩
  obtain ⟨v, h1, hob⟩ := h.live i ob hi
  have hmem : ob ∈ Ms := by
    rw [List.getElem?_map] at hi
    simp only [Option.map_eq_some_iff, Option.some.injEq, exists_eq_right] at hi
    exact List.mem_of_getElem? hi
  cases hm : ob.mp with
  | some ks =>
    obtain ⟨vals, g1, g3⟩ := hob.map hm
    exact ⟨_, h1, ObR.of_map hm ⟨vals, g1, RVL_tfree _ _ (ht ob hmem) g3⟩⟩
  | none =>
    obtain ⟨us, h2, h3, h4⟩ := hob.row hm
    exact ⟨v, h1, ObR.of_row hm ⟨us, h2, h3, RL_tfree _ _ (ht ob hmem) h4⟩⟩

theorem call_ok {o : Oper} {a : Act} {K : Kont} {Q : Exit → Act → World → Prop} {f : FuncId} {as : List AV} {args : List Value} (hM : MemR A w hv M) (has : RVL w (OwnA A hv) hv as args)
    (hrun : okFn P f = true → (execOp a.eval o).run P w = .ok (.enter f args.toArray) w) (h : ACall P f as M (K := ⟨fun r M' => K r [] M'⟩)) : o.wp P a w (After A o a w hv K) Q := by
  obtain ⟨lend, bs, post, hcoe, ⟨hok, hspec⟩, hK⟩ := h
  unfold Oper.wp
  rw [hrun hok]
  have hn : ∀ i, M.length ≤ i → hv i = none := fun i h => mem_none hM h
  have hT : ∀ (hvC : Nat → Option Value) b, OwnA A (hvJoin hv hvC M.length) b → OwnA (OwnA A hv) hvC b := fun hvC b h => by
    rcases h with h | h
    · exact .inl (.inl h)
    rcases (own_join hn).1 h with h | h
    · exact .inl (.inr h)
    · exact .inr h
  cases lend with
  | false =>
    refine (hspec w args (OwnA A hv) (fun b h => hM.lt h) (by simpa using coe_rvl hM as bs args hcoe has)).mono ?_
    rintro e w' ⟨r, Ms, v, hvC, rfl, hp, hC, hr, hf, hb⟩
    obtain ⟨h1, h2⟩ := mem_join hM hb hC hf
    exact ⟨_, [], _, _, v, (hK r Ms hp).2, rfl, h1, RV_up (hT hvC) (fun i v h => by unfold hvJoin; rw [if_neg (by omega), Nat.add_sub_cancel]; exact h) r v hr, h2⟩
  | true =>
    refine (hspec w args (fun _ => False) (fun b h => h.elim) (by simpa using coe_rvl hM as bs args hcoe has)).mono ?_
    rintro e w' ⟨r, Ms, v, hvC, rfl, hp, hC, hr, hf, hb⟩
    obtain ⟨⟨t1, t2⟩, hK'⟩ : (r.tfree = true ∧ ∀ ob ∈ Ms, AV.tfreeL ob.xs = true) ∧ _ := ⟨(hK r Ms hp).1 rfl, (hK r Ms hp).2⟩
    have hC' := mem_tfree (A' := OwnA A hv) hC t2 (fun b h => Nat.lt_of_lt_of_le (hM.lt h) hb.size)
    obtain ⟨h1, h2⟩ := mem_join hM hb hC' hf
    exact ⟨_, [], _, _, v, hK', rfl, h1, RV_up (hT hvC) (fun i v h => by unfold hvJoin; rw [if_neg (by omega), Nat.add_sub_cancel]; exact h) r v (RV_tfree r v t1 hr), h2⟩
end

end Aw
end Go.Proofs.Ytkolpijhgcijbaa
