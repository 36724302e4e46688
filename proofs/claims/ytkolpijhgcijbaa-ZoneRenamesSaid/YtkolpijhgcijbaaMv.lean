/-
  Several texts in one: AB1, AB2.
-/
import Derived.Test.YtkolpijhgcijbaaMw
set_option linter.unusedSimpArgs false
set_option linter.unusedVariables false
namespace Go.Proofs.Ytkolpijhgcijbaa
namespace Aw
open Go.RowKit
set_option linter.unusedSimpArgs false

section
variable {A : Nat → Prop} {P : Program} {w : World} {hv : Nat → Option Value} {M : Mem}

theorem mem_row {i : Nat} {ob : Ob} {v v' : Value} {w' : World} {ys : List AV} {news : List Value} (hM : MemR A w hv M) (hi : M[i]? = some (some ob)) (hmp : ob.mp = none) (hvb : blk v = v.ownBlock) (hvb' : blk v' = v'.ownBlock) (hvi : hv i = some v)
    (hrow : w'.ownsRow 0 ob.ty ob.k v' ys.length news) (hg : w.grownBy w' v.ownBlock) (hdr : w.drawn ≤ w'.drawn) (hb : v'.ownBlock = v.ownBlock ∨ v'.ownBlock = some w.heap.size)
    (hys : ∀ y ∈ ys, y.size = ob.k) (hnews : StepR A w hv [i] w' (hvSet hv i v') → RL w' (OwnA A (hvSet hv i v')) (hvSet hv i v') ys news) :
    MemR A w' (hvSet hv i v') ((Mem.kill [i] M).set i (some { ob with xs := ys })) ∧ StepR A w hv [i] w' (hvSet hv i v') := by
  have hlt : i < M.length := (List.getElem?_eq_some_iff.1 hi).1
  have hself : hvSet hv i v' i = some v' := by simp [hvSet]
  have hne : ∀ j, j ≠ i → hvSet hv i v' j = hv j := fun j h => by simp [hvSet, h]
  have hs : StepR A w hv [i] w' (hvSet hv i v') := by
    refine ⟨⟨hg.size, fun b hb' hT => hg.block b hb' (fun e => hT ⟨i, v, hvi, by rw [hvb]; exact e.symm⟩), fun b hlt' h => ?_⟩, fun j u hj h => ?_, hg.os, hg.tape, hg.output, hdr⟩
    · obtain ⟨j, u, hj, hu⟩ := h
      by_cases hji : j = i
      · subst hji
        rw [hself] at hj
        injection hj with hj
        subst hj
        rw [hvb'] at hu
        rcases hb with hb | hb
        · exact ⟨j, v, hvi, by rw [hvb, ← hb]; exact hu⟩
        · rw [hb] at hu; injection hu with hu; omega
      · rw [hne j hji] at hj
        exact ⟨j, u, hj, hu⟩
    · rw [hne j (by simpa using hj)]; exact h
  refine ⟨⟨fun j o h => ?_, fun j u h => ?_, fun j1 j2 v1 v2 b h1 h2 hb1 hb2 => ?_, fun b h => Nat.lt_of_lt_of_le (hM.old b h) hg.size⟩, hs⟩
  · rw [setOb_get _ _ _ _ (by simpa [Mem.kill] using hlt)] at h
    by_cases hji : j = i
    · subst hji
      rw [if_pos rfl] at h
      simp only [Option.some.injEq] at h
      subst h
      refine ⟨v', hself, ObR.of_row (ob := { ob with xs := ys }) hmp ⟨news, ?_, ?_, hnews hs⟩⟩
      · exact hrow
      · exact hys
    · rw [if_neg hji, Mem.kill_get] at h
      simp only [Option.map_eq_some_iff] at h
      obtain ⟨o', ho', h⟩ := h
      cases o' with
      | none => simp at h
      | some ob' =>
        simp only [Option.some.injEq] at h
        obtain ⟨_, rfl, rfl⟩ := h
        obtain ⟨v1, h9, h10, h11⟩ := live_step hM hs (fun v' b' hi' hb' => hg.block b' (hM.own_lt ⟨j, v', hi', hb'⟩) (fun e => hji (hM.inj j i _ _ b' hi' hvi hb' (by rw [hvb]; exact e.symm)))) (by simpa using hji) ho'
        exact ⟨v1, h10, h11⟩
  · rw [setOb_get _ _ _ _ (by simpa [Mem.kill] using hlt)]
    by_cases hji : j = i
    · exact ⟨_, by rw [if_pos hji]⟩
    · rw [hne j hji] at h
      obtain ⟨o, ho⟩ := hM.dom j u h
      exact ⟨o.kill [i], by rw [if_neg hji, Mem.kill_get, ho]; rfl⟩
  · have key : ∀ j v0 b, j ≠ i → hv j = some v0 → blk v0 = some b → blk v' = some b → False := by
      intro j v0 b hji h hb0 hb'
      rw [hvb'] at hb'
      have hlt' := hM.own_lt ⟨j, v0, h, hb0⟩
      rcases hb with hb | hb
      · exact hji (hM.inj j i _ _ b h hvi hb0 (by rw [hvb, ← hb]; exact hb'))
      · rw [hb] at hb'; injection hb' with hb'; omega
    by_cases e1 : j1 = i <;> by_cases e2 : j2 = i
    · omega
    · subst e1
      rw [hself] at h1
      injection h1 with h1
      subst h1
      rw [hne j2 e2] at h2
      exact (key j2 v2 b e2 h2 hb2 hb1).elim
    · subst e2
      rw [hself] at h2
      injection h2 with h2
      subst h2
      rw [hne j1 e1] at h1
      exact (key j1 v1 b e1 h1 hb1 hb2).elim
    · rw [hne j1 e1] at h1
      rw [hne j2 e2] at h2
      exact hM.inj j1 j2 v1 v2 b h1 h2 hb1 hb2

end
end Aw
end Go.Proofs.Ytkolpijhgcijbaa

namespace Go.Proofs.Ytkolpijhgcijbaa
namespace Aw
open Go.RowKit
set_option linter.unusedSimpArgs false

/-- whether an object is lent. -/
def liveI (M : Mem) (i : Nat) : Bool := match M[i]? with | some (some _) => true | _ => false
theorem liveI_some {M : Mem} {i : Nat} {ob : Ob} (h : M[i]? = some (some ob)) : liveI M i = true := by unfold liveI; rw [h]
theorem liveI_true {M : Mem} {i : Nat} (h : liveI M i = true) : ∃ ob, M[i]? = some (some ob) := by
  unfold liveI at h
  split at h
  · exact ⟨_, by assumption⟩
  · cases h
def keepF (M : Mem) (as : List AV) (i : Nat) : AV := if liveI M i = true then (if as.any (AV.isO i) = true then .o i else .bot) else .o i
def keepG (M : Mem) (as : List AV) (i k j off : Nat) : AV := if liveI M i = true then (if as.any (AV.isQ i k j off) = true then .q i k j off else .bot) else .q i k j off
theorem keepF_single (M : Mem) (as : List AV) (i : Nat) : (keepF M as i).single = true := by unfold keepF; split <;> (try split) <;> rfl
theorem keepG_single (M : Mem) (as : List AV) (i k j off : Nat) : (keepG M as i k j off).single = true := by unfold keepG; split <;> (try split) <;> rfl
/-- the memory behind such a call. -/
def combM (M : Mem) (as : List AV) (Mc M' : Mem) : Mem :=
  (List.range Mc.length).map fun i => if liveI M i = true then (M'[i]?).getD none else ((Mc[i]?).getD none).map fun ob => { ob with xs := AV.subL (keepF M as) (keepG M as) ob.xs }
theorem combM_get {M : Mem} {as : List AV} {Mc M' : Mem} {i : Nat} {ob : Ob} (h : (combM M as Mc M')[i]? = some (some ob)) :
    (liveI M i = true ∧ M'[i]? = some (some ob)) ∨ (liveI M i = false ∧ ∃ ob0, Mc[i]? = some (some ob0) ∧ ob = { ob0 with xs := AV.subL (keepF M as) (keepG M as) ob0.xs }) := by
  unfold combM at h
  rw [List.getElem?_map, Option.map_eq_some_iff] at h
  obtain ⟨i', hi', h⟩ := h
  have : i' = i := by
    have := List.getElem?_eq_some_iff.1 hi'
    obtain ⟨_, e⟩ := this
    simpa using e.symm
  subst this
  cases hl : liveI M i' with
  | true =>
    rw [hl, if_pos rfl] at h
    left
    refine ⟨rfl, ?_⟩
    cases hm : M'[i']? with
    | none => rw [hm] at h; cases h
    | some o => rw [hm] at h; simp at h; rw [h]
  | false =>
    rw [hl, if_neg (by simp)] at h
    right
    refine ⟨rfl, ?_⟩
    cases hm : Mc[i']? with
    | none => rw [hm] at h; cases h
    | some o =>
      rw [hm] at h
      simp only [Option.getD_some, Option.map_eq_some_iff] at h
      obtain ⟨ob0, rfl, h⟩ := h
      exact ⟨ob0, rfl, h.symm⟩
theorem combM_at {M : Mem} {as : List AV} {Mc M' : Mem} {i : Nat} (hi : i < Mc.length) : (combM M as Mc M')[i]? = some (if liveI M i = true then (M'[i]?).getD none else ((Mc[i]?).getD none).map fun ob => { ob with xs := AV.subL (keepF M as) (keepG M as) ob.xs }) := by
  unfold combM
  rw [List.getElem?_map, List.getElem?_range hi]
  rfl

/-- a function that is lent the objects of M out of the memory Mc. -/
def FSpec (P : Program) (f : FuncId) (as : List AV) (M Mc : Mem) (x : AV) (N : Mem) : Prop :=
  okFn P f = true ∧ ∀ (w : World) (vs : List Value) (A : Nat → Prop) (hv : Nat → Option Value), MemR A w hv Mc → (∀ b, Own hv b → ¬ A b) → RVL w (OwnA A hv) hv as vs → Calls P f vs.toArray w fun e w' =>
    ∃ v hv', e = .returned v ∧ MemR A w' hv' N ∧ RV w' (OwnA A hv') hv' x v ∧ RVL w' (OwnA A hv') hv' as vs ∧ Keeps w (Own hv) w' (Own hv') ∧ w'.os = w.os ∧ w'.tape = w.tape ∧ w'.output = w.output ∧ w.drawn ≤ w'.drawn ∧ ∀ i, liveI M i = false → hv' i = hv i

theorem MSpec.frame {P : Program} {f : FuncId} {as : List AV} {M M' : Mem} {x : AV} (h : MSpec P f as M (fun r N => r = x ∧ N = M')) (hdead : ∀ i, liveI M i = false → liveI M' i = false)
    {Mc : Mem} (hsub : ∀ (i : Nat) (ob : Ob), M[i]? = some (some ob) → Mc[i]? = some (some ob)) {Z : List Nat} (hZ : ∀ i, i < Mc.length → liveI M i = false → i ∈ Z) (hfa : AV.freeL Z as = true) (hfm : freeM Z M = true) :
    FSpec P f as M Mc x (combM M as Mc M') := by
  refine ⟨h.1, fun w vs A hv hM hsep hvs => ?_⟩
  obtain ⟨hvc, hvcE⟩ : ∃ hvc : Nat → Option Value, hvc = fun i => if liveI M i = true then hv i else none := ⟨_, rfl⟩
  obtain ⟨A', hA'⟩ : ∃ A' : Nat → Prop, A' = fun b => A b ∨ ∃ i v, liveI M i = false ∧ hv i = some v ∧ blk v = some b := ⟨_, rfl⟩
  have hc1 : ∀ i, liveI M i = true → hvc i = hv i := fun i hi => by rw [hvcE]; simp [hi]
  have hc2 : ∀ i u, hvc i = some u → liveI M i = true ∧ hv i = some u := fun i u hu => by
    rw [hvcE] at hu
    simp only at hu
    split at hu
    · exact ⟨by assumption, hu⟩
    · cases hu
  have hO : ∀ b, Own hvc b → Own hv b := by
    rintro b ⟨i, v, hi, hb⟩
    exact ⟨i, v, (hc2 i v hi).2, hb⟩
  have hT : OwnA A' hvc = OwnA A hv := by
    funext b
    apply propext
    constructor
    · rintro (hb | hb)
      · rw [hA'] at hb
        rcases hb with hb | ⟨i, v, _, hi, hb⟩
        · exact .inl hb
        · exact .inr ⟨i, v, hi, hb⟩
      · exact .inr (hO b hb)
    · rintro (hb | ⟨i, v, hi, hb⟩)
      · exact .inl (by rw [hA']; exact .inl hb)
      · cases hl : liveI M i with
        | true => exact .inr ⟨i, v, by rw [hc1 i hl]; exact hi, hb⟩
        | false => exact .inl (by rw [hA']; exact .inr ⟨i, v, hl, hi, hb⟩)
  have hh : ∀ i u, i ∉ Z → hv i = some u → hvc i = some u := fun i u hi hu => by
    obtain ⟨ob, hob⟩ := hM.dom i u hu
    have hlt := (List.getElem?_eq_some_iff.1 hob).1
    cases hl : liveI M i with
    | true => rw [hc1 i hl]; exact hu
    | false => exact absurd (hZ i hlt hl) hi
  have hMc : MemR A' w hvc M := by
    refine ⟨fun i ob hi => ?_, fun i v hi => ?_, fun i j vi vj b hi hj => hM.inj i j vi vj b (hc2 i vi hi).2 (hc2 j vj hj).2, fun b hb => ?_⟩
    · obtain ⟨v, h1, h2⟩ := hM.live i ob (hsub i ob hi)
      refine ⟨v, by rw [hc1 i (liveI_some hi)]; exact h1, ?_⟩
      have hfree : AV.freeL Z ob.xs = true := by
        simp only [freeM, List.all_eq_true] at hfm
        exact hfm _ (List.mem_of_getElem? hi)
      cases hm : ob.mp with
      | some ks =>
        obtain ⟨vals, g1, g3⟩ := h2.map hm
        have := RVL_keep (Keeps.refl w (OwnA A hv)) hh _ _ g3
        rw [killL_free hfree] at this
        exact ObR.of_map hm ⟨vals, g1, hT ▸ this⟩
      | none =>
        obtain ⟨us, g1, g2, g3⟩ := h2.row hm
        have := RL_keep (Keeps.refl w (OwnA A hv)) hh _ _ g3
        rw [killL_free hfree] at this
        exact ObR.of_row hm ⟨us, g1, g2, hT ▸ this⟩
    · exact liveI_true (hc2 i v hi).1
    · rw [hA'] at hb
      rcases hb with hb | ⟨i, v, _, hi, hb⟩
      · exact hM.old b hb
      · exact hM.own_lt ⟨i, v, hi, hb⟩
  have hsep' : ∀ b, Own hvc b → ¬ A' b := by
    rintro b ⟨i, v, hi, hb⟩ hb'
    obtain ⟨hl, hi'⟩ := hc2 i v hi
    rw [hA'] at hb'
    rcases hb' with hb' | ⟨j, u, hlj, hj, hbj⟩
    · exact hsep b ⟨i, v, hi', hb⟩ hb'
    · have := hM.inj i j v u b hi' hj hb hbj
      subst this
      rw [hl] at hlj
      cases hlj
  have hvs' : RVL w (OwnA A' hvc) hvc as vs := by
    have := RVL_keep (Keeps.refl w (OwnA A hv)) hh _ _ hvs
    rw [killL_free hfa] at this
    exact hT ▸ this
  refine (h.2 w vs A' hvc hMc hsep' hvs').mono ?_
  rintro e w' ⟨r, N, v, hvc', rfl, ⟨rfl, rfl⟩, m1, m2, m3, kp, o1, o2, o3, o4⟩
  obtain ⟨hv', hvE⟩ : ∃ hv' : Nat → Option Value, hv' = fun i => if liveI M i = true then hvc' i else hv i := ⟨_, rfl⟩
  have d1 : ∀ i u, hvc' i = some u → liveI M i = true := fun i u hu => by
    obtain ⟨ob, hob⟩ := m1.dom i u hu
    cases hl : liveI M i with
    | true => rfl
    | false => have := hdead i hl; rw [liveI_some hob] at this; cases this
  have e1 : ∀ i, liveI M i = true → hv' i = hvc' i := fun i hi => by rw [hvE]; simp [hi]
  have e2 : ∀ i, liveI M i = false → hv' i = hv i := fun i hi => by rw [hvE]; simp [hi]
  have e3 : ∀ i u, i ∉ ([] : List Nat) → hvc' i = some u → hv' i = some u := fun i u _ hu => by rw [e1 i (d1 i u hu)]; exact hu
  have hT' : OwnA A' hvc' = OwnA A hv' := by
    funext b
    apply propext
    constructor
    · rintro (hb | ⟨i, v, hi, hb⟩)
      · rw [hA'] at hb
        rcases hb with hb | ⟨i, v, hl, hi, hb⟩
        · exact .inl hb
        · exact .inr ⟨i, v, by rw [e2 i hl]; exact hi, hb⟩
      · exact .inr ⟨i, v, e3 i v (by simp) hi, hb⟩
    · rintro (hb | ⟨i, v, hi, hb⟩)
      · exact .inl (by rw [hA']; exact .inl hb)
      · cases hl : liveI M i with
        | true => exact .inr ⟨i, v, by rw [← e1 i hl]; exact hi, hb⟩
        | false => exact .inl (by rw [hA']; exact .inr ⟨i, v, hl, by rw [← e2 i hl]; exact hi, hb⟩)
  have kpO : Keeps w (Own hv) w' (Own hv') := by
    refine ⟨kp.size, fun b hb hn => kp.block b hb fun ho => hn (hO b ho), ?_⟩
    rintro b hb ⟨i, v, hi, hbv⟩
    cases hl : liveI M i with
    | true => exact hO b (kp.own b hb ⟨i, v, by rw [← e1 i hl]; exact hi, hbv⟩)
    | false => exact ⟨i, v, by rw [← e2 i hl]; exact hi, hbv⟩
  have kpA : Keeps w (OwnA A hv) w' (OwnA A hv') := ⟨kpO.size, fun b hb hn => kpO.block b hb (fun ho => hn (.inr ho)), fun b hb ho => ho.elim .inl (fun ho => .inr (kpO.own b hb ho))⟩
  have kpT : Keeps w' (OwnA A' hvc') w' (OwnA A hv') := by rw [hT']; exact Keeps.refl _ _
  have m3' : RVL w' (OwnA A hv') hv' as vs := by
    have := RVL_keep kpT e3 _ _ m3
    rwa [AV.killL_nil] at this
  have hblk : ∀ i v b, liveI M i = false → hv i = some v → blk v = some b → w'.heap[b]? = w.heap[b]? := by
    intro i v b hl hi hb
    refine kp.block b (hM.own_lt ⟨i, v, hi, hb⟩) ?_
    rintro ⟨j, u, hj, hbj⟩
    obtain ⟨hlj, hj'⟩ := hc2 j u hj
    have := hM.inj i j v u b hi hj' hb hbj
    subst this
    rw [hl] at hlj
    cases hlj
  have hFF : ∀ i v, hv i = some v → v.oneCell' = true → R w' (OwnA A hv') hv' (keepF M as i) [v] := by
    intro i v hiv h1c
    unfold keepF
    cases hl : liveI M i with
    | false =>
      rw [if_neg (by simp)]
      simp only [R]
      exact ⟨v, by rw [e2 i hl]; exact hiv, rfl, h1c⟩
    | true =>
      rw [if_pos rfl]
      split
      · rename_i hany
        obtain ⟨z, hz, hzi⟩ := List.any_eq_true.1 hany
        obtain rfl := AV.isO_eq hzi
        obtain ⟨p, u1, q1, q2, q3⟩ := rvl_mem _ _ _ hvs hz
        have q4 := rvl_at _ _ p _ u1 m3' q1 q2
        simp only [RV, R] at q3 q4
        obtain ⟨u2, s1, s2, _⟩ := q3
        obtain ⟨u3, s3, s4, s5⟩ := q4
        injection s2 with s2
        injection s4 with s4
        rw [hiv] at s1
        injection s1 with s1
        simp only [R]
        exact ⟨v, by rw [s3, ← s4, s2, s1], rfl, h1c⟩
      · simp only [R]; exact ⟨v, rfl, h1c⟩
  have hGG : ∀ i k j off us, R w (OwnA A hv) hv (.q i k j off) us → R w' (OwnA A hv') hv' (keepG M as i k j off) us := by
    intro i k j off us hus
    unfold keepG
    cases hl : liveI M i with
    | false =>
      rw [if_neg (by simp)]
      simp only [R] at hus ⊢
      obtain ⟨b, n, c, s1, s2⟩ := hus
      exact ⟨b, n, c, by rw [e2 i hl]; exact s1, s2⟩
    | true =>
      rw [if_pos rfl]
      split
      · rename_i hany
        obtain ⟨z, hz, hzi⟩ := List.any_eq_true.1 hany
        obtain rfl := AV.isQ_eq hzi
        obtain ⟨p, u1, q1, q2, q3⟩ := rvl_mem _ _ _ hvs hz
        have q4 := rvl_at _ _ p _ u1 m3' q1 q2
        simp only [RV, R] at q3 q4 hus ⊢
        obtain ⟨b, n, c, s1, s2⟩ := q3
        obtain ⟨b', n', c', s3, s4⟩ := q4
        obtain ⟨b'', n'', c'', s5, s6⟩ := hus
        rw [s1] at s5
        injection s5 with s5
        injection s5 with s5 _ _
        injection s5 with s5
        injection s5 with s5
        injection s2 with s2
        injection s4 with s4
        rw [s2] at s4
        injection s4 with s4
        injection s4 with s4
        injection s4 with s4
        exact ⟨b', n', c', s3, by rw [s6, ← s5, s4]⟩
      · exact R_botq hus
  refine ⟨v, hv', rfl, ⟨fun i ob hi => ?_, fun i u hi => ?_, ?_, fun b hb => Nat.lt_of_lt_of_le (hM.old b hb) kp.size⟩, ?_, m3', kpO, o1, o2, o3, o4, e2⟩
  · rcases combM_get hi with ⟨hl, hi'⟩ | ⟨hl, ob0, hi', rfl⟩
    · obtain ⟨u, g1, g2⟩ := m1.live i ob hi'
      refine ⟨u, by rw [e1 i hl]; exact g1, ?_⟩
      cases hm : ob.mp with
      | some ks =>
        obtain ⟨vals, k1, k3⟩ := g2.map hm
        have := RVL_keep kpT e3 _ _ k3
        rw [AV.killL_nil] at this
        exact ObR.of_map hm ⟨vals, k1, this⟩
      | none =>
        obtain ⟨us, k1, k2, k3⟩ := g2.row hm
        have := RL_keep kpT e3 _ _ k3
        rw [AV.killL_nil] at this
        exact ObR.of_row hm ⟨us, k1, k2, this⟩
    · obtain ⟨u, g1, g2⟩ := hM.live i ob0 hi'
      refine ⟨u, by rw [e2 i hl]; exact g1, ?_⟩
      cases hm : ob0.mp with
      | some ks =>
        obtain ⟨vals, k1, k3⟩ := g2.map hm
        exact ObR.of_map (ks := ks) rfl ⟨vals, k1.block fun b hb => hblk i _ b hl g1 hb, RVL_subk kpA hFF (keepF_single M as) hGG (keepG_single M as) _ _ k3⟩
      | none =>
        obtain ⟨us, k1, k2, k3⟩ := g2.row hm
        refine ObR.of_row rfl ⟨us, ?_, fun x hx => ?_, RL_subk kpA hFF (keepF_single M as) hGG (keepG_single M as) _ _ k3⟩
        · simp only [AV.subL_map, List.length_map]
          exact ownsRow_of_block k1 fun b hb => hblk i u b hl g1 (by rw [blk_row k1]; exact hb)
        · simp only [AV.subL_map, List.mem_map] at hx
          obtain ⟨y, hy, rfl⟩ := hx
          rw [size_sub (keepF_single M as) (keepG_single M as)]
          exact k2 y hy
  · cases hl : liveI M i with
    | true =>
      rw [e1 i hl] at hi
      obtain ⟨ob, hob⟩ := m1.dom i u hi
      obtain ⟨ob0, hob0⟩ := liveI_true hl
      have hlt := (List.getElem?_eq_some_iff.1 (hsub i ob0 hob0)).1
      exact ⟨ob, by rw [combM_at hlt, if_pos hl, hob]; rfl⟩
    | false =>
      rw [e2 i hl] at hi
      obtain ⟨ob, hob⟩ := hM.dom i u hi
      have hlt := (List.getElem?_eq_some_iff.1 hob).1
      exact ⟨_, by rw [combM_at hlt, if_neg (by simp [hl]), hob]; rfl⟩
  · intro i j vi vj b hi hj hbi hbj
    have cross : ∀ i j vi vj b, liveI M i = true → liveI M j = false → hv' i = some vi → hv' j = some vj → blk vi = some b → blk vj = some b → False := by
      intro i j vi vj b hli hlj hi hj hbi hbj
      rw [e1 i hli] at hi
      rw [e2 j hlj] at hj
      have hlt := hM.own_lt ⟨j, vj, hj, hbj⟩
      have h1 := hO b (kp.own b hlt ⟨i, vi, hi, hbi⟩)
      obtain ⟨i2, v2, hi2, hb2⟩ := kp.own b hlt ⟨i, vi, hi, hbi⟩
      obtain ⟨hl2, hi2'⟩ := hc2 i2 v2 hi2
      have := hM.inj i2 j v2 vj b hi2' hj hb2 hbj
      subst this
      rw [hl2] at hlj
      cases hlj
    cases hli : liveI M i with
    | true =>
      cases hlj : liveI M j with
      | true => exact m1.inj i j vi vj b (by rw [← e1 i hli]; exact hi) (by rw [← e1 j hlj]; exact hj) hbi hbj
      | false => exact (cross i j vi vj b hli hlj hi hj hbi hbj).elim
    | false =>
      cases hlj : liveI M j with
      | true => exact (cross j i vj vi b hlj hli hj hi hbj hbi).elim
      | false => exact hM.inj i j vi vj b (by rw [← e2 i hli]; exact hi) (by rw [← e2 j hlj]; exact hj) hbi hbj
  · have := RV_keep kpT r [] hvc' hv' v e3 m2
    rwa [AV.kill_nil] at this


section
variable {P : Program} {C : Ctx} {σ : St} {a : Act} {w : World} {Q : Exit → Act → World → Prop}

theorem frame_call {o : Oper} {f : FuncId} {args : Array Operand} {ats : Array TypeId} {ops : Array Oper} {i : Nat} {M N : Mem} {x : AV} (ho : ops[i]? = some o) (hg : o.guard = none) (hop : o.op = .call ⟨.value (.func f), args, ats⟩)
    (hz : FSpec P f (args.toList.map σ.ev) M σ.M x N) (hS : StR C σ a w) : wpOp P ops Q i (fun a' w' => StR C ⟨setS (σ.sl.map (AV.sub (keepF M (args.toList.map σ.ev)) (keepG M (args.toList.map σ.ev)))) o.dst x, N⟩ a' w') a w := by
  obtain ⟨hv, hd, hsz, hsl, hM, hF⟩ := hS
  unfold wpOp
  simp only [ho]
  rw [if_pos (wanted_none hg _)]
  left
  obtain ⟨hok, hc⟩ := hz
  have hen := ok_enter (w := w) (a := a) (c := .func f) (cs := #[]) hop rfl hok
  have hvs := rvl_map (fun x => ev_ok hsl x) args.toList
  generalize hasE : args.toList.map σ.ev = as at *
  have hcall := hc w (args.toList.map a.eval) C.A hv hM (fun b hb => hF.sep hb) hvs
  unfold Oper.wp
  rw [show (execOp a.eval o).run P w = .ok (.enter f (args.toList.map a.eval).toArray) w by simpa using hen]
  refine Calls.mono hcall ?_
  rintro e w' ⟨v, hv', rfl, hM', hr, has', hkp, h1, h2, h3, hdw, h4⟩
  refine ⟨hv', by cases o.dst <;> exact hd, ?_, fun i x hx => ?_, hM', ?_⟩
  · rw [put_size, hsz]; simp only [setS_len, List.length_map]
  · rcases setS_get _ _ _ _ hx with ⟨e1, rfl, hlt⟩ | ⟨hne, hx⟩
    · refine ⟨v, ?_, hr⟩
      rw [List.length_map] at hlt
      rw [e1]
      simp [Act.put, hsz, hlt]
    · rw [List.getElem?_map] at hx
      simp only [Option.map_eq_some_iff] at hx
      obtain ⟨y, hy, rfl⟩ := hx
      obtain ⟨u, g1, g2⟩ := hsl i y hy
      refine ⟨u, by rw [put_get _ _ _ _ hne]; exact g1, ?_⟩
      have hkA : Keeps w (OwnA C.A hv) w' (OwnA C.A hv') := ⟨hkp.size, fun b hb hn => hkp.block b hb (fun ho => hn (.inr ho)), fun b hb ho => ho.elim .inl (fun ho => .inr (hkp.own b hb ho))⟩
      refine RV_subk hkA (fun i v hiv h1c => ?_) (keepF_single M as) (fun i k j off us hus => ?_) (keepG_single M as) y u g2
      · unfold keepF
        cases hl : liveI M i with
        | false =>
          rw [if_neg (by simp)]
          simp only [R]
          exact ⟨v, by rw [h4 i hl]; exact hiv, rfl, h1c⟩
        | true =>
        rw [if_pos rfl]
        split
        · rename_i hany
          obtain ⟨z, hz, hzi⟩ := List.any_eq_true.1 hany
          obtain rfl := AV.isO_eq hzi
          obtain ⟨p, u1, q1, q2, q3⟩ := rvl_mem _ _ _ hvs hz
          have q4 := rvl_at _ _ p _ u1 has' q1 q2
          simp only [RV, R] at q3 q4
          obtain ⟨u2, s1, s2, _⟩ := q3
          obtain ⟨u3, s3, s4, s5⟩ := q4
          injection s2 with s2
          injection s4 with s4
          rw [hiv] at s1
          injection s1 with s1
          simp only [R]
          exact ⟨v, by rw [s3, ← s4, s2, s1], rfl, h1c⟩
        · simp only [R]; exact ⟨v, rfl, h1c⟩
      · unfold keepG
        cases hl : liveI M i with
        | false =>
          rw [if_neg (by simp)]
          simp only [R] at hus ⊢
          obtain ⟨b, n, c, s1, s2⟩ := hus
          exact ⟨b, n, c, by rw [h4 i hl]; exact s1, s2⟩
        | true =>
        rw [if_pos rfl]
        split
        · rename_i hany
          obtain ⟨z, hz, hzi⟩ := List.any_eq_true.1 hany
          obtain rfl := AV.isQ_eq hzi
          obtain ⟨p, u1, q1, q2, q3⟩ := rvl_mem _ _ _ hvs hz
          have q4 := rvl_at _ _ p _ u1 has' q1 q2
          simp only [RV, R] at q3 q4 hus ⊢
          obtain ⟨b, n, c, s1, s2⟩ := q3
          obtain ⟨b', n', c', s3, s4⟩ := q4
          obtain ⟨b'', n'', c'', s5, s6⟩ := hus
          rw [s1] at s5
          injection s5 with s5
          injection s5 with s5 _ _
          injection s5 with s5
          injection s5 with s5
          injection s2 with s2
          injection s4 with s4
          rw [s2] at s4
          injection s4 with s4
          injection s4 with s4
          injection s4 with s4
          exact ⟨b', n', c', s3, by rw [s6, ← s5, s4]⟩
        · exact R_botq hus
  · refine ⟨h1.trans hF.os, h2.trans hF.tape, h3.trans hF.output, Nat.le_trans hF.drawn hdw, Nat.le_trans hF.size hkp.size, fun b hb hn => ?_, fun b hb => ?_, hF.aold, hF.dis⟩
    · refine (hkp.block b (Nat.lt_of_lt_of_le hb hF.size) (fun ho => ?_)).trans (hF.block b hb hn)
      rcases hF.own b ho with g | g
      · exact hn g
      · omega
    · rcases Nat.lt_or_ge b w.heap.size with hlt | hge
      · exact hF.own b (hkp.own b hlt hb)
      · exact .inr (Nat.le_trans hF.size hge)

/-- such a call, and what comes behind it. -/
def ACallF (P : Program) (f : FuncId) (as : List AV) (Mc : Mem) [K : HK (Mem → AV → Mem → Prop)] : Prop := ∃ M x N, FSpec P f as M Mc x N ∧ K.k M x N
theorem acall_f {f : FuncId} {as : List AV} {Mc : Mem} {K : HK (Mem → AV → Mem → Prop)} {M : Mem} {x : AV} {N : Mem} (spec : FSpec P f as M Mc x N) (h : K.k M x N) : ACallF P f as Mc (K := K) := ⟨M, x, N, spec, h⟩

/-- a region in the order of the text; its operation m is such a call. -/
theorem swp_fm {own : List Nat} {id : Nat} {ops : Array Oper} {N : HN} {E : HE} {Rt : HR} {o : Oper} {f : FuncId} {args : Array Operand} {ats : Array TypeId} (m : Nat) (ho : ops.toList[m]? = some o) (hg : o.guard = none) (hop : o.op = .call ⟨.value (.func f), args, ats⟩)
    (h : @AOps P own ops.toList (ops.toList.take m) σ ⟨fun σ' => @ACallF P f (args.toList.map σ'.ev) σ'.M ⟨fun M x M' => @AOps P own ops.toList (ops.toList.drop (m + 1)) ⟨setS (σ'.sl.map (AV.sub (keepF M (args.toList.map σ'.ev)) (keepG M (args.toList.map σ'.ev)))) o.dst x, M'⟩ N⟩⟩) : @SWp P (.region id ops false) σ N E Rt := by
  intro C a w hS
  refine wp_region ?_
  obtain ⟨hlt, hoe⟩ := List.getElem?_eq_some_iff.1 ho
  have hops : ops.toList = ops.toList.take m ++ o :: ops.toList.drop (m + 1) := by rw [← hoe, ← List.drop_eq_getElem_cons hlt, List.take_append_drop]
  generalize ops.toList.take m = pre at *
  generalize ops.toList.drop (m + 1) = suf at *
  have hl : ops.size = (pre ++ o :: suf).length := by rw [← hops]; simp
  rw [List.range_eq_range', hl]
  refine aops_then (P := P) (own := own) _ pre 0 σ a w (by simpa using hops) h hS ?_
  rintro σ' a w ⟨M, x, M', hz, hA⟩ hS
  have ho : ops[0 + pre.length]? = some o := by
    have : ops.toList[pre.length]? = some o := by rw [hops]; simp
    rw [Nat.zero_add]; simpa using this
  rw [List.length_cons, List.range'_succ, wpOps_cons]
  refine wpOp_mono (fun a' w' hS' => ?_) (frame_call ho hg hop hz hS)
  exact aops_sound (P := P) (own := own) (ops := ops) (fun σ a w hN hS => ⟨σ, hN, hS⟩) suf (0 + pre.length + 1) _ a' w' (by rw [hops, Nat.zero_add, ← List.drop_drop]; simp) hA hS'
end

end Aw
end Go.Proofs.Ytkolpijhgcijbaa
