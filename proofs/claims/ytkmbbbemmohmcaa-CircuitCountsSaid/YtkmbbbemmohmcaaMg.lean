/-
  Several texts in one: CtY, CtZ, CuA, CuB, CuC, CuD.
-/
import Derived.Test.YtkmbbbemmohmcaaMe
import Derived.Test.YtkmbbbemmohmcaaMw
import Derived.Shelf.RegionOpenPlain
import Derived.WalkKit
import Derived.Deep.LoopGhost
import Derived.Deep.RegionLaw
import Derived.Lib.Walk
import Derived.Sort.WalkB12
import Derived.Lib.SliceRun
import Derived.Lib.SlicesDelete
import Derived.Test.YtkmbbbemmohmcaaMf
set_option linter.unusedSimpArgs false
set_option linter.unusedVariables false
namespace Go.Proofs.Ytkmbbbemmohmcaa
open Aw Go.RowKit Go.Lib Go.Sort Go.Shelf
set_option linter.unusedSimpArgs false

theorem ti24i : ∃ i, Try.prog.info? 24 = some i ∧ i.size = 4 := by
  obtain ⟨i, d, z, hi, _, _, _, _, _, hs, _, _⟩ := tiOf_spec (ti24 : tiOf Try.prog 24 = some _)
  exact ⟨i, hi, hs.symm⟩

set_option maxHeartbeats 4000000 in
set_option maxRecDepth 1000000 in
theorem del_calls103 (w : World) (g n cap i j : Nat) (L : List Value) (hg : w.heap[g]? = some (.cells L.toArray 24 (0, 0))) (hnc : n ≤ cap) (hcm : cap ≤ 9223372036854775807) (hs : L.length = cap * 4) (hi : i < n) (hj : j = i + 1) (h1 : ∀ v ∈ L.take (n * 4), v.oneCell' = true) :
    Calls Try.prog 103 #[.slice (some ⟨g, 0, none⟩) n cap, .int .i64 i, .int .i64 j] w fun e w' => e = .returned (.slice (some ⟨g, 0, none⟩) (n - 1) cap) ∧
      w' = (w.drew.setCells g (i * 4) ((L.take (n * 4)).drop (j * 4))).setCells g ((n - 1) * 4) [.int .i64 0, .int .i64 0, .int .i64 0, .int .i64 0] := by
  have mixed : Try.prog.follows .mixedOrders = true := mo
  have t22 : Try.prog.underlying 60 = some (.slice 24) := by kernel_rfl
  obtain ⟨i0, hi0, hz1⟩ := ti24i
  have hcell : ∀ t, t < cap * 4 → w.cell? ⟨g, t, none⟩ = L[t]? ∧ w.frozen? ⟨g, t, none⟩ = false := by
    intro t ht
    simp [World.cell?, World.frozen?, hg]
  obtain ⟨news, hnews⟩ : ∃ news, news = (L.take (n * 4)).drop (j * 4) := ⟨_, rfl⟩
  have hlen : news.length = (n - j) * 4 := by rw [hnews]; simp; omega
  have hget : ∀ t, t < (n - j) * 4 → news[t]? = L[j * 4 + t]? := by
    intro t ht
    rw [hnews, List.getElem?_drop, List.getElem?_take, if_pos (by omega)]
  obtain ⟨A, hA, hsrc⟩ : ∃ A : Addr, (if cap = j then some (⟨g, 0, none⟩ : Addr) else some ⟨g, j * 4, none⟩) = some A ∧ Hid (∀ t u, news[t]? = some u → w.drew.cell? (A.add t) = some u) := by
    by_cases h : cap = j
    · refine ⟨⟨g, 0, none⟩, by simp [h], fun t u hu => ?_⟩
      have h0 : news.length = 0 := by rw [hlen]; omega
      rw [List.length_eq_zero_iff.1 h0] at hu
      simp at hu
    · refine ⟨⟨g, j * 4, none⟩, by simp [h], fun t u hu => ?_⟩
      have ht : t < (n - j) * 4 := by
        have := (List.getElem?_eq_some_iff.1 hu).1
        rwa [hlen] at this
      rw [hget t ht] at hu
      rw [Addr.add_lit]
      exact (hcell (j * 4 + t) (by omega)).1.trans hu
  have s1 : Hid (news.length = (n - j) * 4) := hlen
  have s2 : Hid (∀ u ∈ news, u.oneCell' = true) := fun u hu => h1 u (by rw [hnews] at hu; exact List.mem_of_mem_drop hu)
  have s3 : Hid (∀ t, t < news.length → (w.drew.cell? ⟨g, 0 + i * 4 + t, none⟩).isSome = true ∧ w.drew.frozen? ⟨g, 0 + i * 4 + t, none⟩ = false) := by
    intro t ht
    rw [hlen] at ht
    have := hcell (0 + i * 4 + t) (by omega)
    refine ⟨?_, this.2⟩
    show (w.cell? _).isSome = true
    rw [this.1, List.getElem?_eq_getElem (by omega)]
    rfl
  obtain ⟨W1, hW1⟩ : ∃ W1, W1 = w.drew.setCells g (0 + i * 4) news := ⟨_, rfl⟩
  have hcl : ∀ ty, (Builtin.clear_ #[60] ty #[.slice (some ⟨g, (i + (n - j)) * 4, none⟩) (n - (i + (n - j))) (cap - (i + (n - j)))]).run Try.prog W1 = .ok (.tuple #[]) (W1.setCells g ((i + (n - j)) * 4) [.int .i64 0, .int .i64 0, .int .i64 0, .int .i64 0]) := by
    intro ty
    have hc1 : ∀ m, m < 4 → (W1.cell? ⟨g, (i + (n - j)) * 4 + m, none⟩).isSome = true := fun m hm => by
      have h0 := hcell ((i + (n - j)) * 4 + m) (by omega)
      rw [hW1]
      by_cases hin : (i + (n - j)) * 4 + m < i * 4 + news.length
      · rw [hlen] at hin; omega
      · rw [World.cell?_setCells_out]
        · show (w.cell? _).isSome = true
          rw [h0.1, List.getElem?_eq_getElem (by omega)]
          rfl
        · intro _ _
          right
          simp only
          omega
    have hf1 : ∀ m, m < 4 → W1.frozen? ⟨g, (i + (n - j)) * 4 + m, none⟩ = false := fun m hm => by
      rw [hW1, World.frozen?_setCells]
      exact (hcell ((i + (n - j)) * 4 + m) (by omega)).2
    rw [show n - (i + (n - j)) = 1 by omega]
    exact run_clear_gate W1 60 ty t22 g _ _ hc1 hf1
  have hW : Hid (W1 = w.drew.setCells g (0 + i * 4) news) := hW1
  have X : Aside (W1 = w.drew.setCells g (0 + i * 4) news) := hW1
  have hic : i ≤ cap := by omega
  have hjc : j ≤ cap := by omega
  have hin : i ≤ n := by omega
  have hjn : j ≤ n := by omega
  have hne : i ≠ j := by omega
  have hlt : i < j := by omega
  have hj' : Hid (j = i + 1) := hj
  have hnews' : Hid (news = (L.take (n * 4)).drop (j * 4)) := hnews
  clear hW1 hget hnews hlen hcell hj hi hg h1 hs
  go_enter Try.func103, Try.ntmps103
  go_wp2_with fail
  go_region_law_o (refine step_append_room rfl (.tmp 22) (.tmp 25) 60 rfl 24 i0 4 t22 hi0 hz1 g 0 i cap (by simp [Act.eval, Act.put]) A (n - j) (cap - j) news (by simp [Act.eval, Act.put, hA]) s1.out hsrc.out s2.out (by omega) s3.out ?_; rw [← hW.out])
  go_wp2
  go_ret
  have e1 : i + (n - j) = n - 1 := by have := hj'.out; omega
  refine ⟨by rw [e1]; rfl, ?_⟩
  rw [e1, hW.out, hnews'.out, Nat.zero_add]
set_option maxHeartbeats 4000000 in
set_option maxRecDepth 1000000 in
theorem del_calls93 (w : World) (g n cap i j : Nat) (L : List Value) (hg : w.heap[g]? = some (.cells L.toArray 24 (0, 0))) (hnc : n ≤ cap) (hcm : cap ≤ 9223372036854775807) (hs : L.length = cap * 4) (hi : i < n) (hj : j = i + 1) (h1 : ∀ v ∈ L.take (n * 4), v.oneCell' = true) :
    Calls Try.prog 93 #[.slice (some ⟨g, 0, none⟩) n cap, .int .i64 i, .int .i64 j] w fun e w' => e = .returned (.slice (some ⟨g, 0, none⟩) (n - 1) cap) ∧
      w' = (w.drew.setCells g (i * 4) ((L.take (n * 4)).drop (j * 4))).setCells g ((n - 1) * 4) [.int .i64 0, .int .i64 0, .int .i64 0, .int .i64 0] := by
  have mixed : Try.prog.follows .mixedOrders = true := mo
  have t22 : Try.prog.underlying 22 = some (.slice 24) := by kernel_rfl
  obtain ⟨i0, hi0, hz1⟩ := ti24i
  have hcell : ∀ t, t < cap * 4 → w.cell? ⟨g, t, none⟩ = L[t]? ∧ w.frozen? ⟨g, t, none⟩ = false := by
    intro t ht
    simp [World.cell?, World.frozen?, hg]
  obtain ⟨news, hnews⟩ : ∃ news, news = (L.take (n * 4)).drop (j * 4) := ⟨_, rfl⟩
  have hlen : news.length = (n - j) * 4 := by rw [hnews]; simp; omega
  have hget : ∀ t, t < (n - j) * 4 → news[t]? = L[j * 4 + t]? := by
    intro t ht
    rw [hnews, List.getElem?_drop, List.getElem?_take, if_pos (by omega)]
  obtain ⟨A, hA, hsrc⟩ : ∃ A : Addr, (if cap = j then some (⟨g, 0, none⟩ : Addr) else some ⟨g, j * 4, none⟩) = some A ∧ Hid (∀ t u, news[t]? = some u → w.drew.cell? (A.add t) = some u) := by
    by_cases h : cap = j
    · refine ⟨⟨g, 0, none⟩, by simp [h], fun t u hu => ?_⟩
      have h0 : news.length = 0 := by rw [hlen]; omega
      rw [List.length_eq_zero_iff.1 h0] at hu
      simp at hu
    · refine ⟨⟨g, j * 4, none⟩, by simp [h], fun t u hu => ?_⟩
      have ht : t < (n - j) * 4 := by
        have := (List.getElem?_eq_some_iff.1 hu).1
        rwa [hlen] at this
      rw [hget t ht] at hu
      rw [Addr.add_lit]
      exact (hcell (j * 4 + t) (by omega)).1.trans hu
  have s1 : Hid (news.length = (n - j) * 4) := hlen
  have s2 : Hid (∀ u ∈ news, u.oneCell' = true) := fun u hu => h1 u (by rw [hnews] at hu; exact List.mem_of_mem_drop hu)
  have s3 : Hid (∀ t, t < news.length → (w.drew.cell? ⟨g, 0 + i * 4 + t, none⟩).isSome = true ∧ w.drew.frozen? ⟨g, 0 + i * 4 + t, none⟩ = false) := by
    intro t ht
    rw [hlen] at ht
    have := hcell (0 + i * 4 + t) (by omega)
    refine ⟨?_, this.2⟩
    show (w.cell? _).isSome = true
    rw [this.1, List.getElem?_eq_getElem (by omega)]
    rfl
  obtain ⟨W1, hW1⟩ : ∃ W1, W1 = w.drew.setCells g (0 + i * 4) news := ⟨_, rfl⟩
  have hcl : ∀ ty, (Builtin.clear_ #[22] ty #[.slice (some ⟨g, (i + (n - j)) * 4, none⟩) (n - (i + (n - j))) (cap - (i + (n - j)))]).run Try.prog W1 = .ok (.tuple #[]) (W1.setCells g ((i + (n - j)) * 4) [.int .i64 0, .int .i64 0, .int .i64 0, .int .i64 0]) := by
    intro ty
    have hc1 : ∀ m, m < 4 → (W1.cell? ⟨g, (i + (n - j)) * 4 + m, none⟩).isSome = true := fun m hm => by
      have h0 := hcell ((i + (n - j)) * 4 + m) (by omega)
      rw [hW1]
      by_cases hin : (i + (n - j)) * 4 + m < i * 4 + news.length
      · rw [hlen] at hin; omega
      · rw [World.cell?_setCells_out]
        · show (w.cell? _).isSome = true
          rw [h0.1, List.getElem?_eq_getElem (by omega)]
          rfl
        · intro _ _
          right
          simp only
          omega
    have hf1 : ∀ m, m < 4 → W1.frozen? ⟨g, (i + (n - j)) * 4 + m, none⟩ = false := fun m hm => by
      rw [hW1, World.frozen?_setCells]
      exact (hcell ((i + (n - j)) * 4 + m) (by omega)).2
    rw [show n - (i + (n - j)) = 1 by omega]
    exact run_clear_gate W1 22 ty t22 g _ _ hc1 hf1
  have hW : Hid (W1 = w.drew.setCells g (0 + i * 4) news) := hW1
  have X : Aside (W1 = w.drew.setCells g (0 + i * 4) news) := hW1
  have hic : i ≤ cap := by omega
  have hjc : j ≤ cap := by omega
  have hin : i ≤ n := by omega
  have hjn : j ≤ n := by omega
  have hne : i ≠ j := by omega
  have hlt : i < j := by omega
  have hj' : Hid (j = i + 1) := hj
  have hnews' : Hid (news = (L.take (n * 4)).drop (j * 4)) := hnews
  clear hW1 hget hnews hlen hcell hj hi hg h1 hs
  go_enter Try.func93, Try.ntmps93
  go_wp2_with fail
  go_region_law_o (refine step_append_room rfl (.tmp 22) (.tmp 25) 22 rfl 24 i0 4 t22 hi0 hz1 g 0 i cap (by simp [Act.eval, Act.put]) A (n - j) (cap - j) news (by simp [Act.eval, Act.put, hA]) s1.out hsrc.out s2.out (by omega) s3.out ?_; rw [← hW.out])
  go_wp2
  go_ret
  have e1 : i + (n - j) = n - 1 := by have := hj'.out; omega
  refine ⟨by rw [e1]; rfl, ?_⟩
  rw [e1, hW.out, hnews'.out, Nat.zero_add]
end Go.Proofs.Ytkmbbbemmohmcaa

namespace Go.Proofs.Ytkmbbbemmohmcaa
open Aw Go.RowKit
set_option linter.unusedSimpArgs false

/-- the cells of gates. -/
def enc4 (l : List G4) : List Value := l.flatMap fun g => [.int .i64 g.k, .int .i64 g.a, .int .i64 g.b, .int .i64 g.t]
theorem enc4_len (l : List G4) : (enc4 l).length = l.length * 4 := by
  induction l with
  | nil => rfl
  | cons x l ih => simp only [enc4, List.flatMap_cons, List.length_append, List.length_cons, List.length_nil] at ih ⊢; omega
theorem enc4_app (l m : List G4) : enc4 (l ++ m) = enc4 l ++ enc4 m := by simp [enc4]
theorem enc4_take (l : List G4) (i : Nat) : (enc4 l).take (i * 4) = enc4 (l.take i) := by
  by_cases h : i ≤ l.length
  · have e : enc4 l = enc4 (l.take i) ++ enc4 (l.drop i) := by rw [← enc4_app, List.take_append_drop]
    have hl : (enc4 (l.take i)).length = i * 4 := by rw [enc4_len, List.length_take, Nat.min_eq_left h]
    rw [e, List.take_append_of_le_length (by omega), List.take_of_length_le (by omega)]
  · rw [List.take_of_length_le (by rw [enc4_len]; omega), List.take_of_length_le (by omega)]
theorem enc4_drop (l : List G4) (i : Nat) : (enc4 l).drop (i * 4) = enc4 (l.drop i) := by
  by_cases h : i ≤ l.length
  · have e : enc4 l = enc4 (l.take i) ++ enc4 (l.drop i) := by rw [← enc4_app, List.take_append_drop]
    have hl : (enc4 (l.take i)).length = i * 4 := by rw [enc4_len, List.length_take, Nat.min_eq_left h]
    rw [e, List.drop_append_of_le_length (by omega), List.drop_of_length_le (by omega)]
    rfl
  · rw [List.drop_of_length_le (by rw [enc4_len]; omega), List.drop_of_length_le (by omega)]
    rfl
theorem enc4_one (l : List G4) : ∀ v ∈ enc4 l, v.oneCell' = true := by
  intro v hv
  simp only [enc4, List.mem_flatMap] at hv
  obtain ⟨g, _, hg⟩ := hv
  simp at hg
  rcases hg with rfl | rfl | rfl | rfl <;> rfl
theorem rl_enc4 {w : World} {T : Nat → Prop} {hv : Nat → Option Value} : ∀ (l : List G4), RL w T hv (gtsA l) (enc4 l)
  | [] => by simp [gtsA, enc4, RL]
  | x :: l => by
    have ih := rl_enc4 (w := w) (T := T) (hv := hv) l
    simp only [gtsA, List.map_cons, RL] at ih ⊢
    refine ⟨[.int .i64 x.k, .int .i64 x.a, .int .i64 x.b, .int .i64 x.t], enc4 l, rfl, ?_, ih⟩
    simp [gA, R, RL, Value.oneCell']

theorem zdel {f : FuncId} (hok : okFn Try.prog f = true) (hcall : ∀ (w : World) (g n cap i j : Nat) (L : List Value), w.heap[g]? = some (.cells L.toArray 24 (0, 0)) → n ≤ cap → cap ≤ 9223372036854775807 → L.length = cap * 4 → i < n → j = i + 1 → (∀ v ∈ L.take (n * 4), v.oneCell' = true) →
    Calls Try.prog f #[.slice (some ⟨g, 0, none⟩) n cap, .int .i64 i, .int .i64 j] w fun e w' => e = .returned (.slice (some ⟨g, 0, none⟩) (n - 1) cap) ∧
      w' = (w.drew.setCells g (i * 4) ((L.take (n * 4)).drop (j * 4))).setCells g ((n - 1) * 4) [.int .i64 0, .int .i64 0, .int .i64 0, .int .i64 0])
    (l : List G4) (i : Nat) (hi : i < l.length) (M : Mem) (g : Nat) (hg : M[g]? = some (some ⟨none, 24, 4, gtsA l⟩)) :
    ZSpec Try.prog f [.o g, I i, I ((i : Int) + 1)] M [g] (.o g) ((Mem.kill [g] M).set g (some ⟨none, 24, 4, gtsA (wo l i)⟩)) := by
  refine ⟨hok, fun w vs A hv hM hsep hvs => ?_⟩
  simp only [RVL, RV, R] at hvs
  obtain ⟨v, vs1, rfl, ⟨v', hv1, he, h1c⟩, v2, vs2, rfl, rfl, v3, vs3, rfl, rfl, rfl⟩ := hvs
  simp only [List.cons.injEq, and_true] at he
  subst he
  obtain ⟨us, hrow, hks, hus⟩ := (hM_ob hM hg hv1).row rfl
  have husE : us = enc4 l := rl_gts l us hus
  rcases hrow.2 with ⟨rfl, h0⟩ | ⟨b, cap, cur, rfl, hb0, hgb, hnc, hcm, hcs, htk⟩
  · rw [gtsA_len] at h0; omega
  rw [gtsA_len] at hnc htk
  have hL : cur.toList.length = cap * 4 := by simpa using hcs
  have htk' : cur.toList.take (l.length * 4) = enc4 l := htk.trans husE
  have hj : ((i : Int) + 1) = ((i + 1 : Nat) : Int) := by omega
  have hgL : w.heap[b]? = some (.cells cur.toList.toArray 24 (0, 0)) := by simpa using hgb
  have hC := hcall w b l.length cap i (i + 1) cur.toList hgL hnc hcm hL hi rfl (by rw [htk']; exact enc4_one l)
  rw [gtsA_len, hj]
  refine hC.mono ?_
  rintro e w' ⟨rfl, rfl⟩
  rw [htk', enc4_drop]
  have hnl : (enc4 (l.drop (i + 1))).length = (l.length - (i + 1)) * 4 := by rw [enc4_len, List.length_drop]
  have r1 := setCells_to b 24 (enc4 (l.drop (i + 1))) (i * 4) w.drew cur.toList hgL (by rw [hnl, hL]; omega)
  have et : cur.toList.take (i * 4) = enc4 (l.take i) := by
    rw [← enc4_take, ← htk', List.take_take, Nat.min_eq_left (by omega)]
  rw [et] at r1
  have e4 : ([.int .i64 0, .int .i64 0, .int .i64 0, .int .i64 0] : List Value).length = 4 := rfl
  have hl1 : (enc4 (l.take i) ++ enc4 (l.drop (i + 1))).length = (l.length - 1) * 4 := by
    rw [List.length_append, enc4_len, hnl, List.length_take]; omega
  have r2 := setCells_to b 24 [.int .i64 0, .int .i64 0, .int .i64 0, .int .i64 0] ((l.length - 1) * 4) _ _ r1.row (by
    rw [List.length_append, hl1, List.length_drop, hnl, hL, e4]; omega)
  rw [List.take_append_of_le_length (by omega), List.take_of_length_le (by omega)] at r2
  have hr := r1.trans r2
  have hwd : ∀ k : Nat, w.drew.heap[k]? = w.heap[k]? := fun _ => rfl
  have hwo : enc4 (l.take i) ++ enc4 (l.drop (i + 1)) = enc4 (wo l i) := by rw [← enc4_app]; rfl
  rw [hwo] at hr hl1
  have hwl := wo_len l hi
  obtain ⟨m1, m2⟩ := mem_row (ys := gtsA (wo l i)) (news := enc4 (wo l i)) hM hg rfl (v := .slice (some ⟨b, 0, none⟩) (gtsA l).length cap) (v' := .slice (some ⟨b, 0, none⟩) (l.length - 1) cap) rfl rfl hv1
    (by
      refine ⟨by rw [enc4_len, gtsA_len], .inr ⟨b, cap, _, by rw [gtsA_len, hwl], hb0, hr.row, by rw [gtsA_len]; omega, hcm, ?_, ?_⟩⟩
      · simp only [List.size_toArray, List.length_append, List.length_drop, List.length_cons, List.length_nil]
        rw [hl1, hnl, hL]
        have := hwo ▸ hl1
        simp only [enc4_len, List.length_take] at *
        omega
      · simp only [gtsA_len, hwl]
        show List.take _ (_ ++ _ ++ _) = _
        rw [List.append_assoc, List.take_append_of_le_length (by omega), List.take_of_length_le (by omega)])
    ⟨hr.os, hr.tape, hr.output, by rw [hr.size]; exact Nat.le_refl _, fun k _ hne => (hr.block k fun e => hne (by rw [e]; rfl)).trans (hwd k)⟩ (.inl rfl) (by intro y hy; obtain ⟨z, _, rfl⟩ := List.mem_map.1 hy; rfl) (fun _ => rl_enc4 _)
  refine ⟨_, _, rfl, m1, ?_, m2⟩
  simp only [RV, R]
  exact ⟨_, by simp [hvSet], rfl, rfl⟩

theorem ok103 : okFn Try.prog 103 = true := by kernel_rfl
theorem ok93 : okFn Try.prog 93 = true := by kernel_rfl
theorem z103 (l : List G4) (i : Nat) (hi : i < l.length) (M : Mem) (g : Nat) (hg : M[g]? = some (some ⟨none, 24, 4, gtsA l⟩)) : ZSpec Try.prog 103 [.o g, I i, I ((i : Int) + 1)] M [g] (.o g) ((Mem.kill [g] M).set g (some ⟨none, 24, 4, gtsA (wo l i)⟩)) := zdel ok103 del_calls103 l i hi M g hg
theorem z93 (l : List G4) (i : Nat) (hi : i < l.length) (M : Mem) (g : Nat) (hg : M[g]? = some (some ⟨none, 24, 4, gtsA l⟩)) : ZSpec Try.prog 93 [.o g, I i, I ((i : Int) + 1)] M [g] (.o g) ((Mem.kill [g] M).set g (some ⟨none, 24, 4, gtsA (wo l i)⟩)) := zdel ok93 del_calls93 l i hi M g hg
end Go.Proofs.Ytkmbbbemmohmcaa

namespace Go.Proofs.Ytkmbbbemmohmcaa
open Aw Go.RowKit
set_option linter.unusedSimpArgs false

/-- the reader of a circuit. -/
def rdO (l : List G4) (nx : Int) : Ob := ⟨none, 81, 2, [.g [.s 4 (gtsA l), I nx]]⟩

theorem ok88 : okFn Try.prog 88 = true := by kernel_rfl
theorem s88 (l : List G4) (nx : Int) (i : Nat) (hi : i < l.length) (hl : l.length ≤ 10000) (hn : lim (nx + 1)) :
    MSpec Try.prog 88 [.q 0 2 0 0, I i] [some (rdO l nx)] (fun r M' => r = gA l[i] ∧ M' = [some (rdO (wo l i) (nx + 1))]) := by
  refine mspec_of2 (own := [4, 5, 1002]) Try.func88 rfl ok88 fun vs => ?_
  simp only [w_move, w_alloc, w_load, w_store, w_fieldAddr, w_indexAddr, w_nilCheck, w_aop, w_some, w_asome, w_anone, w_nil, w_cons, awp, idxC, asP, asQ, asS, asI, obA, AGet_zero, loadA, storeA, putsA, mkA, Aw.newRow, St.ev, St.step, setS, killS, AV.kill, AV.killL, Mem.kill, AV.cells, AV.flat, AV.single, AV.cellular, ACond_true, ACond_false, List.getD_cons_succ, List.getD_cons_zero, List.set_cons_succ, List.set_cons_zero, List.getElem?_cons_succ, List.getElem?_cons_zero, List.length_cons, List.length_nil, List.replicate_succ, List.replicate_zero, List.cons_append, List.nil_append, List.contains_nil, List.contains_cons, List.isEmpty_nil, Bool.false_eq_true, if_false, if_true, true_and, and_true, List.all_cons, List.all_nil, Bool.and_true, Bool.true_and, Bool.not_true, Nat.zero_add, Nat.add_zero, beq_self_eq_true, List.map_cons, List.map_nil, decide_true, nbeq, decide_false, Bool.or_false, Bool.or_true, Bool.and_false, Nat.reduceAdd, Nat.reduceEqDiff, Nat.reduceSub, Nat.reduceLeDiff, Int.reduceAdd, Int.reduceSub, ne_eq, not_false_eq_true, ti24, ti60, ti81, Try.ntmps88, rdO, ghost, aget_gts hi, Int.toNat_natCast]
  refine ⟨by omega, swp_zm (own := [4, 5]) 9 rfl rfl rfl ?_⟩
  simp only [w_move, w_load, w_fieldAddr, w_nilCheck, w_callF, w_aop, w_some, w_anone, w_cons, asP, asQ, obA, AGet_zero, loadA, St.ev, St.step, setS, killS, AV.kill, AV.killL, Mem.kill, AV.cells, AV.flat, AV.single, List.getD_cons_succ, List.getD_cons_zero, List.set_cons_succ, List.set_cons_zero, List.getElem?_cons_zero, List.length_cons, List.length_nil, List.contains_nil, List.isEmpty_nil, Bool.false_eq_true, if_false, if_true, true_and, and_true, List.all_cons, List.all_nil, Bool.and_true, Bool.true_and, Bool.not_true, Nat.zero_add, Nat.add_zero, beq_self_eq_true, List.map_cons, List.map_nil, decide_true, nbeq, decide_false, Bool.and_false, Nat.reduceAdd, Nat.reduceEqDiff, Nat.reduceLeDiff, Int.reduceAdd, ne_eq, not_false_eq_true, ti60, ti81, List.take_succ_cons, List.take_zero, List.drop_zero]
  refine acall_o (s104 l (by omega)) (by simp [AV.pureL, AV.pure, gtsA_pure]) (by simp [AV.pureL, AV.pure, gtsA_pure]) ?_
  simp only [w_move, w_binOp, w_aop, w_some, w_asome, w_anone, w_nil, w_cons, binC, arithC, cmpC, asI, St.ev, St.step, setS, killS, AV.kill, AV.killL, Mem.kill, List.getD_cons_succ, List.getD_cons_zero, List.set_cons_succ, List.set_cons_zero, List.length_cons, List.length_nil, List.cons_append, List.nil_append, List.contains_nil, List.isEmpty_nil, Bool.false_eq_true, if_false, if_true, true_and, and_true, Bool.and_true, Bool.true_and, Nat.zero_add, List.map_cons, List.map_nil, Nat.reduceAdd, Int.reduceAdd, AV.up, AV.sub]
  refine ⟨by unfold lim; omega, acall_z (z103 l i hi _ 4 rfl) ?_⟩
  simp only [w_move, w_load, w_store, w_fieldAddr, w_binOp, w_nilCheck, w_aop, w_some, w_asome, w_anone, w_nil, w_cons, awp, binC, arithC, cmpC, asP, asQ, asI, obA, AGet_zero, loadA, storeA, putsA, St.ev, St.step, setS, killS, AV.kill, AV.killL, Mem.kill, AV.cells, AV.flat, AV.single, AV.cellular, ACond_false, Value.oneCell', List.getD_cons_succ, List.getD_cons_zero, List.set_cons_succ, List.set_cons_zero, List.getElem?_cons_succ, List.getElem?_cons_zero, List.length_cons, List.length_nil, List.contains_nil, List.contains_cons, List.isEmpty_nil, List.isEmpty_cons, Bool.false_eq_true, if_false, if_true, true_and, and_true, List.all_cons, List.all_nil, Bool.and_true, Bool.true_and, Bool.not_true, Nat.zero_add, Nat.add_zero, beq_self_eq_true, List.map_cons, List.map_nil, decide_true, nbeq, decide_false, Bool.or_false, Bool.and_false, Nat.reduceAdd, Nat.reduceEqDiff, Nat.reduceLeDiff, Int.reduceAdd, ne_eq, not_false_eq_true, Option.map_some, ti3, ti24, ti60, ti81, List.take_succ_cons, List.take_zero, List.drop_succ_cons, List.drop_zero]
  refine ⟨hn, _, .g [I l[i].k, I l[i].a, I l[i].b, I l[i].t], [some (rdO (wo l i) (nx + 1))], _, le_frz 4 rfl (gtsA_pure _), ?_, rfl, rfl, rfl, ?_, ⟨rfl, rfl⟩⟩
  · show resA Try.prog [.cell 4 24] _ = _
    simp [resA, resL, resOne, ti24, loadA, AV.flat, AV.cells, AV.single, frz1, frzM, AV.sub, AV.subL]
  · simp [freeM, rdO, AV.freeL, AV.free, freeL_pure, gtsA_pure]
end Go.Proofs.Ytkmbbbemmohmcaa

namespace Go.Proofs.Ytkmbbbemmohmcaa
open Aw Go.RowKit
set_option linter.unusedSimpArgs false

theorem sub_free (F : Nat → AV) (G : Nat → Nat → Nat → Nat → AV) (Z : List Nat) (hF : ∀ i, i ∉ Z → F i = .o i) (hG : ∀ i k j off, i ∉ Z → G i k j off = .q i k j off) (a : AV) : a.free Z = true → a.sub F G = a := by
  refine AV.rec (motive_1 := fun a => a.free Z = true → a.sub F G = a) (motive_2 := fun l => AV.freeL Z l = true → AV.subL F G l = l) ?_ ?_ ?_ ?_ ?_ ?_ ?_ ?_ ?_ ?_ ?_ a <;> intros <;> simp_all [AV.free, AV.freeL, AV.sub, AV.subL]
theorem subL_free (F : Nat → AV) (G : Nat → Nat → Nat → Nat → AV) (Z : List Nat) (hF : ∀ i, i ∉ Z → F i = .o i) (hG : ∀ i k j off, i ∉ Z → G i k j off = .q i k j off) : ∀ (l : List AV), AV.freeL Z l = true → AV.subL F G l = l
  | [], _ => rfl
  | x :: l, h => by
    simp only [AV.freeL, Bool.and_eq_true] at h
    simp only [AV.subL, sub_free F G Z hF hG x h.1, subL_free F G Z hF hG l h.2]

/-- a call is lent the first object alone. -/
theorem mspec_first2 {f : FuncId} {ars : List AV} {ob ob' : Ob} {x : AV} (h : MSpec Try.prog f ars [some ob] (fun r N => r = x ∧ N = [some ob'])) (rest : Mem)
    (hfa : AV.freeL (Zr 1 rest.length) ars = true) (hfm : AV.freeL (Zr 1 rest.length) ob.xs = true) (hr : ∀ o, some o ∈ rest → AV.subL (keepF [some ob] ars) (keepG [some ob] ars) o.xs = o.xs) :
    FSpec Try.prog f ars [some ob] (some ob :: rest) x (some ob' :: rest) := by
  have hl : ∀ (y : Ob) i, liveI [some y] i = decide (i = 0) := fun y i => by
    cases i with
    | zero => rfl
    | succ i => simp [liveI]
  have := MSpec.frame h (fun i hi => by rw [hl] at hi ⊢; exact hi) (Mc := some ob :: rest) (fun i o hi => by
      cases i with
      | zero => simpa using hi
      | succ i => simp at hi) (Z := Zr 1 rest.length) (fun i hi hn => by
      rw [hl] at hn
      rw [mem_Zr]
      simp only [decide_eq_false_iff_not] at hn
      simp at hi
      omega) hfa (by simpa [freeM] using hfm)
  have e : combM [some ob] ars (some ob :: rest) [some ob'] = some ob' :: rest := by
    apply List.ext_getElem?
    intro i
    rcases Nat.lt_or_ge i (rest.length + 1) with hi | hi
    · rw [combM_at (by simpa using hi), hl]
      cases i with
      | zero => rfl
      | succ i =>
        have hi' : i < rest.length := by omega
        simp only [Nat.add_eq_zero_iff, Nat.succ_ne_zero, and_false, decide_false, List.getElem?_cons_succ, Bool.false_eq_true, if_false, List.getElem?_eq_getElem hi', Option.getD_some]
        congr 1
        cases ho : rest[i] with
        | none => rfl
        | some o =>
          simp only [Option.map_some]
          rw [hr o (by rw [← ho]; exact List.getElem_mem hi')]
    · rw [List.getElem?_eq_none (by unfold combM; simpa using hi), List.getElem?_eq_none (by simpa using hi)]
  rw [e] at this
  exact this
theorem mspec_first {f : FuncId} {ars : List AV} {ob ob' : Ob} {x : AV} (h : MSpec Try.prog f ars [some ob] (fun r N => r = x ∧ N = [some ob'])) (rest : Mem)
    (hfa : AV.freeL (Zr 1 rest.length) ars = true) (hfm : AV.freeL (Zr 1 rest.length) ob.xs = true) (hr : freeM [0] rest = true) :
    FSpec Try.prog f ars [some ob] (some ob :: rest) x (some ob' :: rest) := by
  have hl : ∀ (y : Ob) i, liveI [some y] i = decide (i = 0) := fun y i => by
    cases i with
    | zero => rfl
    | succ i => simp [liveI]
  refine mspec_first2 h rest hfa hfm fun o ho => ?_
  have hf : AV.freeL [0] o.xs = true := by
    simp only [freeM, List.all_eq_true] at hr
    exact hr (some o) ho
  refine subL_free _ _ [0] (fun j hj => ?_) (fun j k l off hj => ?_) _ hf
  · unfold keepF
    rw [hl, if_neg (by simpa using hj)]
  · unfold keepG
    rw [hl, if_neg (by simpa using hj)]

theorem s88f (l : List G4) (nx : Int) (i : Nat) (hi : i < l.length) (hl : l.length ≤ 10000) (hn : lim (nx + 1)) (rest : Mem) (hr : freeM [0] rest = true) :
    FSpec Try.prog 88 [.q 0 2 0 0, I i] [some (rdO l nx)] (some (rdO l nx) :: rest) (gA l[i]) (some (rdO (wo l i) (nx + 1)) :: rest) :=
  mspec_first (s88 l nx i hi hl hn) rest (by simp [AV.freeL, AV.free, Zr]) (by simp [rdO, AV.freeL, AV.free, freeL_pure, gtsA_pure]) hr

/-! make, at gates. -/
def zG : G4 := ⟨0, 0, 0, 0⟩
def AMk (σ : St) (l : Operand) [K : HK (Nat → Prop)] : Prop := ∃ n : Nat, σ.ev l = I n ∧ n ≤ 1000000 ∧ K.k n
theorem amk {σ : St} {l : Operand} {K : HK (Nat → Prop)} (n : Nat) (h : σ.ev l = I n) (hn : n ≤ 1000000) (hK : K.k n) : AMk σ l (K := K) := ⟨n, h, hn, hK⟩

theorem mk_sound {C : Ctx} {σ : St} {a : Act} {w : World} {Q : Exit → Act → World → Prop} {ops : Array Oper} {i : Nat} {o : Oper} {l : Operand} (n : Nat) (ho : ops[i]? = some o) (hg : o.guard = none) (hop : o.op = .makeSlice 22 l l)
    (hl : σ.ev l = I n) (hn : n ≤ 1000000) (hS : StR C σ a w) : wpOp Try.prog ops Q i (fun a' w' => StR C (σ.step o.dst (.o σ.M.length) [] (σ.M ++ [some ⟨none, 24, 4, gtsA (List.replicate n zG)⟩])) a' w') a w := by
  obtain ⟨hv, hd, hsz, hsl, hM, hF⟩ := hS
  unfold wpOp
  simp only [ho]
  rw [if_pos (wanted_none hg _)]
  left
  have hu : Try.prog.underlying 22 = some (.slice 24) := by kernel_rfl
  obtain ⟨i0, d, z, hi, _, hz, hz1, hz2, _, hs, hby, hzero, _⟩ := tiOf_spec (ti24 : tiOf Try.prog 24 = some _)
  have hlv := ev_ok hsl l
  rw [hl] at hlv
  simp only [RV] at hlv
  have hs4 : i0.size = 4 := hs.symm
  have hb32 : i0.bytes = 32 := hby.symm
  have hrun := run_makeSlice (P := Try.prog) w 22 24 i0 z hu hi hz .i64 .i64 (n : Int) (n : Int) (by omega) (Int.le_refl _) (by rw [hs4]; omega) (by rw [hb32]; omega) (by omega)
  have hzc : z.cells.toList = [.int .i64 0, .int .i64 0, .int .i64 0, .int .i64 0] := hzero.symm
  have hmc : (madeCells z.cells ((n : Int).toNat * i0.size)).toList = enc4 (List.replicate n zG) := by
    have hz4 : z.cells = #[.int .i64 0, .int .i64 0, .int .i64 0, .int .i64 0] := by rw [← Array.toList_inj, hzc]
    rw [hs4, hz4, Int.toNat_natCast]
    apply List.ext_getElem
    · rw [enc4_len]; simp [madeCells]
    · intro m h1 h2
      have e0 : ∀ v ∈ enc4 (List.replicate n zG), v = .int .i64 0 := by
        intro v hv
        simp only [enc4, List.mem_flatMap] at hv
        obtain ⟨g, hg, hv⟩ := hv
        rw [List.eq_of_mem_replicate hg] at hv
        simp [zG] at hv
        exact hv
      rw [e0 _ (List.getElem_mem h2)]
      simp only [madeCells, Array.getElem_toList, Array.getElem_map, Array.getElem_range]
      have h4 : m % 4 < 4 := Nat.mod_lt _ (by decide)
      generalize m % 4 = r at h4
      have : r = 0 ∨ r = 1 ∨ r = 2 ∨ r = 3 := by omega
      rcases this with rfl | rfl | rfl | rfl <;> simp
  obtain ⟨m1, m2⟩ := mem_add hM (own_lit w (.cells (madeCells z.cells ((n : Int).toNat * i0.size)) 24)) (ob := ⟨none, 24, 4, gtsA (List.replicate n zG)⟩) (v := .slice (some ⟨w.heap.size, 0, none⟩) n n) (fun b hb => by simp [blk, Value.ownBlock] at hb; omega)
    (fun _ => ObR.of_row rfl ⟨enc4 (List.replicate n zG), by
      rw [← hmc, gtsA_len, List.length_replicate]
      exact row_new 24 4 n _ (by simp [madeCells, hs4]) (by simp only [maxLen]; omega), by intro x hx; obtain ⟨z, _, rfl⟩ := List.mem_map.1 hx; rfl, rl_enc4 _⟩)
  refine wp_value (v := .slice (some ⟨w.heap.size, 0, none⟩) n n) (w' := w.alloc (.cells (madeCells z.cells ((n : Int).toNat * i0.size)) 24)) ?_ ?_
  · simp only [execOp, hop, hlv, Sem.run_bind, hrun, Result.andThen_ok, Sem.run_pure, Int.toNat_natCast]
  · refine StR.next hd hsz hsl hF m1 ?_ m2
    simp only [RV, R]
    exact ⟨_, hvAdd_self _ _, rfl, rfl⟩

theorem swp_mk {σ : St} {own : List Nat} {id : Nat} {ops : Array Oper} {N : HN} {E : HE} {Rt : HR} {o : Oper} {l : Operand} (m : Nat) (ho : ops.toList[m]? = some o) (hg : o.guard = none) (hop : o.op = .makeSlice 22 l l)
    (h : @AOps Try.prog own ops.toList (ops.toList.take m) σ ⟨fun σ' => @AMk σ' l ⟨fun n => @AOps Try.prog own ops.toList (ops.toList.drop (m + 1)) (σ'.step o.dst (.o σ'.M.length) [] (σ'.M ++ [some ⟨none, 24, 4, gtsA (List.replicate n zG)⟩])) N⟩⟩) : @SWp Try.prog (.region id ops false) σ N E Rt := by
  intro C a w hS
  refine wp_region ?_
  obtain ⟨hlt, hoe⟩ := List.getElem?_eq_some_iff.1 ho
  have hops : ops.toList = ops.toList.take m ++ o :: ops.toList.drop (m + 1) := by rw [← hoe, ← List.drop_eq_getElem_cons hlt, List.take_append_drop]
  have hpl : (ops.toList.take m).length = m := by rw [List.length_take]; omega
  generalize ops.toList.take m = pre at *
  generalize ops.toList.drop (m + 1) = suf at *
  have hl : ops.size = (pre ++ o :: suf).length := by rw [← hops]; simp
  rw [List.range_eq_range', hl]
  refine aops_then (P := Try.prog) (own := own) _ pre 0 σ a w (by simpa using hops) h hS ?_
  rintro σ' a w ⟨n, hn1, hn2, hA⟩ hS
  have ho : ops[0 + pre.length]? = some o := by
    have : ops.toList[pre.length]? = some o := by rw [hops]; simp
    rw [Nat.zero_add]; simpa using this
  rw [List.length_cons, List.range'_succ, wpOps_cons]
  refine wpOp_mono (fun a' w' hS' => ?_) (mk_sound n ho hg hop hn1 hn2 hS)
  exact aops_sound (P := Try.prog) (own := own) (ops := ops) (fun σ a w hN hS => ⟨σ, hN, hS⟩) suf (0 + pre.length + 1) _ a' w' (by rw [hops, Nat.zero_add, ← List.drop_drop]; simp) hA hS'
end Go.Proofs.Ytkmbbbemmohmcaa

namespace Go.Proofs.Ytkmbbbemmohmcaa
open Aw Go.RowKit
set_option linter.unusedSimpArgs false

/-- the result so far. -/
def outL (n : Nat) (out : List G4) : List G4 := out ++ List.replicate (n - out.length) zG

theorem ok60 : okFn Try.prog 60 = true := by kernel_rfl
set_option maxHeartbeats 1000000 in
theorem s60 (c : List G4) (hl : c.length ≤ 10000) : ASpec Try.prog 60 [.s 4 (gtsA c)] (fun r Ms => r = .s 4 (gtsA (nmR G4.less G4.bound c)) ∧ Ms = []) := by
  refine aspec_of (own := [3, 4, 1002, 1006]) Try.func60 rfl ok60 ?_
  simp only [w_move, w_assign, w_alloc, w_store, w_build, w_aop, w_some, w_anone, w_nil, w_cons, awp, asQ, asN, obA, AGet_zero, storeA, fillA, putsA, mkA, Aw.newRow, St.ev, St.step, setS, killS, AV.kill, AV.killL, Mem.kill, AV.cells, AV.flat, AV.single, AV.cellular, ACond_true, ACond_false, List.getD_cons_succ, List.getD_cons_zero, List.set_cons_succ, List.set_cons_zero, List.getElem?_cons_zero, List.length_cons, List.length_nil, List.replicate_succ, List.replicate_zero, List.cons_append, List.nil_append, List.contains_nil, List.contains_cons, List.isEmpty_nil, Option.getD_some, Bool.false_eq_true, if_false, if_true, true_and, and_true, List.all_cons, List.all_nil, Bool.and_true, Bool.true_and, Nat.zero_add, Nat.add_zero, beq_self_eq_true, List.map_cons, List.map_nil, decide_true, nbeq, decide_false, Bool.or_false, Bool.or_true, Nat.reduceAdd, Nat.reduceEqDiff, Nat.reduceSub, Nat.reduceLeDiff, Int.reduceAdd, Int.reduceSub, ti81, Try.ntmps60]
  refine swp_mk (own := [3, 4]) 2 rfl rfl rfl ?_
  simp only [w_move, w_len, w_aop, w_some, w_asome, w_nil, w_cons, lenA, St.ev, St.step, setS, killS, AV.kill, AV.killL, Mem.kill, List.getD_cons_succ, List.getD_cons_zero, List.set_cons_succ, List.set_cons_zero, List.contains_nil, List.isEmpty_nil, Bool.false_eq_true, if_false, if_true, true_and, Bool.true_and, Option.isSome_some, gtsA_len, ti22, gtsA_len, List.take_succ_cons, List.take_zero]
  refine amk c.length rfl (by omega) ?_
  simp only [w_assign, w_aop, w_anone, w_nil, w_cons, awp, asN, St.ev, St.step, setS, killS, AV.kill, AV.killL, Mem.kill, List.getD_cons_succ, List.getD_cons_zero, List.set_cons_succ, List.set_cons_zero, List.length_cons, List.length_nil, List.cons_append, List.nil_append, List.contains_nil, List.contains_cons, List.isEmpty_nil, Option.getD_some, Bool.false_eq_true, if_false, if_true, Nat.zero_add, beq_self_eq_true, nbeq, decide_false, Bool.or_false, Bool.or_true, Nat.reduceAdd, Nat.reduceEqDiff, Int.reduceAdd, List.drop_succ_cons, List.drop_zero]
  refine swp_loop' (fun j : List G4 × List G4 => ⟨[.s 4 (gtsA c), .bot, .bot, .q 0 2 0 0, .o 1, .bot, .bot, .bot, .bot, .bot, .bot, .bot, .bot, .bot, .bot, .bot, .bot, .bot, .bot, .bot, .bot, .bot, .bot, .bot, .bot, .bot, .bot, .bot, .bot, .bot], [some (rdO j.1 j.2.length), some ⟨none, 24, 4, gtsA (outL c.length j.2)⟩]⟩) (fun j => j.1.length + j.2.length = c.length ∧ nmR G4.less G4.bound c = j.2 ++ nmR G4.less G4.bound j.1) (fun j => j.1.length) (c, []) (le_sl (by simp [leSl])) ⟨by simp, by simp⟩ ?_
  rintro ⟨d, out⟩ ⟨hd, hn⟩
  simp only at hd hn
  refine awp_sound (own := [3, 4, 1006]) _ _ _ _ _ ?_
  have hol : (outL c.length out).length = c.length := by unfold outL; simp; omega
  simp only [w_move, w_load, w_fieldAddr, w_binOp, w_len, w_aop, w_some, w_asome, w_anone, w_nil, w_cons, awp, binC, cmpC, asP, asQ, asB, asI, obA, AGet_zero, lenA, loadA, St.ev, St.step, setS, killS, AV.kill, AV.killL, Mem.kill, AV.cells, AV.flat, AV.single, ACond_false, List.getD_cons_succ, List.getD_cons_zero, List.set_cons_succ, List.set_cons_zero, List.getElem?_cons_succ, List.getElem?_cons_zero, List.length_cons, List.length_nil, List.contains_nil, List.contains_cons, List.isEmpty_nil, Bool.false_eq_true, if_false, if_true, true_and, and_true, List.all_cons, List.all_nil, Bool.and_true, Bool.true_and, Bool.not_true, Option.isSome_some, Nat.zero_add, decide_true, nbeq, decide_false, Bool.or_false, Bool.and_false, Nat.reduceAdd, Nat.reduceEqDiff, Nat.reduceLeDiff, Int.reduceAdd, ne_eq, not_false_eq_true, gtsA_len, ti3, ti22, ti81, rdO, gtsA_len, hol]
  by_cases h : out.length < c.length
  · have h' : (out.length : Int) < (c.length : Int) := by omega
    have hdl : 0 < d.length := by omega
    simp only [w_assign, w_load, w_fieldAddr, w_callF, w_aop, w_some, w_anone, w_nil, w_cons, awp, asP, asQ, asN, obA, AGet_zero, loadA, St.ev, St.step, setS, killS, AV.kill, AV.killL, Mem.kill, AV.cells, AV.flat, AV.single, ACond_true, ACond_false, List.getD_cons_succ, List.getD_cons_zero, List.set_cons_succ, List.set_cons_zero, List.getElem?_cons_succ, List.getElem?_cons_zero, List.length_cons, List.length_nil, List.contains_nil, List.contains_cons, List.isEmpty_nil, Option.getD_some, Bool.false_eq_true, if_false, if_true, true_and, and_true, List.all_cons, List.all_nil, Bool.and_true, Bool.true_and, Bool.not_true, Nat.zero_add, Nat.add_zero, beq_self_eq_true, List.map_cons, List.map_nil, decide_true, nbeq, decide_false, Bool.or_false, Bool.and_false, Nat.reduceAdd, Nat.reduceEqDiff, Nat.reduceLeDiff, Int.reduceAdd, ne_eq, not_false_eq_true, ti3, ti60, ti81, decide_eq_true h']
    refine acall_v (s58 d (by omega)) rfl rfl ?_
    simp only [w_makeFunc, w_callF, w_aop, w_cons, St.ev, St.step, setS, killS, AV.kill, AV.killL, Mem.kill, AV.single, AV.cellular, Value.oneCell', List.getD_cons_succ, List.getD_cons_zero, List.set_cons_succ, List.set_cons_zero, List.contains_nil, List.isEmpty_nil, Bool.false_eq_true, if_false, if_true, and_true, List.all_cons, List.all_nil, Bool.and_true, List.map_cons, List.map_nil]
    refine ⟨rfl, acall_l2 (s91 d (fsN G4.bound d d.length) 92 [.p (.g [.s 4 (gtsA d), I out.length]) 0] (List.length_pos_iff.2 (fsN_ne hdl)) (by have := fsI_len G4.bound d d.length; rw [fsI_lenN] at this; omega) (fun x hx => fsN_lt hx) rfl (fun i k hi hk => s92 d out.length i k hi hk)) (by simp [frz2, AV.sub, AV.subL, gtsA_pure, frz, gA, fsI]) rfl rfl ?_⟩
    simp only [w_assign, w_aop, w_anone, w_nil, w_cons, awp, asN, St.ev, St.step, setS, killS, AV.kill, AV.killL, Mem.kill, ACond_true, List.getD_cons_succ, List.getD_cons_zero, List.set_cons_succ, List.set_cons_zero, List.contains_nil, List.contains_cons, List.isEmpty_nil, Option.getD_some, Bool.false_eq_true, if_false, if_true, beq_self_eq_true, nbeq, decide_false, Bool.or_false, Bool.or_true, Nat.reduceAdd, Nat.reduceEqDiff, Int.reduceAdd]
    have hb := bst_lt G4.less G4.bound d hdl
    have hst := nmR_step G4.less G4.bound d hdl
    rw [show bstL G4.less d (fsN G4.bound d d.length) = bst G4.less G4.bound d from rfl]
    generalize bst G4.less G4.bound d = b at hb hst
    refine swp_fm (own := [3, 4]) 3 rfl rfl rfl ?_
    simp only [w_move, w_aop, w_nil, w_cons, St.ev, St.step, setS, killS, AV.kill, AV.killL, Mem.kill, List.getD_cons_succ, List.getD_cons_zero, List.set_cons_succ, List.set_cons_zero, List.contains_nil, List.isEmpty_nil, Bool.false_eq_true, if_false, if_true, List.map_cons, List.map_nil, List.take_succ_cons, List.take_zero]
    refine acall_f (s88f d out.length b hb (by omega) (by unfold lim; omega) [some ⟨none, 24, 4, gtsA (outL c.length out)⟩] (by simp [freeM, freeL_pure, gtsA_pure])) ?_
    simp only [w_store, w_indexAddr, w_aop, w_some, w_asome, w_anone, w_cons, idxC, asQ, asO, asS, asI, obA, St.ev, St.step, setS, killS, AV.kill, AV.killL, Mem.kill, List.getD_cons_succ, List.getD_cons_zero, List.set_cons_succ, List.set_cons_zero, List.getElem?_cons_succ, List.getElem?_cons_zero, List.contains_nil, List.isEmpty_nil, Bool.false_eq_true, if_false, if_true, true_and, and_true, Bool.and_true, Bool.true_and, beq_self_eq_true, List.map_cons, List.map_nil, nbeq, decide_false, Bool.or_false, Bool.and_false, List.getElem?_nil, Nat.reduceAdd, Nat.reduceEqDiff, Int.reduceAdd, gtsA_len, ti22, ti24, rdO, gtsA_len, hol, keepF, keepG, liveI, AV.sub, AV.subL, AV.isO, AV.isQ, List.any_cons, List.any_nil, gA, Int.toNat_natCast, List.drop_succ_cons, List.drop_zero]
    have hat : out.length < (outL c.length out).length := by omega
    have hset : (outL c.length out).set out.length ⟨d[b].k, d[b].a, d[b].b, d[b].t⟩ = outL c.length (out ++ [d[b]]) := by
      unfold outL
      rw [List.set_append_right _ _ (Nat.le_refl _), Nat.sub_self, List.length_append, List.length_singleton]
      obtain ⟨m, hm⟩ : ∃ m, c.length - out.length = m + 1 := ⟨c.length - out.length - 1, by omega⟩
      rw [hm, List.replicate_succ, List.set_cons_zero, show c.length - (out.length + 1) = m by omega]
      simp
    have hwl := wo_len d hb
    simp only [w_some, w_nil, storeA, putsA, St.ev, St.step, setS, killS, AV.kill, AV.killL, Mem.kill, AV.cells, AV.flat, AV.single, AV.cellular, List.getD_cons_succ, List.getD_cons_zero, List.set_cons_succ, List.set_cons_zero, List.length_cons, List.length_nil, List.contains_nil, List.isEmpty_nil, Bool.false_eq_true, if_false, if_true, and_true, List.all_cons, List.all_nil, Bool.and_true, Nat.zero_add, beq_self_eq_true, decide_true, Nat.reduceAdd, Nat.reduceLeDiff, Int.reduceAdd, aget_gts hat, gtsA_set, hset]
    rw [show ((out.length : Int) + 1) = (((out ++ [d[b]]).length : Nat) : Int) from by simp]
    refine ⟨by omega, (wo d b, out ++ [d[b]]), le_sl (by simp [leSl]), ⟨by simp; omega, ?_⟩, by simp only; omega⟩
    rw [hn, hst]
    simp [hb]
  · have h' : ¬ (out.length : Int) < (c.length : Int) := by omega
    simp only [w_move, w_assign, w_aop, w_anone, w_nil, w_cons, awp, asN, St.ev, St.step, setS, killS, AV.kill, AV.killL, Mem.kill, ACond_false, List.getD_cons_succ, List.getD_cons_zero, List.set_cons_succ, List.set_cons_zero, List.contains_nil, List.contains_cons, List.isEmpty_nil, Option.getD_some, Bool.false_eq_true, if_false, if_true, nbeq, decide_false, Bool.or_false, Nat.reduceAdd, Nat.reduceEqDiff, Int.reduceAdd, decide_eq_false h']
    have hdn : d = [] := List.eq_nil_of_length_eq_zero (by omega)
    subst hdn
    have hoe : outL c.length out = out := by unfold outL; rw [show c.length - out.length = 0 by omega]; simp
    exact aend_frz rfl ⟨by simp [frz, AV.sub, gtsA_pure, hn, nmR_nil, hoe], rfl⟩
end Go.Proofs.Ytkmbbbemmohmcaa

namespace Go.Proofs.Ytkmbbbemmohmcaa
open Aw Go.RowKit
set_option linter.unusedSimpArgs false

theorem ok63 : okFn Try.prog 63 = true := by kernel_rfl
set_option maxHeartbeats 1000000 in
theorem s63 (c : List G4) (hl : c.length ≤ 10000) (ho : Ok c) : ASpec Try.prog 63 [.s 4 (gtsA c)] (fun r Ms => r = .s 4 (gtsA (red c)) ∧ Ms = []) := by
  refine aspec_of (own := [0, 1004, 1006, 1008]) Try.func63 rfl ok63 ?_
  simp only [w_move, w_assign, w_callF, w_aop, w_anone, w_nil, w_cons, awp, asN, St.ev, St.step, setS, killS, AV.kill, AV.killL, Mem.kill, ACond_false, List.getD_cons_succ, List.getD_cons_zero, List.set_cons_succ, List.set_cons_zero, List.length_cons, List.length_nil, List.replicate_succ, List.replicate_zero, List.cons_append, List.nil_append, List.contains_nil, List.contains_cons, List.isEmpty_nil, Option.getD_some, Bool.false_eq_true, if_false, if_true, Nat.zero_add, Nat.add_zero, List.map_cons, List.map_nil, nbeq, decide_false, Bool.or_false, Nat.reduceAdd, Nat.reduceEqDiff, Nat.reduceSub, Int.reduceAdd, Int.reduceSub, Try.ntmps63]
  refine acall_o (s82 c (by omega)) (by simp [AV.pureL, AV.pure, gtsA_pure]) (by simp [AV.pureL, AV.pure, gtsA_pure]) ?_
  simp only [w_assign, w_aop, w_anone, w_nil, w_cons, awp, asN, St.ev, St.step, setS, killS, AV.kill, AV.killL, Mem.kill, List.getD_cons_succ, List.getD_cons_zero, List.set_cons_succ, List.set_cons_zero, List.length_nil, List.nil_append, List.contains_nil, List.contains_cons, List.isEmpty_nil, Option.getD_some, Bool.false_eq_true, if_false, if_true, Nat.add_zero, beq_self_eq_true, nbeq, decide_false, Bool.or_false, Nat.reduceEqDiff, AV.up, AV.sub]
  refine swp_loop' (fun d : List G4 => ⟨[.o 0, .bot, .bot, .bot, .bot, .bot, .bot, .bot, .bot, .bot, .bot, .bot, .bot, .bot, .bot, .bot, .bot, .bot, .bot, .bot, .bot, .bot, .bot, .bot, .bot, .bot, .bot, .bot, .bot, .bot, .bot, .bot, .bot, .bot, .bot, .bot, .bot, .bot, .bot, .bot, .bot, .bot, .bot, .bot, .bot, .bot, .bot, .bot, .bot, .bot], [some ⟨none, 24, 4, gtsA d⟩]⟩) (fun d => Ok d ∧ d.length ≤ c.length ∧ red c = red d) (fun d => d.length) c (le_sl (by simp [leSl])) ⟨ho, Nat.le_refl _, rfl⟩ ?_
  rintro d ⟨hd, hdl, hr⟩
  refine awp_sound (own := [0, 1004, 1006, 1008]) _ _ _ _ _ ?_
  simp only [w_move, w_callF, w_aop, w_cons, awp, St.ev, St.step, setS, killS, AV.kill, AV.killL, Mem.kill, ACond_false, List.getD_cons_succ, List.getD_cons_zero, List.set_cons_succ, List.set_cons_zero, List.contains_nil, List.contains_cons, List.isEmpty_nil, Bool.false_eq_true, if_false, if_true, List.map_cons, List.map_nil, nbeq, decide_false, Bool.or_false, Nat.reduceAdd, Nat.reduceEqDiff, Int.reduceAdd]
  refine acall_l (s66 d (by omega)) (by simp [frz, AV.sub, gtsA_pure]) (by cases pm d <;> rfl) (by cases pm d <;> rfl) ?_
  rw [pm_mt hd]
  cases hm : mt d with
  | none =>
    simp only [w_move, w_assign, w_not, w_extract, w_aop, w_some, w_anone, w_nil, w_cons, awp, asT, asB, asN, St.ev, St.step, setS, killS, AV.kill, AV.killL, Mem.kill, ACond_true, ACond_false, List.getD_cons_succ, List.getD_cons_zero, List.set_cons_succ, List.set_cons_zero, List.getElem?_cons_succ, List.getElem?_cons_zero, List.contains_nil, List.contains_cons, List.isEmpty_nil, Option.getD_some, Bool.false_eq_true, if_false, if_true, Bool.not_false, beq_self_eq_true, nbeq, decide_false, Bool.or_false, Bool.or_true, Nat.reduceAdd, Nat.reduceEqDiff, Int.reduceAdd, mtA]
    refine swp_le (le_frz 0 rfl (gtsA_pure d)) (swp_text (own := [0, 1006, 1008]) ?_)
    simp only [w_move, w_callF, w_aop, w_cons, St.ev, St.step, setS, killS, AV.kill, AV.killL, Mem.kill, List.getD_cons_succ, List.getD_cons_zero, List.set_cons_succ, List.set_cons_zero, List.isEmpty_nil, if_true, List.map_cons, List.map_nil, Option.map_none, frz1, frzM, AV.sub, AV.subL]
    refine acall_v (s60 d (by omega)) rfl rfl ?_
    simp only [w_assign, w_aop, w_anone, w_nil, w_cons, awp, asN, St.ev, St.step, setS, killS, AV.kill, AV.killL, Mem.kill, List.getD_cons_succ, List.getD_cons_zero, List.set_cons_succ, List.set_cons_zero, List.contains_nil, List.contains_cons, List.isEmpty_nil, Option.getD_some, Bool.false_eq_true, if_false, if_true, nbeq, decide_false, Bool.or_false, Nat.reduceEqDiff]
    refine aend_frz rfl ⟨?_, rfl⟩
    rw [hr, red_none hm, nm_bound hd]
    rfl
  | some p =>
    obtain ⟨i, k⟩ := p
    have hik := mt_lt hd hm
    have hrs := red_step hd hm
    have hlt := rstep_len hd hm
    have hok := rstep_ok hd hm
    have hi : i < d.length := by omega
    have hk : k < d.length := hik.2
    have hit := hd d[i] (List.getElem_mem hi)
    have hkt := hd d[k] (List.getElem_mem hk)
    unfold okT at hit hkt
    simp only [w_move, w_assign, w_not, w_extract, w_aop, w_some, w_anone, w_nil, w_cons, awp, asT, asB, asN, St.ev, St.step, setS, killS, AV.kill, AV.killL, Mem.kill, ACond_false, List.getD_cons_succ, List.getD_cons_zero, List.set_cons_succ, List.set_cons_zero, List.getElem?_cons_succ, List.getElem?_cons_zero, List.contains_nil, List.contains_cons, List.isEmpty_nil, Option.getD_some, Bool.false_eq_true, if_false, if_true, Bool.not_true, nbeq, decide_false, Bool.or_false, Nat.reduceAdd, Nat.reduceEqDiff, Int.reduceAdd, mtA]
    refine swp_draw (own := [0]) (.take 0 .plain [] (.take 1 .plain [] (.take 2 .plain [] (.take 3 .plain [] (.take 4 .reads [] (.take 5 .plain [] (.take 6 .reads [] (.take 7 .plain [] (.take 8 .plain [] (.take 9 .reads [] (.take 10 .plain [] (.take 11 .reads [] (.take 12 .plain [] (.take 13 .plain [] (.take 14 .reads [] (.take 15 .plain [] (.alt 16 (.done) (.nil)))))))))))))))))) [⟨19, 1, 0, 0, true⟩, ⟨20, 8, 0, 0, true⟩, ⟨21, 1, 0, 0, true⟩, ⟨22, 8, 0, 0, true⟩, ⟨23, 3145728, 12, 0, true⟩, ⟨24, 4194304, 16, 0, true⟩, ⟨25, 8388608, 32, 0, true⟩, ⟨26, 1, 0, 0, true⟩, ⟨27, 16, 0, 0, true⟩, ⟨28, 100663296, 384, 0, true⟩, ⟨29, 134217728, 512, 0, true⟩, ⟨30, 268435456, 1024, 0, true⟩, ⟨31, 553648128, 2112, 0, true⟩, ⟨32, 1073741824, 4096, 0, true⟩, ⟨33, 786432, 16383, 0, true⟩, ⟨34, 4294967296, 32767, 0, true⟩, ⟨0, 10737418240, 49151, 1, false⟩] mo (by kernel_rfl) ?_
    simp only [w_move, w_load, w_store, w_fieldAddr, w_indexAddr, w_binOp, w_aop, w_take, w_some, w_asome, w_anone, awp, binC, idxC, arithC, cmpC, asP, asQ, asO, asS, asI, obA, loadA, storeA, putsA, St.ev, St.step, setS, killS, AV.kill, AV.killL, Mem.kill, AV.cells, AV.flat, AV.single, AV.cellular, ACond_true, Value.oneCell', List.getD_cons_succ, List.getD_cons_zero, List.set_cons_succ, List.set_cons_zero, List.getElem?_cons_succ, List.getElem?_cons_zero, List.length_cons, List.length_nil, List.contains_nil, List.contains_cons, List.isEmpty_nil, Bool.false_eq_true, if_false, if_true, true_and, and_true, List.all_cons, List.all_nil, Bool.and_true, Bool.true_and, Bool.not_true, Nat.zero_add, beq_self_eq_true, decide_true, nbeq, decide_false, Bool.or_false, Bool.or_true, Bool.and_false, Nat.reduceAdd, Nat.reduceEqDiff, Nat.reduceLeDiff, Int.reduceAdd, Int.reduceEq, ASch, St.put, Md.mem, Md.need, ne_eq, not_false_eq_true, gtsA_len, ti3, ti22, ti24, gtsA_len, aget_gts hi, aget_gts hk, Int.toNat_natCast]
    have ht : (d[i].t + d[k].t).tmod 16 = (d[i].t + d[k].t) % 16 := Int.tmod_eq_emod_of_nonneg (by omega)
    have hrE : rstep d i k = if (d[i].t + d[k].t) % 16 = 0 then wo (wo (d.set i ⟨d[i].k, d[i].a, d[i].b, (d[i].t + d[k].t) % 16⟩) k) i else wo (d.set i ⟨d[i].k, d[i].a, d[i].b, (d[i].t + d[k].t) % 16⟩) k := by
      unfold rstep
      rw [getD_at hi, getD_at hk]
    rw [ht, gtsA_set]
    obtain ⟨e, he⟩ : ∃ e, e = d.set i ⟨d[i].k, d[i].a, d[i].b, (d[i].t + d[k].t) % 16⟩ := ⟨_, rfl⟩
    have hel : e.length = d.length := by rw [he]; simp
    rw [← he] at hrE ⊢
    have hek : k < e.length := by omega
    have hwl := wo_len e hek
    refine ⟨by omega, by omega, by unfold lim; omega, by omega, swp_zm (own := [0]) 4 rfl rfl rfl ?_⟩
    simp only [w_move, w_binOp, w_aop, w_some, w_asome, w_anone, w_nil, w_cons, binC, arithC, cmpC, asI, St.ev, St.step, setS, killS, AV.kill, AV.killL, Mem.kill, List.getD_cons_succ, List.getD_cons_zero, List.set_cons_succ, List.set_cons_zero, List.contains_nil, List.isEmpty_nil, Bool.false_eq_true, if_false, if_true, true_and, and_true, Bool.and_true, Bool.true_and, List.map_cons, List.map_nil, List.take_succ_cons, List.take_zero]
    refine ⟨by unfold lim; omega, acall_z (z93 e k hek _ 0 rfl) ?_⟩
    have hi2 : i < (wo e k).length := by omega
    have hit2 : ((wo e k)[i]).t = (d[i].t + d[k].t) % 16 := by
      have h1 : (wo e k)[i]? = e[i]? := by
        rw [wo_er, List.getElem?_eraseIdx, if_pos hik.1]
      rw [List.getElem?_eq_getElem hi2, List.getElem?_eq_getElem (by omega)] at h1
      injection h1 with h1
      rw [h1]
      simp [he]
    simp only [w_move, w_assign, w_load, w_fieldAddr, w_indexAddr, w_binOp, w_aop, w_some, w_asome, w_anone, w_nil, w_cons, awp, binC, idxC, cmpC, asP, asQ, asO, asS, asB, asI, asN, obA, loadA, St.ev, St.step, setS, killS, AV.kill, AV.killL, Mem.kill, AV.cells, AV.flat, AV.single, ACond_false, List.getD_cons_succ, List.getD_cons_zero, List.set_cons_succ, List.set_cons_zero, List.getElem?_cons_succ, List.getElem?_cons_zero, List.length_cons, List.length_nil, List.contains_nil, List.contains_cons, List.isEmpty_nil, List.isEmpty_cons, Option.getD_some, Bool.false_eq_true, if_false, if_true, true_and, and_true, List.all_cons, List.all_nil, Bool.and_true, Bool.true_and, Bool.not_true, Nat.zero_add, beq_self_eq_true, List.map_cons, List.map_nil, decide_true, nbeq, decide_false, Bool.or_false, Bool.and_false, Nat.reduceAdd, Nat.reduceEqDiff, Nat.reduceLeDiff, Int.reduceAdd, ne_eq, not_false_eq_true, Option.map_some, gtsA_len, ti3, ti22, ti24, gtsA_len, aget_gts hi2, Int.toNat_natCast, List.take_succ_cons, List.take_zero, List.drop_succ_cons, List.drop_zero, hit2]
    refine ⟨by omega, ?_⟩
    by_cases hz : (d[i].t + d[k].t) % 16 = 0
    · simp only [awp, ACond_true, List.contains_nil, List.contains_cons, beq_self_eq_true, nbeq, decide_false, Bool.or_false, Bool.or_true, Nat.reduceAdd, Nat.reduceEqDiff, Int.reduceAdd, decide_eq_true hz]
      refine swp_zm (own := [0]) 4 rfl rfl rfl ?_
      simp only [w_move, w_binOp, w_aop, w_some, w_asome, w_anone, w_nil, w_cons, binC, arithC, cmpC, asI, St.ev, St.step, setS, killS, AV.kill, AV.killL, Mem.kill, List.getD_cons_succ, List.getD_cons_zero, List.set_cons_succ, List.set_cons_zero, List.contains_nil, List.isEmpty_nil, Bool.false_eq_true, if_false, if_true, true_and, and_true, Bool.and_true, Bool.true_and, List.map_cons, List.map_nil, List.take_succ_cons, List.take_zero]
      refine ⟨by unfold lim; omega, acall_z (z93 (wo e k) i hi2 _ 0 rfl) ?_⟩
      simp only [w_assign, w_aop, w_anone, w_nil, w_cons, asN, St.ev, St.step, setS, killS, AV.kill, AV.killL, Mem.kill, List.getD_cons_succ, List.getD_cons_zero, List.set_cons_succ, List.set_cons_zero, List.contains_nil, List.contains_cons, List.isEmpty_nil, List.isEmpty_cons, Option.getD_some, Bool.false_eq_true, if_false, if_true, beq_self_eq_true, List.map_cons, List.map_nil, Bool.or_false, Nat.reduceAdd, Int.reduceAdd, Option.map_some, List.drop_succ_cons, List.drop_zero]
      rw [if_pos hz] at hrE
      rw [← hrE]
      exact ⟨rstep d i k, le_sl (by simp [leSl]), ⟨hok, by omega, by rw [hr, hrs]⟩, hlt⟩
    · simp only [awp, ACond_false, decide_eq_false hz]
      rw [if_neg hz] at hrE
      rw [← hrE]
      exact ⟨rstep d i k, le_sl (by simp [leSl]), ⟨hok, by omega, by rw [hr, hrs]⟩, hlt⟩
end Go.Proofs.Ytkmbbbemmohmcaa
