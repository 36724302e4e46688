/-
  The calculus: 'core' is sound: stores, indexes, slices, tests.
-/
import Derived.Test.YtkolpijhgcijbaaAw5
namespace Go.Proofs.Ytkolpijhgcijbaa
namespace Aw
open Go.RowKit

section
variable {A : Nat → Prop} {P : Program} {w : World} {hv : Nat → Option Value} {M : Mem}

theorem obR_row {T : Nat → Prop} {ob : Ob} {v : Value} (h0 : ObR w T hv ob v) (hm : ob.mp = none) (hne : ob.xs ≠ []) : ∃ g cap cur us, v = .slice (some ⟨g, 0, none⟩) ob.xs.length cap ∧ w.heap[g]? = some (.cells cur ob.ty (0, 0)) ∧ ob.xs.length ≤ cap ∧ cap ≤ maxLen ∧
    cur.size = cap * ob.k ∧ cur.toList.take (ob.xs.length * ob.k) = us ∧ (∀ x ∈ ob.xs, x.size = ob.k) ∧ RL w T hv ob.xs us ∧ us.length = ob.xs.length * ob.k := by
  obtain ⟨us, hr, hs, hl⟩ := h0.row hm
  rcases hr.2 with ⟨_, h0⟩ | ⟨g, cap, cur, rfl, _, h1, h2, h3, h4, h5⟩
  · exact absurd (List.eq_nil_of_length_eq_zero h0) hne
  · exact ⟨g, cap, cur, us, rfl, h1, h2, h3, h4, h5, hs, hl, RL_len ob.xs us hs hl⟩

/-- the cells of an element of an object, as they lie. -/
theorem ob_cells {T : Nat → Prop} {ob : Ob} {v : Value} (h : ObR w T hv ob v) (hm : ob.mp = none) {j : Nat} (hj : j < ob.xs.length) : ∃ g cap ws, v = .slice (some ⟨g, 0, none⟩) ob.xs.length cap ∧ R w T hv (ob.xs.getD j .bot) ws ∧
    ∀ i u, ws[i]? = some u → w.cell? ⟨g, j * ob.k + i, none⟩ = some u := by
  obtain ⟨g, cap, cur, us, rfl, h1, h2, h3, h4, h5, h6, h7, h8⟩ := obR_row h hm (by intro e; rw [e] at hj; simp at hj)
  obtain ⟨u1, u2, u3, e, e1, e2, e3, _⟩ := RL_at h6 h7 (List.getElem?_eq_getElem hj)
  refine ⟨g, cap, u2, rfl, by rw [List.getD_eq_getElem?_getD, List.getElem?_eq_getElem hj]; exact e2, fun i u hu => ?_⟩
  rw [cell_of_row w g _ cur ob.ty (0, 0) h1]
  have hi : i < u2.length := (List.getElem?_eq_some_iff.1 hu).1
  have : us[j * ob.k + i]? = some u := by
    rw [e, List.append_assoc, List.getElem?_append_right (by omega), List.getElem?_append_left (by omega), e1]
    simpa using hu
  rw [← h5, List.getElem?_take] at this
  split at this
  · simpa using this
  · cases this

theorem storeA_ok {T : Nat → Prop} {ti : TI} {x y r : AV} {off : Nat} {us : List Value} {v : Value} (hx : R w T hv x us) (hy : RV w T hv y v) (h : storeA ti x off y = some r) :
    off + ti.size ≤ us.length ∧ v.cells.size = ti.size ∧ (∀ u ∈ v.cells.toList, u.oneCell' = true) ∧ R w T hv r (us.take off ++ v.cells.toList ++ us.drop (off + ti.size)) ∧ r.size = x.size := by
  unfold storeA at h
  split at h
  · rename_i hc
    simp only [Bool.and_eq_true, beq_iff_eq, decide_eq_true_eq] at hc
    obtain ⟨⟨⟨⟨h1, h2⟩, h3⟩, h5⟩, h6⟩ := hc
    have hyc := RV_R h3 hy
    have hyl := (R_cells h2).1 hyc
    have hxl := (R_cells h1).1 hx
    have l1 := RL_len _ _ (flat_size h2) hyl
    have l2 := RL_len _ _ (flat_size h1) hxl
    simp only [Nat.mul_one] at l1 l2
    have hp := putsA_RL y.cells x.cells off us v.cells.toList (flat_size h1) (flat_size h2) hxl hyl (by omega)
    have e : v.cells.toList.length = ti.size := by omega
    rw [e] at hp
    have hsz : v.cells.size = ti.size := by simpa using e
    have sizeL1 : ∀ l : List AV, (∀ z ∈ l, z.size = 1) → AV.sizeL l = l.length := by
      intro l
      induction l with
      | nil => intro _; rfl
      | cons z l ih => intro hz; simp [AV.sizeL, hz z List.mem_cons_self, ih fun q hq => hz q (List.mem_cons_of_mem _ hq)]; omega
    refine ⟨by omega, hsz, R_one _ _ _ hyc, ?_⟩
    have hpl := putsA_len y.cells x.cells off
    have hp0 := hp
    have hx0 := hx
    generalize hq : putsA x.cells off y.cells = q at hp hpl
    cases x with
    | g xs =>
      subst hq
      simp only [Option.some.injEq] at h
      subst h
      refine ⟨by simpa [R, AV.cells] using hp.1, ?_⟩
      have hp2 : ∀ x ∈ putsA xs off y.cells, x.size = 1 := hp.2
      have hx2 : ∀ x ∈ xs, x.size = 1 := flat_size h1
      simp only [AV.size]
      rw [sizeL1 _ hp2, putsA_len, sizeL1 _ hx2]
    | t xs => simp [AV.flat, AV.cells, AV.single] at h1
    | _ =>
      simp only at h
      rw [hq] at h
      match q, h, hp, hpl with
      | [z], h, hp, _ =>
        simp only [List.head?_cons, Option.some.injEq] at h
        subst h
        refine ⟨?_, by rw [hp.2 z (by simp)]; rfl⟩
        have := hp.1
        simp only [RL] at this
        obtain ⟨u1, u2, e, h7, rfl⟩ := this
        rw [List.append_nil] at e
        rw [e]; exact h7
  · cases h

theorem setOb_get (M : Mem) (id i : Nat) (o : Option Ob) (hid : id < M.length) : (M.set id o)[i]? = if i = id then some o else M[i]? := by
  rw [List.getElem?_set]
  by_cases h : i = id
  · subst h; simp [hid]
  · rw [if_neg (Ne.symm h), if_neg h]

/-- cells of an object are written over. -/
theorem cells_ok {id j off : Nat} {r : AV} {ob : Ob} {b n c : Nat} {cs : List Value} (hM : MemR A w hv M) (hid : M[id]? = some (some ob)) (hj : j < ob.xs.length) (hb : hv id = some (.slice (some ⟨b, 0, none⟩) n c))
    (hone : ∀ u ∈ cs, u.oneCell' = true)
    (hr : ∀ us, R w (OwnA A hv) hv (ob.xs.getD j .bot) us → off + cs.length ≤ us.length ∧ R w (OwnA A hv) hv r (us.take off ++ cs ++ us.drop (off + cs.length)) ∧ r.size = (ob.xs.getD j .bot).size) :
    ∃ w', (storeCells ⟨b, j * ob.k + off, none⟩ cs).run P w = .ok () w' ∧ MemR A w' hv (M.set id (some { ob with xs := ob.xs.set j r })) ∧ StepR A w hv [] w' hv := by
  obtain ⟨v0, hv0, hob⟩ := hM.live id ob hid
  rw [hb] at hv0
  injection hv0 with hv0
  subst hv0
  obtain ⟨g, cap, cur, us, e0, h1, h2, h3, h4, h5, h6, h7, h8⟩ := obR_row hob hob.slice (by intro e; rw [e] at hj; simp at hj)
  simp only [Value.slice.injEq, Option.some.injEq, Addr.mk.injEq, and_true] at e0
  obtain ⟨rfl, rfl, rfl⟩ := e0
  obtain ⟨u1, u2, u3, e, e1, e2, e3, _⟩ := RL_at h6 h7 (List.getElem?_eq_getElem hj)
  have hgd : ob.xs.getD j .bot = ob.xs[j] := by rw [List.getD_eq_getElem?_getD, List.getElem?_eq_getElem hj]; rfl
  rw [hgd] at hr
  obtain ⟨s1, s4, s5⟩ := hr u2 e2
  have hcl : us.length ≤ cur.size := by rw [h8, h4]; exact Nat.mul_le_mul_right _ h2
  have hul : us.length = u1.length + u2.length + u3.length := by rw [e]; simp; omega
  have hrun := run_storeCells_at P b (j * ob.k + off) ob.ty cs 0 cur w h1 (by simp; omega) hone
  simp only [Nat.add_zero] at hrun
  refine ⟨_, hrun, ?_⟩
  have hs : StepR A w hv [] (w.setRow b (cur.toList.take (j * ob.k + off) ++ cs ++ cur.toList.drop (j * ob.k + off + cs.length)).toArray) hv :=
    ⟨⟨by simp, fun b' _ hT => setRow_other _ _ _ _ (by rintro rfl; exact hT ⟨id, _, hb, rfl⟩), fun _ _ h => h⟩, fun _ _ _ h => h, rfl, rfl, rfl⟩
  refine ⟨⟨fun i ob' h => ?_, fun i u h => ?_, hM.inj, fun b h => by have := hM.old b h; simpa using this⟩, hs⟩
  · rw [setOb_get _ _ _ _ (List.getElem?_eq_some_iff.1 hid).1] at h
    by_cases hi : i = id
    · subst hi
      rw [if_pos rfl] at h
      simp only [Option.some.injEq] at h
      subst h
      have us' : (cur.toList.take (j * ob.k + off) ++ cs ++ cur.toList.drop (j * ob.k + off + cs.length)).take (ob.xs.length * ob.k) = us.take (j * ob.k) ++ (u2.take off ++ cs ++ u2.drop (off + cs.length)) ++ us.drop (j * ob.k + ob.k) := by
        have hu2 : u2.length = ob.k := e3
        apply List.ext_getElem?
        intro m
        have hcur : ∀ m, m < us.length → cur.toList[m]? = us[m]? := fun m hm => by rw [← h5, List.getElem?_take, if_pos (by omega)]
        have husm : ∀ m, m < ob.k → us[j * ob.k + m]? = u2[m]? := fun m hm => by
          rw [e, List.append_assoc, List.getElem?_append_right (by omega), List.getElem?_append_left (by omega), e1]; congr 1; omega
        have hsz : cur.toList.length = cur.size := by simp
        have hmul : j * ob.k + ob.k ≤ ob.xs.length * ob.k := by rw [← Nat.succ_mul]; exact Nat.mul_le_mul_right _ hj
        rw [List.getElem?_take]
        by_cases hm : m < ob.xs.length * ob.k
        · rw [if_pos hm]
          by_cases c1 : m < j * ob.k
          · rw [List.append_assoc, List.getElem?_append_left (by simp; omega), List.append_assoc, List.getElem?_append_left (by simp; omega), List.getElem?_take, List.getElem?_take, if_pos (by omega), if_pos c1, hcur m (by omega)]
          · obtain ⟨d, rfl⟩ : ∃ d, m = j * ob.k + d := ⟨m - j * ob.k, by omega⟩
            by_cases c2 : d < off
            · rw [List.append_assoc, List.getElem?_append_left (by simp; omega), List.append_assoc, List.getElem?_append_right (by simp; omega), List.append_assoc, List.append_assoc, List.getElem?_append_left (by simp; omega), List.getElem?_take, if_pos (by omega), hcur _ (by omega), husm d (by omega), List.getElem?_take]
              simp only [List.length_take]
              rw [show j * ob.k + d - min (j * ob.k) us.length = d by omega, if_pos c2]
            · by_cases c3 : d < off + cs.length
              · rw [List.append_assoc, List.getElem?_append_right (by simp; omega), List.getElem?_append_left (by simp; omega), List.append_assoc, List.getElem?_append_right (by simp; omega), List.append_assoc, List.append_assoc, List.getElem?_append_right (by simp; omega), List.getElem?_append_left (by simp; omega)]
                simp only [List.length_take]
                congr 1
                omega
              · by_cases c4 : d < ob.k
                · rw [List.getElem?_append_right (by simp; omega), List.getElem?_drop, List.append_assoc, List.getElem?_append_right (by simp; omega), List.getElem?_append_left (by simp; omega), List.getElem?_append_right (by simp; omega), List.getElem?_drop]
                  simp only [List.length_take, List.length_append]
                  rw [show j * ob.k + off + cs.length + (j * ob.k + d - (min (j * ob.k + off) cur.toList.length + cs.length)) = j * ob.k + d by omega, hcur _ (by omega), husm d c4]
                  congr 1
                  omega
                · rw [List.getElem?_append_right (by simp; omega), List.getElem?_drop, List.getElem?_append_right (by simp; omega), List.getElem?_drop]
                  simp only [List.length_take, List.length_append, List.length_drop]
                  rw [show j * ob.k + off + cs.length + (j * ob.k + d - (min (j * ob.k + off) cur.toList.length + cs.length)) = j * ob.k + d by omega, hcur _ (by omega)]
                  congr 1
                  omega
        · rw [if_neg hm, List.getElem?_eq_none]
          simp
          omega
      refine ⟨_, hb, ObR.of_row (ob := { ob with xs := ob.xs.set j r }) hob.slice ⟨us.take (j * ob.k) ++ (u2.take off ++ cs ++ u2.drop (off + cs.length)) ++ us.drop (j * ob.k + ob.k), ⟨?_, .inr ⟨b, c, _, ?_, Nat.zero_le _, setRow_heap w b cur _ ob.ty _ h1, ?_, h3, ?_, ?_⟩⟩, ?_, ?_⟩⟩
      · have hmul : j * ob.k + ob.k ≤ ob.xs.length * ob.k := by rw [← Nat.succ_mul]; exact Nat.mul_le_mul_right _ hj
        simp
        omega
      · simp
      · simpa using h2
      · simp
        omega
      · simp only [List.length_set]
        exact us'
      · intro x hx
        rcases List.mem_or_eq_of_mem_set hx with hx | rfl
        · exact h6 x hx
        · rw [s5]; exact h6 _ (List.getElem_mem hj)
      · have hset := RL_setAt h6 h7 hj s4
        have := RL_keep hs.keeps hs.hv _ _ hset
        rw [AV.killL_nil] at this
        exact this
    · rw [if_neg hi] at h
      obtain ⟨v1, h9, h10, h11⟩ := live_step hM hs (fun v' b' hi' hb' => setRow_other _ _ _ _ (by rintro rfl; exact hi (hM.inj i id _ _ _ hi' hb hb' rfl))) (by simp) h
      rw [Ob.kill_nil] at h11
      exact ⟨v1, h9, h11⟩
  · obtain ⟨o, ho⟩ := hM.dom i u h
    rw [setOb_get _ _ _ _ (List.getElem?_eq_some_iff.1 hid).1]
    by_cases hi : i = id
    · exact ⟨_, by rw [if_pos hi]⟩
    · exact ⟨o, by rw [if_neg hi]; exact ho⟩

theorem store_ok {t : TypeId} {ti : TI} {id k j off : Nat} {y r : AV} {ob : Ob} {ad v : Value} (ht : tiOf P t = some ti) (hM : MemR A w hv M) (hid : M[id]? = some (some ob)) (hk : ob.k = k) (hj : j < ob.xs.length)
    (ha : RV w (OwnA A hv) hv (.q id k j off) ad) (hy : RV w (OwnA A hv) hv y v) (hst : storeA ti (ob.xs.getD j .bot) off y = some r) :
    ∃ w', (Instr.storeAt t ad v).run P w = .ok () w' ∧ MemR A w' hv (M.set id (some { ob with xs := ob.xs.set j r })) ∧ StepR A w hv [] w' hv := by
  simp only [RV, R] at ha
  obtain ⟨b, n, c, hb, he⟩ := ha
  injection he with he
  subst he
  subst hk
  have hall : ∀ us, R w (OwnA A hv) hv (ob.xs.getD j .bot) us → off + ti.size ≤ us.length ∧ v.cells.size = ti.size ∧ (∀ u ∈ v.cells.toList, u.oneCell' = true) ∧ R w (OwnA A hv) hv r (us.take off ++ v.cells.toList ++ us.drop (off + ti.size)) ∧ r.size = (ob.xs.getD j .bot).size :=
    fun us hus => storeA_ok hus hy hst
  obtain ⟨v0, hv0, hob⟩ := hM.live id ob hid
  rw [hb] at hv0
  injection hv0 with hv0
  subst hv0
  obtain ⟨g, cap, ws, e2, e3, _⟩ := ob_cells hob hob.slice hj
  obtain ⟨_, s2, s3, _⟩ := hall ws e3
  have hl : v.cells.toList.length = ti.size := by simpa using s2
  obtain ⟨w', h1, h2, h3⟩ := cells_ok (P := P) (off := off) (r := r) (cs := v.cells.toList) hM hid hj hb s3 (fun us hus => by
    obtain ⟨t1, _, _, t4, t5⟩ := hall us hus
    rw [hl]
    exact ⟨t1, t4, t5⟩)
  refine ⟨w', ?_, h2, h3⟩
  simp only [Instr.storeAt, Sem.run_bind, Instr.sureAddr, Sem.run_pure, Result.andThen_ok, storeVar, ti_size ht, s2, ne_eq, not_true_eq_false, if_false]
  exact h1

end

end Aw
end Go.Proofs.Ytkolpijhgcijbaa
