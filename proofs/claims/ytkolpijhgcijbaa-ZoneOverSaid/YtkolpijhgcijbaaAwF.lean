/-
  The calculus: 'core' is sound: the theorem.
-/
import Derived.Test.YtkolpijhgcijbaaAwT
import Derived.Laws.MakeOwn
namespace Go.Proofs.Ytkolpijhgcijbaa
namespace Aw
open Go.RowKit

set_option maxHeartbeats 1000000
section
variable {A : Nat → Prop} {P : Program} {w : World} {hv : Nat → Option Value} {M : Mem} {a : Act} {K : Kont} {Q : Exit → Act → World → Prop} {ρ : Operand → AV}

theorem core_sound {K : HK Kont} {own : List Nat} {o : Oper} (hρ : ∀ x, RV w (OwnA A hv) hv (ρ x) (a.eval x)) (hM : MemR A w hv M) (h : core P own o ρ M (K := K)) : o.wp P a w (After A o a w hv K.k) Q := by
  unfold core at h
  split at h
  · -- move
    rename_i x ho
    exact after_same (v := a.eval x) (by simp [execOp, ho]) hM (hρ x) h
  · -- assign
    rename_i x ho
    split at h
    · rename_i hx _
      split at h
      · rename_i ti hti
        split at h
        · rename_i e he
          split at h
          · rename_i te hte
            have hxv := hρ x
            rw [hx] at hxv
            simp only [RV] at hxv
            have hb : Below w.heap.size w w := Below.refl _ _
            obtain ⟨m1, m2⟩ := mem_add hM hb (ob := ⟨none, e, te.size, []⟩) (v := .slice none 0 0) (fun b hb => by simp [blk, Value.ownBlock] at hb) (fun hs => ObR.of_row rfl ⟨[], World.ownsRow_nil w 0 e te.size, by simp, by simp [RL]⟩)
            refine wp_value (v := .slice none 0 0) (w' := w) (by simp [execOp, ho, hxv]) ⟨_, [], _, _, _, h, rfl, m1, ?_, m2⟩
            simp only [RV, R]
            exact ⟨_, hvAdd_self _ _, rfl, rfl⟩
          · exact h.elim
        · exact h.elim
      · exact h.elim
    · exact after_same (v := a.eval x) (by simp [execOp, ho]) hM (hρ x) h
  · -- pick
    rename_i c x y ho
    split at h
    · rename_i b hb
      have hc := hρ c
      rw [hb] at hc
      simp only [RV] at hc
      cases b with
      | true => exact after_same (v := a.eval x) (by simp [execOp, ho, hc, asBool]) hM (hρ x) (h.1 rfl)
      | false => exact after_same (v := a.eval y) (by simp [execOp, ho, hc, asBool]) hM (hρ y) (h.2 rfl)
    · exact h.elim
  · -- box
    rename_i t x ho
    obtain ⟨h1, h2⟩ := h
    have hrun : (execOp a.eval o).run P w = .ok (.value (.pointer (some ⟨w.heap.size, 0, none⟩))) (w.alloc (.cells (a.eval x).cells t)) := by
      simp [execOp, ho, Instr.box, newVar, Go.newRow, newObj, Sem.run]
    split at h2
    · exact var_ok hM hrun (RV_R h1 (hρ x)) h2
    · exact box_ok hM hrun (RV_R h1 (hρ x)) h2.1 h2.2
  · -- alloc
    rename_i t ho
    split at h
    · rename_i ti hti
      obtain ⟨hc, hK⟩ := h
      obtain ⟨z, hz⟩ := zero_ok (w := w) (hv := hv) (T := OwnA A hv) hti
      rcases hz with ⟨hz1, hz2, hz3, hz4⟩ | ⟨hb1, hb2⟩
      · have hsz := R_size _ _ _ hz3
        have : (mkA ti.agg (ti.zero.map .v)).size = ti.size := by rw [← hsz]; simpa using hz4
        refine var_ok (v := z) (t := t) hM ?_ hz3 (by rw [this]; exact hK)
        simp [execOp, ho, Instr.alloc, hz1, newVar, Go.newRow, newObj, Sem.run]
      · simp [hb1, hb2] at hc
    · exact h.elim
  · -- load
    rename_i t x ho
    split at h
    · rename_i ti y off hti hx
      split at h
      · rename_i r hr
        have hxv := hρ x
        rw [hx] at hxv
        simp only [RV, R] at hxv
        obtain ⟨b, q, ws, e1, h1, b', o', e2, _, _, hc⟩ := hxv
        injection e1 with e1
        injection e2 with e2
        injection e2 with e2 e3
        subst e2; subst e3
        have h1' : R w (OwnA A hv) hv y ws := by
          have := R_keep (Keeps.refl w (OwnA A hv)) y [] noHv hv ws (fun i u _ h => by simp [noHv] at h) h1
          rwa [AV.kill_nil] at this
        obtain ⟨u, hu, hru⟩ := load_ok hti h1' hc hr
        exact after_same (v := u) (by simp [execOp, ho, Instr.loadAt, Instr.sureAddr, e1, hu]) hM hru h
      · exact h.elim
    · rename_i ti id k j off hti hx
      split at h
      · rename_i ob hob
        obtain ⟨rfl, y, hy, h⟩ := h
        have hj : j < ob.xs.length := (List.getElem?_eq_some_iff.1 hy).1
        have hyx : ob.xs.getD j .bot = y := by rw [List.getD_eq_getElem?_getD, hy]; rfl
        simp only at h
        split at h
        · rename_i r hr
          rw [← hyx] at hr
          have hxv := hρ x
          rw [hx] at hxv
          simp only [RV, R] at hxv
          obtain ⟨b, n, c, hb, e1⟩ := hxv
          injection e1 with e1
          obtain ⟨g, cap, ws, e2, h1, hc⟩ := ob_cells (hM_ob hM hob hb) (hM_ob hM hob hb).slice hj
          injection e2 with e2
          injection e2 with e2
          injection e2 with e2
          subst e2
          obtain ⟨u, hu, hru⟩ := load_ok hti h1 hc hr
          exact after_same (v := u) (by simp [execOp, ho, Instr.loadAt, Instr.sureAddr, e1, hu]) hM hru h
        · exact h.elim
      · exact h.elim
    · exact h.elim
  · -- store
    rename_i t x y ho
    split at h
    · rename_i ti id k j off hti hx
      split at h
      · rename_i ob hob
        obtain ⟨hk, z, hz, h⟩ := h
        have hj : j < ob.xs.length := (List.getElem?_eq_some_iff.1 hz).1
        have hzx : ob.xs.getD j .bot = z := by rw [List.getD_eq_getElem?_getD, hz]; rfl
        simp only at h
        split at h
        · rename_i r hr
          rw [← hzx] at hr
          have hxv := hρ x
          rw [hx] at hxv
          obtain ⟨w', hrun, m1, m2⟩ := store_ok hti hM hob hk hj hxv (hρ y) hr
          exact wp_skip' (w' := w') (by simp [execOp, ho, hrun]) ⟨_, [], _, _, _, h, rfl, m1, by simp [RV], m2⟩
        · exact h.elim
      · exact h.elim
    · exact h.elim
  · -- fieldAddr
    rename_i t x f ho
    split at h
    · rename_i ti y off hti hx
      split at h
      · rename_i fo fs hf
        obtain ⟨hfs, hK⟩ := h
        obtain ⟨Fs, F, hu, hF, rfl, hsz⟩ := ti_fld hti hf
        have hxv := hρ x
        rw [hx] at hxv
        simp only [RV, R] at hxv
        obtain ⟨b, q, ws, e1, h1, h2⟩ := hxv
        injection e1 with e1
        refine after_same (v := .pointer (some ⟨b, q + (off + F.offset), none⟩)) ?_ hM (by simp only [RV, R]; exact ⟨b, q, ws, rfl, h1, h2⟩) hK
        simp [execOp, ho, Instr.fieldAt, run_underlying hu, hF, Instr.sureAddr, e1, fieldPlace, run_sizeOf' hsz hfs, hfs, Addr.add_lit, Nat.add_assoc]
      · exact h.elim
    · rename_i ti id k j off hti hx
      split at h
      · rename_i fo fs hf
        obtain ⟨hfs, hK⟩ := h
        obtain ⟨Fs, F, hu, hF, rfl, hsz⟩ := ti_fld hti hf
        have hxv := hρ x
        rw [hx] at hxv
        simp only [RV, R] at hxv
        obtain ⟨b, n, c, hb, e1⟩ := hxv
        injection e1 with e1
        refine after_same (v := .pointer (some ⟨b, j * k + (off + F.offset), none⟩)) ?_ hM (by simp only [RV, R]; exact ⟨b, n, c, hb, rfl⟩) hK
        simp [execOp, ho, Instr.fieldAt, run_underlying hu, hF, Instr.sureAddr, e1, fieldPlace, run_sizeOf' hsz hfs, hfs, Addr.add_lit, Nat.add_assoc]
      · exact h.elim
    · exact h.elim
  · -- indexAddr
    rename_i t x i ho
    split at h
    · rename_i k n hi
      have hiv := hρ i
      rw [hi] at hiv
      simp only [RV] at hiv
      obtain ⟨u, r, hr, hru, hK⟩ := idx_ok (P := P) (k := k) hM (hρ x) h
      exact after_same (v := u) (by simp [execOp, ho, hiv, hr]) hM hru hK
    · exact h.elim
  · -- binOp
    rename_i op ty x y yt ho
    obtain ⟨u, r, hr, hru, hK⟩ := bin_ok (ox := x) (oy := y) (hρ x) (hρ y) h
    refine after_same (v := u) ?_ hM hru hK
    simp only [execOp, ho, Sem.run_bind, Sem.run_pure] at hr ⊢
    rw [hr]
    rfl
  · -- not
    rename_i ty x ho
    split at h
    · rename_i b hb
      have hxv := hρ x
      rw [hb] at hxv
      simp only [RV] at hxv
      exact after_same (v := .bool (!b)) (by simp [execOp, ho, hxv, Op.unary]) hM (by simp only [RV]) h
    · exact h.elim
  · -- neg
    rename_i ty x ho
    split at h
    · rename_i n hn
      obtain ⟨h1, hK⟩ := h
      have hxv := hρ x
      rw [hn] at hxv
      simp only [RV] at hxv
      simp only [lim] at h1
      exact after_same (v := .int .i64 (-n)) (by simp [execOp, ho, hxv, Op.unary, Op.intArith, IntWalk.i64_in _ h1]) hM (by simp only [RV]) hK
    · exact h.elim
  · -- build
    rename_i t parts ho
    split at h
    · rename_i ti hti
      split at h
      · rename_i cells hc
        obtain ⟨⟨h1, h2⟩, hK⟩ := h
        obtain ⟨v, hr, hru⟩ := build_ok hρ hti h1 h2 hc
        exact after_same (v := v) (by simp only [execOp, ho, Sem.run_bind, hr, Result.andThen_ok, Sem.run_pure]) hM hru hK
      · exact h.elim
    · exact h.elim
  · -- buildSlice
    rename_i t n parts ho
    split at h
    · rename_i ti hti
      split at h
      · rename_i e he
        split at h
        · rename_i te hte
          obtain ⟨h1, h2⟩ := h
          split at h2
          · exact buildSlice_own ho hρ hM hti he hte h1 h2
          · exact buildSlice_per ho hρ hM hti he hte h1 h2.1 h2.2
        · exact h.elim
      · exact h.elim
    · exact h.elim
  · -- extract
    rename_i x i ho
    split at h
    · rename_i xs hx
      split at h
      · rename_i r hr
        have hxv := hρ x
        rw [hx] at hxv
        simp only [RV] at hxv
        obtain ⟨vs, e1, hvs⟩ := hxv
        have hat : ∀ (l : List AV) (us : List Value) (i : Nat) (r : AV), RVL w (OwnA A hv) hv l us → l[i]? = some r → ∃ u, us[i]? = some u ∧ RV w (OwnA A hv) hv r u := by
          intro l
          induction l with
          | nil => intro us i r _ h; simp at h
          | cons y l ih =>
            intro us i r h1 h2
            simp only [RVL] at h1
            obtain ⟨u, us, rfl, h3, h4⟩ := h1
            cases i with
            | zero => simp at h2; subst h2; exact ⟨u, by simp, h3⟩
            | succ i => simp at h2; obtain ⟨u', h5, h6⟩ := ih us i r h4 h2; exact ⟨u', by simpa using h5, h6⟩
        obtain ⟨u, hu, hru⟩ := hat xs _ i r hvs hr
        have hu' : vs[i]? = some u := by simpa using hu
        exact after_same (v := u) (by simp [execOp, ho, Instr.extract, e1, hu']) hM hru h
      · exact h.elim
    · exact h.elim
  · -- field
    rename_i t x f ho
    split at h
    · rename_i ti xs hti hx
      split at h
      · rename_i fo fs ft hf hft
        split at h
        · rename_i tf htf
          split at h
          · rename_i r hr
            obtain ⟨Fs, F, hu, hF, rfl, rfl⟩ := ti_fty hti hf hft
            have hxv := hρ x
            rw [hx] at hxv
            simp only [RV] at hxv
            obtain ⟨cs, e1, hcs⟩ := hxv
            obtain ⟨u, hu1, hru⟩ := part_ok htf hcs hr
            exact after_same (v := u) (by simp [execOp, ho, Instr.field, run_underlying hu, hF, e1, asAgg, hu1]) hM hru h
          · exact h.elim
        · exact h.elim
      · exact h.elim
    · exact h.elim
  · -- slice
    rename_i t x lo hi ho
    obtain ⟨u, r, hr, hru, hK⟩ := slice_ok (P := P) hρ (hρ x) h
    exact after_same (v := u) (by simp [execOp, ho, hr]) hM hru hK
  · -- makeFunc
    rename_i fn first cap ho
    obtain ⟨⟨h1, h2⟩, hK⟩ := h
    have hf : first = #[] := Array.eq_empty_of_size_eq_zero h1
    subst hf
    simp only [List.all_eq_true, Bool.and_eq_true] at h2
    refine after_same (v := .func fn #[] (cap.map a.eval)) (by simp [execOp, ho, Instr.makeFunc]) hM ?_ hK
    simp only [RV, R]
    refine ⟨cap.map a.eval, rfl, fun y hy => by obtain ⟨x, hx, rfl⟩ := List.mem_map.1 hy; exact (h2 x hx).2, ?_⟩
    have key : ∀ l : List Operand, (∀ x ∈ l, (ρ x).cellular = true ∧ (ρ x).single = true) → RL w (OwnA A hv) hv (l.map ρ) (l.map a.eval) := by
      intro l
      induction l with
      | nil => intro _; simp [RL]
      | cons x l ih =>
        intro h
        simp only [List.map_cons, RL]
        exact ⟨[a.eval x], _, rfl, RV_R1 (h x List.mem_cons_self).2 (h x List.mem_cons_self).1 (hρ x), ih fun y hy => h y (List.mem_cons_of_mem _ hy)⟩
    rw [Array.toList_map]
    exact key cap.toList h2
  · -- nilCheck
    rename_i x ho
    split at h
    · rename_i y off hx
      have hxv := hρ x
      rw [hx] at hxv
      have hxv0 := hxv
      simp only [RV, R] at hxv
      obtain ⟨b, q, ws, e1, _⟩ := hxv
      injection e1 with e1
      rw [e1] at hxv0
      exact after_same (by simp [execOp, ho, e1]) hM hxv0 h
    · rename_i id k j off hx
      have hxv := hρ x
      rw [hx] at hxv
      have hxv0 := hxv
      simp only [RV, R] at hxv
      obtain ⟨b, n, c, _, e1⟩ := hxv
      injection e1 with e1
      rw [e1] at hxv0
      exact after_same (by simp [execOp, ho, e1]) hM hxv0 h
    · exact h.elim
  · -- makeMap
    rename_i t ho
    obtain ⟨_, hK⟩ := h
    obtain ⟨m1, m2⟩ := mem_add hM (own_lit w (.map #[] 0)) (ob := ⟨some [], t, 0, []⟩) (v := .map (some w.heap.size)) (fun b hb => by simp [blk] at hb; omega)
      (fun hs => ObR.of_map (ks := []) rfl ⟨[], .inl ⟨rfl, w.heap.size, #[], 0, rfl, heap_alloc_new w _, by simp, by simp⟩, by simp [RVL]⟩)
    refine wp_value (v := .map (some w.heap.size)) (w' := w.alloc (.map #[] 0)) (by simp [execOp, ho, Instr.makeMap, newObj, Sem.run]) ⟨_, [], _, _, _, hK, rfl, m1, ?_, m2⟩
    simp only [RV, R]
    exact ⟨_, hvAdd_self _ _, rfl, rfl⟩
  · -- lookup
    rename_i t m x ok ho
    exact lookup_ok ho hρ hM h
  · -- mapUpdate
    rename_i t m x y ho
    exact mapPut_ok (fun u w' hr => by simp [execOp, ho, hr]) hρ hM h
  · -- insert
    rename_i t m x y ho
    exact mapPut_ok (fun u w' hr => by simp [execOp, ho, hr]) hρ hM h
  · -- makeSlice
    rename_i t l c ho
    obtain ⟨ti, e, te, z, k, k', n, hti, he, hte, hz, hag, hl, hc, ⟨h0, h1, h2, h3⟩, hK⟩ := h
    have hu := ti_elem hti he
    obtain ⟨i, d, z', hi, hd, hz', hz1, hz2, _, hsz, hby, hzero, _⟩ := tiOf_spec hte
    have hlv := hρ l
    have hcv := hρ c
    rw [hl] at hlv
    rw [hc] at hcv
    simp only [RV] at hlv hcv
    have hsz1 : i.size = 1 := by omega
    have hrun := run_makeSlice w t e i z' hu hi hz' k k' n n h0 (Int.le_refl _) (by rw [hsz1]; omega) (by
      have : (i.bytes : Int) ≤ 1000 := by omega
      have : (i.bytes : Int) * n ≤ 1000 * 1000000 := Int.mul_le_mul this h1 h0 (by omega)
      omega) (by omega)
    have hzc : z'.cells = #[z] := by
      rw [hzero] at hz
      exact arr1 hz
    have hmc : (madeCells z'.cells (n.toNat * i.size)).toList = List.replicate n.toNat z := by
      rw [hsz1, Nat.mul_one, hzc]
      apply List.ext_getElem
      · simp [madeCells]
      · intro m h1 h2
        simp [madeCells, Nat.mod_one]
    obtain ⟨m1, m2⟩ := mem_add hM (own_lit w (.cells (madeCells z'.cells (n.toNat * i.size)) e)) (ob := ⟨none, e, 1, List.replicate n.toNat (.v z)⟩) (v := .slice (some ⟨w.heap.size, 0, none⟩) n.toNat n.toNat) (fun b hb => by simp [blk, Value.ownBlock] at hb; omega)
      (fun hs => ObR.of_row rfl ⟨List.replicate n.toNat z, by
        rw [← hmc]; simp only [List.length_replicate]
        exact row_new e 1 n.toNat _ (by simp [madeCells, hsz1]) (by simp only [maxLen]; omega), by intro x hx; simp only [List.mem_replicate] at hx; rw [hx.2]; rfl, by
        have := rl_vals (w := w.alloc (.cells (madeCells z'.cells (n.toNat * i.size)) e)) (hv := hvAdd hv M.length (.slice (some ⟨w.heap.size, 0, none⟩) n.toNat n.toNat)) (T := OwnA A (hvAdd hv M.length (.slice (some ⟨w.heap.size, 0, none⟩) n.toNat n.toNat))) (List.replicate n.toNat z) (fun u hu => by
          simp only [List.mem_replicate] at hu
          rw [hu.2]
          exact hz2 z (by rw [hzc]; simp))
        simpa using this⟩)
    refine wp_value (v := .slice (some ⟨w.heap.size, 0, none⟩) n.toNat n.toNat) (w' := w.alloc (.cells (madeCells z'.cells (n.toNat * i.size)) e)) (by simp only [execOp, ho, hlv, hcv, Sem.run_bind, hrun, Result.andThen_ok, Sem.run_pure]) ⟨_, [], _, _, _, hK, rfl, m1, ?_, m2⟩
    simp only [RV, R]
    exact ⟨_, hvAdd_self _ _, rfl, rfl⟩
  · -- call
    rename_i c ho
    exact callA_sound ho hρ hM h
  · exact h.elim
end

end Aw
end Go.Proofs.Ytkolpijhgcijbaa
