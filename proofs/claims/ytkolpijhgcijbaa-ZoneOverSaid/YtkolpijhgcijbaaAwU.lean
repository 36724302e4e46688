/-
  The calculus: a region that copies a slice into an array.
-/
import Derived.Test.YtkolpijhgcijbaaAwS
namespace Go.Proofs.Ytkolpijhgcijbaa
namespace Aw
open Go.RowKit

section
variable {P : Program} {σ : St}

theorem wpOp_of {ops : Array Oper} {Q : Exit → Act → World → Prop} {i : Nat} {o : Oper} {K : Act → World → Prop} {a : Act} {w : World} (ho : ops[i]? = some o) (hg : o.guard = none) (h : o.wp P a w K Q) : wpOp P ops Q i K a w := by
  unfold wpOp
  simp only [ho]
  rw [if_pos (wanted_none hg _)]
  exact .inl h

theorem sizeL1 : ∀ l : List AV, (∀ z ∈ l, z.size = 1) → AV.sizeL l = l.length := by
  intro l
  induction l with
  | nil => intro _; rfl
  | cons z l ih => intro hz; simp [AV.sizeL, hz z List.mem_cons_self, ih fun q hq => hz q (List.mem_cons_of_mem _ hq)]; omega

theorem swp_copy {id : Nat} {p s d1 d2 d3 : Tmp} {ta ts y1 y2 y3 : TypeId} {p1 p2 p3 : String} {f1 f2 f3 : Array Edge} {N : HN} {E : HE} {Rt : HR} {ti te tis : TI} {n : Nat} {e : TypeId} {i j : Nat} {ob : Ob} {cells xs : List AV}
    (hta : tiOf P ta = some ti) (har : ti.arr = some (n, e)) (hte : tiOf P e = some te) (hsz : te.size = 1) (hts : tiOf P ts = some tis) (htse : tis.elem = some e)
    (hp : σ.sl[p]? = some (.q i n j 0)) (hs : σ.sl[s]? = some (.s 1 xs)) (hob : σ.M[i]? = some (some ob)) (hk : ob.k = n) (hj : ob.xs[j]? = some (.g cells)) (hc : ∀ x ∈ cells, x.size = 1) (hcn : cells.length = n)
    (h1 : d1 < σ.sl.length) (h2 : d2 < σ.sl.length) (h12 : d1 ≠ d2) (h1s : d1 ≠ s) (hn0 : 0 < n)
    (h : N.k ⟨((σ.sl.set d1 .bot).set d2 (.s 1 xs)).set d3 (I (min xs.length n)), σ.M.set i (some { ob with xs := ob.xs.set j (.g (putsA cells 0 (xs.take (min xs.length n)))) })⟩) :
    @SWp P (.region id #[⟨some d1, .slice ta (.tmp p) none none none, y1, p1, f1, none⟩, ⟨some d2, .move (.tmp s), y2, p2, f2, none⟩, ⟨some d3, .call ⟨.builtin .copy, #[.tmp d1, .tmp d2], #[ts, ts]⟩, y3, p3, f3, none⟩] false) σ N E Rt := by
  intro C a w hS
  obtain ⟨hv, hd, hsz', hsl, hM, hF⟩ := hS
  have hua := ti_arr hta har
  have hus := ti_elem hts htse
  obtain ⟨pv, g1, g2⟩ := hsl p _ hp
  obtain ⟨sv, g3, g4⟩ := hsl s _ hs
  simp only [RV, R] at g2 g4
  obtain ⟨b, hn', hc', hbi, e1⟩ := g2
  injection e1 with e1
  subst e1
  obtain ⟨A, c, ws, e2, k1, k2, k3, k4, k5⟩ := g4
  injection e2 with e2
  subst e2
  have hjl : j < ob.xs.length := (List.getElem?_eq_some_iff.1 hj).1
  have hwl := RL_len xs ws k3 k4
  have htk := RL_take k3 k4 (min xs.length n)
  simp only [Nat.mul_one] at hwl htk
  have hgd : ob.xs.getD j .bot = .g cells := by rw [List.getD_eq_getElem?_getD, hj]; rfl
  have htl : (ws.take (min xs.length n)).length = min xs.length n := by simp; omega
  obtain ⟨w', r1, r2, r3⟩ := cells_ok (P := P) (off := 0) (r := .g (putsA cells 0 (xs.take (min xs.length n)))) (cs := ws.take (min xs.length n)) hM hob hjl hbi (fun u hu => RL_one xs ws k4 u (List.mem_of_mem_take hu)) (fun us hR => by
    rw [hgd] at hR ⊢
    simp only [R] at hR
    have hul := RL_len cells us hc hR
    simp only [Nat.mul_one] at hul
    have hpp := putsA_RL (xs.take (min xs.length n)) cells 0 us (ws.take (min xs.length n)) hc (fun x hx => k3 x (List.mem_of_mem_take hx)) hR (R_noHv hv _ _ htk) (by simp; omega)
    refine ⟨by rw [htl, hul, hcn]; omega, by simp only [R]; exact hpp.1, ?_⟩
    simp only [AV.size]
    rw [sizeL1 _ hpp.2, putsA_len, sizeL1 _ hc])
  have hrun3 : (Builtin.copy_ #[ts, ts] y3 #[.slice (some ⟨b, j * n, none⟩) n n, .slice A xs.length c]).run P w = .ok (.int .i64 (min xs.length n : Nat)) w' := by
    have hload : (Builtin.firstCells 1 (Nat.min xs.length n) (.slice A xs.length c)).run P w = .ok (ws.take (min xs.length n)).toArray w := by
      rcases A with _ | ⟨b', o', sp⟩
      · have : xs = [] := by
          cases xs with
          | nil => rfl
          | cons x xs => obtain ⟨_, _, h, _⟩ := k5 (by simp); cases h
        subst this
        simp [Builtin.firstCells]
      · by_cases hx : xs = []
        · subst hx
          have := run_loadCells_list (P := P) w ⟨b', o', sp⟩ [] (fun j v hj => by simp at hj)
          simpa [Builtin.firstCells] using this
        · obtain ⟨b2, o2, e5, _, _, hcc⟩ := k5 hx
          injection e5 with e5
          rw [e5]
          have := run_loadCells_list (P := P) w ⟨b2, o2, none⟩ (ws.take (min xs.length n)) (fun j v hj => by
            rw [Addr.add_lit]
            rw [List.getElem?_take] at hj
            split at hj
            · exact hcc _ _ hj
            · cases hj)
          rw [htl] at this
          simp only [Builtin.firstCells, Nat.mul_one]
          exact this
    have hsize : (sizeOf e).run P w = .ok 1 w := by rw [ti_size hte, hsz]
    simp only [Builtin.copy_, List.getElem?_toArray, List.getElem?_cons_zero, List.getElem?_cons_succ, Sem.run_bind, run_underlying hus, Result.andThen_ok, Builtin.lenOf, Sem.run_pure, hsize, hload]
    rw [hk] at r1
    simp only [Nat.add_zero] at r1
    rw [r1]
    rfl
  refine wp_region ?_
  show wpOps P _ _ [0, 1, 2] a w
  have hsa : a.tmps.size = σ.sl.length := hsz'
  have hdd1 : d1 < a.tmps.size := by rw [hsz']; exact h1
  have hdd2 : d2 < a.tmps.size := by rw [hsz']; exact h2
  rw [wpOps_cons]
  refine wpOp_of (o := ⟨some d1, .slice ta (.tmp p) none none none, y1, p1, f1, none⟩) rfl rfl (wp_value (v := .slice (some ⟨b, j * n, none⟩) n n) (w' := w) ?_ ?_)
  · have hev : a.eval (.tmp p) = .pointer (some ⟨b, j * n + 0, none⟩) := by simp [Act.eval, Array.getD_eq_getD_getElem?, g1]
    have hne : ¬ n = 0 := by omega
    simp [execOp, Instr.sliceAt, run_underlying hua, hev, Instr.sureAddr, Instr.sliceBounds, ti_size hte, hne, Addr.add_lit]
  rw [wpOps_cons]
  refine wpOp_of (o := ⟨some d2, .move (.tmp s), y2, p2, f2, none⟩) rfl rfl (wp_value (v := .slice A xs.length c) (w' := w) ?_ ?_)
  · have hev : (a.put (some d1) (.slice (some ⟨b, j * n, none⟩) n n)).eval (.tmp s) = .slice A xs.length c := by
      simp [Act.eval, Act.put, Array.getD_eq_getD_getElem?, Array.getElem?_setIfInBounds_ne h1s, g3]
    simp only [execOp, hev, Sem.run_bind, Sem.run_pure, Result.andThen_ok]
  rw [wpOps_cons]
  refine wpOp_of (o := ⟨some d3, .call ⟨.builtin .copy, #[.tmp d1, .tmp d2], #[ts, ts]⟩, y3, p3, f3, none⟩) rfl rfl (wp_value (v := .int .i64 (min xs.length n : Nat)) (w' := w') ?_ ?_)
  · have hev1 : ((a.put (some d1) (.slice (some ⟨b, j * n, none⟩) n n)).put (some d2) (.slice A xs.length c)).eval (.tmp d1) = .slice (some ⟨b, j * n, none⟩) n n := by
      simp only [Act.eval, Act.put, Array.getD_eq_getD_getElem?, Array.getElem?_setIfInBounds_ne (Ne.symm h12), Array.getElem?_setIfInBounds_self_of_lt hdd1, Option.getD_some]
    have hev2 : ((a.put (some d1) (.slice (some ⟨b, j * n, none⟩) n n)).put (some d2) (.slice A xs.length c)).eval (.tmp d2) = .slice A xs.length c := by
      simp [Act.eval, Act.put, Array.getD_eq_getD_getElem?, hdd2]
    simp only [execOp, resolve, invoke, builtin, Sem.run_bind, Sem.run_pure, Result.andThen_ok, List.map_toArray, List.map_cons, List.map_nil, hev1, hev2, hrun3]
  simp only [wpOps]
  refine ⟨_, h, ?_⟩
  have s1 : StR C σ a w := ⟨hv, hd, hsz', hsl, hM, hF⟩
  refine ⟨hv, by simpa [Act.put] using hd, by simp [Act.put, hsz'], fun m x hx => ?_, r2, hF.step r3⟩
  have keep : ∀ (x : AV) (v : Value), RV w (OwnA C.A hv) hv x v → RV w' (OwnA C.A hv) hv x v := fun x v hr => by
    have := r3.rv hr
    rwa [AV.kill_nil] at this
  simp only [List.getElem?_set] at hx
  simp only [Act.put]
  split at hx
  · rename_i hm
    subst hm
    split at hx
    · injection hx with hx
      subst hx
      rename_i hlt
      simp only [List.length_set] at hlt
      refine ⟨.int .i64 (min xs.length n : Nat), by simp [hsz', hlt], by simp [RV]; omega⟩
    · cases hx
  · rename_i hm3
    rw [Array.getElem?_setIfInBounds_ne hm3]
    split at hx
    · rename_i hm
      subst hm
      split at hx
      · injection hx with hx
        subst hx
        refine ⟨.slice A xs.length c, by simp [hdd2], keep _ _ ?_⟩
        simp only [RV, R]
        exact ⟨A, c, ws, rfl, k1, k2, k3, k4, k5⟩
      · cases hx
    · rename_i hm2
      rw [Array.getElem?_setIfInBounds_ne hm2]
      split at hx
      · rename_i hm
        subst hm
        simp only [Option.some.injEq, if_pos h1] at hx
        subst hx
        exact ⟨.slice (some ⟨b, j * n, none⟩) n n, by simp [hdd1], by simp [RV]⟩
      · rename_i hm1
        rw [Array.getElem?_setIfInBounds_ne hm1]
        obtain ⟨v, q1, q2⟩ := hsl m x hx
        exact ⟨v, q1, keep _ _ q2⟩
end
end Aw
end Go.Proofs.Ytkolpijhgcijbaa
