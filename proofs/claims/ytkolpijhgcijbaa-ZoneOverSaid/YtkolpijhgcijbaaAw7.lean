/-
  The calculus: 'core' is sound: indexes, slices, tests, built values.
-/
import Derived.Test.YtkolpijhgcijbaaAw6
namespace Go.Proofs.Ytkolpijhgcijbaa
namespace Aw
open Go.RowKit

section
variable {A : Nat → Prop} {P : Program} {w : World} {hv : Nat → Option Value} {M : Mem} {T : Nat → Prop}

theorem getD_at {l : List AV} {i : Nat} (h : i < l.length) : l.getD i .bot = l[i] := by rw [List.getD_eq_getElem?_getD, List.getElem?_eq_getElem h]; rfl

theorem readable_sub {b off n : Nat} {u1 u2 u3 : List Value} (h : Readable w T (some ⟨b, off, none⟩) (u1 ++ u2 ++ u3)) (hn : u1.length = n) : Readable w T (some ⟨b, off + n, none⟩) u2 := by
  obtain ⟨b', off', e, hb, hT, hc⟩ := h
  injection e with e
  injection e with e1 e2
  subst e1; subst e2
  refine ⟨b, off + n, rfl, hb, hT, fun j u hu => ?_⟩
  have := hc (n + j) u (by rw [List.append_assoc, List.getElem?_append_right (by omega), List.getElem?_append_left (by have := (List.getElem?_eq_some_iff.1 hu).1; omega)]; rw [← hu]; congr 1; omega)
  rw [← Nat.add_assoc] at this
  exact this

theorem idx_ok {t : TypeId} {x : AV} {xv : Value} {k : IntKind} {i : Int} {K : HK (AV → Prop)} (hM : MemR A w hv M) (hx : RV w (OwnA A hv) hv x xv) (h : idxA P t M x i (K := K)) :
    ∃ u r, (Instr.indexAt t xv (.int k i)).run P w = .ok u w ∧ RV w (OwnA A hv) hv r u ∧ K.k r := by
  unfold idxA at h
  split at h
  · exact h.elim
  rename_i ti hti
  split at h
  · rename_i e he
    have hu := ti_elem hti he
    split at h
    · rename_i te kk xs hte
      obtain ⟨⟨h1, h2⟩, y, hy, hK⟩ := h
      have hi : i.toNat < xs.length := (List.getElem?_eq_some_iff.1 hy).1
      have h3 : i < xs.length := by omega
      simp only [RV, R] at hx
      obtain ⟨A, c, ws, e1, h4, h5, h6, h7, h8⟩ := hx
      injection e1 with e1
      subst e1
      obtain ⟨b, off, rfl, hb, hT, hc⟩ := h8 (by intro e; rw [e] at hi; simp at hi)
      obtain ⟨u1, u2, u3, e2, e3, e4, e5, _⟩ := RL_at h6 h7 (List.getElem?_eq_getElem hi)
      refine ⟨.pointer (some ⟨b, off + i.toNat * te.size, none⟩), _, ?_, ?_, hK⟩
      · simp [Instr.indexAt, asIntOf, run_underlying hu, h2, h3, ti_size hte, Addr.add_lit]
      · simp only [RV, R]
        refine ⟨b, off + i.toNat * te.size, u2, by simp, ?_, ?_⟩
        · have : xs[i.toNat] = y := by rw [List.getElem?_eq_getElem hi] at hy; injection hy
          rw [← this]; exact e4
        · rw [e2] at hc
          exact readable_sub ⟨b, off, rfl, hb, hT, hc⟩ (by rw [e3, h1])
    · rename_i te id hte
      split at h
      · rename_i ob hid
        obtain ⟨⟨hmp, h1, h2, h3⟩, hK⟩ := h
        simp only [RV, R] at hx
        obtain ⟨v, hv1, e1, _⟩ := hx
        injection e1 with e1
        subst e1
        obtain ⟨v', hv2, hob⟩ := hM.live id ob hid
        rw [hv1] at hv2
        injection hv2 with hv2
        subst hv2
        obtain ⟨g, cap, cur, us, rfl, _⟩ := obR_row hob hmp (by intro e; rw [e] at h3; simp at h3; omega)
        refine ⟨.pointer (some ⟨g, i.toNat * te.size, none⟩), _, ?_, ?_, hK⟩
        · simp [Instr.indexAt, asIntOf, run_underlying hu, h2, h3, ti_size hte, Addr.add_lit]
        · simp only [RV, R]
          exact ⟨g, _, _, hv1, by rw [h1]; simp⟩
      · exact h.elim
    · exact h.elim
  · split at h
    · rename_i n e he
      have hu := ti_arr hti he
      split at h
      · rename_i te y off hte
        obtain ⟨⟨h1, h2⟩, hK⟩ := h
        simp only [RV, R] at hx
        obtain ⟨b, o, ws, e1, h4, h5⟩ := hx
        injection e1 with e1
        subst e1
        refine ⟨.pointer (some ⟨b, o + (off + i.toNat * te.size), none⟩), _, ?_, ?_, hK⟩
        · simp [Instr.indexAt, asIntOf, run_underlying hu, Instr.sureAddr, h1, h2, ti_size hte, Addr.add_lit, Nat.add_assoc]
        · simp only [RV, R]
          exact ⟨b, o, ws, rfl, h4, h5⟩
      · rename_i te id k' j off hte
        obtain ⟨⟨h1, h2⟩, hK⟩ := h
        simp only [RV, R] at hx
        obtain ⟨b, n', c, hb, e1⟩ := hx
        injection e1 with e1
        subst e1
        refine ⟨.pointer (some ⟨b, j * k' + (off + i.toNat * te.size), none⟩), _, ?_, ?_, hK⟩
        · simp [Instr.indexAt, asIntOf, run_underlying hu, Instr.sureAddr, h1, h2, ti_size hte, Addr.add_lit, Nat.add_assoc]
        · simp only [RV, R]
          exact ⟨b, n', c, hb, rfl⟩
      · exact h.elim
    · exact h.elim

theorem bnd_ok {ρ : Operand → AV} {a : Act} (hρ : ∀ x, RV w (OwnA A hv) hv (ρ x) (a.eval x)) {x : Option Operand} {n : Option Int} (h : bndA ρ x = some n) :
    (x = none ∧ n = none) ∨ ∃ y k m, x = some y ∧ a.eval y = .int k m ∧ n = some m := by
  unfold bndA at h
  split at h
  · injection h with h; exact .inl ⟨rfl, h.symm⟩
  · rename_i y
    split at h
    · rename_i k m hy
      injection h with h
      have := hρ y
      rw [hy] at this
      simp only [RV] at this
      exact .inr ⟨y, k, m, rfl, this, h.symm⟩
    · cases h

theorem slice_ok {t : TypeId} {x : AV} {xv : Value} {lo hi : Option Operand} {ρ : Operand → AV} {a : Act} {K : HK Kont} (hρ : ∀ x, RV w (OwnA A hv) hv (ρ x) (a.eval x)) (hx : RV w (OwnA A hv) hv x xv)
    (h : sliceA P t M x (bndA ρ lo) (bndA ρ hi) (K := K)) :
    ∃ u r, (Instr.sliceAt t xv (lo.map a.eval) (hi.map a.eval) none).run P w = .ok u w ∧ RV w (OwnA A hv) hv r u ∧ K.k r [] M := by
  unfold sliceA at h
  split at h
  · rename_i ti k xs l hh hti hlo hhi
    split at h
    · rename_i e he
      split at h
      · rename_i te hte
        have hu := ti_elem hti he
        obtain ⟨⟨h1, h2, h3, h4⟩, hK⟩ := h
        simp only [RV, R] at hx
        obtain ⟨A, c, ws, e1, h5, h6, h7, h8, h9⟩ := hx
        injection e1 with e1
        subst e1
        -- the bounds as they run
        obtain ⟨L, hL, hL0⟩ : ∃ L : Nat, (L : Int) = l.getD 0 ∧ (l.getD 0).toNat = L := ⟨(l.getD 0).toNat, by omega, rfl⟩
        obtain ⟨H, hH, hH0⟩ : ∃ H : Nat, (H : Int) = hh.getD xs.length ∧ (hh.getD xs.length).toNat = H := ⟨(hh.getD xs.length).toNat, by omega, rfl⟩
        have hLH : L ≤ H := by omega
        have hHn : H ≤ xs.length := by omega
        refine ⟨.slice (if c = L then A else A.map (·.add (L * te.size))) (H - L) (c - L), _, ?_, ?_, hK⟩
        · have hb : (Instr.sliceBounds true xs.length c (lo.map a.eval) (hi.map a.eval) none).run P w = .ok (L, H, c) w := by
            have sb : ∀ (k : IntKind) (i : Int) (n y : Nat) (code : BoundsCode), (n : Int) = i → n ≤ y → (Instr.sliceBound (.int k i) y code).run P w = .ok n w := by
              intro k i n y code h0 h1
              simp only [Instr.sliceBound, Sem.run_bind, asIntOf, Sem.run_pure, Result.andThen_ok]
              rw [if_pos (by omega)]
              simp only [Sem.run_pure]
              congr 1; omega
            rcases bnd_ok hρ hlo with ⟨rfl, rfl⟩ | ⟨y, k1, m1, rfl, hy, rfl⟩ <;> rcases bnd_ok hρ hhi with ⟨rfl, rfl⟩ | ⟨z, k2, m2, rfl, hz, rfl⟩ <;>
              simp only [Option.getD_none, Option.getD_some] at hL hH <;>
              simp only [Option.map_none, Option.map_some, Instr.sliceBounds, Sem.run_bind, Sem.run_pure, Result.andThen_ok, *]
            · rw [show L = 0 by omega, show H = xs.length by omega]
            · rw [sb k2 m2 H c _ hH (by omega)]
              simp only [Result.andThen_ok, Sem.run_bind, Sem.run_pure]
              rw [show L = 0 by omega]
            · rw [sb k1 m1 L _ _ hL (by omega)]
              simp only [Result.andThen_ok]
              rw [show H = xs.length by omega]
            · rw [sb k2 m2 H c _ hH (by omega)]
              simp only [Result.andThen_ok, Sem.run_bind, Sem.run_pure]
              rw [sb k1 m1 L H _ hL (by omega)]
              rfl
          simp only [Instr.sliceAt, Instr.slice, Sem.run_bind, run_underlying hu, Result.andThen_ok, hb, ti_size hte, Sem.run_pure]
        · rw [hL0, hH0]
          have hlen : ((xs.take H).drop L).length = H - L := by simp; omega
          have htk := RL_take h7 h8 H
          have hdr := RL_drop (fun x hx => h7 x (List.mem_of_mem_take hx)) htk L
          simp only [RV, R]
          refine ⟨_, c - L, _, by rw [hlen], by omega, by omega, fun x hx => h7 x (List.mem_of_mem_take (List.mem_of_mem_drop hx)), hdr, fun hne => ?_⟩
          have hpos : 0 < H - L := by
            rcases Nat.eq_zero_or_pos (H - L) with h0 | h0
            · exact absurd (List.eq_nil_of_length_eq_zero (by omega)) hne
            · exact h0
          obtain ⟨b, off, rfl, hb, hT, hc⟩ := h9 (by intro e; rw [e] at hHn; simp at hHn; omega)
          rw [if_neg (by omega)]
          refine ⟨b, off + L * te.size, by simp [Addr.add_lit], hb, hT, fun j u hu => ?_⟩
          rw [h1] at hu
          rw [List.getElem?_drop, List.getElem?_take] at hu
          split at hu
          · have := hc _ _ hu
            rw [← Nat.add_assoc] at this
            exact this
          · cases hu
      · exact h.elim
    · exact h.elim
  · exact h.elim
end

end Aw
end Go.Proofs.Ytkolpijhgcijbaa
