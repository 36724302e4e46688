/-
  The calculus: 'core' is sound: tests and sums; append.
-/
import Derived.Test.YtkolpijhgcijbaaAw8
import Derived.Maps.AppendAt
namespace Go.Proofs.Ytkolpijhgcijbaa
namespace Aw
open Go.RowKit

set_option maxHeartbeats 1000000
section
variable {A : Nat → Prop} {P : Program} {w : World} {hv : Nat → Option Value} {M : Mem} {T : Nat → Prop}

theorem bin_ok {op : BinOp} {ty : TypeId} {x y : AV} {xv yv : Value} {ox oy : Operand} {K : HK (AV → Prop)} (hx : RV w T hv x xv) (hy : RV w T hv y yv) (h : binA P op ty x y (K := K)) :
    ∃ u r, (do eqGuard op ty ox oy xv yv; binOp op ty xv yv : Sem Value).run P w = .ok u w ∧ RV w T hv r u ∧ K.k r := by
  unfold binA at h
  split at h
  · rename_i a b
    simp only [RV] at hx hy
    subst hx; subst hy
    obtain ⟨h1, hK⟩ := h
    simp only [lim] at h1
    refine ⟨.int .i64 (a + b), I (a + b), ?_, by simp only [RV], hK⟩
    simp [eqGuard_at_int, binOp_add, Op.intArith, IntWalk.i64_in _ h1]
  · rename_i a b
    simp only [RV] at hx hy
    subst hx; subst hy
    obtain ⟨h1, hK⟩ := h
    simp only [lim] at h1
    refine ⟨.int .i64 (a - b), I (a - b), ?_, by simp only [RV], hK⟩
    simp [eqGuard_at_int, binOp_sub, Op.intArith, IntWalk.i64_in _ h1]
  · rename_i a b
    simp only [RV] at hx hy
    subst hx; subst hy
    obtain ⟨h1, hK⟩ := h
    simp only [lim] at h1
    refine ⟨.int .i64 (a * b), I (a * b), ?_, by simp only [RV], hK⟩
    simp [eqGuard_at_int, binOp_mul, Op.intArith, IntWalk.i64_in _ h1]
  · rename_i a b
    simp only [RV] at hx hy
    subst hx; subst hy
    obtain ⟨⟨h0, h1⟩, hK⟩ := h
    simp only [lim] at h1
    refine ⟨.int .i64 (a.tdiv b), I (a.tdiv b), ?_, by simp only [RV], hK⟩
    simp [eqGuard_at_int, binOp_quo, Op.intDiv, h0, IntWalk.i64_in _ h1]
  · rename_i a b
    simp only [RV] at hx hy
    subst hx; subst hy
    obtain ⟨h0, hK⟩ := h
    refine ⟨.int .i64 (a.tmod b), I (a.tmod b), ?_, by simp only [RV], hK⟩
    simp [eqGuard_at_int, binOp_rem, Op.intDiv, h0]
  · rename_i k a k' b
    simp only [RV] at hx hy
    subst hx; subst hy
    obtain ⟨rfl, hK⟩ := h
    refine ⟨.bool (decide (a < b)), B (decide (a < b)), ?_, by simp only [RV], hK⟩
    simp only [eqGuard_at_int, binOp_lss, Sem.run_bind, Sem.run_pure, Result.andThen_ok]
    
  · rename_i k a k' b
    simp only [RV] at hx hy
    subst hx; subst hy
    obtain ⟨rfl, hK⟩ := h
    refine ⟨.bool (decide (a ≤ b)), B (decide (a ≤ b)), ?_, by simp only [RV], hK⟩
    simp only [eqGuard_at_int, binOp_leq, Sem.run_bind, Sem.run_pure, Result.andThen_ok]
    
  · rename_i k a k' b
    simp only [RV] at hx hy
    subst hx; subst hy
    obtain ⟨rfl, hK⟩ := h
    refine ⟨.bool (decide (b < a)), B (decide (b < a)), ?_, by simp only [RV], hK⟩
    simp only [eqGuard_at_int, binOp_gtr, Sem.run_bind, Sem.run_pure, Result.andThen_ok]
    
  · rename_i k a k' b
    simp only [RV] at hx hy
    subst hx; subst hy
    obtain ⟨rfl, hK⟩ := h
    refine ⟨.bool (decide (b ≤ a)), B (decide (b ≤ a)), ?_, by simp only [RV], hK⟩
    simp only [eqGuard_at_int, binOp_geq, Sem.run_bind, Sem.run_pure, Result.andThen_ok]
    
  · rename_i k a k' b
    simp only [RV] at hx hy
    subst hx; subst hy
    obtain ⟨rfl, hK⟩ := h
    refine ⟨.bool (decide (a = b)), B (decide (a = b)), ?_, by simp only [RV], hK⟩
    simp only [eqGuard_at_int, binOp_eql, Sem.run_bind, Sem.run_pure, Result.andThen_ok]
    rfl
  · rename_i k a k' b
    simp only [RV] at hx hy
    subst hx; subst hy
    obtain ⟨rfl, hK⟩ := h
    refine ⟨.bool (!decide (a = b)), B (!decide (a = b)), ?_, by simp only [RV], hK⟩
    simp only [eqGuard_at_int, binOp_neq, Sem.run_bind, Sem.run_pure, Result.andThen_ok]
    rfl
  · rename_i a b
    simp only [RV] at hx hy
    subst hx; subst hy
    obtain ⟨hb, hK⟩ := h
    split at hb
    · rename_i ti hti
      obtain ⟨_, d, _, _, hd, _, _, _, _, _, _, _, _, _, _, _, h1, _⟩ := tiOf_spec hti
      rw [hb] at h1
      have hd' : P.underlying ty = some .bool := by
        cases d with
        | bool => exact hd
        | _ => simp at h1
      refine ⟨.bool (a == b), B (a == b), ?_, by simp only [RV], hK⟩
      simp [eqGuard_at_bool, binOp, Op.equal, Op.maxDepth, run_equalIn_bool' w 9999 ty a b hd']
    · exact hb.elim
  · rename_i a b
    simp only [RV] at hx hy
    subst hx; subst hy
    obtain ⟨hb, hK⟩ := h
    split at hb
    · rename_i ti hti
      obtain ⟨_, d, _, _, hd, _, _, _, _, _, _, _, _, _, _, _, h1, _⟩ := tiOf_spec hti
      rw [hb] at h1
      have hd' : P.underlying ty = some .bool := by
        cases d with
        | bool => exact hd
        | _ => simp at h1
      refine ⟨.bool (!(a == b)), B (!(a == b)), ?_, by simp only [RV], hK⟩
      simp [eqGuard_at_bool, binOp, Op.equal, Op.maxDepth, run_equalIn_bool' w 9999 ty a b hd']
    · exact hb.elim
  · rename_i xs ys
    split at h
    · rename_i ti as bs hti has hbs
      obtain ⟨⟨h1, h2, h3⟩, hK⟩ := h
      simp only [RV] at hx hy
      obtain ⟨cs, rfl, hx⟩ := hx
      obtain ⟨ds, rfl, hy⟩ := hy
      obtain ⟨hr, hg⟩ := eqn_run hti h1 has hbs h2 h3 hx hy
      refine ⟨.bool (decide (as = bs)), B (decide (as = bs)), ?_, by simp only [RV], hK⟩
      simp only [Sem.run_bind, run_eqGuard_agg w .eql ty ox oy cs ds hg, Result.andThen_ok, run_eql_struct, hr]
    · exact h.elim
  · rename_i xs ys
    split at h
    · rename_i ti as bs hti has hbs
      obtain ⟨⟨h1, h2, h3⟩, hK⟩ := h
      simp only [RV] at hx hy
      obtain ⟨cs, rfl, hx⟩ := hx
      obtain ⟨ds, rfl, hy⟩ := hy
      obtain ⟨hr, hg⟩ := eqn_run hti h1 has hbs h2 h3 hx hy
      refine ⟨.bool (!decide (as = bs)), B (!decide (as = bs)), ?_, by simp only [RV], hK⟩
      simp only [Sem.run_bind, run_eqGuard_agg w .neq ty ox oy cs ds hg, Result.andThen_ok, run_neq_struct, hr]
    · exact h.elim
  · rename_i k xs n c
    obtain ⟨h0, hK⟩ := h
    split at h0
    · rename_i ti hti
      obtain ⟨e, he⟩ := Option.isSome_iff_exists.1 h0
      have hu := ti_elem hti he
      simp only [RV] at hy
      subst hy
      simp only [RV, R] at hx
      obtain ⟨A, c', ws, e1, _, _, _, _, h5⟩ := hx
      injection e1 with e1
      subst e1
      refine ⟨.bool A.isNone, B A.isNone, ?_, by simp only [RV], hK _ fun hb => ?_⟩
      · have hq : ∀ d, (Op.equalIn (d + 1) ty (.slice A xs.length c') (.slice none n c)).run P w = .ok A.isNone w := fun d => by
          cases A <;> simp [Op.equalIn, run_underlying hu]
        simp only [eqGuard_at_slice, Sem.run_bind, Sem.run_pure, Result.andThen_ok]
        simp only [binOp]
        simp [Op.equal, Op.maxDepth, hq 9999]
      · cases xs with
        | nil => rfl
        | cons x xs => obtain ⟨b, off, rfl, _⟩ := h5 (by simp); simp at hb
    · exact h0.elim
  · exact h.elim
end

end Aw
end Go.Proofs.Ytkolpijhgcijbaa
