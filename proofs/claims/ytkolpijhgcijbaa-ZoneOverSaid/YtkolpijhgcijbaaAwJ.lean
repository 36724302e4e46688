/-
  The calculus: how simp walks it.
-/
import Derived.Test.YtkolpijhgcijbaaAwI
namespace Go.Proofs.Ytkolpijhgcijbaa
namespace Aw
open Go.RowKit

theorem nbeq (a b : Nat) : (a == b) = decide (a = b) := by
  by_cases h : a = b <;> simp [h]

theorem getD_nil (i : Nat) (d : AV) : List.getD [] i d = d := by simp
theorem getD_zero (x : AV) (l : List AV) (d : AV) : List.getD (x :: l) 0 d = x := rfl
theorem getD_succ (x : AV) (l : List AV) (i : Nat) (d : AV) : List.getD (x :: l) (i + 1) d = l.getD i d := rfl

/-- A LOOP whose states are told by an index. -/
theorem swp_loop' {P : Program} {c : Code} {N : HN} {E : HE} {Rt : HR} {σ : St} {ι : Type} (S : ι → St) (J : ι → Prop) (μ : ι → Nat) (i0 : ι) (h0 : Le σ (S i0)) (hJ : J i0)
    (round : ∀ i, J i → @SWp P c (S i) ⟨fun σ' => ∃ i', Le σ' (S i') ∧ J i' ∧ μ i' < μ i⟩ E Rt) : @SWp P (.loop c) σ N E Rt := by
  have key : @SWp P (.loop c) σ N E Rt := by
    intro C a w hS
    let m : Act → World → Nat := fun a w => by
      classical exact if h : ∃ n, ∃ i, J i ∧ StR C (S i) a w ∧ μ i = n then Classical.choose (least (fun n => ∃ i, J i ∧ StR C (S i) a w ∧ μ i = n) h) else 0
    have hm : ∀ a w n, (∃ i, J i ∧ StR C (S i) a w ∧ μ i = n) → (∃ i, J i ∧ StR C (S i) a w ∧ μ i = m a w) ∧ m a w ≤ n := by
      intro a w n hn
      have hex : ∃ n, ∃ i, J i ∧ StR C (S i) a w ∧ μ i = n := ⟨n, hn⟩
      simp only [m, dif_pos hex]
      exact ⟨(Classical.choose_spec (least _ hex)).1, (Classical.choose_spec (least _ hex)).2 n hn⟩
    refine wp_loop (fun a w => ∃ n, ∃ i, J i ∧ StR C (S i) a w ∧ μ i = n) m ⟨_, i0, hJ, h0 C a w hS, rfl⟩ ?_
    rintro a w ⟨n, hn⟩
    obtain ⟨⟨i, h1, h2, h3⟩, _⟩ := hm a w n hn
    refine wp_mono (round i h1 C a w h2) fun e a' w' hq => ?_
    cases e with
    | normal =>
      obtain ⟨σ', ⟨i', hle, hI', hlt⟩, hS'⟩ := hq
      have hJ' : ∃ i, J i ∧ StR C (S i) a' w' ∧ μ i = μ i' := ⟨i', hI', hle C a' w' hS', rfl⟩
      exact ⟨⟨_, hJ'⟩, by have := (hm a' w' _ hJ').2; omega⟩
    | exit id => exact hq
    | ret => exact hq
    | goto l => exact hq.elim
    | panic ch => exact hq.elim
    | outgrown => exact hq.elim
  exact key

theorem le_sl {sl sl' : List AV} {M : Mem} (h : leSl sl sl') : Le ⟨sl, M⟩ ⟨sl', M⟩ :=
  le_of (Mx := []) h (by simp) (by
    have : ∀ l : List AV, AV.freeL [] l = true := fun l => by induction l <;> simp_all [AV.freeL, AV.free_nil]
    exact this sl') (fun ob _ => by
    have : ∀ l : List AV, AV.freeL [] l = true := fun l => by induction l <;> simp_all [AV.freeL, AV.free_nil]
    exact this ob.xs)

theorem aend_frz {P : Program} {rs : List ResultVar} {post : AV → List Ob → Prop} {σ : St} {x : AV} (hx : resA P rs σ = some x) (hp : post (frz σ.M x) []) : AEnd P rs post σ := ⟨x, hx, _, _, ret_frz σ.M x, hp⟩
theorem aend_exp {P : Program} {rs : List ResultVar} {post : AV → List Ob → Prop} {σ : St} {x : AV} (i : Nat) {ob : Ob} (hx : resA P rs σ = some x) (hi : σ.M[i]? = some (some ob)) (hb : AV.pureL ob.xs = true) (hp : post (exp1 i x) [ob]) : AEnd P rs post σ := ⟨x, hx, _, _, ret_exp1 σ.M x i ob hi hb, hp⟩

def intsA (l : List Int) : List AV := l.map fun n => I n
theorem intsA_len (l : List Int) : (intsA l).length = l.length := by simp [intsA]
theorem aget_ints {l : List Int} {j : Nat} (h : j < l.length) (K : HK (AV → Prop)) : @AGet (intsA l) j K = K.k (I l[j]) := by simp [AGet, intsA, h]
theorem intsA_at (l : List Int) {i : Nat} (h : i < l.length) : (intsA l).getD i .bot = I l[i] := by simp [intsA, h]

end Aw
end Go.Proofs.Ytkolpijhgcijbaa
