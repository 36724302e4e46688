/-
  The calculus: code, loops, functions.
-/
import Derived.Test.YtkolpijhgcijbaaAwG
namespace Go.Proofs.Ytkolpijhgcijbaa
namespace Aw
open Go.RowKit

/-- what holds at an exit. -/
def APost (C : Ctx) (N : St → Prop) (E : Nat → St → Prop) (Rt : St → Prop) : Exit → Act → World → Prop
  | .normal, a, w => ∃ σ, N σ ∧ StR C σ a w
  | .exit id, a, w => ∃ σ, E id σ ∧ StR C σ a w
  | .ret, a, w => ∃ σ, Rt σ ∧ StR C σ a w
  | _, _, _ => False

/-- what a piece of code does, said of states. -/
def SWp (P : Program) (c : Code) (σ : St) [N : HK (St → Prop)] [E : HK (Nat → St → Prop)] [Rt : HK (St → Unit → Prop)] : Prop :=
  ∀ C a w, StR C σ a w → c.wp P (APost C N.k E.k (fun σ => Rt.k σ ())) a w

/-- all that fits σ fits σ'. -/
def Le (σ σ' : St) : Prop := ∀ C a w, StR C σ a w → StR C σ' a w

abbrev HN := HK (St → Prop)
abbrev HE := HK (Nat → St → Prop)
abbrev HR := HK (St → Unit → Prop)

def awp (P : Program) (own : List Nat) : Code → St → [HN] → [HE] → [HR] → Prop
  | .skip, σ, N, _, _ => N.k σ
  | .label _, σ, N, _, _ => N.k σ
  | .region id ops true, σ, N, E, Rt => @SWp P (.region id ops true) σ N E Rt
  | .region id ops false, σ, N, E, Rt => @ACond (own.contains (1000 + id)) ⟨@SWp P (.region id ops false) σ N E Rt⟩ ⟨@AOps P own ops.toList ops.toList σ N⟩
  | .seq a b, σ, N, E, Rt => @awp P own a σ ⟨fun σ' => @awp P own b σ' N E Rt⟩ E Rt
  | .cond c x y, σ, N, E, Rt => AOpt (asB (σ.ev c)) (K := ⟨fun b => @ACond b ⟨@awp P own x σ N E Rt⟩ ⟨@awp P own y σ N E Rt⟩⟩)
  | .block id c, σ, N, E, Rt => @awp P own c σ N ⟨fun id' σ' => if id' = id then N.k σ' else E.k id' σ'⟩ Rt
  | .loop c, σ, N, E, Rt => @SWp P (.loop c) σ N E Rt
  | .exit id, σ, _, E, _ => E.k id σ
  | .ret, σ, _, _, Rt => Rt.k σ ()
  | _, _, _, _, _ => False

section
variable {P : Program} {own : List Nat}

theorem awp_sound : ∀ (c : Code) (N : HN) (E : HE) (Rt : HR) (σ : St), @awp P own c σ N E Rt → @SWp P c σ N E Rt := by
  intro c
  induction c with
  | skip => intro N E Rt σ h C a w hS; exact wp_skip ⟨σ, h, hS⟩
  | label l => intro N E Rt σ h C a w hS; exact wp_label ⟨σ, h, hS⟩
  | region id ops draw =>
    intro N E Rt σ h C a w hS
    cases draw with
    | true => unfold awp at h; exact h C a w hS
    | false =>
      unfold awp at h
      cases hc : own.contains (1000 + id) with
      | true => exact h.1 hc C a w hS
      | false => exact region_sound (own := own) (fun σ a w hN hS => ⟨σ, hN, hS⟩) (h.2 hc) hS
  | seq x y ihx ihy =>
    intro N E Rt σ h C a w hS
    unfold awp at h
    refine wp_seq (wp_mono (ihx _ _ _ _ h C a w hS) fun e a' w' hq => ?_)
    cases e with
    | normal => obtain ⟨σ', h1, h2⟩ := hq; exact ihy _ _ _ _ h1 C a' w' h2
    | exit id => exact hq
    | ret => exact hq
    | goto l => exact hq.elim
    | panic ch => exact hq.elim
    | outgrown => exact hq.elim
  | cond c x y ihx ihy =>
    intro N E Rt σ h C a w hS
    unfold awp at h
    obtain ⟨b, hb, h⟩ := AOpt_elim h
    have hb := asB_eq hb
    · obtain ⟨hv, hd, hsz, hsl, hM, hF⟩ := id hS
      have hc := ev_ok hsl c
      rw [hb] at hc
      simp only [RV] at hc
      exact wp_cond_split hc (fun ht => ihx _ _ _ _ (h.1 ht) C a w hS) (fun hf => ihy _ _ _ _ (h.2 hf) C a w hS)
  | block id c ih =>
    intro N E Rt σ h C a w hS
    unfold awp at h
    refine wp_block (wp_mono (ih _ _ _ _ h C a w hS) fun e a' w' hq => ?_)
    cases e with
    | normal => exact hq
    | exit id' =>
      obtain ⟨σ', h1, h2⟩ := hq
      simp only at h1
      simp only [Exit.inBlock]
      split
      · rename_i he; rw [if_pos he] at h1; exact ⟨σ', h1, h2⟩
      · rename_i he; rw [if_neg he] at h1; exact ⟨σ', h1, h2⟩
    | ret => exact hq
    | goto l => exact hq.elim
    | panic ch => exact hq.elim
    | outgrown => exact hq.elim
  | loop c _ => intro N E Rt σ h; unfold awp at h; exact h
  | exit id => intro N E Rt σ h C a w hS; exact wp_exit ⟨σ, h, hS⟩
  | ret => intro N E Rt σ h C a w hS; exact wp_ret ⟨σ, h, hS⟩
  | _ => intro N E Rt σ h; simp [awp] at h

theorem least (J : Nat → Prop) (h : ∃ n, J n) : ∃ m, J m ∧ ∀ n, J n → m ≤ n := by
  obtain ⟨n, hn⟩ := h
  induction n using Nat.strongRecOn with
  | _ n ih =>
    by_cases h : ∃ k, k < n ∧ J k
    · obtain ⟨k, hk, hJ⟩ := h; exact ih k hk hJ
    · exact ⟨n, hn, fun k hk => by
        rcases Nat.lt_or_ge k n with hlt | hge
        · exact absurd ⟨k, hlt, hk⟩ h
        · exact hge⟩

/-- the state may be weakened. -/
theorem swp_le {c : Code} {N : HN} {E : HE} {Rt : HR} {σ σ' : St} (h : Le σ σ') (hs : @SWp P c σ' N E Rt) : @SWp P c σ N E Rt := fun C a w hS => hs C a w (h C a w hS)

theorem Le.refl (σ : St) : Le σ σ := fun _ _ _ h => h
theorem Le.trans {σ σ' σ'' : St} (h : Le σ σ') (k : Le σ' σ'') : Le σ σ'' := fun C a w hS => k C a w (h C a w hS)

/-- slots may be forgotten. -/
def leSl : List AV → List AV → Prop
  | [], [] => True
  | a :: as, b :: bs => (b = .bot ∨ b = a) ∧ leSl as bs
  | _, _ => False

theorem leSl_get : ∀ (as bs : List AV), leSl as bs → as.length = bs.length ∧ ∀ (i : Nat) (x : AV), bs[i]? = some x → x = .bot ∧ i < as.length ∨ as[i]? = some x
  | [], [], _ => by simp
  | a :: as, b :: bs, h => by
    obtain ⟨h1, h2⟩ := h
    obtain ⟨h3, h4⟩ := leSl_get as bs h2
    refine ⟨by simp [h3], fun i x hx => ?_⟩
    cases i with
    | zero =>
      simp at hx
      subst hx
      rcases h1 with rfl | rfl
      · exact .inl ⟨rfl, by simp⟩
      · exact .inr (by simp)
    | succ i =>
      simp at hx
      rcases h4 i x hx with ⟨e, hl⟩ | hl
      · exact .inl ⟨e, by simpa using hl⟩
      · exact .inr (by simpa using hl)
  | [], _ :: _, h => by cases h
  | _ :: _, [], h => by cases h

/-- objects of the end may be forgotten, if no slot that is kept names them. -/
theorem le_of {sl sl' : List AV} {M M' Mx : Mem} (h : leSl sl sl') (hM : M = M' ++ Mx) (hf : AV.freeL ((List.range Mx.length).map (· + M'.length)) sl' = true)
    (hm : ∀ ob, some ob ∈ M' → AV.freeL ((List.range Mx.length).map (· + M'.length)) ob.xs = true) : Le ⟨sl, M⟩ ⟨sl', M'⟩ := by
  intro C a w hS
  obtain ⟨hv, hd, hsz, hsl, hMR, hF⟩ := hS
  subst hM
  let Z := (List.range Mx.length).map (· + M'.length)
  have hZ : ∀ i, i ∈ Z ↔ M'.length ≤ i ∧ i < M'.length + Mx.length := by
    intro i
    simp only [Z, List.mem_map, List.mem_range]
    constructor
    · rintro ⟨j, hj, rfl⟩; omega
    · rintro ⟨h1, h2⟩; exact ⟨i - M'.length, by omega, by omega⟩
  let hv' : Nat → Option Value := fun i => if i < M'.length then hv i else none
  have hown : ∀ b, Own hv' b → Own hv b := by
    rintro b ⟨i, v, hi, hb⟩
    simp only [hv'] at hi
    split at hi
    · exact ⟨i, v, hi, hb⟩
    · cases hi
  have hs : StepR C.A w hv Z w hv' := by
    refine ⟨⟨Nat.le_refl _, fun _ _ _ => rfl, fun b _ hb => hown b hb⟩, fun i u hi h => ?_, rfl, rfl, rfl⟩
    have hlt : i < M'.length := by
      obtain ⟨ob, hob⟩ := hMR.dom i u h
      have := (List.getElem?_eq_some_iff.1 hob).1
      rw [List.length_append] at this
      rcases Nat.lt_or_ge i M'.length with h' | h'
      · exact h'
      · exact absurd ((hZ i).2 ⟨h', this⟩) hi
    simp only [hv', if_pos hlt]
    exact h
  have hfree : ∀ (l : List AV), AV.freeL Z l = true → ∀ x ∈ l, x.free Z = true := by
    intro l
    induction l with
    | nil => intro _ x hx; cases hx
    | cons y l ih =>
      intro h x hx
      simp only [AV.freeL, Bool.and_eq_true] at h
      rcases List.mem_cons.1 hx with rfl | hx
      · exact h.1
      · exact ih h.2 x hx
  obtain ⟨hlen, hget⟩ := leSl_get sl sl' h
  refine ⟨hv', hd, by rw [hsz]; exact hlen, fun i x hx => ?_, ⟨fun i ob hi => ?_, fun i v hi => ?_, fun i j vi vj b hi hj => ?_, hMR.old⟩, hF.step hs⟩
  · rcases hget i x hx with ⟨rfl, hl⟩ | hl
    · simp only at hsz hl
      exact ⟨a.tmps[i]'(by omega), Array.getElem?_eq_getElem (by omega), by simp [RV]⟩
    · obtain ⟨v, h1, h2⟩ := hsl i x hl
      have := hs.rv h2
      rw [AV.kill_free Z x (hfree sl' hf x (List.mem_of_getElem? hx))] at this
      exact ⟨v, h1, this⟩
  · have hlt : i < M'.length := (List.getElem?_eq_some_iff.1 hi).1
    obtain ⟨v, h1, h2, h3⟩ := live_step hMR hs (fun v b h1 h2 => rfl) (fun h => by have := (hZ i).1 h; omega) (by rw [List.getElem?_append_left hlt]; exact hi)
    have hk : Ob.kill Z ob = ob := by
      have := hm ob (List.mem_of_getElem? hi)
      cases ob
      simp only [Ob.kill, Ob.mk.injEq, true_and]
      rw [AV.killL_map]
      have h' := hfree _ this
      rw [List.map_congr_left (fun x hx => AV.kill_free Z x (h' x hx))]
      simp
    rw [hk] at h3
    exact ⟨v, h2, h3⟩
  · simp only [hv'] at hi
    split at hi
    · rename_i hlt
      obtain ⟨ob, hob⟩ := hMR.dom i v hi
      rw [List.getElem?_append_left hlt] at hob
      exact ⟨ob, hob⟩
    · cases hi
  · simp only [hv'] at hi hj
    split at hi
    · split at hj
      · exact hMR.inj i j vi vj b hi hj
      · cases hj
    · cases hi
end

end Aw
end Go.Proofs.Ytkolpijhgcijbaa
