/-
  The calculus: calls.
-/
import Derived.Test.YtkolpijhgcijbaaAwP
namespace Go.Proofs.Ytkolpijhgcijbaa
namespace Aw
open Go.RowKit

section
variable {P : Program} {own : List Nat}

theorem AV.sub_pure (F : Nat → AV) (G : Nat → Nat → Nat → Nat → AV) (a : AV) : a.pure = true → a.sub F G = a := by
  refine AV.rec (motive_1 := fun a => a.pure = true → a.sub F G = a) (motive_2 := fun l => AV.pureL l = true → AV.subL F G l = l) ?_ ?_ ?_ ?_ ?_ ?_ ?_ ?_ ?_ ?_ ?_ a <;> intros <;> simp_all [AV.pure, AV.pureL, AV.sub, AV.subL]

theorem coe_pure {M : Mem} {a : AV} (h : a.pure = true) : Coe false M a a := by
  intro A w hv v hM hx
  have := RV_sub (T := OwnA A hv) (T' := OwnA A hv) (hv := hv) (hv' := noHv) (F := fun _ => .bot) (G := fun _ _ _ _ => .bot) (fun b h => h) (fun i v h => ?_) (fun i => rfl) (fun i k j off us h => R_botq h) (fun _ _ _ _ => rfl) a v hx
  · rw [AV.sub_pure _ _ a h] at this
    simpa using this
  · obtain ⟨ob, hob⟩ := hM.dom i v h
    simp only [R]; exact ⟨v, rfl, (hM_ob hM hob h).one⟩

theorem coe_frz (M : Mem) (x : AV) : Coe true M x (frz M x) := by
  intro A w hv v hM hx
  have hown : ∀ b, ¬ Own noHv b := fun b h => by obtain ⟨i, v, h, _⟩ := h; simp [noHv] at h
  refine RV_sub (T := OwnA A hv) (T' := fun _ => False) (hv := hv) (hv' := noHv) (fun b h => h.elim) (fun i v h => ?_) (fun i => ?_) (fun i k j off us h => R_botq h) (fun _ _ _ _ => rfl) x v hx
  · obtain ⟨ob, hob⟩ := hM.dom i v h
    simp only [hob]
    split
    · rename_i hp
      simp only [Bool.and_eq_true, Option.isNone_iff_eq_none] at hp
      obtain ⟨hm, hp⟩ := hp
      obtain ⟨us, hrow, hk, hus⟩ := (hM_ob hM hob h).row hm
      have hus' := RL_pure ob.xs hv noHv us hp hus
      have hkeep : Keeps w (OwnA A hv) w (fun _ => False) := ⟨Nat.le_refl _, fun _ _ _ => rfl, fun b _ h => h.elim⟩
      have hus2 := RL_keep hkeep (Z := []) (hv := noHv) (hv' := noHv) (fun _ _ _ h => h) _ _ hus'
      rw [AV.killL_nil] at hus2
      simp only [R]
      rcases hrow.2 with ⟨rfl, h0⟩ | ⟨g, cap, cur, rfl, _, hg, hnc, hcm, hcs, htk⟩
      · have he : ob.xs = [] := List.eq_nil_of_length_eq_zero h0
        rw [he]
        exact ⟨none, 0, [], by simp, Nat.le_refl _, Nat.zero_le _, by simp, by simp [RL], fun h => absurd rfl h⟩
      · refine ⟨_, cap, us, rfl, hnc, hcm, hk, hus2, fun _ => ⟨g, 0, rfl, (Array.getElem?_eq_some_iff.1 hg).1, fun h' => h', fun j u hu => ?_⟩⟩
        have := hrow.cells (g := g) rfl j u hu
        rw [Addr.add_lit] at this
        exact this
    · simp only [R]; exact ⟨v, rfl, (hM_ob hM hob h).one⟩
  · split
    · split <;> rfl
    · rfl

/-- the nil slice reads as the empty list. -/
theorem coe_nil (lend : Bool) (M : Mem) (k : Nat) : Coe lend M (.v (.slice none 0 0)) (.s k []) := by
  intro A w hv v hM hx
  simp only [RV] at hx
  subst hx
  simp only [RV, R]
  exact ⟨none, 0, [], by simp, Nat.le_refl _, Nat.zero_le _, by simp, by simp [RL], fun h => absurd rfl h⟩

theorem coel_pure {M : Mem} : ∀ {as : List AV}, AV.pureL as = true → CoeL false M as as
  | [], _ => trivial
  | a :: as, h => by
    simp only [AV.pureL, Bool.and_eq_true] at h
    exact ⟨coe_pure h.1, coel_pure h.2⟩

theorem coel_frz (M : Mem) : ∀ (as : List AV), CoeL true M as (as.map (frz M))
  | [] => trivial
  | a :: as => ⟨coe_frz M a, coel_frz M as⟩

theorem Ob.up_pure (ob : Ob) (m : Nat) (h : AV.pureL ob.xs = true) : ob.up m = ob := by
  cases ob with
  | mk mp ty k xs =>
    simp only [Ob.up, Ob.mk.injEq, true_and]
    simp only at h
    have : ∀ l : List AV, AV.pureL l = true → l.map (AV.up m) = l := by
      intro l
      induction l with
      | nil => intro _; rfl
      | cons x l ih =>
        intro h
        simp only [AV.pureL, Bool.and_eq_true] at h
        rw [List.map_cons, ih h.2, AV.up, AV.sub_pure _ _ x h.1]
    exact this xs h

/-- a call whose result is a value. -/
theorem acall_v {f : FuncId} {as : List AV} {M : Mem} {K : HK (AV → Mem → Prop)} {x : AV} (spec : ASpec P f as (fun r Ms => r = x ∧ Ms = [])) (ha : AV.pureL as = true) (hx : x.pure = true) (h : K.k x M) : ACall P f as M (K := K) := by
  refine ⟨false, as, _, coel_pure ha, spec, ?_⟩
  rintro r Ms ⟨rfl, rfl⟩
  refine ⟨fun e => (by cases e), ?_⟩
  rw [AV.up, AV.sub_pure _ _ _ hx]
  simpa using h

/-- the same; objects are lent. -/
theorem acall_l {f : FuncId} {as bs : List AV} {M : Mem} {K : HK (AV → Mem → Prop)} {x : AV} (spec : ASpec P f bs (fun r Ms => r = x ∧ Ms = [])) (hb : as.map (frz M) = bs) (hx : x.pure = true) (ht : x.tfree = true) (h : K.k x M) : ACall P f as M (K := K) := by
  refine ⟨true, bs, _, hb ▸ coel_frz M as, spec, ?_⟩
  rintro r Ms ⟨rfl, rfl⟩
  refine ⟨fun e => ⟨ht, by simp⟩, ?_⟩
  rw [AV.up, AV.sub_pure _ _ _ hx]
  simpa using h

/-- a call that brings a new object. -/
theorem acall_o {f : FuncId} {as : List AV} {M : Mem} {K : HK (AV → Mem → Prop)} {x : AV} {ob : Ob} (spec : ASpec P f as (fun r Ms => r = x ∧ Ms = [ob])) (ha : AV.pureL as = true) (hob : AV.pureL ob.xs = true) (h : K.k (x.up M.length) (M ++ [some ob])) : ACall P f as M (K := K) := by
  refine ⟨false, as, _, coel_pure ha, spec, ?_⟩
  rintro r Ms ⟨rfl, rfl⟩
  refine ⟨fun e => (by cases e), ?_⟩
  simpa [Ob.up_pure ob _ hob] using h

theorem acall_lo {f : FuncId} {as bs : List AV} {M : Mem} {K : HK (AV → Mem → Prop)} {x : AV} {ob : Ob} (spec : ASpec P f bs (fun r Ms => r = x ∧ Ms = [ob])) (hb : as.map (frz M) = bs) (hob : AV.pureL ob.xs = true) (hx : x.tfree = true) (ht : AV.tfreeL ob.xs = true) (h : K.k (x.up M.length) (M ++ [some ob])) : ACall P f as M (K := K) := by
  refine ⟨true, bs, _, hb ▸ coel_frz M as, spec, ?_⟩
  rintro r Ms ⟨rfl, rfl⟩
  refine ⟨fun e => ⟨hx, by simpa using ht⟩, ?_⟩
  simpa [Ob.up_pure ob _ hob] using h

theorem pureL_map {α : Type} (f : α → AV) (h : ∀ a, (f a).pure = true) (l : List α) : AV.pureL (l.map f) = true := by
  induction l with
  | nil => rfl
  | cons x l ih => simp [AV.pureL, h, ih]
theorem tfreeL_map {α : Type} (f : α → AV) (h : ∀ a, (f a).tfree = true) (l : List α) : AV.tfreeL (l.map f) = true := by
  induction l with
  | nil => rfl
  | cons x l ih => simp [AV.tfreeL, h, ih]
theorem killL_pure (Z : List Nat) (l : List AV) (h : AV.pureL l = true) : AV.killL Z l = l := by
  induction l with
  | nil => rfl
  | cons x l ih =>
    simp only [AV.pureL, Bool.and_eq_true] at h
    simp only [AV.killL, AV.kill_pure Z x h.1, ih h.2]

/-- a struct of two numbers. -/
def prA (l : Int × Int) : AV := .g [I l.1, I l.2]
def prsA (l : List (Int × Int)) : List AV := l.map prA
theorem prsA_len (l : List (Int × Int)) : (prsA l).length = l.length := by simp [prsA]
theorem aget_prs {l : List (Int × Int)} {j : Nat} (h : j < l.length) (K : HK (AV → Prop)) : @AGet (prsA l) j K = K.k (.g [I l[j].1, I l[j].2]) := by simp [AGet, prsA, prA, h]
theorem prsA_pure (l : List (Int × Int)) : AV.pureL (prsA l) = true := pureL_map prA (fun _ => rfl) l
theorem intsA_pure (l : List Int) : AV.pureL (intsA l) = true := pureL_map _ (fun _ => rfl) l
theorem prsA_tfree (l : List (Int × Int)) : AV.tfreeL (prsA l) = true := tfreeL_map prA (fun _ => rfl) l
theorem intsA_tfree (l : List Int) : AV.tfreeL (intsA l) = true := tfreeL_map _ (fun _ => rfl) l
theorem intsA_kill (Z : List Nat) (l : List Int) : AV.killL Z (intsA l) = intsA l := killL_pure Z _ (intsA_pure l)
theorem prsA_kill (Z : List Nat) (l : List (Int × Int)) : AV.killL Z (prsA l) = prsA l := killL_pure Z _ (prsA_pure l)
theorem intsA_app (l : List Int) (x : Int) : intsA l ++ [I x] = intsA (l ++ [x]) := by simp [intsA]
theorem prsA_app (l : List (Int × Int)) (a b : Int) : prsA l ++ [.g [I a, I b]] = prsA (l ++ [(a, b)]) := by simp [prsA, prA]
end
end Aw
end Go.Proofs.Ytkolpijhgcijbaa
