/-
  Parts of several texts in one: AwI, AwJ, AwM, AwN, AwO, AwP, AwQ, AwR, AwS.
-/
import Derived.Test.YtndniceeibflcaaGreatDoorProg
import Derived.WalkKit
import Derived.Lib.ConvBytes
import Derived.LaidEql
import Derived.Lib.ItoaNum
import Derived.Lib.LaidTab
import Derived.KernelRfl
import GoSem.Claims
import GoSem.ClaimJoined
import Derived.Orders
import Derived.Laws.StructEq
import Derived.Maps.Keyed
import Derived.Lib.Strings
import Derived.Maps.AppendAt
import Derived.Laws.Concat
import Derived.MapKept
import Derived.Laws.MakeOwn
import Derived.Scope
import Derived.Test.YtndniceeibflcaaGreatDoorLaa
import Derived.Test.YtndniceeibflcaaGreatDoorLab
import Derived.Test.YtndniceeibflcaaGreatDoorLac
set_option linter.unusedSimpArgs false
set_option linter.unusedVariables false
namespace Go.Proofs.YtndniceeibflcaaGreatDoor
namespace Aw
end Aw
namespace Mp
end Mp
end Go.Proofs.YtndniceeibflcaaGreatDoor
namespace Go.Proofs.YtndniceeibflcaaGreatDoor
namespace Aw
open Go.RowKit

section
variable {w : World} {T T' : Nat → Prop} {hv hv' : Nat → Option Value} {F : Nat → AV} {G : Nat → Nat → Nat → Nat → AV}

end

section
variable {P : Program}

theorem res_ok {C : Ctx} {σ : St} {a : Act} {w : World} {fn : Func} {hv : Nat → Option Value} {x : AV} (hsl : ∀ (i : Nat) (x : AV), σ.sl[i]? = some x → ∃ v, a.tmps[i]? = some v ∧ RV w (OwnA C.A hv) hv x v) (hM : MemR C.A w hv σ.M)
    (h : resA P fn.results.toList σ = some x) : ∃ v, (results fn a.tmps).run P w = .ok v w ∧ RV w (OwnA C.A hv) hv x v := by
  have hget : ∀ t, RV w (OwnA C.A hv) hv (σ.sl.getD t .bot) (a.tmps.getD t undef) := fun t => ev_ok (σ := σ) (C := C) hsl (.tmp t)
  have one : ∀ (r : ResultVar) (y : AV), resOne P σ r = some y → ∃ v, (match r with | .tmp t => pure (a.tmps.getD t undef) | .cell q t => do loadVar t (← asAddr (a.tmps.getD q undef)) : Sem Value).run P w = .ok v w ∧ RV w (OwnA C.A hv) hv y v := by
    intro r y hr
    cases r with
    | tmp t => simp only [resOne, Option.some.injEq] at hr; subst hr; exact ⟨_, rfl, hget t⟩
    | cell t ty =>
      simp only [resOne] at hr
      split at hr
      · rename_i ti id k j off hti hq
        split at hr
        · rename_i ob hob
          split at hr
          · rename_i hc
            obtain ⟨rfl, hj⟩ := hc
            have hxv := hget t
            rw [hq] at hxv
            simp only [RV, R] at hxv
            obtain ⟨b, n, c, hb, e1⟩ := hxv
            injection e1 with e1
            obtain ⟨g, cap, ws, e2, h1, hc⟩ := ob_cells (hM_ob hM hob hb) (hM_ob hM hob hb).slice hj
            injection e2 with e2
            injection e2 with e2
            injection e2 with e2
            subst e2
            obtain ⟨u, hu, hru⟩ := load_ok hti h1 hc hr
            exact ⟨u, by simp [e1, asAddr, hu], hru⟩
          · cases hr
        · cases hr
      · cases hr
  have many : ∀ (rs : List ResultVar) (ys : List AV), resL P σ rs = some ys → ∃ vs, (rs.mapM (m := Sem) fun r => match r with | .tmp t => pure (a.tmps.getD t undef) | .cell q t => do loadVar t (← asAddr (a.tmps.getD q undef))).run P w = .ok vs w ∧ RVL w (OwnA C.A hv) hv ys vs := by
    intro rs
    induction rs with
    | nil => intro ys h; simp only [resL, Option.some.injEq] at h; subst h; exact ⟨[], rfl, by simp [RVL]⟩
    | cons r rs ih =>
      intro ys h
      simp only [resL] at h
      split at h
      · rename_i y ys' hy hys
        injection h with h
        subst h
        obtain ⟨v, hv1, hv2⟩ := one r y hy
        obtain ⟨vs, hvs1, hvs2⟩ := ih ys' hys
        refine ⟨v :: vs, ?_, by simp only [RVL]; exact ⟨v, vs, rfl, hv2, hvs2⟩⟩
        simp only [List.mapM_cons, Sem.run_bind, hv1, Result.andThen_ok, hvs1, Sem.run_pure]
      · cases h
  have hres : ∀ vs : List Value, (fn.results.toList.mapM (m := Sem) fun r => match r with | .tmp t => pure (a.tmps.getD t undef) | .cell q t => do loadVar t (← asAddr (a.tmps.getD q undef))).run P w = .ok vs w →
      (results fn a.tmps).run P w = .ok (if h : vs.toArray.size = 1 then vs.toArray[0] else .tuple vs.toArray) w := by
    intro vs h
    unfold results
    rw [Array.mapM_eq_mapM_toList]
    simp only [Sem.run_bind, Sem.run_map, Sem.run_pure]
    exact (congrArg (fun z : Result (List Value) => (z.andThen fun a w' => Result.ok a.toArray w').andThen fun a w' => Result.ok (if h : a.size = 1 then a[0] else Value.tuple a) w') h)
  unfold resA at h
  split at h
  · rename_i y hy
    injection h with h
    subst h
    obtain ⟨vs, h1, h2⟩ := many _ _ hy
    simp only [RVL] at h2
    obtain ⟨v, us, rfl, h3, rfl⟩ := h2
    exact ⟨v, by rw [hres _ h1]; rfl, h3⟩
  · rename_i ys hne hy
    injection h with h
    subst h
    obtain ⟨vs, h1, h2⟩ := many _ _ hy
    refine ⟨.tuple vs.toArray, ?_, by simp only [RV]; exact ⟨_, rfl, by simpa using h2⟩⟩
    rw [hres _ h1]
    have hl : ∀ (l : List AV) (us : List Value), RVL w (OwnA C.A hv) hv l us → us.length = l.length := by
      intro l
      induction l with
      | nil => intro us h; simp only [RVL] at h; subst h; rfl
      | cons x l ih => intro us h; simp only [RVL] at h; obtain ⟨u, us, rfl, _, h⟩ := h; simp [ih us h]
    rw [dif_neg]
    intro h1
    have := hl _ _ h2
    simp only [List.size_toArray] at h1
    rw [h1] at this
    match ys, this with
    | [y], _ => exact hne y rfl
  · cases h

theorem rvl_get {w : World} {T : Nat → Prop} {hv : Nat → Option Value} : ∀ (l : List AV) (us : List Value), RVL w T hv l us → us.length = l.length ∧ ∀ (i : Nat) (x : AV), l[i]? = some x → ∃ v, us[i]? = some v ∧ RV w T hv x v
  | [], us, h => by simp only [RVL] at h; subst h; simp
  | x :: l, us, h => by
    simp only [RVL] at h
    obtain ⟨u, us, rfl, h1, h2⟩ := h
    obtain ⟨h3, h4⟩ := rvl_get l us h2
    refine ⟨by simp [h3], fun i y hy => ?_⟩
    cases i with
    | zero => simp at hy; subst hy; exact ⟨u, by simp, h1⟩
    | succ i => simp at hy; obtain ⟨v, h5, h6⟩ := h4 i y hy; exact ⟨v, by simpa using h5, h6⟩

/-- A FUNCTION's contract, from its body. -/
theorem aspec_of {f : FuncId} {fn : Func} {c : Code} {own : List Nat} {aS : List AV} {post : AV → List Ob → Prop} (hf : P.funcs[f]? = some fn) (hb : fn.body = some c) (hok : okFn P f = true)
    (h : @awp P own c ⟨aS ++ List.replicate (fn.ntmps - aS.length) .bot, []⟩ ⟨AEnd P fn.results.toList post⟩ ⟨fun _ _ => False⟩ ⟨fun σ _ => AEnd P fn.results.toList post σ⟩) : ASpec P f aS post := by
  refine ⟨hok, fun w vs A hG hA hvs => calls_of_wp hf hb ?_⟩
  have hown : ∀ b, ¬ Own noHv b := fun b h => by obtain ⟨i, v, h, _⟩ := h; simp [noHv] at h
  obtain ⟨hlen, hget⟩ := rvl_get aS vs hvs
  have hk : Keeps w A w (OwnA A noHv) := ⟨Nat.le_refl _, fun _ _ _ => rfl, fun b _ h => h.elim id (fun h => absurd h (hown b))⟩
  have hS : StR ⟨w, fun _ => False, A, []⟩ ⟨aS ++ List.replicate (fn.ntmps - aS.length) .bot, []⟩ { tmps := vs.toArray ++ Array.replicate (fn.ntmps - vs.toArray.size) undef, defers := [] } w := by
    refine ⟨noHv, rfl, by simp [hlen], fun i x hx => ?_, ⟨fun i ob h => by simp at h, fun i v h => by simp [noHv] at h, fun i j vi vj b h => by simp [noHv] at h, hA, hG, fun b h => absurd h (hown b)⟩, ⟨rfl, rfl, rfl, Nat.le_refl _, Nat.le_refl _, fun _ _ _ => rfl, fun b h => absurd h (hown b), hA, fun _ _ h => h⟩⟩
    rcases Nat.lt_or_ge i aS.length with hlt | hge
    · simp only [List.getElem?_append_left hlt] at hx
      obtain ⟨v, h1, h2⟩ := hget i x hx
      refine ⟨v, ?_, ?_⟩
      · rw [Array.getElem?_append_left (by simp; omega)]; simpa using h1
      · have := RV_keep hk x [] noHv noHv v (fun _ _ _ h => h) h2
        rwa [AV.kill_nil] at this
    · simp only [List.getElem?_append_right hge, List.getElem?_replicate] at hx
      split at hx
      · rename_i hr
        injection hx with hx
        subst hx
        refine ⟨undef, ?_, by simp [RV]⟩
        rw [Array.getElem?_append_right (by simp; omega)]
        simp [hlen, hr]
      · cases hx
  have fin : ∀ (σ : St) (a' : Act) (w' : World), AEnd P fn.results.toList post σ → StR ⟨w, fun _ => False, A, []⟩ σ a' w' → a'.defers = [] ∧ ∃ v, (results fn a'.tmps).run P w' = .ok v w' ∧
      ∃ r Ms v' hv, Ending.returned v = .returned v' ∧ post r Ms ∧ MemR A w' hv (Ms.map some) ∧ RV w' (OwnA A hv) hv r v' ∧ (∀ b, Own hv b → w.heap.size ≤ b) ∧ Bel w.heap.size w w' := by
    rintro σ a' w' ⟨x, hx, r, Ms, hret, hp⟩ ⟨hv, hd, _, hsl, hM, hF⟩
    obtain ⟨v, h1, h2⟩ := res_ok (C := ⟨w, fun _ => False, A, []⟩) hsl hM hx
    have hfr : ∀ b, Own hv b → w.heap.size ≤ b := fun b h => (hF.own b h).elim (fun h => h.elim) id
    obtain ⟨hv', m1, m2, m3⟩ := hret A w' hv v hM (fun b hb hAb => by have := hfr b hb; have := hA b hAb; omega) h2
    exact ⟨hd, v, h1, r, Ms, v, hv', rfl, hp, m1, m2, fun b hb => hfr b (m3 b hb), ⟨⟨hF.os, hF.tape, hF.output, hF.size, fun b hb => hF.block b hb (fun h => h)⟩, hF.drawn⟩⟩
  refine wp_mono (awp_sound c _ _ _ _ h _ _ _ hS) fun e a' w' hq => ?_
  cases e with
  | normal => obtain ⟨σ, h1, h2⟩ := hq; exact fin σ a' w' h1 h2
  | ret => obtain ⟨σ, h1, h2⟩ := hq; exact fin σ a' w' h1 h2
  | exit id => obtain ⟨σ, h1, h2⟩ := hq; exact h1.elim
  | goto l => exact hq.elim
  | panic ch => exact hq.elim
  | outgrown => exact hq.elim
end

end Aw
end Go.Proofs.YtndniceeibflcaaGreatDoor

namespace Go.Proofs.YtndniceeibflcaaGreatDoor
namespace Aw
open Go.RowKit

theorem nbeq (a b : Nat) : (a == b) = decide (a = b) := by
  by_cases h : a = b <;> simp [h]

/-- A LOOP whose states are told by an index. -/
theorem swp_loop' {P : Program} {c : Code} {N : HN} {E : HE} {Rt : HR} {σ : St} {ι : Type} (S : ι → St) (J : ι → Prop) (μ : ι → Nat) (i0 : ι) (h0 : Le σ (S i0)) (hJ : J i0)
    (round : ∀ i, J i → @SWp P c (S i) ⟨fun σ' => ∃ i', Le σ' (S i') ∧ J i' ∧ μ i' < μ i⟩ E Rt) : @SWp P (.loop c) σ N E Rt := by
  have key : @SWp P (.loop c) σ N E Rt := by
    intro C a w hS
    let m : Act → World → Nat := fun a w => by
      classical exact if h : ∃ n, ∃ i, J i ∧ StR C (S i) a w ∧ μ i = n then Classical.choose (least (fun n => ∃ i, J i ∧ StR C (S i) a w ∧ μ i = n) h) else 0
    have hm : ∀ a w n, (∃ i, J i ∧ StR C (S i) a w ∧ μ i = n) → (∃ i, J i ∧ StR C (S i) a w ∧ μ i = m a w) ∧ m a w ≤ n := by
      intro a w n hn
      have hex : ∃ n, ∃ i, J i ∧ StR C (S i) a w ∧ μ i = n := ⟨n, hn⟩
      simp only [m, dif_pos hex]
      exact ⟨(Classical.choose_spec (least _ hex)).1, (Classical.choose_spec (least _ hex)).2 n hn⟩
    refine wp_loop (fun a w => ∃ n, ∃ i, J i ∧ StR C (S i) a w ∧ μ i = n) m ⟨_, i0, hJ, h0 C a w hS, rfl⟩ ?_
    rintro a w ⟨n, hn⟩
    obtain ⟨⟨i, h1, h2, h3⟩, _⟩ := hm a w n hn
    refine wp_mono (round i h1 C a w h2) fun e a' w' hq => ?_
    cases e with
    | normal =>
      obtain ⟨σ', ⟨i', hle, hI', hlt⟩, hS'⟩ := hq
      have hJ' : ∃ i, J i ∧ StR C (S i) a' w' ∧ μ i = μ i' := ⟨i', hI', hle C a' w' hS', rfl⟩
      exact ⟨⟨_, hJ'⟩, by have := (hm a' w' _ hJ').2; omega⟩
    | exit id => exact hq
    | ret => exact hq
    | goto l => exact hq.elim
    | panic ch => exact hq.elim
    | outgrown => exact hq.elim
  exact key

theorem le_sl {sl sl' : List AV} {M : Mem} (h : leSl sl sl') : Le ⟨sl, M⟩ ⟨sl', M⟩ :=
  le_of (Mx := []) h (by simp) (by
    have : ∀ l : List AV, AV.freeL [] l = true := fun l => by induction l <;> simp_all [AV.freeL, AV.free_nil]
    exact this sl') (fun ob _ => by
    have : ∀ l : List AV, AV.freeL [] l = true := fun l => by induction l <;> simp_all [AV.freeL, AV.free_nil]
    exact this ob.xs)

theorem aend_frz {P : Program} {rs : List ResultVar} {post : AV → List Ob → Prop} {σ : St} {x : AV} (hx : resA P rs σ = some x) (hp : post (frz σ.M x) []) : AEnd P rs post σ := ⟨x, hx, _, _, ret_frz σ.M x, hp⟩
theorem aend_exp {P : Program} {rs : List ResultVar} {post : AV → List Ob → Prop} {σ : St} {x : AV} (i : Nat) {ob : Ob} (hx : resA P rs σ = some x) (hi : σ.M[i]? = some (some ob)) (hb : AV.pureL ob.xs = true) (hp : post (exp1 i x) [ob]) : AEnd P rs post σ := ⟨x, hx, _, _, ret_exp1 σ.M x i ob hi hb, hp⟩

def intsA (l : List Int) : List AV := l.map fun n => I n
theorem intsA_len (l : List Int) : (intsA l).length = l.length := by simp [intsA]
theorem aget_ints {l : List Int} {j : Nat} (h : j < l.length) (K : HK (AV → Prop)) : @AGet (intsA l) j K = K.k (I l[j]) := by simp [AGet, intsA, h]
end Aw
end Go.Proofs.YtndniceeibflcaaGreatDoor

namespace Go.Proofs.YtndniceeibflcaaGreatDoor
namespace Aw
open Go.RowKit

section
variable {P : Program} {own : List Nat}

theorem callC_congr {c : Call} {ρ ρ' : Operand → AV} {M : Mem} {K : HK Kont} (h : ∀ x ∈ c.operands, ρ x = ρ' x) (hc : callC P c ρ M (K := K)) : callC P c ρ' M (K := K) := by
  obtain ⟨callee, args, tys⟩ := c
  have ha : ∀ x ∈ args.toList, ρ x = ρ' x := fun x hx => h x (by simp only [Call.operands]; exact Array.mem_append_right _ (by simpa using hx))
  have hm : args.toList.map ρ = args.toList.map ρ' := List.map_congr_left ha
  cases callee with
  | value f =>
    have hf : ρ f = ρ' f := h f (by simp [Call.operands])
    cases f <;> simp only [callC] at hc ⊢
    case func f => rw [← hm]; exact hc
    all_goals rw [← hm, ← hf]; exact hc
  | invoke r m => simp only [callC] at hc
  | builtin b =>
    cases b <;> simp only [callC] at hc <;> dsimp only [callC]
    case len =>
      split at hc
      · rename_i x t hx ht
        rw [hx] at ha
        rw [ha x (by simp)] at hc
        exact hc
      · exact hc.elim
    case min =>
      split at hc
      · rename_i x y hx
        rw [hx] at ha
        rw [ha x (by simp), ha y (by simp)] at hc
        exact hc
      · exact hc.elim
    case max =>
      split at hc
      · rename_i x y hx
        rw [hx] at ha
        rw [ha x (by simp), ha y (by simp)] at hc
        exact hc
      · exact hc.elim
    case append =>
      split at hc
      · rename_i x y t t' hx ht
        rw [hx] at ha
        rw [ha x (by simp), ha y (by simp)] at hc
        exact hc
      · exact hc.elim

theorem coreC_congr {o : Oper} {ρ ρ' : Operand → AV} {M : Mem} {K : HK Kont} (h : ∀ x ∈ o.op.operands, ρ x = ρ' x) (hc : coreC P own o ρ M (K := K)) : coreC P own o ρ' M (K := K) := by
  obtain ⟨dst, op, ty, pos, aft, gd⟩ := o
  cases op <;> simp only [Op.operands] at h <;> simp only [coreC] at hc ⊢
  case move x => rw [← h x (by simp)]; exact hc
  case assign x => rw [← h x (by simp)]; exact hc
  case pick c a b => rw [← h c (by simp), ← h a (by simp), ← h b (by simp)]; exact hc
  case box t x => rw [← h x (by simp)]; exact hc
  case alloc t => exact hc
  case load t x => rw [← h x (by simp)]; exact hc
  case store t x y => rw [← h x (by simp), ← h y (by simp)]; exact hc
  case fieldAddr t x f => rw [← h x (by simp)]; exact hc
  case indexAddr t x i => rw [← h x (by simp), ← h i (by simp)]; exact hc
  case binOp op ty x y r => rw [← h x (by simp), ← h y (by simp)]; exact hc
  case convert s d x => rw [← h x (by simp)]; exact hc
  case index t x i => rw [← h x (by simp), ← h i (by simp)]; exact hc
  case makeInterface t x => rw [← h x (by simp)]; exact hc
  case unOp op t x => cases op <;> simp only [coreC] at hc ⊢ <;> (rw [← h x (by simp)]; exact hc)
  case build t parts =>
    rw [← List.map_congr_left (f := fun ix : Nat × Operand => (ix.1, ρ ix.2)) (g := fun ix => (ix.1, ρ' ix.2)) fun x hx => by
      simp only [h x.2 (by simpa using ⟨x.1, by simpa using hx⟩)]]
    exact hc
  case buildSlice t n parts =>
    have hp : ∀ x ∈ parts.toList, ρ x.2 = ρ' x.2 := fun x hx => h x.2 (by simpa using ⟨x.1, by simpa using hx⟩)
    have e1 : (parts.toList.map fun ix => ρ ix.2) = (parts.toList.map fun ix => ρ' ix.2) := List.map_congr_left hp
    have e2 : ∀ n : Nat, (parts.toList.all fun ix => (ρ ix.2).cellular && (ρ ix.2).flat && (ρ ix.2).size == n) = (parts.toList.all fun ix => (ρ' ix.2).cellular && (ρ' ix.2).flat && (ρ' ix.2).size == n) := fun n => by
      rw [Bool.eq_iff_iff, List.all_eq_true, List.all_eq_true]
      exact ⟨fun H x hx => by rw [← hp x hx]; exact H x hx, fun H x hx => by rw [hp x hx]; exact H x hx⟩
    obtain ⟨ti, hti, hc⟩ := AOpt_elim hc
    obtain ⟨e, he, hc⟩ := AOpt_elim hc
    obtain ⟨te, hte, hc⟩ := AOpt_elim hc
    simp only [hti, he, hte, AOpt_some, ← e2]
    rw [← e1]
    exact hc
  case extract x i => rw [← h x (by simp)]; exact hc
  case field t x f => rw [← h x (by simp)]; exact hc
  case slice t x lo hi mx =>
    have hb : ∀ y : Option Operand, (∀ z, y = some z → ρ z = ρ' z) → bndA ρ y = bndA ρ' y := by
      intro y hy
      cases y with
      | none => rfl
      | some z => simp only [bndA, hy z rfl]
    have e1 := hb lo (fun z hz => h z (by subst hz; simp))
    have e2 := hb hi (fun z hz => h z (by subst hz; simp))
    cases mx <;> simp only [coreC] at hc ⊢
    rw [← h x (by simp), ← e1, ← e2]
    exact hc
  case makeFunc fn first cap =>
    have hp : ∀ x ∈ cap.toList, ρ x = ρ' x := fun x hx => h x (Array.mem_append_right _ (by simpa using hx))
    have e1 : cap.toList.map ρ = cap.toList.map ρ' := List.map_congr_left hp
    have e2 : (cap.toList.all fun x => (ρ x).cellular && (ρ x).single) = (cap.toList.all fun x => (ρ' x).cellular && (ρ' x).single) := by
      rw [Bool.eq_iff_iff, List.all_eq_true, List.all_eq_true]
      exact ⟨fun H x hx => by rw [← hp x hx]; exact H x hx, fun H x hx => by rw [hp x hx]; exact H x hx⟩
    rw [← e1, ← e2]
    exact hc
  case nilCheck x => rw [← h x (by simp)]; exact hc
  case makeMap t r => cases r with | none => exact hc | some r => exact False.elim hc
  case lookup t m x ok => rw [← h m (by simp), ← h x (by simp)]; exact hc
  case mapUpdate t m x y => rw [← h m (by simp), ← h x (by simp), ← h y (by simp)]; exact hc
  case insert t m x y => rw [← h m (by simp), ← h x (by simp), ← h y (by simp)]; exact hc
  case makeSlice t l c => rw [← h l (by simp), ← h c (by simp)]; exact hc
  case call c => exact callC_congr h hc

/-- what an operation can change. -/
def Op.cls : Op → Nat
  | .store .. => 1
  | .mapUpdate .. => 1
  | .insert .. => 1
  | .call c => (match c.callee with | .builtin .append => 2 | _ => 0)
  | _ => 0

def MLe (M0 M : Mem) : Prop := ∀ i ob, obA M0 i = some ob → obA M i = some ob

theorem MLe.refl (M : Mem) : MLe M M := fun _ _ h => h
theorem MLe.trans {M M' M'' : Mem} (h : MLe M M') (k : MLe M' M'') : MLe M M'' := fun i ob hi => k i ob (h i ob hi)
theorem MLe.app (M N : Mem) : MLe M (M ++ N) := fun i ob h => by
  have := obA_eq h
  have hlt := (List.getElem?_eq_some_iff.1 this).1
  unfold obA
  rw [List.getElem?_append_left hlt, this]
theorem MLe.nil (M : Mem) : MLe [] M := fun i ob h => by simp [obA] at h

def Cls (o : Oper) (M : Mem) (Z : List Nat) (M' : Mem) : Prop := (Op.cls o.op < 2 → Z = []) ∧ (Op.cls o.op < 1 → MLe M M')

theorem AOpt_mono {α : Type} {x : Option α} {K K' : HK (α → Prop)} (h : ∀ a, x = some a → K.k a → K'.k a) (hc : @AOpt α x K) : @AOpt α x K' := by
  obtain ⟨a, ha, hk⟩ := AOpt_elim hc
  have := h a ha hk
  subst ha
  exact this
theorem AAlt_mono {α : Type} {x : Option α} {K K' : HK (α → Prop)} {L L' : HK Prop} (h : ∀ a, x = some a → K.k a → K'.k a) (hl : L.k → L'.k) (hc : @AAlt α x K L) : @AAlt α x K' L' := by
  rcases AAlt_elim hc with ⟨a, ha, hk⟩ | ⟨ha, hk⟩
  · have := h a ha hk
    subst ha
    exact this
  · have := hl hk
    subst ha
    exact this
theorem ACond_mono {b : Bool} {x y x' y' : HK Prop} (h : x.k → x'.k) (hl : y.k → y'.k) (hc : @ACond b x y) : @ACond b x' y' := ⟨fun e => h (hc.1 e), fun e => hl (hc.2 e)⟩
theorem AGet_mono {xs : List AV} {j : Nat} {K K' : HK (AV → Prop)} (h : ∀ x, K.k x → K'.k x) (hc : @AGet xs j K) : @AGet xs j K' := by
  obtain ⟨x, hx, hk⟩ := hc
  exact ⟨x, hx, h x hk⟩
theorem AFind_mono {kt : TypeId} {ks : List Value} {v : Value} {K K' : HK (Nat → Prop)} {L L' : HK Prop} (h : ∀ j, K.k j → K'.k j) (hl : L.k → L'.k) (hc : AFind P kt ks v (K := K) (L := L)) : AFind P kt ks v (K := K') (L := L') := by
  obtain ⟨h1, h2⟩ := hc
  refine ⟨h1, ?_⟩
  rcases h2 with ⟨j, h3, h4⟩ | ⟨h3, h4⟩
  · exact .inl ⟨j, h3, h _ h4⟩
  · exact .inr ⟨h3, hl h4⟩
theorem andM {a b c : Prop} (h : b → c) (hc : a ∧ b) : a ∧ c := ⟨hc.1, h hc.2⟩
theorem ACall_mono {f : FuncId} {aS : List AV} {M : Mem} {K K' : HK (AV → Mem → Prop)} (h : ∀ r N, K.k r (M ++ N) → K'.k r (M ++ N)) (hc : ACall P f aS M (K := K)) : ACall P f aS M (K := K') := by
  obtain ⟨lend, bs, post, h1, h2, h3⟩ := hc
  exact ⟨lend, bs, post, h1, h2, fun r Ms hp => ⟨(h3 r Ms hp).1, h _ _ (h3 r Ms hp).2⟩⟩

theorem callC_mono {c : Call} {ρ : Operand → AV} {M : Mem} {K K' : HK Kont} (h : ∀ r Z M', (Op.cls (.call c) < 2 → Z = []) → (Op.cls (.call c) < 1 → MLe M M') → K.k r Z M' → K'.k r Z M') (hc : callC P c ρ M (K := K)) : callC P c ρ M (K := K') := by
  obtain ⟨callee, args, tys⟩ := c
  cases callee with
  | value f =>
    have hk : ∀ r N, K.k r [] (M ++ N) → K'.k r [] (M ++ N) := fun r N => h r [] _ (fun _ => rfl) (fun _ => MLe.app M N)
    cases f <;> simp only [callC] at hc ⊢
    case func f => revert hc; exact ACall_mono hk
    all_goals revert hc; exact AOpt_mono (fun a _ => ACall_mono hk)
  | invoke r m => simp only [callC] at hc
  | builtin b =>
    cases b <;> simp only [callC] at hc <;> dsimp only [callC]
    case len =>
      have hk : ∀ r, K.k r [] M → K'.k r [] M := fun r => h r [] _ (fun _ => rfl) (fun _ => MLe.refl M)
      split at hc
      · revert hc; exact AOpt_mono (fun a _ => AAlt_mono (fun b _ => andM (hk _)) (AOpt_mono fun _ _ => AOpt_mono fun _ _ => hk _))
      · exact hc.elim
    case min =>
      have hk : ∀ r, K.k r [] M → K'.k r [] M := fun r => h r [] _ (fun _ => rfl) (fun _ => MLe.refl M)
      split at hc
      · revert hc; exact AOpt_mono (fun a _ => hk a)
      · exact hc.elim
    case max =>
      have hk : ∀ r, K.k r [] M → K'.k r [] M := fun r => h r [] _ (fun _ => rfl) (fun _ => MLe.refl M)
      split at hc
      · revert hc; exact AOpt_mono (fun a _ => hk a)
      · exact hc.elim
    case append =>
      have hk : ∀ r Z M', K.k r Z M' → K'.k r Z M' := fun r Z M' => h r Z M' (fun hh => by simp [Op.cls] at hh) (fun hh => by simp [Op.cls] at hh)
      split at hc
      · revert hc; refine AOpt_mono (fun a _ => AOpt_mono fun b _ => AOpt_mono fun c _ => AOpt_mono fun i _ => AOpt_mono fun ob _ => ?_)
        refine AAlt_mono (fun a _ => andM (hk _ _ _)) ?_
        refine AAlt_mono (fun a _ => andM (hk _ _ _)) ?_
        exact AOpt_mono (fun a _ => AOpt_mono fun b _ => andM (hk _ _ _))
      · exact hc.elim

theorem arithC_mono {op : BinOp} {a b : Int} {K K' : HK (AV → Prop)} (h : ∀ r, K.k r → K'.k r) (hc : arithC op a b (K := K)) : arithC op a b (K := K') := by
  cases op <;> first | exact hc.elim | exact ⟨hc.1, h _ hc.2⟩

theorem arithU_mono {k : IntKind} {op : BinOp} {a b : Int} {K K' : HK (AV → Prop)} (h : ∀ r, K.k r → K'.k r) (hc : arithU k op a b (K := K)) : arithU k op a b (K := K') := by
  cases op <;> first | exact hc.elim | exact ⟨hc.1, h _ hc.2⟩ | exact h _ hc

theorem strC_mono {op : BinOp} {a b : List UInt8} {K K' : HK (AV → Prop)} (h : ∀ r, K.k r → K'.k r) (hc : strC op a b (K := K)) : strC op a b (K := K') := by
  unfold strC at hc ⊢
  revert hc; exact AAlt_mono (fun r _ => h _) (andM (h _))

theorem binC_mono {op : BinOp} {ty : TypeId} {x y : AV} {c : Bool} {K K' : HK (AV → Prop)} (h : ∀ r, K.k r → K'.k r) (hc : binC P op ty x y c (K := K)) : binC P op ty x y c (K := K') := by
  unfold binC at hc ⊢
  revert hc; refine AAlt_mono (fun kx _ => AOpt_mono fun ky _ => AAlt_mono (fun b _ => andM (h _)) (ACond_mono (andM (arithU_mono h)) (andM (arithC_mono h)))) ?_
  refine AAlt_mono (fun a _ => AOpt_mono fun b _ => AOpt_mono fun ti _ => andM (AOpt_mono fun r _ => h _)) ?_
  refine AAlt_mono (fun xs _ => AOpt_mono fun ys _ => AOpt_mono fun ti _ => AOpt_mono fun aS _ => AOpt_mono fun bs _ => andM (AOpt_mono fun r _ => h _)) ?_
  refine AAlt_mono (fun a _ => AOpt_mono fun b _ => strC_mono h) ?_
  refine AAlt_mono (fun a _ => AOpt_mono fun b _ => AOpt_mono fun r _ => andM (h _)) ?_
  refine AAlt_mono (fun a _ => AOpt_mono fun b _ => AOpt_mono fun r _ => andM (h _)) ?_
  exact AOpt_mono fun kxs _ => AOpt_mono fun _ _ => AOpt_mono fun ti _ => andM fun h2 b hb => h _ (h2 b hb)

theorem idxC_mono {t : TypeId} {M : Mem} {x : AV} {i : Int} {K K' : HK (AV → Prop)} (h : ∀ r, K.k r → K'.k r) (hc : idxC P t M x i (K := K)) : idxC P t M x i (K := K') := by
  unfold idxC at hc ⊢
  revert hc; refine AOpt_mono (fun ti _ => AAlt_mono (fun e _ => AOpt_mono fun te _ => AAlt_mono (fun kxs _ => andM (AGet_mono fun x => h _)) ?_) ?_)
  · exact AOpt_mono fun id _ => AOpt_mono fun ob _ => andM (h _)
  · exact AOpt_mono fun ne _ => AOpt_mono fun te _ => andM (AAlt_mono (fun yo _ => h _) (AOpt_mono fun q _ => h _))

theorem coreC_mono {o : Oper} {ρ : Operand → AV} {M : Mem} {K K' : HK Kont} (h : ∀ r Z M', Cls o M Z M' → K.k r Z M' → K'.k r Z M') (hc : coreC P own o ρ M (K := K)) : coreC P own o ρ M (K := K') := by
  obtain ⟨dst, op, ty, pos, aft, gd⟩ := o
  cases op
  case call c => exact callC_mono (fun r Z M' h1 h2 => h r Z M' ⟨h1, h2⟩) hc
  case mapUpdate t m x y =>
    simp only [coreC, putC] at hc ⊢
    have hk : ∀ r M', K.k r [] M' → K'.k r [] M' := fun r M' => h r [] M' ⟨fun _ => rfl, fun hh => by simp [Op.cls] at hh⟩
    revert hc; exact AOpt_mono fun ke _ => AOpt_mono fun id _ => AOpt_mono fun kv _ => AOpt_mono fun ob _ => AOpt_mono fun ks _ => andM (AFind_mono (fun j => hk _ _) (hk _ _))
  case insert t m x y =>
    simp only [coreC, putC] at hc ⊢
    have hk : ∀ r M', K.k r [] M' → K'.k r [] M' := fun r M' => h r [] M' ⟨fun _ => rfl, fun hh => by simp [Op.cls] at hh⟩
    revert hc; exact AOpt_mono fun ke _ => AOpt_mono fun id _ => AOpt_mono fun kv _ => AOpt_mono fun ob _ => AOpt_mono fun ks _ => andM (AFind_mono (fun j => hk _ _) (hk _ _))
  case store t x y =>
    simp only [coreC] at hc ⊢
    have hk : ∀ r M', K.k r [] M' → K'.k r [] M' := fun r M' => h r [] M' ⟨fun _ => rfl, fun hh => by simp [Op.cls] at hh⟩
    revert hc; exact AOpt_mono (fun ti _ => AOpt_mono fun q _ => AOpt_mono fun ob _ => andM (AGet_mono fun z => AOpt_mono fun r _ => hk _ _))
  all_goals
    have hk : ∀ r, K.k r [] M → K'.k r [] M := fun r => h r [] M ⟨fun _ => rfl, fun _ => MLe.refl M⟩
    have hn : ∀ r N, K.k r [] (M ++ N) → K'.k r [] (M ++ N) := fun r N => h r [] _ ⟨fun _ => rfl, fun _ => MLe.app M N⟩
    simp only [coreC] at hc ⊢
  case move x => exact hk _ hc
  case assign x => revert hc; exact AAlt_mono (fun _ _ => AOpt_mono fun ti _ => AOpt_mono fun e _ => AOpt_mono fun te _ => hn _ _) (hk _)
  case pick c a b => revert hc; exact AOpt_mono (fun c _ => ACond_mono (hk _) (hk _))
  case box t x => revert hc; exact andM (ACond_mono (hn _ _) (andM (hk _)))
  case alloc t => revert hc; exact AOpt_mono (fun ti _ => andM (hn _ _))
  case load t x => revert hc; exact AOpt_mono (fun ti _ => AAlt_mono (fun yo _ => AOpt_mono fun r _ => hk _) (AOpt_mono fun q _ => AOpt_mono fun ob _ => andM (AGet_mono fun y => AOpt_mono fun r _ => hk _)))
  case fieldAddr t x f => revert hc; exact AOpt_mono (fun ti _ => AOpt_mono fun fo _ => andM (AAlt_mono (fun yo _ => hk _) (AOpt_mono fun q _ => hk _)))
  case indexAddr t x i => revert hc; exact AOpt_mono (fun n _ => idxC_mono fun r => hk r)
  case binOp op ty x y r => revert hc; exact binC_mono (fun r => hk r)
  case convert s d x => revert hc; exact AAlt_mono (fun n _ => AOpt_mono fun _ _ => AOpt_mono fun _ _ => hk _) (AOpt_mono fun l _ => AOpt_mono fun ti _ => AOpt_mono fun e _ => andM (hk _))
  case index t x i => revert hc; exact AOpt_mono (fun ti _ => AOpt_mono fun n _ => AAlt_mono (fun l _ => andM (hk _)) (AOpt_mono fun xs _ => AOpt_mono fun me _ => AOpt_mono fun te _ => andM (AGet_mono fun x => hk _)))
  case makeInterface t x => revert hc; exact AOpt_mono (fun v _ => andM (hk _))
  case unOp op t x =>
    cases op <;> simp only [coreC] at hc ⊢
    case not => revert hc; exact AOpt_mono (fun b _ => hk _)
    case neg => revert hc; exact AOpt_mono (fun n _ => andM (hk _))
  case build t parts => revert hc; exact AOpt_mono (fun ti _ => AOpt_mono fun cells _ => andM (hk _))
  case buildSlice t n parts => revert hc; exact AOpt_mono (fun ti _ => AOpt_mono fun e _ => AOpt_mono fun te _ => andM (ACond_mono (hn _ _) (andM (hk _))))
  case extract x i => revert hc; exact AOpt_mono (fun xs _ => AOpt_mono fun r _ => hk _)
  case field t x f => revert hc; exact AOpt_mono (fun ti _ => AOpt_mono fun xs _ => AOpt_mono fun fo _ => AOpt_mono fun ft _ => AOpt_mono fun tf _ => AOpt_mono fun r _ => hk _)
  case slice t x lo hi mx =>
    cases mx <;> simp only [coreC] at hc ⊢
    revert hc; exact AOpt_mono (fun ti _ => AAlt_mono (fun kxs _ => AOpt_mono fun lo _ => AOpt_mono fun hi _ => AOpt_mono fun e _ => AOpt_mono fun te _ => andM (hk _)) (AOpt_mono fun l _ => AOpt_mono fun lo _ => AOpt_mono fun hi _ => andM (hk _)))
  case makeFunc fn first cap => exact ⟨hc.1, hk _ hc.2⟩
  case nilCheck x => revert hc; exact AAlt_mono (fun yo _ => hk _) (AOpt_mono fun q _ => hk _)
  case makeMap t r =>
    cases r <;> simp only [coreC] at hc ⊢
    revert hc; exact andM (hn _ _)
  case lookup t m x ok => revert hc; exact AOpt_mono fun ke _ => AOpt_mono fun id _ => AOpt_mono fun kv _ => AOpt_mono fun ob _ => AOpt_mono fun ks _ => AOpt_mono fun z _ => andM (AFind_mono (fun j => AGet_mono fun y => hk _) (hk _))
  case makeSlice t l c => revert hc; exact AOpt_mono fun ti _ => AOpt_mono fun e _ => AOpt_mono fun te _ => AOpt_mono fun z _ => AOpt_mono fun kn _ => AOpt_mono fun kn' _ => andM (hn _ _)
end
end Aw
end Go.Proofs.YtndniceeibflcaaGreatDoor

namespace Go.Proofs.YtndniceeibflcaaGreatDoor
namespace Aw
open Go.RowKit

section
variable {P : Program} {own : List Nat}

def det (P : Program) (own : List Nat) (o : Oper) : Bool :=
  match o.op with
  | .convert _ _ _ | .index _ _ _ | .makeInterface _ _ | .move _ | .pick _ _ _ | .load _ _ | .fieldAddr _ _ _ | .indexAddr _ _ _ | .build _ _ | .extract _ _ | .field _ _ _ | .nilCheck _ | .lookup _ _ _ _ | .unOp .not _ _ | .unOp .neg _ _ | .slice _ _ _ _ none => true
  | .assign _ => !own.contains (o.dst.getD 0)
  | .buildSlice _ _ _ => !own.contains (o.dst.getD 0)
  | .binOp _ ty _ _ _ => (match tiOf P ty with | some ti => ti.elem.isNone | none => true)
  | .call c => (match c.callee with | .builtin .len | .builtin .min | .builtin .max => true | _ => false)
  | _ => false

def Dt (Φ : AV → Prop) (M0 : Mem) (G : Mem → HK Kont → Prop) : Prop := ∃ r, Φ r ∧ ∀ M, MLe M0 M → ∀ K : HK Kont, K.k r [] M → G M K

section
variable {Φ : AV → Prop} {M0 : Mem}
theorem dt_pure {r : AV} (h : Φ r) : Dt Φ M0 (fun M K => K.k r [] M) := ⟨r, h, fun _ _ _ hk => hk⟩
theorem dt_opt {α : Type} {x : Option α} {F : HK (α → Prop)} {G : α → Mem → HK Kont → Prop} (h : ∀ a, x = some a → F.k a → Dt Φ M0 (G a)) (hc : @AOpt α x F) : Dt Φ M0 (fun M K => @AOpt α x ⟨fun a => G a M K⟩) := by
  obtain ⟨a, rfl, hk⟩ := AOpt_elim hc
  exact h a rfl hk
theorem dt_optM {α : Type} {x : Mem → Option α} {F : HK (α → Prop)} {G : α → Mem → HK Kont → Prop} (hx : ∀ M a, MLe M0 M → x M0 = some a → x M = some a) (h : ∀ a, F.k a → Dt Φ M0 (G a)) (hc : @AOpt α (x M0) F) : Dt Φ M0 (fun M K => @AOpt α (x M) ⟨fun a => G a M K⟩) := by
  obtain ⟨a, ha, hk⟩ := AOpt_elim hc
  obtain ⟨r, h1, h2⟩ := h a hk
  exact ⟨r, h1, fun M hM K hK => by show @AOpt α (x M) ⟨fun a => G a M K⟩; rw [hx M a hM ha]; exact h2 M hM K hK⟩
theorem dt_alt {α : Type} {x : Option α} {F : HK (α → Prop)} {L : HK Prop} {G : α → Mem → HK Kont → Prop} {H : Mem → HK Kont → Prop} (h : ∀ a, F.k a → Dt Φ M0 (G a)) (hl : L.k → Dt Φ M0 H) (hc : @AAlt α x F L) :
    Dt Φ M0 (fun M K => @AAlt α x ⟨fun a => G a M K⟩ ⟨H M K⟩) := by
  rcases AAlt_elim hc with ⟨a, rfl, hk⟩ | ⟨rfl, hk⟩
  · exact h a hk
  · exact hl hk
theorem dt_cond {b : Bool} {x y : HK Prop} {G H : Mem → HK Kont → Prop} (h : x.k → Dt Φ M0 G) (hl : y.k → Dt Φ M0 H) (hc : @ACond b x y) : Dt Φ M0 (fun M K => @ACond b ⟨G M K⟩ ⟨H M K⟩) := by
  cases b with
  | true =>
    obtain ⟨r, h1, h2⟩ := h (hc.1 rfl)
    exact ⟨r, h1, fun M hM K hK => ⟨fun _ => h2 M hM K hK, fun e => by cases e⟩⟩
  | false =>
    obtain ⟨r, h1, h2⟩ := hl (hc.2 rfl)
    exact ⟨r, h1, fun M hM K hK => ⟨fun e => (by cases e), fun _ => h2 M hM K hK⟩⟩
theorem dt_get {xs : List AV} {j : Nat} {F : HK (AV → Prop)} {G : AV → Mem → HK Kont → Prop} (h : ∀ a, F.k a → Dt Φ M0 (G a)) (hc : @AGet xs j F) : Dt Φ M0 (fun M K => @AGet xs j ⟨fun a => G a M K⟩) := by
  obtain ⟨x, hx, hk⟩ := hc
  obtain ⟨r, h1, h2⟩ := h x hk
  exact ⟨r, h1, fun M hM K hK => ⟨x, hx, h2 M hM K hK⟩⟩
theorem dt_and {p q : Prop} {G : Mem → HK Kont → Prop} (h : q → Dt Φ M0 G) (hc : p ∧ q) : Dt Φ M0 (fun M K => p ∧ G M K) := by
  obtain ⟨r, h1, h2⟩ := h hc.2
  exact ⟨r, h1, fun M hM K hK => ⟨hc.1, h2 M hM K hK⟩⟩

theorem dt_find {kt : TypeId} {ks : List Value} {v : Value} {F : HK (Nat → Prop)} {L : HK Prop} {G : Nat → Mem → HK Kont → Prop} {H : Mem → HK Kont → Prop} (h : ∀ j, F.k j → Dt Φ M0 (G j)) (hl : L.k → Dt Φ M0 H) (hc : AFind P kt ks v (K := F) (L := L)) :
    Dt Φ M0 (fun M K => AFind P kt ks v (K := ⟨fun j => G j M K⟩) (L := ⟨H M K⟩)) := by
  obtain ⟨h1, h2⟩ := hc
  rcases h2 with ⟨j, h3, h4⟩ | ⟨h3, h4⟩
  · obtain ⟨r, g1, g2⟩ := h j h4
    exact ⟨r, g1, fun M hM K hK => ⟨h1, .inl ⟨j, h3, g2 M hM K hK⟩⟩⟩
  · obtain ⟨r, g1, g2⟩ := hl h4
    exact ⟨r, g1, fun M hM K hK => ⟨h1, .inr ⟨h3, g2 M hM K hK⟩⟩⟩

theorem arithC_dt {op : BinOp} {a b : Int} {F : HK (AV → Prop)} (hF : ∀ r, F.k r → Φ r) (hc : arithC op a b (K := F)) : Dt Φ M0 (fun M K => arithC op a b (K := ⟨fun r => K.k r [] M⟩)) := by
  cases op <;> first | exact hc.elim | exact dt_and (fun h => dt_pure (hF _ h)) hc

theorem arithU_dt {k : IntKind} {op : BinOp} {a b : Int} {F : HK (AV → Prop)} (hF : ∀ r, F.k r → Φ r) (hc : arithU k op a b (K := F)) : Dt Φ M0 (fun M K => arithU k op a b (K := ⟨fun r => K.k r [] M⟩)) := by
  cases op <;> first | exact hc.elim | exact dt_and (fun h => dt_pure (hF _ h)) hc | exact dt_pure (hF _ hc)
theorem strC_dt {op : BinOp} {a b : List UInt8} {F : HK (AV → Prop)} (hF : ∀ r, F.k r → Φ r) (hc : strC op a b (K := F)) : Dt Φ M0 (fun M K => strC op a b (K := ⟨fun r => K.k r [] M⟩)) := by
  unfold strC at hc ⊢
  revert hc
  exact dt_alt (fun r h => dt_pure (hF _ h)) (dt_and fun h => dt_pure (hF _ h))

theorem binC_dt {op : BinOp} {ty : TypeId} {x y : AV} {c : Bool} {F : HK (AV → Prop)} (hd : (match tiOf P ty with | some ti => ti.elem.isNone | none => true) = true) (hF : ∀ r, F.k r → Φ r) (hc : binC P op ty x y c (K := F)) :
    Dt Φ M0 (fun M K => binC P op ty x y c (K := ⟨fun r => K.k r [] M⟩)) := by
  unfold binC at hc ⊢
  revert hc
  refine dt_alt (fun kx => dt_opt fun ky _ => dt_alt (fun b => dt_and fun h => dt_pure (hF _ h)) (dt_cond (dt_and (arithU_dt hF)) (dt_and (arithC_dt hF)))) ?_
  refine dt_alt (fun a => dt_opt fun b _ => dt_opt fun ti _ => dt_and (dt_opt fun r _ h => dt_pure (hF _ h))) ?_
  refine dt_alt (fun xs => dt_opt fun ys _ => dt_opt fun ti _ => dt_opt fun aS _ => dt_opt fun bs _ => dt_and (dt_opt fun r _ h => dt_pure (hF _ h))) ?_
  refine dt_alt (fun a => dt_opt fun b _ => strC_dt hF) ?_
  refine dt_alt (fun a => dt_opt fun b _ => dt_opt fun r _ => dt_and fun h => dt_pure (hF _ h)) ?_
  refine dt_alt (fun a => dt_opt fun b _ => dt_opt fun r _ => dt_and fun h => dt_pure (hF _ h)) ?_
  refine dt_opt fun kxs _ => dt_opt fun _ _ => dt_opt fun ti hti => fun h => ?_
  rw [hti] at hd
  have := h.1.2
  simp only [Option.isNone_iff_eq_none] at hd
  rw [hd] at this
  cases this

theorem idxC_dt {t : TypeId} {x : AV} {i : Int} {F : HK (AV → Prop)} (hF : ∀ r, F.k r → Φ r) (hc : idxC P t M0 x i (K := F)) : Dt Φ M0 (fun M K => idxC P t M x i (K := ⟨fun r => K.k r [] M⟩)) := by
  unfold idxC at hc ⊢
  revert hc
  refine dt_opt fun ti _ => dt_alt (fun e => dt_opt fun te _ => dt_alt (fun kxs => dt_and (dt_get fun x h => dt_pure (hF _ h))) ?_) ?_
  · exact dt_opt fun id _ => dt_optM (fun M a hM ha => hM _ _ ha) fun ob => dt_and fun h => dt_pure (hF _ h)
  · exact dt_opt fun ne _ => dt_opt fun te _ => dt_and (dt_alt (fun yo h => dt_pure (hF _ h)) (dt_opt fun q _ h => dt_pure (hF _ h)))

theorem lenA_mle {M : Mem} {x : AV} {n : Int} (hM : MLe M0 M) (h : lenA M0 x = some n) : lenA M x = some n := by
  cases x with
  | o i =>
    simp only [lenA] at h ⊢
    have := hM i
    unfold obA at this
    split at h
    · rename_i ob he
      rw [he] at this
      have := this ob rfl
      split at this
      · rename_i ob' he'
        rw [he']
        simp only [Option.some.injEq] at this
        subst this
        exact h
      · cases this
    · cases h
  | s k xs => exact h
  | v a => cases a <;> first | exact h | (rename_i b c d; revert h; cases b <;> simp only [lenA] <;> intro h <;> first | exact h | (split at h <;> simp_all))
  | _ => exact h
end

theorem lenM_mle {M0 M : Mem} {x : AV} {n : Int} (hM : MLe M0 M) (h : lenM M0 x = some n) : lenA M x = none ∧ lenM M x = some n := by
  cases x with
  | o i =>
    simp only [lenM, lenA] at h ⊢
    split at h
    · rename_i ob he
      have := hM i ob (by unfold obA; rw [he])
      rw [obA_eq this]
      split at h
      · rename_i ks hks
        simp only [hks]
        exact ⟨trivial, h⟩
      · cases h
    · cases h
  | _ => simp [lenM] at h

theorem coreC_det {o : Oper} {ρ : Operand → AV} {M0 : Mem} {Φ : AV → Prop} (hd : det P own o = true) (hc : coreC P own o ρ M0 (K := ⟨fun r _ _ => Φ r⟩)) : Dt Φ M0 (fun M K => coreC P own o ρ M (K := K)) := by
  obtain ⟨dst, op, ty, pos, aft, gd⟩ := o
  cases op <;> simp only [det] at hd <;> try (cases hd; done)
  case call c =>
    obtain ⟨callee, args, tys⟩ := c
    simp only at hd
    split at hd
    · simp only [coreC, callC] at hc ⊢
      split at hc
      · rename_i x t hx ht
        revert hc
        refine dt_opt fun ti _ => fun hc => ?_
        rcases AAlt_elim hc with ⟨n, hn, h⟩ | ⟨hn, h⟩
        · obtain ⟨r, g1, g2⟩ := dt_and (Φ := Φ) (M0 := M0) (fun h => dt_pure h) h
          refine ⟨r, g1, fun M hM K hK => ?_⟩
          simp only [lenA_mle hM hn, AAlt_some]
          exact g2 M hM K hK
        · obtain ⟨ke, hke, h⟩ := AOpt_elim h
          obtain ⟨n, hn', h⟩ := AOpt_elim h
          refine ⟨I n, h, fun M hM K hK => ?_⟩
          obtain ⟨e1, e2⟩ := lenM_mle hM hn'
          simp only [e1, AAlt_none, hke, AOpt_some, e2]
          exact hK
      · exact hc.elim
    · simp only [coreC, callC] at hc ⊢
      split at hc
      · revert hc
        exact dt_opt fun n _ h => dt_pure h
      · exact hc.elim
    · simp only [coreC, callC] at hc ⊢
      split at hc
      · revert hc
        exact dt_opt fun n _ h => dt_pure h
      · exact hc.elim
    · cases hd
  all_goals simp only [coreC] at hc ⊢
  case move x => exact dt_pure hc
  case assign x =>
    simp only [Bool.not_eq_true'] at hd
    simp only [hd, Bool.false_eq_true, if_false, AAlt_none] at hc ⊢
    exact dt_pure hc
  case pick c a b => revert hc; exact dt_opt fun c _ => dt_cond (fun h => dt_pure h) (fun h => dt_pure h)
  case load t x =>
    revert hc
    exact dt_opt fun ti _ => dt_alt (fun yo => dt_opt fun r _ h => dt_pure h) (dt_opt fun q _ => dt_optM (fun M a hM ha => hM _ _ ha) fun ob => dt_and (dt_get fun y => dt_opt fun r _ h => dt_pure h))
  case fieldAddr t x f => revert hc; exact dt_opt fun ti _ => dt_opt fun fo _ => dt_and (dt_alt (fun yo h => dt_pure h) (dt_opt fun q _ h => dt_pure h))
  case indexAddr t x i => revert hc; exact dt_opt fun n _ => idxC_dt fun r h => h
  case binOp op ty x y r => exact binC_dt hd (fun r h => h) hc
  case convert s d x => revert hc; exact dt_alt (fun n => dt_opt fun _ _ => dt_opt fun _ _ => fun h => dt_pure h) (dt_opt fun l _ => dt_opt fun ti _ => dt_opt fun e _ => dt_and fun h => dt_pure h)
  case index t x i => revert hc; exact dt_opt fun ti _ => dt_opt fun n _ => dt_alt (fun l => dt_and fun h => dt_pure h) (dt_opt fun xs _ => dt_opt fun me _ => dt_opt fun te _ => dt_and (dt_get fun y h => dt_pure h))
  case makeInterface t x => revert hc; exact dt_opt fun v _ => dt_and fun h => dt_pure h
  case unOp op t x =>
    cases op <;> simp only [coreC] at hc ⊢ <;> try (cases hd; done)
    case not => revert hc; exact dt_opt fun b _ h => dt_pure h
    case neg => revert hc; exact dt_opt fun b _ => dt_and fun h => dt_pure h
  case build t parts => revert hc; exact dt_opt fun ti _ => dt_opt fun cells _ => dt_and fun h => dt_pure h
  case buildSlice t n parts =>
    simp only [Bool.not_eq_true'] at hd
    revert hc
    exact dt_opt fun ti _ => dt_opt fun e _ => dt_opt fun te _ => dt_and fun h => by
      rw [hd] at h ⊢
      rw [ACond_false] at h
      obtain ⟨r, h1, h2⟩ := dt_and (Φ := Φ) (M0 := M0) (fun h => dt_pure h) h
      exact ⟨r, h1, fun M hM K hK => ⟨fun e => (by cases e), fun _ => h2 M hM K hK⟩⟩
  case extract x i => revert hc; exact dt_opt fun xs _ => dt_opt fun r _ h => dt_pure h
  case field t x f => revert hc; exact dt_opt fun ti _ => dt_opt fun xs _ => dt_opt fun fo _ => dt_opt fun ft _ => dt_opt fun tf _ => dt_opt fun r _ h => dt_pure h
  case slice t x lo hi mx =>
    cases mx <;> simp only [coreC] at hc ⊢ <;> try (cases hd; done)
    revert hc
    exact dt_opt fun ti _ => dt_alt (fun kxs => dt_opt fun lo _ => dt_opt fun hi _ => dt_opt fun e _ => dt_opt fun te _ => dt_and fun h => dt_pure h) (dt_opt fun l _ => dt_opt fun lo _ => dt_opt fun hi _ => dt_and fun h => dt_pure h)
  case nilCheck x => revert hc; exact dt_alt (fun yo h => dt_pure h) (dt_opt fun q _ h => dt_pure h)
  case lookup t m x ok =>
    revert hc
    exact dt_opt fun ke _ => dt_opt fun id _ => dt_opt fun kv _ => dt_optM (fun M a hM ha => hM _ _ ha) fun ob => dt_opt fun ks _ => dt_opt fun z _ => dt_and (dt_find (fun j => dt_get fun y h => dt_pure h) (fun h => dt_pure h))
end
end Aw
end Go.Proofs.YtndniceeibflcaaGreatDoor

namespace Go.Proofs.YtndniceeibflcaaGreatDoor
namespace Aw
open Go.RowKit

theorem AV.kill_pure (Z : List Nat) (a : AV) : a.pure = true → a.kill Z = a := by
  refine AV.rec (motive_1 := fun a => a.pure = true → a.kill Z = a) (motive_2 := fun l => AV.pureL l = true → AV.killL Z l = l) ?_ ?_ ?_ ?_ ?_ ?_ ?_ ?_ ?_ ?_ ?_ a <;> intros <;> simp_all [AV.pure, AV.pureL, AV.kill, AV.killL]

section
variable {P : Program} {own : List Nat} {ops : Array Oper}

def St.put (σ : St) (d : Option Tmp) (r : AV) : St := ⟨setS σ.sl d r, σ.M⟩

theorem killS_nil (l : List AV) : killS [] l = l := by simp [killS]
theorem killS_map (Z : List Nat) (l : List AV) : killS Z l = l.map (AV.kill Z) := by
  apply List.ext_getElem?
  intro i
  rw [killS_get, List.getElem?_map]
theorem killS_setS (Z : List Nat) (l : List AV) (d : Option Tmp) (r : AV) : killS Z (setS l d r) = setS (killS Z l) d (r.kill Z) := by
  cases d with
  | none => rfl
  | some d => simp only [killS_map, setS, List.map_set]
theorem setS_comm (l : List AV) {d e : Option Tmp} (r s : AV) (h : ∀ t, d = some t → e ≠ some t) : setS (setS l d r) e s = setS (setS l e s) d r := by
  cases d with
  | none => rfl
  | some d =>
    cases e with
    | none => rfl
    | some e =>
      have hne : d ≠ e := fun he => h d rfl (he ▸ rfl)
      simp only [setS]
      exact List.set_comm _ _ hne
theorem setS_getD (l : List AV) {d : Option Tmp} (r : AV) {t : Nat} (h : d ≠ some t) : (setS l d r).getD t .bot = l.getD t .bot := by
  cases d with
  | none => rfl
  | some d =>
    simp only [setS, List.getD_eq_getElem?_getD]
    rw [List.getElem?_set_ne (by simpa using h)]
theorem killS_getD (Z : List Nat) (l : List AV) (t : Nat) : (killS Z l).getD t .bot = (l.getD t .bot).kill Z := by
  simp only [List.getD_eq_getElem?_getD, killS_get]
  cases l[t]? <;> simp [AV.kill]

def Seen (ops : Array Oper) (oi : Oper) (M0 : Mem) (σ0 σ : St) : Prop := (∀ t ∈ oi.looksAt ops, σ.sl.getD t .bot = σ0.sl.getD t .bot) ∧ MLe M0 σ.M

theorem ev_seen {o : Oper} {σ σ0 : St} (h : ∀ t ∈ o.looksAt ops, σ.sl.getD t .bot = σ0.sl.getD t .bot) : ∀ x ∈ o.op.operands, σ.ev x = σ0.ev x := by
  intro x hx
  cases x with
  | tmp t => exact h t (List.mem_append_left _ (List.mem_filterMap.2 ⟨.tmp t, by simpa using hx, rfl⟩))
  | const v => rfl
  | func f => rfl
  | global g => rfl

def PureC (ops : Array Oper) (oi : Oper) (σ0 : St) (r : AV) : Prop := (∀ t ∈ oi.looksAt ops, (σ0.sl.getD t .bot).pure = true) ∧ r.pure = true

theorem aop_mono {o : Oper} {σ : St} {N N' : HN} (h : ∀ r Z M', Cls o σ.M Z M' → N.k (σ.step o.dst r Z M') → N'.k (σ.step o.dst r Z M')) (hc : @aop P own ops.toList o σ N) : @aop P own ops.toList o σ N' := by
  have hb : N.k (σ.step o.dst (.t []) [] σ.M) → N'.k (σ.step o.dst (.t []) [] σ.M) := h _ _ _ ⟨fun _ => rfl, fun _ => MLe.refl _⟩
  unfold aop at hc ⊢
  split
  · rename_i hg
    simp only [hg] at hc
    exact coreC_mono h hc
  · rename_i j want hg
    simp only [hg] at hc
    revert hc
    exact AOpt_mono fun d _ => AOpt_mono fun b _ => ACond_mono (coreC_mono h) hb

theorem aop_swap {oi oj : Oper} {σ0 σ : St} {M0 : Mem} {r : AV} {N : HN} (hap : oi.apart ops oj = true) (hs : Seen ops oi M0 σ0 σ) (h2 : Op.cls oj.op < 2 ∨ PureC ops oi σ0 r) (h1 : Op.cls oj.op < 1 ∨ M0 = [])
    (h : @aop P own ops.toList oj (σ.put oi.dst r) N) : @aop P own ops.toList oj σ ⟨fun σ' => Seen ops oi M0 σ0 σ' ∧ N.k (σ'.put oi.dst r)⟩ := by
  obtain ⟨a1, a2, a3⟩ := Oper.apart_spec hap
  have step : ∀ r' Z M', Cls oj σ.M Z M' → N.k ((σ.put oi.dst r).step oj.dst r' Z M') → Seen ops oi M0 σ0 (σ.step oj.dst r' Z M') ∧ N.k ((σ.step oj.dst r' Z M').put oi.dst r) := by
    intro r' Z M' hcls hN
    have hk : ∀ x : AV, (PureC ops oi σ0 r → x.pure = true) → x.kill Z = x := fun x hx => by
      rcases h2 with h2 | h2
      · rw [hcls.1 h2, AV.kill_nil]
      · exact AV.kill_pure Z x (hx h2)
    refine ⟨⟨fun t ht => ?_, ?_⟩, ?_⟩
    · have hne : oj.dst ≠ some t := fun e => a3 t e ht
      simp only [St.step]
      rw [setS_getD _ _ hne, killS_getD, hs.1 t ht]
      exact hk _ fun hp => hp.1 t ht
    · rcases h1 with h1 | h1
      · exact hs.2.trans (hcls.2 h1)
      · subst h1; exact MLe.nil _
    · have : (σ.put oi.dst r).step oj.dst r' Z M' = (σ.step oj.dst r' Z M').put oi.dst r := by
        simp only [St.put, St.step, killS_setS]
        rw [hk r fun hp => hp.2, setS_comm _ _ _ a2]
      rw [← this]
      exact hN
  have hev : ∀ x ∈ oj.op.operands, (σ.put oi.dst r).ev x = σ.ev x := ev_seen (ops := ops) fun t ht => setS_getD _ _ fun e => a1 t e ht
  have hM : (σ.put oi.dst r).M = σ.M := rfl
  unfold aop at h ⊢
  split
  · rename_i hg
    simp only [hg] at h
    exact coreC_mono step (coreC_congr hev h)
  · rename_i j want hg
    simp only [hg] at h
    obtain ⟨d, hd, h⟩ := AOpt_elim h
    have hl : d ∈ oj.looksAt ops := by
      refine List.mem_append_right _ ?_
      have hd' : (ops[j]?).bind (·.dst) = some d := by simpa using hd
      simp only [hg, hd', Option.toList_some, List.mem_singleton]
    have hsl : (σ.put oi.dst r).sl.getD d .bot = σ.sl.getD d .bot := setS_getD _ _ fun e => a1 d e hl
    obtain ⟨b, hb, h⟩ := AOpt_elim (α := Bool) h
    rw [hsl] at hb
    simp only [hd, AOpt_some, hb]
    revert h
    exact ACond_mono (fun h => coreC_mono step (coreC_congr hev h)) (fun h => step _ _ _ ⟨fun _ => rfl, fun _ => MLe.refl _⟩ h)

/-- every order. -/
def AAny (P : Program) (own : List Nat) (ops : Array Oper) (N : St → Prop) : Nat → Array Bool → St → Prop
  | 0, listed, σ => Region.ready .any ops listed = [] ∧ N σ
  | n + 1, listed, σ => (Region.ready .any ops listed = [] → N σ) ∧ ∀ i ∈ Region.ready .any ops listed, ∀ o, ops[i]? = some o → @aop P own ops.toList o σ ⟨AAny P own ops N n (listed.setIfInBounds i true)⟩

theorem aany_sound {C : Ctx} {Q : Exit → Act → World → Prop} {N : St → Prop} (hQ : ∀ σ a w, N σ → StR C σ a w → Q .normal a w) : ∀ (n : Nat) (listed : Array Bool) (σ : St) (a : Act) (w : World), AAny P own ops N n listed σ → StR C σ a w →
    wpAny P .any ops Q n listed a w
  | 0, listed, σ, a, w, h, hS => ⟨h.1, hQ σ a w h.2 hS⟩
  | n + 1, listed, σ, a, w, h, hS => ⟨fun h0 => hQ σ a w (h.1 h0) hS, fun i hi => by
      obtain ⟨_, o, ho, _⟩ := mem_ready.1 hi
      refine wpOp_mono (fun a' w' => ?_) (aop_sound ho (h.2 i hi o ho) hS)
      rintro ⟨σ', h1, h2⟩
      exact aany_sound hQ n _ σ' a' w' h1 h2⟩

theorem aany_first {i : Nat} {oi : Oper} {r : AV} {M0 : Mem} {σ0 : St} {N : St → Prop} {dep : Nat → Bool} (hi : ops[i]? = some oi)
    (hY : ∀ σ, Seen ops oi M0 σ0 σ → ∀ N : HN, N.k (σ.put oi.dst r) → @aop P own ops.toList oi σ N)
    (hdep : ∀ j oj, ops[j]? = some oj → dep j = true → j = i ∨ ∃ e ∈ oj.after, Region.binds .any e = true ∧ dep e.on = true) :
    ∀ (n : Nat) (listed : Array Bool) (σ : St), Seen ops oi M0 σ0 σ →
      (∀ j, listed.getD j false = true → dep j = false) →
      (∀ j oj, ops[j]? = some oj → j ≠ i → dep j = false → listed.getD j true = false → oi.apart ops oj = true ∧ (Op.cls oj.op < 2 ∨ PureC ops oi σ0 r) ∧ (Op.cls oj.op < 1 ∨ M0 = [])) →
      i ∈ Region.ready .any ops listed → AAny P own ops N n (listed.setIfInBounds i true) (σ.put oi.dst r) → AAny P own ops N (n + 1) listed σ := by
  intro n
  induction n with
  | zero =>
    intro listed σ hs _ _ hr H
    refine ⟨fun h => (by rw [h] at hr; cases hr), fun j hj o ho => ?_⟩
    by_cases hji : j = i
    · subst hji
      rw [hi] at ho
      injection ho with ho
      subst ho
      exact hY σ hs ⟨AAny P own ops N 0 _⟩ H
    · have := ready_mono hj hji
      rw [H.1] at this
      cases this
  | succ n ih =>
    intro listed σ hs hlist hfree hr H
    refine ⟨fun h => (by rw [h] at hr; cases hr), fun j hj oj hoj => ?_⟩
    by_cases hji : j = i
    · subst hji
      rw [hi] at hoj
      injection hoj with ho
      subst ho
      exact hY σ hs ⟨AAny P own ops N (n + 1) _⟩ H
    · have g1 := H.2 j (ready_mono hj hji) oj hoj
      obtain ⟨hjun, oj', hoj', hall⟩ := mem_ready.1 hj
      rw [hoj] at hoj'
      injection hoj' with ho
      subst ho
      have hjd : dep j = false := by
        cases hd : dep j with
        | false => rfl
        | true =>
          rcases hdep j oj hoj hd with h | ⟨e, he, hb, hde⟩
          · exact absurd h hji
          · have := hlist e.on (hall e he hb)
            rw [hde] at this
            cases this
      obtain ⟨f1, f2, f3⟩ := hfree j oj hoj hji hjd hjun
      have g2 := aop_swap f1 hs f2 f3 g1
      refine aop_mono (fun r' Z M' hcls h => ?_) g2
      refine ih (listed.setIfInBounds j true) _ h.1 (fun k hk => ?_) (fun k ok hk hki hkd hun => ?_) (ready_mono hr (Ne.symm hji)) ?_
      · by_cases hjk : j = k
        · subst hjk; exact hjd
        · rw [getD_set_ne false hjk] at hk; exact hlist k hk
      · refine hfree k ok hk hki hkd ?_
        by_cases hjk : j = k
        · subst hjk; exact hjun
        · rw [getD_set_ne true hjk] at hun; exact hun
      · rw [Array.setIfInBounds_comm _ _ hji]
        exact h.2

inductive Md | reads | plain | over

def Md.mem : Md → Mem → Mem | .reads, M => M | _, _ => []
def Md.need : Md → List Nat → List AV → AV → Prop
  | .over, ts, sl, r => (ts.all fun t => (sl.getD t .bot).pure) = true ∧ r.pure = true
  | _, _, _, _ => True

/-- an operation that is taken first. -/
def atake (P : Program) (own : List Nat) (ops : List Oper) (o : Oper) (m : Md) (ts : List Nat) (σ : St) [N : HN] : Prop :=
  match o.guard with
  | none => coreC P own o σ.ev (m.mem σ.M) (K := ⟨fun r _ _ => m.need ts σ.sl r ∧ N.k (σ.put o.dst r)⟩)
  | some (j, want) => AOpt ((ops[j]?).bind (·.dst)) (K := ⟨fun d => AOpt (gd (σ.sl.getD d .bot) want) (K := ⟨fun b =>
      @ACond b ⟨coreC P own o σ.ev (m.mem σ.M) (K := ⟨fun r _ _ => m.need ts σ.sl r ∧ N.k (σ.put o.dst r)⟩)⟩ ⟨m.need ts σ.sl (.t []) ∧ N.k (σ.put o.dst (.t []))⟩⟩)⟩)

inductive Sch
  | done
  | take (i : Nat) (m : Md) (ts : List Nat) (s : Sch)
  | nil
  | alt (i : Nat) (s : Sch) (more : Sch)

def ASch (P : Program) (own : List Nat) (ops : List Oper) : Sch → St → [HN] → Prop
  | .done, σ, N => N.k σ
  | .take i m ts s, σ, N => AOpt (ops[i]?) (K := ⟨fun o => @atake P own ops o m ts σ ⟨fun σ' => @ASch P own ops s σ' N⟩⟩)
  | .nil, _, _ => True
  | .alt i s more, σ, N => AOpt (ops[i]?) (K := ⟨fun o => @aop P own ops o σ ⟨fun σ' => @ASch P own ops s σ' N⟩⟩) ∧ @ASch P own ops more σ N

/-- what is asked of an operation by the check of a schedule: its slot (and 1), the slots that it looks at, what it comes after, its class, whether it can be taken first. -/
structure Inf where
  dst : Nat
  lk : Nat
  af : Nat
  cls : Nat
  det : Bool

def maskOf : List Nat → Nat
  | [] => 0
  | t :: l => (1 <<< t) ||| maskOf l

theorem one_bit {k : Nat} (h : k ≠ 0) : Nat.testBit 1 k = false := by
  obtain ⟨m, rfl⟩ : ∃ m, k = m + 1 := ⟨k - 1, by omega⟩
  simp [Nat.testBit_succ]

theorem maskOf_bit (t : Nat) : ∀ l : List Nat, (maskOf l).testBit t = l.contains t
  | [] => by simp [maskOf]
  | u :: l => by
    rw [maskOf, Nat.testBit_or, maskOf_bit t l, List.contains_cons, Nat.testBit_shiftLeft]
    by_cases h : t = u
    · subst h; simp
    · have h' : (t == u) = false := by simpa using h
      rw [h']
      by_cases hge : u ≤ t
      · have : t - u ≠ 0 := by omega
        simp [hge, one_bit this]
      · simp [hge]

def infOf (P : Program) (own : List Nat) (ops : Array Oper) (o : Oper) : Inf :=
  ⟨match o.dst with | none => 0 | some t => t + 1, maskOf (o.looksAt ops), maskOf ((o.after.toList.filter (Region.binds .any)).map (·.on)), Op.cls o.op, det P own o⟩

def Inf.eqb (x y : Inf) : Bool := Nat.beq x.dst y.dst && Nat.beq x.lk y.lk && Nat.beq x.af y.af && Nat.beq x.cls y.cls && (x.det == y.det)
theorem Inf.eqb_eq {x y : Inf} (h : x.eqb y = true) : x = y := by
  obtain ⟨a, b, c, d, e⟩ := x
  obtain ⟨a', b', c', d', e'⟩ := y
  simp only [Inf.eqb, Bool.and_eq_true, Nat.beq_eq, beq_iff_eq] at h
  obtain ⟨⟨⟨⟨h1, h2⟩, h3⟩, h4⟩, h5⟩ := h
  subst h1; subst h2; subst h3; subst h4; subst h5; rfl

def tbOk (P : Program) (own : List Nat) (ops : Array Oper) : List Oper → List Inf → Bool
  | [], [] => true
  | o :: l, x :: tb => (infOf P own ops o).eqb x && tbOk P own ops l tb
  | _, _ => false
theorem tbOk_eq {P : Program} {own : List Nat} {ops : Array Oper} : ∀ (l : List Oper) (tb : List Inf), tbOk P own ops l tb = true → tb = l.map (infOf P own ops)
  | [], [], _ => rfl
  | o :: l, x :: tb, h => by
    simp only [tbOk, Bool.and_eq_true] at h
    rw [List.map_cons, tbOk_eq l tb h.2, Inf.eqb_eq h.1]
  | [], _ :: _, h => by simp [tbOk] at h
  | _ :: _, [], h => by simp [tbOk] at h

def Inf.apart (x y : Inf) : Bool :=
  (match x.dst with | 0 => true | d + 1 => !(y.lk.testBit d) && !(Nat.beq y.dst (d + 1))) && (match y.dst with | 0 => true | d + 1 => !(x.lk.testBit d))

theorem Inf.apart_eq (P : Program) (own : List Nat) (ops : Array Oper) (o o' : Oper) : (infOf P own ops o).apart (infOf P own ops o') = o.apart ops o' := by
  unfold Inf.apart Oper.apart infOf
  congr 1
  · cases o.dst with
    | none => rfl
    | some d =>
      have : (!(Nat.beq (match o'.dst with | none => 0 | some t => t + 1) (d + 1))) = (o'.dst != some d) := by
        cases o'.dst with
        | none => rfl
        | some e =>
          by_cases h : e = d
          · subst h; simp
          · have hb : Nat.beq (e + 1) (d + 1) = false := by
              cases hb : Nat.beq (e + 1) (d + 1) with
              | false => rfl
              | true => exact absurd (Nat.succ.inj (Nat.eq_of_beq_eq_true hb)) h
            simp only [hb]
            simp [h]
      simp only [maskOf_bit, this]
  · cases o'.dst with
    | none => rfl
    | some d => simp only [maskOf_bit]

/-- what may come next, when the operations of the mask are done. -/
def readyI : List Inf → Nat → Nat → List Nat
  | [], _, _ => []
  | x :: tb, k, lm => if !(lm.testBit k) && Nat.beq (x.af &&& lm) x.af then k :: readyI tb (k + 1) lm else readyI tb (k + 1) lm

/-- what comes after i. -/
def depsI (i : Nat) : List Inf → Nat → Nat → Nat
  | [], _, m => m
  | x :: tb, k, m => depsI i tb (k + 1) (if Nat.beq k i || !(Nat.beq (x.af &&& m) 0) then m ||| (1 <<< k) else m)

def depOkI (i d : Nat) : List Inf → Nat → Bool
  | [], _ => true
  | x :: tb, k => (!(d.testBit k) || Nat.beq k i || !(Nat.beq (x.af &&& d) 0)) && depOkI i d tb (k + 1)

def freeI (i : Nat) (xi : Inf) (m : Md) (lm d : Nat) : List Inf → Nat → Bool
  | [], _ => true
  | x :: tb, k => (Nat.beq k i || d.testBit k || lm.testBit k || (xi.apart x && (match m with | .reads => Nat.blt x.cls 1 | .plain => Nat.blt x.cls 2 | .over => true))) && freeI i xi m lm d tb (k + 1)

def takeI (tb : List Inf) (i : Nat) (m : Md) (ts : List Nat) (lm d : Nat) : Bool :=
  match tb[i]? with
  | none => false
  | some x => x.det && depOkI i d tb 0 && Nat.beq (lm &&& d) 0 && freeI i x m lm d tb 0 && (match m with | .over => Nat.beq (x.lk &&& maskOf ts) x.lk | _ => true)

def Sch.alts : Sch → List Nat
  | .alt i _ more => i :: more.alts
  | _ => []

def Sch.ok (tb : List Inf) : Sch → Bool → Nat → Nat → Bool
  | .done, top, _, lm => top && (readyI tb 0 lm).isEmpty
  | .take i m ts s, top, n, lm => top && !(Nat.beq n 0) && (readyI tb 0 lm).contains i && takeI tb i m ts lm (depsI i tb 0 0) && s.ok tb true (n - 1) (lm ||| (1 <<< i))
  | .nil, top, _, _ => !top
  | .alt i s more, top, n, lm => !(Nat.beq n 0) && (!top || (!(readyI tb 0 lm).isEmpty && (readyI tb 0 lm).all (i :: more.alts).contains)) && s.ok tb true (n - 1) (lm ||| (1 <<< i)) && more.ok tb false n lm

/-- the schedule fits the region. -/
def Sch.fits (P : Program) (own : List Nat) (ops : Array Oper) (s : Sch) (tb : List Inf) : Bool := tbOk P own ops ops.toList tb && s.ok tb true tb.length 0

end
end Aw
end Go.Proofs.YtndniceeibflcaaGreatDoor

namespace Go.Proofs.YtndniceeibflcaaGreatDoor
namespace Aw
open Go.RowKit

section
variable {P : Program} {own : List Nat} {ops : Array Oper}

theorem step_put (σ : St) (d : Option Tmp) (r : AV) : σ.step d r [] σ.M = σ.put d r := by simp only [St.step, St.put, killS_nil]

theorem atake_yields {o : Oper} {m : Md} {ts : List Nat} {σ : St} {N : HN} (hd : det P own o = true) (h : @atake P own ops.toList o m ts σ N) :
    ∃ r, m.need ts σ.sl r ∧ N.k (σ.put o.dst r) ∧ ∀ σ', Seen ops o (m.mem σ.M) σ σ' → ∀ N' : HN, N'.k (σ'.put o.dst r) → @aop P own ops.toList o σ' N' := by
  unfold atake at h
  split at h
  · rename_i hg
    obtain ⟨r, ⟨h1, h2⟩, h3⟩ := coreC_det (M0 := m.mem σ.M) hd h
    refine ⟨r, h1, h2, fun σ' hs N' hN => ?_⟩
    unfold aop
    simp only [hg]
    exact coreC_congr (fun x hx => (ev_seen (ops := ops) hs.1 x hx).symm) (h3 _ hs.2 ⟨fun r Z M' => N'.k (σ'.step o.dst r Z M')⟩ (by rw [← step_put] at hN; exact hN))
  · rename_i j want hg
    obtain ⟨d, hdd, h⟩ := AOpt_elim h
    obtain ⟨b, hb, h⟩ := AOpt_elim (α := Bool) h
    have hl : d ∈ o.looksAt ops := by
      refine List.mem_append_right _ ?_
      have hd' : (ops[j]?).bind (·.dst) = some d := by simpa using hdd
      simp only [hg, hd', Option.toList_some, List.mem_singleton]
    cases hbw : b with
    | true =>
      obtain ⟨r, ⟨h1, h2⟩, h3⟩ := coreC_det (M0 := m.mem σ.M) hd (h.1 hbw)
      refine ⟨r, h1, h2, fun σ' hs N' hN => ?_⟩
      unfold aop
      simp only [hg, hdd, AOpt_some]
      rw [hs.1 d hl, hb, AOpt_some]
      refine ⟨fun _ => ?_, fun e => by rw [hbw] at e; cases e⟩
      exact coreC_congr (fun x hx => (ev_seen (ops := ops) hs.1 x hx).symm) (h3 _ hs.2 ⟨fun r Z M' => N'.k (σ'.step o.dst r Z M')⟩ (by rw [← step_put] at hN; exact hN))
    | false =>
      obtain ⟨h1, h2⟩ := h.2 hbw
      refine ⟨.t [], h1, h2, fun σ' hs N' hN => ?_⟩
      unfold aop
      simp only [hg, hdd, AOpt_some]
      rw [hs.1 d hl, hb, AOpt_some]
      refine ⟨fun e => (by rw [hbw] at e; cases e), fun _ => ?_⟩
      rw [← step_put] at hN
      exact hN

/-- the list of what is done, and its mask. -/
def Fits (ops : Array Oper) (listed : Array Bool) (lm : Nat) : Prop := listed.size = ops.size ∧ ∀ j, listed.getD j false = lm.testBit j

theorem Fits.getT {listed : Array Bool} {lm : Nat} (h : Fits ops listed lm) {j : Nat} (hj : j < ops.size) : listed.getD j true = lm.testBit j := by
  rw [← h.2 j]
  have : j < listed.size := by rw [h.1]; exact hj
  simp [this]

theorem Fits.set {listed : Array Bool} {lm : Nat} (h : Fits ops listed lm) {i : Nat} (hi : i < ops.size) : Fits ops (listed.setIfInBounds i true) (lm ||| (1 <<< i)) := by
  refine ⟨by simpa using h.1, fun j => ?_⟩
  rw [Nat.testBit_or, Nat.testBit_shiftLeft]
  have hil : i < listed.size := by rw [h.1]; exact hi
  by_cases hij : i = j
  · subst hij
    simp [hil]
  · rw [← h.2 j]
    have e : (listed.setIfInBounds i true).getD j false = listed.getD j false := by
      simp [Array.getD_eq_getD_getElem?, Array.getElem?_setIfInBounds_ne hij]
    rw [e]
    by_cases hge : i ≤ j
    · have : j - i ≠ 0 := by omega
      simp [one_bit this]
    · simp [hge]

theorem sub_mask {a lm : Nat} (h : Nat.beq (a &&& lm) a = true) {t : Nat} (ht : a.testBit t = true) : lm.testBit t = true := by
  have h := Nat.eq_of_beq_eq_true h
  rw [← h, Nat.testBit_and, Bool.and_eq_true] at ht
  exact ht.2
theorem mem_mask {l : List Nat} {t : Nat} : (maskOf l).testBit t = true ↔ t ∈ l := by rw [maskOf_bit]; simp
theorem disj_mask {a b : Nat} (h : Nat.beq (a &&& b) 0 = true) {t : Nat} (ha : a.testBit t = true) (hb : b.testBit t = true) : False := by
  have h := Nat.eq_of_beq_eq_true h
  have : (a &&& b).testBit t = true := by rw [Nat.testBit_and, ha, hb]; rfl
  rw [h] at this
  simp at this
theorem meet_mask {l : List Nat} {b : Nat} (h : (!(Nat.beq (maskOf l &&& b) 0)) = true) : ∃ t ∈ l, b.testBit t = true := by
  have h1 : maskOf l &&& b ≠ 0 := by
    intro e
    rw [e] at h
    simp at h
  obtain ⟨t, ht⟩ := Nat.exists_testBit_of_ne_zero h1
  rw [Nat.testBit_and, Bool.and_eq_true] at ht
  exact ⟨t, mem_mask.1 ht.1, ht.2⟩
theorem super_mask {l : List Nat} {b : Nat} : Nat.beq (maskOf l &&& b) (maskOf l) = true ↔ ∀ t ∈ l, b.testBit t = true := by
  constructor
  · intro h t ht
    exact sub_mask h (mem_mask.2 ht)
  · intro h
    rw [Nat.beq_eq]
    apply Nat.eq_of_testBit_eq
    intro t
    rw [Nat.testBit_and]
    cases ht : (maskOf l).testBit t with
    | false => rfl
    | true => rw [h t (mem_mask.1 ht)]; rfl

theorem readyI_mem {listed : Array Bool} {lm : Nat} (h : Fits ops listed lm) : ∀ (l : List Oper) (k : Nat), ops.toList.drop k = l → ∀ i, i ∈ readyI (l.map (infOf P own ops)) k lm ↔ k ≤ i ∧ i ∈ Region.ready .any ops listed
  | [], k, hk, i => by
    simp only [List.map_nil, readyI, List.not_mem_nil, false_iff]
    rintro ⟨h1, h2⟩
    obtain ⟨_, o, ho, _⟩ := mem_ready.1 h2
    have := (Array.getElem?_eq_some_iff.1 ho).1
    have h3 : ops.toList.length ≤ k := List.drop_eq_nil_iff.1 hk
    simp at h3
    omega
  | o :: l, k, hk, i => by
    have ho : ops[k]? = some o := by
      have : (ops.toList.drop k)[0]? = some o := by rw [hk]; rfl
      rw [List.getElem?_drop] at this
      simpa using this
    have hkl := (Array.getElem?_eq_some_iff.1 ho).1
    have hk' : ops.toList.drop (k + 1) = l := by rw [← List.drop_drop, hk]; rfl
    have ih := readyI_mem h l (k + 1) hk' i
    have hself : (!(lm.testBit k) && Nat.beq ((infOf P own ops o).af &&& lm) (infOf P own ops o).af) = true ↔ k ∈ Region.ready .any ops listed := by
      rw [mem_ready, h.getT hkl, Bool.and_eq_true, Bool.not_eq_true']
      refine and_congr Iff.rfl ?_
      simp only [infOf]
      rw [super_mask]
      constructor
      · intro hh
        refine ⟨o, ho, fun e he hb => ?_⟩
        have := hh e.on (List.mem_map.2 ⟨e, List.mem_filter.2 ⟨by simpa using he, hb⟩, rfl⟩)
        rw [h.2]; exact this
      · rintro ⟨o', ho', hh⟩ t ht
        rw [ho] at ho'
        injection ho' with ho'
        subst ho'
        obtain ⟨e, he, rfl⟩ := List.mem_map.1 ht
        obtain ⟨he1, he2⟩ := List.mem_filter.1 he
        have := hh e (by simpa using he1) he2
        rw [← h.2]; exact this
    simp only [List.map_cons, readyI]
    split
    · rename_i hc
      rw [List.mem_cons, ih]
      constructor
      · rintro (rfl | ⟨h1, h2⟩)
        · exact ⟨Nat.le_refl _, hself.1 hc⟩
        · exact ⟨by omega, h2⟩
      · rintro ⟨h1, h2⟩
        by_cases hik : i = k
        · exact .inl hik
        · exact .inr ⟨by omega, h2⟩
    · rename_i hc
      rw [ih]
      constructor
      · rintro ⟨h1, h2⟩; exact ⟨by omega, h2⟩
      · rintro ⟨h1, h2⟩
        by_cases hik : i = k
        · subst hik; exact absurd (hself.2 h2) hc
        · exact ⟨by omega, h2⟩

theorem readyI_eq {listed : Array Bool} {lm : Nat} (h : Fits ops listed lm) (i : Nat) : i ∈ readyI (ops.toList.map (infOf P own ops)) 0 lm ↔ i ∈ Region.ready .any ops listed := by
  rw [readyI_mem h ops.toList 0 rfl]
  simp

theorem depOkI_get {i d : Nat} : ∀ (l : List Oper) (k : Nat), depOkI i d (l.map (infOf P own ops)) k = true → ∀ (j : Nat) (oj : Oper), l[j]? = some oj → d.testBit (k + j) = true → k + j = i ∨ ∃ e ∈ oj.after, Region.binds .any e = true ∧ d.testBit e.on = true
  | [], _, _, j, oj, hj, _ => by simp at hj
  | o :: l, k, h, j, oj, hj, hd => by
    simp only [List.map_cons, depOkI, Bool.and_eq_true] at h
    cases j with
    | zero =>
      simp at hj
      subst hj
      have h1 := h.1
      rw [Nat.add_zero] at hd ⊢
      rw [hd] at h1
      simp only [Bool.not_true, Bool.false_or, Bool.or_eq_true] at h1
      rcases h1 with h1 | h1
      · exact .inl (Nat.eq_of_beq_eq_true h1)
      · obtain ⟨t, ht, hb⟩ := meet_mask h1
        obtain ⟨e, he, rfl⟩ := List.mem_map.1 ht
        obtain ⟨he1, he2⟩ := List.mem_filter.1 he
        exact .inr ⟨e, by simpa using he1, he2, hb⟩
    | succ j =>
      simp at hj
      have := depOkI_get l (k + 1) h.2 j oj hj (by rw [show k + 1 + j = k + (j + 1) by omega]; exact hd)
      rw [show k + 1 + j = k + (j + 1) by omega] at this
      exact this

theorem freeI_get {i : Nat} {oi : Oper} {m : Md} {lm d : Nat} : ∀ (l : List Oper) (k : Nat), freeI i (infOf P own ops oi) m lm d (l.map (infOf P own ops)) k = true → ∀ (j : Nat) (oj : Oper), l[j]? = some oj → k + j ≠ i → d.testBit (k + j) = false → lm.testBit (k + j) = false →
    oi.apart ops oj = true ∧ (match m with | .reads => Op.cls oj.op < 1 | .plain => Op.cls oj.op < 2 | .over => True)
  | [], _, _, j, oj, hj, _, _, _ => by simp at hj
  | o :: l, k, h, j, oj, hj, hne, hd, hl => by
    simp only [List.map_cons, freeI, Bool.and_eq_true] at h
    cases j with
    | zero =>
      simp at hj
      subst hj
      have h1 := h.1
      rw [Nat.add_zero] at hd hl hne
      have hb : Nat.beq k i = false := by
        cases hb : Nat.beq k i with
        | false => rfl
        | true => exact absurd (Nat.eq_of_beq_eq_true hb) hne
      rw [hd, hl, hb] at h1
      simp only [Bool.false_or, Bool.and_eq_true, Inf.apart_eq] at h1
      refine ⟨h1.1, ?_⟩
      have h2 := h1.2
      cases m with
      | reads => simpa [infOf, Nat.blt_eq] using h2
      | plain => simpa [infOf, Nat.blt_eq] using h2
      | over => trivial
    | succ j =>
      simp at hj
      exact freeI_get l (k + 1) h.2 j oj hj (by omega) (by rw [show k + 1 + j = k + (j + 1) by omega]; exact hd) (by rw [show k + 1 + j = k + (j + 1) by omega]; exact hl)

theorem asch_any {N : HN} : ∀ (s : Sch) (top : Bool) (n : Nat) (listed : Array Bool) (lm : Nat) (σ : St), Fits ops listed lm → s.ok (ops.toList.map (infOf P own ops)) top n lm = true → @ASch P own ops.toList s σ N →
    (top = true → AAny P own ops N.k n listed σ) ∧ (top = false → ∀ k, n = k + 1 → ∀ i ∈ s.alts, ∀ o, ops[i]? = some o → @aop P own ops.toList o σ ⟨AAny P own ops N.k k (listed.setIfInBounds i true)⟩) := by
  intro s
  induction s with
  | done =>
    intro top n listed lm σ hf hok h
    simp only [Sch.ok, Bool.and_eq_true, List.isEmpty_iff] at hok
    have h0 : Region.ready .any ops listed = [] := by
      rw [List.eq_nil_iff_forall_not_mem]
      intro i hi
      have := (readyI_eq (P := P) (own := own) hf i).2 hi
      rw [hok.2] at this
      cases this
    refine ⟨fun _ => ?_, fun e => (by rw [hok.1] at e; cases e)⟩
    cases n with
    | zero => exact ⟨h0, h⟩
    | succ n => exact ⟨fun _ => h, fun i hi => by rw [h0] at hi; cases hi⟩
  | take i m ts s ih =>
    intro top n listed lm σ hf hok h
    simp only [Sch.ok, Bool.and_eq_true] at hok
    obtain ⟨⟨⟨⟨ht, hn⟩, hr⟩, htk⟩, hok⟩ := hok
    refine ⟨fun _ => ?_, fun e => by rw [ht] at e; cases e⟩
    cases n with
    | zero => simp at hn
    | succ n =>
      simp only [Nat.add_sub_cancel] at hok
      unfold ASch at h
      obtain ⟨o, ho, h⟩ := AOpt_elim h
      have ho : ops[i]? = some o := by simpa using ho
      have hil := (Array.getElem?_eq_some_iff.1 ho).1
      unfold takeI at htk
      have hoi : (ops.toList.map (infOf P own ops))[i]? = some (infOf P own ops o) := by simp [ho]
      simp only [hoi, Bool.and_eq_true] at htk
      obtain ⟨⟨⟨⟨hdet, hdep⟩, hlist⟩, hfree⟩, hseen⟩ := htk
      generalize depsI i (ops.toList.map (infOf P own ops)) 0 0 = d at *
      obtain ⟨r, h1, h2, h3⟩ := atake_yields hdet h
      have hr : i ∈ Region.ready .any ops listed := (readyI_eq (P := P) (own := own) hf i).1 (by simpa using hr)
      have hlt : ∀ j oj, ops[j]? = some oj → j < ops.size := fun j oj hj => (Array.getElem?_eq_some_iff.1 hj).1
      refine aany_first (dep := fun j => d.testBit j) ho h3 (fun j oj hj hd => ?_) n listed σ ⟨fun _ _ => rfl, by cases m <;> first | exact MLe.refl _ | exact MLe.nil _⟩ (fun j hj => ?_) (fun j oj hj hne hd hun => ?_) hr ((ih true n _ _ _ (hf.set hil) hok h2).1 rfl)
      · have := depOkI_get ops.toList 0 hdep j oj (by simpa using hj) (by simpa using hd)
        simpa using this
      · rw [hf.2 j] at hj
        cases hdj : d.testBit j with
        | false => rfl
        | true => exact (disj_mask hlist hj hdj).elim
      · rw [hf.getT (hlt j oj hj)] at hun
        have := freeI_get ops.toList 0 hfree j oj (by simpa using hj) (by simpa using hne) (by simpa using hd) (by simpa using hun)
        refine ⟨this.1, ?_, ?_⟩
        · cases m with
          | reads => exact .inl (by have := this.2; simp only at this; omega)
          | plain => exact .inl this.2
          | over =>
            refine .inr ⟨fun t ht => ?_, h1.2⟩
            simp only [infOf] at hseen
            have := mem_mask.1 (sub_mask hseen (mem_mask.2 ht))
            exact List.all_eq_true.1 h1.1 t this
        · cases m with
          | reads => exact .inl this.2
          | plain => exact .inr rfl
          | over => exact .inr rfl
  | nil =>
    intro top n listed lm σ hf hok h
    simp only [Sch.ok, Bool.not_eq_true'] at hok
    exact ⟨fun e => (by rw [hok] at e; cases e), fun _ k _ i hi => by simp [Sch.alts] at hi⟩
  | alt i s more ih1 ih2 =>
    intro top n listed lm σ hf hok h
    simp only [Sch.ok, Bool.and_eq_true] at hok
    obtain ⟨⟨⟨hn, hall⟩, hs⟩, hm⟩ := hok
    unfold ASch at h
    obtain ⟨hi, hmo⟩ := h
    have key : ∀ k, n = k + 1 → ∀ j ∈ i :: more.alts, ∀ o, ops[j]? = some o → @aop P own ops.toList o σ ⟨AAny P own ops N.k k (listed.setIfInBounds j true)⟩ := by
      intro k hk j hj o ho
      rcases List.mem_cons.1 hj with rfl | hj
      · obtain ⟨o', ho', hi⟩ := AOpt_elim hi
        have ho' : ops[j]? = some o' := by simpa using ho'
        rw [ho] at ho'
        injection ho' with e
        subst e
        subst hk
        exact aop_mono (N := ⟨fun σ' => @ASch P own ops.toList s σ' N⟩) (fun r Z M' _ h => (ih1 true k _ _ (σ.step o.dst r Z M') (hf.set (Array.getElem?_eq_some_iff.1 ho).1) hs h).1 rfl) hi
      · exact (ih2 false n listed lm σ hf hm hmo).2 rfl k hk j hj o ho
    refine ⟨fun ht => ?_, fun _ => key⟩
    cases n with
    | zero => simp at hn
    | succ n =>
      subst ht
      simp only [Bool.not_true, Bool.false_or, Bool.and_eq_true, List.all_eq_true] at hall
      refine ⟨fun h0 => ?_, fun j hj o ho => key n rfl j ?_ o ho⟩
      · have h1 := hall.1
        have : readyI (ops.toList.map (infOf P own ops)) 0 lm = [] := by
          rw [List.eq_nil_iff_forall_not_mem]
          intro q hq
          have := (readyI_eq (P := P) (own := own) hf q).1 hq
          rw [h0] at this
          cases this
        rw [this] at h1
        simp at h1
      · have := hall.2 j ((readyI_eq (P := P) (own := own) hf j).2 hj)
        simpa using this

theorem StR.drawn {C : Ctx} {σ : St} {a : Act} {w : World} (h : StR C σ a w) : StR C σ a { w with drawn := w.drawn + 1 } := by
  obtain ⟨hv, hd, hsz, hsl, hM, hF⟩ := h
  have hs : StepR C.A w hv [] { w with drawn := w.drawn + 1 } hv := ⟨⟨Nat.le_refl _, fun _ _ _ => rfl, fun b _ hb => hb⟩, fun i u _ h => h, rfl, rfl, rfl, dr_succ w⟩
  refine ⟨hv, hd, hsz, fun i x hx => ?_, ⟨fun i ob hi => ?_, hM.dom, hM.inj, hM.old, hs.gl hM.gl⟩, hF.step hs⟩
  · obtain ⟨v, h1, h2⟩ := hsl i x hx
    have := hs.rv h2
    rw [AV.kill_nil] at this
    exact ⟨v, h1, this⟩
  · obtain ⟨v, h1, h2, h3⟩ := live_step hM hs (fun v b h1 h2 => rfl) (by simp) hi
    rw [show Ob.kill [] ob = ob by cases ob; simp [Ob.kill, AV.killL_nil]] at h3
    exact ⟨v, h2, h3⟩

/-- a region whose order is drawn. -/
theorem swp_draw {id : Nat} {σ : St} {N : HN} {E : HE} {Rt : HR} (s : Sch) (tb : List Inf) (hm : P.follows .mixedOrders = true) (hok : s.fits P own ops tb = true) (h : @ASch P own ops.toList s σ N) :
    @SWp P (.region id ops true) σ N E Rt := by
  intro C a w hS
  unfold Sch.fits at hok
  rw [Bool.and_eq_true] at hok
  obtain ⟨h1, h2⟩ := hok
  have htb := tbOk_eq ops.toList tb h1
  subst htb
  rw [show (ops.toList.map (infOf P own ops)).length = ops.size by simp] at h2
  have hf : Fits ops (Array.replicate ops.size false) 0 := ⟨by simp, fun j => by
    simp only [Array.getD_eq_getD_getElem?, Array.getElem?_replicate, Nat.zero_testBit]
    split <;> rfl⟩
  exact wp_region_any hm (aany_sound (own := own) (fun σ a w hN hS => ⟨σ, hN, hS⟩) _ _ σ _ _ ((asch_any s true _ _ _ σ hf h2 h).1 rfl) hS.drawn)
end
end Aw
end Go.Proofs.YtndniceeibflcaaGreatDoor

namespace Go.Proofs.YtndniceeibflcaaGreatDoor
namespace Aw
open Go.RowKit

section
variable {P : Program} {own : List Nat}

theorem AV.sub_pure (F : Nat → AV) (G : Nat → Nat → Nat → Nat → AV) (a : AV) : a.pure = true → a.sub F G = a := by
  refine AV.rec (motive_1 := fun a => a.pure = true → a.sub F G = a) (motive_2 := fun l => AV.pureL l = true → AV.subL F G l = l) ?_ ?_ ?_ ?_ ?_ ?_ ?_ ?_ ?_ ?_ ?_ a <;> intros <;> simp_all [AV.pure, AV.pureL, AV.sub, AV.subL]

theorem coe_pure {M : Mem} {a : AV} (h : a.pure = true) : Coe false M a a := by
  intro A w hv v hM hx
  have := RV_sub (T := OwnA A hv) (T' := OwnA A hv) (hv := hv) (hv' := noHv) (F := fun _ => .bot) (G := fun _ _ _ _ => .bot) (fun b h => h) (fun i v h => ?_) (fun i => rfl) (fun i k j off us h => R_botq h) (fun _ _ _ _ => rfl) a v hx
  · rw [AV.sub_pure _ _ a h] at this
    simpa using this
  · obtain ⟨ob, hob⟩ := hM.dom i v h
    simp only [R]; exact ⟨v, rfl, (hM_ob hM hob h).one⟩

theorem coe_frz (M : Mem) (x : AV) : Coe true M x (frz M x) := by
  intro A w hv v hM hx
  have hown : ∀ b, ¬ Own noHv b := fun b h => by obtain ⟨i, v, h, _⟩ := h; simp [noHv] at h
  refine RV_sub (T := OwnA A hv) (T' := fun _ => False) (hv := hv) (hv' := noHv) (fun b h => h.elim) (fun i v h => ?_) (fun i => ?_) (fun i k j off us h => R_botq h) (fun _ _ _ _ => rfl) x v hx
  · obtain ⟨ob, hob⟩ := hM.dom i v h
    simp only [hob]
    split
    · rename_i hp
      simp only [Bool.and_eq_true, Option.isNone_iff_eq_none] at hp
      obtain ⟨hm, hp⟩ := hp
      obtain ⟨us, hrow, hk, hus⟩ := (hM_ob hM hob h).row hm
      have hus' := RL_pure ob.xs hv noHv us hp hus
      have hkeep : Keeps w (OwnA A hv) w (fun _ => False) := ⟨Nat.le_refl _, fun _ _ _ => rfl, fun b _ h => h.elim⟩
      have hus2 := RL_keep hkeep (Z := []) (hv := noHv) (hv' := noHv) (fun _ _ _ h => h) _ _ hus'
      rw [AV.killL_nil] at hus2
      simp only [R]
      rcases hrow.2 with ⟨rfl, h0⟩ | ⟨g, cap, cur, rfl, _, hg, hnc, hcm, hcs, htk⟩
      · have he : ob.xs = [] := List.eq_nil_of_length_eq_zero h0
        rw [he]
        exact ⟨none, 0, [], by simp, Nat.le_refl _, Nat.zero_le _, by simp, by simp [RL], fun h => absurd rfl h⟩
      · refine ⟨_, cap, us, rfl, hnc, hcm, hk, hus2, fun _ => ⟨g, 0, rfl, (Array.getElem?_eq_some_iff.1 hg).1, fun h' => h', fun j u hu => ?_⟩⟩
        have := hrow.cells (g := g) rfl j u hu
        rw [Addr.add_lit] at this
        exact this
    · simp only [R]; exact ⟨v, rfl, (hM_ob hM hob h).one⟩
  · split
    · split <;> rfl
    · rfl

theorem coel_pure {M : Mem} : ∀ {aS : List AV}, AV.pureL aS = true → CoeL false M aS aS
  | [], _ => trivial
  | a :: aS, h => by
    simp only [AV.pureL, Bool.and_eq_true] at h
    exact ⟨coe_pure h.1, coel_pure h.2⟩

theorem Ob.up_pure (ob : Ob) (m : Nat) (h : AV.pureL ob.xs = true) : ob.up m = ob := by
  cases ob with
  | mk mp ty k xs =>
    simp only [Ob.up, Ob.mk.injEq, true_and]
    simp only at h
    have : ∀ l : List AV, AV.pureL l = true → l.map (AV.up m) = l := by
      intro l
      induction l with
      | nil => intro _; rfl
      | cons x l ih =>
        intro h
        simp only [AV.pureL, Bool.and_eq_true] at h
        rw [List.map_cons, ih h.2, AV.up, AV.sub_pure _ _ x h.1]
    exact this xs h

/-- a call whose result is a value. -/
theorem acall_v {f : FuncId} {aS : List AV} {M : Mem} {K : HK (AV → Mem → Prop)} {x : AV} (spec : ASpec P f aS (fun r Ms => r = x ∧ Ms = [])) (ha : AV.pureL aS = true) (hx : x.pure = true) (h : K.k x M) : ACall P f aS M (K := K) := by
  refine ⟨false, aS, _, coel_pure ha, spec, ?_⟩
  rintro r Ms ⟨rfl, rfl⟩
  refine ⟨fun e => (by cases e), ?_⟩
  rw [AV.up, AV.sub_pure _ _ _ hx]
  simpa using h

/-- a call that brings a new object. -/
theorem acall_o {f : FuncId} {aS : List AV} {M : Mem} {K : HK (AV → Mem → Prop)} {x : AV} {ob : Ob} (spec : ASpec P f aS (fun r Ms => r = x ∧ Ms = [ob])) (ha : AV.pureL aS = true) (hob : AV.pureL ob.xs = true) (h : K.k (x.up M.length) (M ++ [some ob])) : ACall P f aS M (K := K) := by
  refine ⟨false, aS, _, coel_pure ha, spec, ?_⟩
  rintro r Ms ⟨rfl, rfl⟩
  refine ⟨fun e => (by cases e), ?_⟩
  simpa [Ob.up_pure ob _ hob] using h

theorem pureL_map {α : Type} (f : α → AV) (h : ∀ a, (f a).pure = true) (l : List α) : AV.pureL (l.map f) = true := by
  induction l with
  | nil => rfl
  | cons x l ih => simp [AV.pureL, h, ih]
theorem tfreeL_map {α : Type} (f : α → AV) (h : ∀ a, (f a).tfree = true) (l : List α) : AV.tfreeL (l.map f) = true := by
  induction l with
  | nil => rfl
  | cons x l ih => simp [AV.tfreeL, h, ih]
theorem killL_pure (Z : List Nat) (l : List AV) (h : AV.pureL l = true) : AV.killL Z l = l := by
  induction l with
  | nil => rfl
  | cons x l ih =>
    simp only [AV.pureL, Bool.and_eq_true] at h
    simp only [AV.killL, AV.kill_pure Z x h.1, ih h.2]

/-- a struct of two numbers. -/
def prA (l : Int × Int) : AV := .g [I l.1, I l.2]
def prsA (l : List (Int × Int)) : List AV := l.map prA
theorem prsA_len (l : List (Int × Int)) : (prsA l).length = l.length := by simp [prsA]
theorem aget_prs {l : List (Int × Int)} {j : Nat} (h : j < l.length) (K : HK (AV → Prop)) : @AGet (prsA l) j K = K.k (.g [I l[j].1, I l[j].2]) := by simp [AGet, prsA, prA, h]
theorem prsA_pure (l : List (Int × Int)) : AV.pureL (prsA l) = true := pureL_map prA (fun _ => rfl) l
theorem intsA_pure (l : List Int) : AV.pureL (intsA l) = true := pureL_map _ (fun _ => rfl) l
theorem prsA_tfree (l : List (Int × Int)) : AV.tfreeL (prsA l) = true := tfreeL_map prA (fun _ => rfl) l
theorem intsA_kill (Z : List Nat) (l : List Int) : AV.killL Z (intsA l) = intsA l := killL_pure Z _ (intsA_pure l)
theorem prsA_kill (Z : List Nat) (l : List (Int × Int)) : AV.killL Z (prsA l) = prsA l := killL_pure Z _ (prsA_pure l)
theorem intsA_app (l : List Int) (x : Int) : intsA l ++ [I x] = intsA (l ++ [x]) := by simp [intsA]
end
end Aw
end Go.Proofs.YtndniceeibflcaaGreatDoor

namespace Go.Proofs.YtndniceeibflcaaGreatDoor
namespace Aw
open Go.RowKit

section
variable {P : Program} {own : List Nat} {d : Option Tmp} {t : TypeId} {p : String} {af : Array Edge} {g : Option (Nat × Bool)} {ρ : Operand → AV} {M : Mem} {K : HK Kont}

theorem pe {a b : Prop} (h : a = b) : a = b := propext ⟨fun x => h ▸ x, fun x => h ▸ x⟩

theorem w_move {x : Operand} : coreC P own ⟨d, .move x, t, p, af, g⟩ ρ M (K := K) = K.k (ρ x) [] M := pe rfl
theorem w_assign {x : Operand} : coreC P own ⟨d, .assign x, t, p, af, g⟩ ρ M (K := K) = AAlt (if own.contains (d.getD 0) then asN (ρ x) else none) (K := ⟨fun _ => AOpt (tiOf P t) (K := ⟨fun ti => AOpt ti.elem (K := ⟨fun e => AOpt (tiOf P e) (K := ⟨fun te => K.k (.o M.length) [] (newRow M e te.size [])⟩)⟩)⟩)⟩) (L := ⟨K.k (ρ x) [] M⟩) := pe rfl
theorem w_pick {c a b : Operand} : coreC P own ⟨d, .pick c a b, t, p, af, g⟩ ρ M (K := K) = AOpt (asB (ρ c)) (K := ⟨fun c => @ACond c ⟨K.k (ρ a) [] M⟩ ⟨K.k (ρ b) [] M⟩⟩) := pe rfl
theorem w_box {y : TypeId} {x : Operand} : coreC P own ⟨d, .box y x, t, p, af, g⟩ ρ M (K := K) = ((ρ x).cellular = true ∧ @ACond (own.contains (d.getD 0)) ⟨K.k (.q M.length (ρ x).size 0 0) [] (newRow M y (ρ x).size [ρ x])⟩ ⟨(ρ x).pure = true ∧ K.k (.p (ρ x) 0) [] M⟩) := pe rfl
theorem w_alloc {y : TypeId} : coreC P own ⟨d, .alloc y, t, p, af, g⟩ ρ M (K := K) = AOpt (tiOf P y) (K := ⟨fun ti => (ti.agg || ti.zero.length == 1) = true ∧ K.k (.q M.length ti.size 0 0) [] (newRow M y ti.size [mkA ti.agg (ti.zero.map .v)])⟩) := pe rfl
theorem w_load {y : TypeId} {x : Operand} : coreC P own ⟨d, .load y x, t, p, af, g⟩ ρ M (K := K) = AOpt (tiOf P y) (K := ⟨fun ti => AAlt (asP (ρ x)) (K := ⟨fun yo => AOpt (loadA ti yo.1 yo.2) (K := ⟨fun r => K.k r [] M⟩)⟩) (L := ⟨
      AOpt (asQ (ρ x)) (K := ⟨fun q => AOpt (obA M q.1) (K := ⟨fun ob => ob.k = q.2.1 ∧ AGet ob.xs q.2.2.1 (K := ⟨fun y => AOpt (loadA ti y q.2.2.2) (K := ⟨fun r => K.k r [] M⟩)⟩)⟩)⟩)⟩)⟩) := pe rfl
theorem w_store {y : TypeId} {x v : Operand} : coreC P own ⟨d, .store y x v, t, p, af, g⟩ ρ M (K := K) = AOpt (tiOf P y) (K := ⟨fun ti => AOpt (asQ (ρ x)) (K := ⟨fun q => AOpt (obA M q.1) (K := ⟨fun ob => ob.k = q.2.1 ∧ AGet ob.xs q.2.2.1 (K := ⟨fun z =>
      AOpt (storeA ti z q.2.2.2 (ρ v)) (K := ⟨fun r => K.k .bot [] (M.set q.1 (some { ob with xs := ob.xs.set q.2.2.1 r }))⟩)⟩)⟩)⟩)⟩) := pe rfl
theorem w_fieldAddr {y : TypeId} {x : Operand} {f : Nat} : coreC P own ⟨d, .fieldAddr y x f, t, p, af, g⟩ ρ M (K := K) = AOpt (tiOf P y) (K := ⟨fun ti => AOpt ti.flds[f]? (K := ⟨fun fo => fo.2 ≠ 0 ∧ AAlt (asP (ρ x)) (K := ⟨fun yo => K.k (.p yo.1 (yo.2 + fo.1)) [] M⟩) (L := ⟨
      AOpt (asQ (ρ x)) (K := ⟨fun q => K.k (.q q.1 q.2.1 q.2.2.1 (q.2.2.2 + fo.1)) [] M⟩)⟩)⟩)⟩) := pe rfl
theorem w_indexAddr {y : TypeId} {x i : Operand} : coreC P own ⟨d, .indexAddr y x i, t, p, af, g⟩ ρ M (K := K) = AOpt (asI (ρ i)) (K := ⟨fun n => idxC P y M (ρ x) n.2 (K := ⟨fun r => K.k r [] M⟩)⟩) := pe rfl
theorem w_binOp {op : BinOp} {y z : TypeId} {a b : Operand} : coreC P own ⟨d, .binOp op y a b z, t, p, af, g⟩ ρ M (K := K) = binC P op y (ρ a) (ρ b) (isC b) (K := ⟨fun r => K.k r [] M⟩) := pe rfl
theorem w_convert {y z : TypeId} {a : Operand} : coreC P own ⟨d, .convert y z a, t, p, af, g⟩ ρ M (K := K) = AAlt (asI (ρ a)) (K := ⟨fun n => AOpt (intOf P y) (K := ⟨fun _ => AOpt (intOf P z) (K := ⟨fun k => K.k (.v (.int k (k.wrap n.2))) [] M⟩)⟩)⟩) (L := ⟨
      AOpt (asStr (ρ a)) (K := ⟨fun l => AOpt (tiOf P z) (K := ⟨fun ti => AOpt ti.elem (K := ⟨fun e => (intOf P e = some .u8 ∧ (P.underlying y).isSome = true ∧ l.length ≤ 1000000) ∧ K.k (.s 1 (bytesA l)) [] M⟩)⟩)⟩)⟩) := pe rfl
theorem w_index {y : TypeId} {x i : Operand} : coreC P own ⟨d, .index y x i, t, p, af, g⟩ ρ M (K := K) = AOpt (tiOf P y) (K := ⟨fun ti => AOpt (asI (ρ i)) (K := ⟨fun n => AAlt (asStr (ρ x)) (K := ⟨fun l => (ti.str = true ∧ 0 ≤ n.2 ∧ n.2 < l.length) ∧ K.k (.v (.int .u8 (l.getD n.2.toNat 0).toNat)) [] M⟩) (L := ⟨
      AOpt (asG (ρ x)) (K := ⟨fun xs => AOpt ti.arr (K := ⟨fun me => AOpt (tiOf P me.2) (K := ⟨fun te => (0 ≤ n.2 ∧ n.2 < me.1 ∧ te.size = 1 ∧ te.agg = false ∧ (xs.all AV.single) = true) ∧ AGet xs n.2.toNat (K := ⟨fun x => K.k x [] M⟩)⟩)⟩)⟩)⟩)⟩)⟩) := pe rfl
theorem w_makeInterface {y : TypeId} {x : Operand} : coreC P own ⟨d, .makeInterface y x, t, p, af, g⟩ ρ M (K := K) = AOpt (valOf (ρ x)) (K := ⟨fun v => conc P y = true ∧ K.k (.v (.iface y v)) [] M⟩) := pe rfl
theorem w_not {y : TypeId} {x : Operand} : coreC P own ⟨d, .unOp .not y x, t, p, af, g⟩ ρ M (K := K) = AOpt (asB (ρ x)) (K := ⟨fun b => K.k (B (!b)) [] M⟩) := pe rfl
theorem w_neg {y : TypeId} {x : Operand} : coreC P own ⟨d, .unOp .neg y x, t, p, af, g⟩ ρ M (K := K) = AOpt (asI (ρ x)) (K := ⟨fun n => (n.1 = .i64 ∧ lim (-n.2)) ∧ K.k (I (-n.2)) [] M⟩) := pe rfl
theorem w_build {y : TypeId} {parts : Array (Nat × Operand)} : coreC P own ⟨d, .build y parts, t, p, af, g⟩ ρ M (K := K) = AOpt (tiOf P y) (K := ⟨fun ti => AOpt (fillA (fun i => ti.flds[i]?) (ti.zero.map .v) (parts.toList.map fun ix => (ix.1, ρ ix.2))) (K := ⟨fun cells => (ti.agg = true ∧ ti.arr = none) ∧ K.k (.g cells) [] M⟩)⟩) := pe rfl
theorem w_buildSlice {y : TypeId} {n : Nat} {parts : Array (Nat × Operand)} : coreC P own ⟨d, .buildSlice y n parts, t, p, af, g⟩ ρ M (K := K) = AOpt (tiOf P y) (K := ⟨fun ti => AOpt ti.elem (K := ⟨fun e => AOpt (tiOf P e) (K := ⟨fun te =>
      (0 < te.size ∧ n * te.size ≤ 16777216 ∧ parts.toList.map (·.1) = List.range n ∧ parts.toList.all (fun ix => (ρ ix.2).cellular && (ρ ix.2).flat && (ρ ix.2).size == te.size) = true) ∧
      @ACond (own.contains (d.getD 0)) ⟨K.k (.o M.length) [] (newRow M e te.size (parts.toList.map fun ix => ρ ix.2))⟩ ⟨AV.pureL (parts.toList.map fun ix => ρ ix.2) = true ∧ K.k (.s te.size (parts.toList.map fun ix => ρ ix.2)) [] M⟩⟩)⟩)⟩) := pe rfl
theorem w_extract {x : Operand} {i : Nat} : coreC P own ⟨d, .extract x i, t, p, af, g⟩ ρ M (K := K) = AOpt (asT (ρ x)) (K := ⟨fun xs => AOpt xs[i]? (K := ⟨fun r => K.k r [] M⟩)⟩) := pe rfl
theorem w_field {y : TypeId} {x : Operand} {f : Nat} : coreC P own ⟨d, .field y x f, t, p, af, g⟩ ρ M (K := K) = AOpt (tiOf P y) (K := ⟨fun ti => AOpt (asG (ρ x)) (K := ⟨fun xs => AOpt ti.flds[f]? (K := ⟨fun fo => AOpt ti.ftys[f]? (K := ⟨fun ft => AOpt (tiOf P ft) (K := ⟨fun tf => AOpt (loadA tf (.g xs) fo.1) (K := ⟨fun r => K.k r [] M⟩)⟩)⟩)⟩)⟩)⟩) := pe rfl
theorem w_slice {y : TypeId} {x : Operand} {lo hi : Option Operand} : coreC P own ⟨d, .slice y x lo hi none, t, p, af, g⟩ ρ M (K := K) = AOpt (tiOf P y) (K := ⟨fun ti => AAlt (asS (ρ x)) (K := ⟨fun kxs => AOpt (bndA ρ lo) (K := ⟨fun lo => AOpt (bndA ρ hi) (K := ⟨fun hi => AOpt ti.elem (K := ⟨fun e => AOpt (tiOf P e) (K := ⟨fun te =>
      (kxs.1 = te.size ∧ 0 ≤ lo.getD 0 ∧ lo.getD 0 ≤ hi.getD kxs.2.length ∧ hi.getD kxs.2.length ≤ kxs.2.length) ∧ K.k (.s kxs.1 ((kxs.2.take (hi.getD kxs.2.length).toNat).drop (lo.getD 0).toNat)) [] M⟩)⟩)⟩)⟩)⟩) (L := ⟨
      AOpt (asStr (ρ x)) (K := ⟨fun l => AOpt (bndA ρ lo) (K := ⟨fun lo => AOpt (bndA ρ hi) (K := ⟨fun hi => (ti.str = true ∧ 0 ≤ lo.getD 0 ∧ lo.getD 0 ≤ hi.getD l.length ∧ hi.getD l.length ≤ l.length) ∧
        K.k (S ((l.take (hi.getD l.length).toNat).drop (lo.getD 0).toNat)) [] M⟩)⟩)⟩)⟩)⟩) := pe rfl
theorem w_makeFunc {fn : Fn} {first cap : Array Operand} : coreC P own ⟨d, .makeFunc fn first cap, t, p, af, g⟩ ρ M (K := K) = ((first.size = 0 ∧ (cap.toList.all fun x => (ρ x).cellular && (ρ x).single) = true) ∧ K.k (.f fn (cap.toList.map ρ)) [] M) := pe rfl
theorem w_isCc (v : Value) : isC (.const v) = true := rfl
theorem w_isCt (v : Tmp) : isC (.tmp v) = false := rfl
theorem w_nilCheck {x : Operand} : coreC P own ⟨d, .nilCheck x, t, p, af, g⟩ ρ M (K := K) = AAlt (asP (ρ x)) (K := ⟨fun yo => K.k (.p yo.1 yo.2) [] M⟩) (L := ⟨AOpt (asQ (ρ x)) (K := ⟨fun q => K.k (.q q.1 q.2.1 q.2.2.1 q.2.2.2) [] M⟩)⟩) := pe rfl
theorem w_makeMap {y : TypeId} : coreC P own ⟨d, .makeMap y none, t, p, af, g⟩ ρ M (K := K) = ((mapOf P y).isSome = true ∧ K.k (.o M.length) [] (M ++ [some ⟨some [], y, 0, []⟩])) := pe rfl
theorem w_lookup {y : TypeId} {m x : Operand} {ok : Bool} : coreC P own ⟨d, .lookup y m x ok, t, p, af, g⟩ ρ M (K := K) = AOpt (mapOf P y) (K := ⟨fun ke => AOpt (asO (ρ m)) (K := ⟨fun id => AOpt (valOf (ρ x)) (K := ⟨fun kv => AOpt (obA M id) (K := ⟨fun ob => AOpt ob.mp (K := ⟨fun ks => AOpt (zeroA P ke.2) (K := ⟨fun z => ob.k = 0 ∧
      AFind P ke.1 ks kv (K := ⟨fun j => AGet ob.xs j (K := ⟨fun y => K.k (if ok then .t [y, B true] else y) [] M⟩)⟩) (L := ⟨K.k (if ok then .t [z, B false] else z) [] M⟩)⟩)⟩)⟩)⟩)⟩)⟩) := pe rfl
theorem w_mapUpdate {y : TypeId} {m x v : Operand} : coreC P own ⟨d, .mapUpdate y m x v, t, p, af, g⟩ ρ M (K := K) = putC P y (ρ m) (ρ x) (ρ v) M (K := K) := pe rfl
theorem w_insert {y : TypeId} {m x v : Operand} : coreC P own ⟨d, .insert y m x v, t, p, af, g⟩ ρ M (K := K) = putC P y (ρ m) (ρ x) (ρ v) M (K := K) := pe rfl
theorem w_put {y : TypeId} {m x v : AV} : putC P y m x v M (K := K) = AOpt (mapOf P y) (K := ⟨fun ke => AOpt (asO m) (K := ⟨fun id => AOpt (valOf x) (K := ⟨fun kv => AOpt (obA M id) (K := ⟨fun ob => AOpt ob.mp (K := ⟨fun ks => ob.k = 0 ∧
    AFind P ke.1 ks kv (K := ⟨fun j => K.k .bot [] (M.set id (some { ob with xs := ob.xs.set j v }))⟩) (L := ⟨K.k .bot [] (M.set id (some { ob with mp := some (ks ++ [kv]), xs := ob.xs ++ [v] }))⟩)⟩)⟩)⟩)⟩)⟩) := pe rfl
theorem w_makeSlice {y : TypeId} {l c : Operand} : coreC P own ⟨d, .makeSlice y l c, t, p, af, g⟩ ρ M (K := K) = AOpt (tiOf P y) (K := ⟨fun ti => AOpt ti.elem (K := ⟨fun e => AOpt (tiOf P e) (K := ⟨fun te => AOpt (oneOf te.zero) (K := ⟨fun z => AOpt (asI (ρ l)) (K := ⟨fun kn => AOpt (asI (ρ c)) (K := ⟨fun kn' =>
      (kn'.2 = kn.2 ∧ te.agg = false ∧ 0 ≤ kn.2 ∧ kn.2 ≤ 1000000 ∧ te.size = 1 ∧ te.bytes ≤ 1000) ∧ K.k (.o M.length) [] (newRow M e 1 (List.replicate kn.2.toNat (.v z)))⟩)⟩)⟩)⟩)⟩)⟩) := pe rfl
theorem w_callF {f : FuncId} {args : Array Operand} {tys : Array TypeId} : coreC P own ⟨d, .call ⟨.value (.func f), args, tys⟩, t, p, af, g⟩ ρ M (K := K) = ACall P f (args.toList.map ρ) M (K := ⟨fun r M' => K.k r [] M'⟩) := pe rfl
theorem w_callT {f : Tmp} {args : Array Operand} {tys : Array TypeId} : coreC P own ⟨d, .call ⟨.value (.tmp f), args, tys⟩, t, p, af, g⟩ ρ M (K := K) = AOpt (asF (ρ (.tmp f))) (K := ⟨fun fc => ACall P fc.1 (args.toList.map ρ ++ fc.2) M (K := ⟨fun r M' => K.k r [] M'⟩)⟩) := pe rfl
theorem w_len {x : Operand} {y : TypeId} : coreC P own ⟨d, .call ⟨.builtin .len, #[x], #[y]⟩, t, p, af, g⟩ ρ M (K := K) = AOpt (tiOf P y) (K := ⟨fun ti => AAlt (lenA M (ρ x)) (K := ⟨fun n => lenK ti (ρ x) = true ∧ K.k (I n) [] M⟩) (L := ⟨AOpt (mapOf P y) (K := ⟨fun _ => AOpt (lenM M (ρ x)) (K := ⟨fun n => K.k (I n) [] M⟩)⟩)⟩)⟩) := pe rfl
theorem w_min {x y : Operand} {tys : Array TypeId} : coreC P own ⟨d, .call ⟨.builtin .min, #[x, y], tys⟩, t, p, af, g⟩ ρ M (K := K) = AOpt (minmaxA false (ρ x) (ρ y)) (K := ⟨fun r => K.k r [] M⟩) := pe rfl
theorem w_max {x y : Operand} {tys : Array TypeId} : coreC P own ⟨d, .call ⟨.builtin .max, #[x, y], tys⟩, t, p, af, g⟩ ρ M (K := K) = AOpt (minmaxA true (ρ x) (ρ y)) (K := ⟨fun r => K.k r [] M⟩) := pe rfl
theorem w_append {x y : Operand} {ty ty' : TypeId} : coreC P own ⟨d, .call ⟨.builtin .append, #[x, y], #[ty, ty']⟩, t, p, af, g⟩ ρ M (K := K) = AOpt (tiOf P ty) (K := ⟨fun ti => AOpt ti.elem (K := ⟨fun e => AOpt (tiOf P e) (K := ⟨fun te => AOpt (asO (ρ x)) (K := ⟨fun i => AOpt (obA M i) (K := ⟨fun ob =>
        AAlt (asS (ρ y)) (K := ⟨fun kys => (ty = ty' ∧ ob.mp = none ∧ ob.ty = e ∧ ob.k = te.size ∧ kys.1 = te.size ∧ 0 < te.size ∧ ob.xs.length + kys.2.length ≤ 1000000 ∧ te.bytes ≤ 1000) ∧
            K.k (.o i) [i] ((M.kill [i]).set i (some { ob with xs := AV.killL [i] ob.xs ++ kys.2 }))⟩) (L := ⟨
        AAlt (asN (ρ y)) (K := ⟨fun _ => (ty = ty' ∧ ob.mp = none) ∧ K.k (.o i) [] M⟩) (L := ⟨
        AOpt (asO (ρ y)) (K := ⟨fun j => AOpt (obA M j) (K := ⟨fun ob' => (i ≠ j ∧ ty = ty' ∧ ob.mp = none ∧ ob'.mp = none ∧ ob.ty = e ∧ ob.k = te.size ∧ ob'.k = te.size ∧ 0 < te.size ∧ ob.xs.length + ob'.xs.length ≤ 1000000 ∧ te.bytes ≤ 1000) ∧
            K.k (.o i) [i] ((M.kill [i]).set i (some { ob with xs := AV.killL [i] ob.xs ++ AV.killL [i] ob'.xs }))⟩)⟩)⟩)⟩)⟩)⟩)⟩)⟩)⟩) := pe rfl
end

section
variable {P : Program} {own : List Nat} {ops : List Oper} {d : Option Tmp} {op : Op} {t : TypeId} {p : String} {af : Array Edge} {σ : St} {N : HN}
theorem w_aop : @aop P own ops ⟨d, op, t, p, af, none⟩ σ N = coreC P own ⟨d, op, t, p, af, none⟩ σ.ev σ.M (K := ⟨fun r Z M' => N.k (σ.step d r Z M')⟩) := pe rfl
theorem w_aopg {j : Nat} {want : Bool} : @aop P own ops ⟨d, op, t, p, af, some (j, want)⟩ σ N = AOpt ((ops[j]?).bind (·.dst)) (K := ⟨fun e => AOpt (gd (σ.sl.getD e .bot) want) (K := ⟨fun b =>
      @ACond b ⟨coreC P own ⟨d, op, t, p, af, some (j, want)⟩ σ.ev σ.M (K := ⟨fun r Z M' => N.k (σ.step d r Z M')⟩)⟩ ⟨N.k (σ.step d (.t []) [] σ.M)⟩⟩)⟩) := pe rfl
theorem w_take {m : Md} {ts : List Nat} : @atake P own ops ⟨d, op, t, p, af, none⟩ m ts σ N = coreC P own ⟨d, op, t, p, af, none⟩ σ.ev (m.mem σ.M) (K := ⟨fun r _ _ => m.need ts σ.sl r ∧ N.k (σ.put d r)⟩) := pe rfl
theorem w_takeg {m : Md} {ts : List Nat} {j : Nat} {want : Bool} : @atake P own ops ⟨d, op, t, p, af, some (j, want)⟩ m ts σ N = AOpt ((ops[j]?).bind (·.dst)) (K := ⟨fun e => AOpt (gd (σ.sl.getD e .bot) want) (K := ⟨fun b =>
      @ACond b ⟨coreC P own ⟨d, op, t, p, af, some (j, want)⟩ σ.ev (m.mem σ.M) (K := ⟨fun r _ _ => m.need ts σ.sl r ∧ N.k (σ.put d r)⟩)⟩ ⟨m.need ts σ.sl (.t []) ∧ N.k (σ.put d (.t []))⟩⟩)⟩) := pe rfl
theorem w_gdb (b want : Bool) : gd (.v (.bool b)) want = some (b == want) := rfl
theorem w_gdu (want : Bool) : gd (.t []) want = some false := rfl
theorem w_some {α : Type} (a : α) (K : HK (α → Prop)) : @AOpt α (some a) K = K.k a := pe rfl
theorem w_asome {α : Type} (a : α) (K : HK (α → Prop)) (L : HK Prop) : @AAlt α (some a) K L = K.k a := pe rfl
theorem w_anone {α : Type} (K : HK (α → Prop)) (L : HK Prop) : @AAlt α none K L = L.k := pe rfl
theorem w_bt (b : Bool) : (b == true) = b := by cases b <;> rfl
theorem w_bf (b : Bool) : (b == false) = !b := by cases b <;> rfl
theorem w_nil {σ : St} : @AOps P own ops [] σ N = N.k σ := pe rfl
theorem w_cons {o : Oper} {rest : List Oper} : @AOps P own ops (o :: rest) σ N = @aop P own ops o σ ⟨fun σ' => @AOps P own ops rest σ' N⟩ := pe rfl
end
end Aw
end Go.Proofs.YtndniceeibflcaaGreatDoor

namespace Go.Proofs.YtndniceeibflcaaGreatDoor
namespace Aw
open Go.RowKit

def AV.isO (i : Nat) : AV → Bool | .o j => j == i | _ => false
def AV.isQ (i k j off : Nat) : AV → Bool | .q i' k' j' off' => i' == i && k' == k && j' == j && off' == off | _ => false
theorem AV.isO_eq {i : Nat} {a : AV} (h : a.isO i = true) : a = .o i := by
  cases a <;> simp [AV.isO] at h
  subst h; rfl
theorem AV.isQ_eq {i k j off : Nat} {a : AV} (h : a.isQ i k j off = true) : a = .q i k j off := by
  cases a <;> simp [AV.isQ] at h
  obtain ⟨⟨⟨rfl, rfl⟩, rfl⟩, rfl⟩ := h; rfl

section
variable {w w' : World} {T T' : Nat → Prop} {hv hv' : Nat → Option Value} {F : Nat → AV} {G : Nat → Nat → Nat → Nat → AV}

theorem R_subk (hk : Keeps w T w' T') (hF : ∀ i v, hv i = some v → v.oneCell' = true → R w' T' hv' (F i) [v]) (hF1 : ∀ i, (F i).single = true) (hG : ∀ i k j off us, R w T hv (.q i k j off) us → R w' T' hv' (G i k j off) us) (hG1 : ∀ i k j off, (G i k j off).single = true) :
    ∀ (a : AV) (us : List Value), R w T hv a us → R w' T' hv' (a.sub F G) us := by
  intro a
  refine AV.rec (motive_1 := fun a => ∀ us, R w T hv a us → R w' T' hv' (a.sub F G) us) (motive_2 := fun l => ∀ us, RL w T hv l us → RL w' T' hv' (AV.subL F G l) us)
    ?_ ?_ ?_ ?_ ?_ ?_ ?_ ?_ ?_ ?_ ?_ a
  · intro us h; simpa only [R, AV.sub] using h
  · intro x us h; simpa only [R, AV.sub] using h
  · intro k xs _ us h
    have := R_keep hk (.s k xs) [] hv hv us (fun _ _ _ h => h) h
    rw [AV.kill_nil] at this
    simpa only [R, AV.sub] using this
  · intro xs ih us h; simp only [R, AV.sub] at h ⊢; exact ih us h
  · intro xs _ us h; simp [R] at h
  · intro x off _ us h
    have := R_keep hk (.p x off) [] hv hv us (fun _ _ _ h => h) h
    rw [AV.kill_nil] at this
    simpa only [R, AV.sub] using this
  · intro i us h
    simp only [R] at h
    obtain ⟨v, h1, rfl, h2⟩ := h
    simp only [AV.sub]
    exact hF i v h1 h2
  · intro i k j off us h
    simp only [AV.sub]
    exact hG i k j off us h
  · intro fn cap ih us h
    simp only [R, AV.sub] at h ⊢
    obtain ⟨cs, h1, h2, h3⟩ := h
    exact ⟨cs, h1, fun x hx => by rw [AV.subL_map] at hx; obtain ⟨y, hy, rfl⟩ := List.mem_map.1 hx; exact single_sub hF1 hG1 y (h2 y hy), ih _ h3⟩
  · intro us h; simpa only [RL, AV.subL] using h
  · intro x xs ih1 ih2 us h
    simp only [RL, AV.subL] at h ⊢
    obtain ⟨u1, u2, rfl, h1, h2⟩ := h
    exact ⟨u1, u2, rfl, ih1 u1 h1, ih2 u2 h2⟩

end

section
variable {P : Program} {C : Ctx} {σ : St} {a : Act} {w : World} {Q : Exit → Act → World → Prop}

end

end Aw
end Go.Proofs.YtndniceeibflcaaGreatDoor
