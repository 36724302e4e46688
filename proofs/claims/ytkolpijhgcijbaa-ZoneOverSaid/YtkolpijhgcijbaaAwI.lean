/-
  The calculus: functions and what they return.
-/
import Derived.Test.YtkolpijhgcijbaaAwH
namespace Go.Proofs.Ytkolpijhgcijbaa
namespace Aw
open Go.RowKit

section
variable {w : World} {T T' : Nat → Prop} {hv hv' : Nat → Option Value} {F : Nat → AV} {G : Nat → Nat → Nat → Nat → AV}

theorem single_sub (hF1 : ∀ i, (F i).single = true) (hG1 : ∀ i k j off, (G i k j off).single = true) (a : AV) (h : a.single = true) : (a.sub F G).single = true := by
  cases a <;> simp_all [AV.single, AV.sub]

theorem R_sub (hT : ∀ b, T' b → T b) (hF : ∀ i v, hv i = some v → R w T' hv' (F i) [v]) (hF1 : ∀ i, (F i).single = true) (hG : ∀ i k j off us, R w T hv (.q i k j off) us → R w T' hv' (G i k j off) us) (hG1 : ∀ i k j off, (G i k j off).single = true) :
    ∀ (a : AV) (us : List Value), R w T hv a us → R w T' hv' (a.sub F G) us := by
  have hk : Keeps w T w T' := ⟨Nat.le_refl _, fun _ _ _ => rfl, fun b _ h => hT b h⟩
  intro a
  refine AV.rec (motive_1 := fun a => ∀ us, R w T hv a us → R w T' hv' (a.sub F G) us) (motive_2 := fun l => ∀ us, RL w T hv l us → RL w T' hv' (AV.subL F G l) us)
    ?_ ?_ ?_ ?_ ?_ ?_ ?_ ?_ ?_ ?_ ?_ a
  · intro us h; simpa only [R, AV.sub] using h
  · intro x us h; simpa only [R, AV.sub] using h
  · intro k xs _ us h
    have := R_keep hk (.s k xs) [] hv hv us (fun _ _ _ h => h) h
    rw [AV.kill_nil] at this
    simpa only [R, AV.sub] using this
  · intro xs ih us h; simp only [R, AV.sub] at h ⊢; exact ih us h
  · intro xs _ us h; simp [R] at h
  · intro x off _ us h
    have := R_keep hk (.p x off) [] hv hv us (fun _ _ _ h => h) h
    rw [AV.kill_nil] at this
    simpa only [R, AV.sub] using this
  · intro i us h
    simp only [R] at h
    obtain ⟨v, h1, rfl, _⟩ := h
    simp only [AV.sub]
    exact hF i v h1
  · intro i k j off us h
    simp only [AV.sub]
    exact hG i k j off us h
  · intro fn cap ih us h
    simp only [R, AV.sub] at h ⊢
    obtain ⟨cs, h1, h2, h3⟩ := h
    exact ⟨cs, h1, fun x hx => by rw [AV.subL_map] at hx; obtain ⟨y, hy, rfl⟩ := List.mem_map.1 hx; exact single_sub hF1 hG1 y (h2 y hy), ih _ h3⟩
  · intro us h; simpa only [RL, AV.subL] using h
  · intro x xs ih1 ih2 us h
    simp only [RL, AV.subL] at h ⊢
    obtain ⟨u1, u2, rfl, h1, h2⟩ := h
    exact ⟨u1, u2, rfl, ih1 u1 h1, ih2 u2 h2⟩

theorem RL_sub (hT : ∀ b, T' b → T b) (hF : ∀ i v, hv i = some v → R w T' hv' (F i) [v]) (hF1 : ∀ i, (F i).single = true) (hG : ∀ i k j off us, R w T hv (.q i k j off) us → R w T' hv' (G i k j off) us) (hG1 : ∀ i k j off, (G i k j off).single = true) :
    ∀ (l : List AV) (us : List Value), RL w T hv l us → RL w T' hv' (AV.subL F G l) us
  | [], us, h => by simpa only [RL, AV.subL] using h
  | x :: xs, us, h => by
    simp only [RL, AV.subL] at h ⊢
    obtain ⟨u1, u2, rfl, h1, h2⟩ := h
    exact ⟨u1, u2, rfl, R_sub hT hF hF1 hG hG1 x u1 h1, RL_sub hT hF hF1 hG hG1 xs u2 h2⟩

theorem RV_sub (hT : ∀ b, T' b → T b) (hF : ∀ i v, hv i = some v → R w T' hv' (F i) [v]) (hF1 : ∀ i, (F i).single = true) (hG : ∀ i k j off us, R w T hv (.q i k j off) us → R w T' hv' (G i k j off) us) (hG1 : ∀ i k j off, (G i k j off).single = true) :
    ∀ (a : AV) (v : Value), RV w T hv a v → RV w T' hv' (a.sub F G) v := by
  intro a
  refine AV.rec (motive_1 := fun a => ∀ v, RV w T hv a v → RV w T' hv' (a.sub F G) v) (motive_2 := fun l => ∀ vs, RVL w T hv l vs → RVL w T' hv' (AV.subL F G l) vs)
    ?_ ?_ ?_ ?_ ?_ ?_ ?_ ?_ ?_ ?_ ?_ a
  · intro v _; simp [RV, AV.sub]
  · intro x v h; simpa only [RV, AV.sub] using h
  · intro k xs _ v h; have := R_sub hT hF hF1 hG hG1 (.s k xs) [v] (by simpa only [RV] using h); simpa only [RV, AV.sub] using this
  · intro xs _ v h
    simp only [RV, AV.sub] at h ⊢
    obtain ⟨cs, rfl, h⟩ := h
    exact ⟨cs, rfl, RL_sub hT hF hF1 hG hG1 xs _ h⟩
  · intro xs ih v h
    simp only [RV, AV.sub] at h ⊢
    obtain ⟨vs, rfl, h⟩ := h
    exact ⟨vs, rfl, ih _ h⟩
  · intro x off _ v h; have := R_sub hT hF hF1 hG hG1 (.p x off) [v] (by simpa only [RV] using h); simpa only [RV, AV.sub] using this
  · intro i v h
    have h' : R w T hv (.o i) [v] := by simpa only [RV] using h
    exact R_RV (hF1 i) (R_sub hT hF hF1 hG hG1 (.o i) [v] h')
  · intro i k j off v h
    have h' : R w T hv (.q i k j off) [v] := by simpa only [RV] using h
    exact R_RV (hG1 i k j off) (R_sub hT hF hF1 hG hG1 (.q i k j off) [v] h')
  · intro fn cap _ v h; have := R_sub hT hF hF1 hG hG1 (.f fn cap) [v] (by simpa only [RV] using h); simpa only [RV, AV.sub] using this
  · intro vs h; simpa only [RVL, AV.subL] using h
  · intro x xs ih1 ih2 vs h
    simp only [RVL, AV.subL] at h ⊢
    obtain ⟨u, us, rfl, h1, h2⟩ := h
    exact ⟨u, us, rfl, ih1 u h1, ih2 us h2⟩
end

/-- the objects are read, and no longer written. -/
def frz (M : Mem) : AV → AV := AV.sub (fun i => match M[i]? with | some (some ob) => if (ob.mp.isNone && AV.pureL ob.xs) = true then .s ob.k ob.xs else .bot | _ => .bot) (fun _ _ _ _ => .bot)

/-- one object is handed on. -/
def exp1 (i : Nat) : AV → AV := AV.sub (fun j => if j = i then .o 0 else .bot) (fun j k jj off => if j = i then .q 0 k jj off else .bot)

/-- what is returned: x, told as r, with the objects Ms. -/
def Ret (M : Mem) (x : AV) (r : AV) (Ms : List Ob) : Prop :=
  ∀ A w hv v, MemR A w hv M → (∀ b, Own hv b → ¬ A b) → RV w (OwnA A hv) hv x v → ∃ hv', MemR A w hv' (Ms.map some) ∧ RV w (OwnA A hv') hv' r v ∧ ∀ b, Own hv' b → Own hv b

theorem R_botq {w : World} {T : Nat → Prop} {hv hv' : Nat → Option Value} {i k j off : Nat} {us : List Value} (h : R w T hv (.q i k j off) us) : R w T hv' .bot us := by
  simp only [R] at h
  obtain ⟨b, n, c, _, rfl⟩ := h
  exact ⟨_, rfl, rfl⟩

theorem row_one {w : World} {e : TypeId} {k n : Nat} {v : Value} {us : List Value} (h : w.ownsRow 0 e k v n us) : v.oneCell' = true := by
  rcases h.2 with ⟨rfl, _⟩ | ⟨g, cap, cur, rfl, _⟩ <;> rfl

theorem ret_frz (M : Mem) (x : AV) : Ret M x (frz M x) [] := by
  intro A w hv v hM hA hx
  refine ⟨noHv, ⟨fun i ob h => by simp at h, fun i v h => by simp [noHv] at h, fun i j vi vj b h => by simp [noHv] at h, hM.old⟩, ?_, fun b h => by obtain ⟨i, v, h, _⟩ := h; simp [noHv] at h⟩
  have hown : ∀ b, ¬ Own noHv b := fun b h => by obtain ⟨i, v, h, _⟩ := h; simp [noHv] at h
  refine RV_sub (T := OwnA A hv) (T' := OwnA A noHv) (hv := hv) (hv' := noHv) (fun b h => h.elim .inl (fun h => absurd h (hown b))) (fun i v h => ?_) (fun i => ?_) (fun i k j off us h => R_botq h) (fun _ _ _ _ => rfl) x v hx
  · obtain ⟨ob, hob⟩ := hM.dom i v h
    simp only [hob]
    split
    · rename_i hp
      simp only [Bool.and_eq_true, Option.isNone_iff_eq_none] at hp
      obtain ⟨hm, hp⟩ := hp
      obtain ⟨us, hrow, hk, hus⟩ := (hM_ob hM hob h).row hm
      have hus' := RL_pure ob.xs hv noHv us hp hus
      have hkeep : Keeps w (OwnA A hv) w (OwnA A noHv) := ⟨Nat.le_refl _, fun _ _ _ => rfl, fun b _ h => h.elim .inl (fun h => absurd h (hown b))⟩
      have hus2 := RL_keep hkeep (Z := []) (hv := noHv) (hv' := noHv) (fun _ _ _ h => h) _ _ hus'
      rw [AV.killL_nil] at hus2
      simp only [R]
      rcases hrow.2 with ⟨rfl, h0⟩ | ⟨g, cap, cur, rfl, _, hg, hnc, hcm, hcs, htk⟩
      · have he : ob.xs = [] := List.eq_nil_of_length_eq_zero h0
        rw [he]
        exact ⟨none, 0, [], by simp, Nat.le_refl _, Nat.zero_le _, by simp, by simp [RL], fun h => absurd rfl h⟩
      · refine ⟨_, cap, us, rfl, hnc, hcm, hk, hus2, fun _ => ⟨g, 0, rfl, (Array.getElem?_eq_some_iff.1 hg).1, fun h' => ?_, fun j u hu => ?_⟩⟩
        · rcases h' with h' | h'
          · exact hA g ⟨i, _, h, rfl⟩ h'
          · exact hown g h'
        · have := hrow.cells (g := g) rfl j u hu
          rw [Addr.add_lit] at this
          exact this
    · simp only [R]; exact ⟨v, rfl, (hM_ob hM hob h).one⟩
  · split
    · split <;> rfl
    · rfl

theorem ret_exp1 (M : Mem) (x : AV) (i : Nat) (ob : Ob) (hi : M[i]? = some (some ob)) (hp : AV.pureL ob.xs = true) : Ret M x (exp1 i x) [ob] := by
  intro A w hv v hM hA hx
  obtain ⟨v0, hv0, hob⟩ := hM.live i ob hi
  let hv' : Nat → Option Value := fun j => if j = 0 then some v0 else none
  have hown : ∀ b, Own hv' b → Own hv b := by
    rintro b ⟨j, u, hj, hb⟩
    simp only [hv'] at hj
    split at hj
    · injection hj with hj; subst hj; exact ⟨i, _, hv0, hb⟩
    · cases hj
  have hkeep : Keeps w (OwnA A hv) w (OwnA A hv') := ⟨Nat.le_refl _, fun _ _ _ => rfl, fun b _ h => h.elim .inl (fun h => .inr (hown b h))⟩
  refine ⟨hv', ⟨fun j o h => ?_, fun j u h => ?_, fun j1 j2 v1 v2 b h1 h2 _ _ => ?_, hM.old⟩, ?_, hown⟩
  · cases j with
    | zero =>
      simp at h
      subst h
      refine ⟨v0, rfl, ?_⟩
      cases hm : ob.mp with
      | some ks =>
        obtain ⟨vals, g1, g3⟩ := hob.map hm
        have h1 := RVL_pure ob.xs hv hv' _ hp g3
        have := RVL_keep hkeep (Z := []) (hv := hv') (hv' := hv') (fun _ _ _ h => h) _ _ h1
        rw [AV.killL_nil] at this
        exact ObR.of_map hm ⟨vals, g1, this⟩
      | none =>
      obtain ⟨us, hrow, hk, hus⟩ := hob.row hm
      refine ObR.of_row hm ⟨us, hrow, hk, ?_⟩
      have h1 := RL_pure ob.xs hv hv' us hp hus
      have := RL_keep hkeep (Z := []) (hv := hv') (hv' := hv') (fun _ _ _ h => h) _ _ h1
      rwa [AV.killL_nil] at this
    | succ j => simp at h
  · simp only [hv'] at h
    split at h
    · rename_i hj; subst hj; exact ⟨ob, rfl⟩
    · cases h
  · simp only [hv'] at h1 h2
    split at h1
    · split at h2
      · omega
      · cases h2
    · cases h1
  · refine RV_sub (T := OwnA A hv) (T' := OwnA A hv') (hv := hv) (hv' := hv') (fun b h => h.elim .inl (fun h => .inr (hown b h))) (fun j u h => ?_) (fun j => by split <;> rfl) (fun j k jj off us h => ?_) (fun j _ _ _ => by split <;> rfl) x v hx
    · split
      · rename_i hj
        subst hj
        rw [hv0] at h
        injection h with h
        subst h
        exact ⟨v0, rfl, rfl, hob.one⟩
      · obtain ⟨o, ho⟩ := hM.dom j u h
        exact ⟨u, rfl, (hM_ob hM ho h).one⟩
    · split
      · rename_i hj
        subst hj
        simp only [R] at h ⊢
        obtain ⟨b, n, c, h1, h2⟩ := h
        rw [hv0] at h1
        injection h1 with h1
        exact ⟨b, n, c, by simp [hv', h1], h2⟩
      · exact R_botq h

def resOne (P : Program) (σ : St) : ResultVar → Option AV
  | .tmp t => some (σ.sl.getD t .bot)
  | .cell t ty => match tiOf P ty, σ.sl.getD t .bot with
    | some ti, .q id k j off => (match σ.M[id]? with
      | some (some ob) => if ob.k = k ∧ j < ob.xs.length then loadA ti (ob.xs.getD j .bot) off else none
      | _ => none)
    | _, _ => none

def resL (P : Program) (σ : St) : List ResultVar → Option (List AV)
  | [] => some []
  | r :: rs => match resOne P σ r, resL P σ rs with
    | some x, some xs => some (x :: xs)
    | _, _ => none

def resA (P : Program) (rs : List ResultVar) (σ : St) : Option AV :=
  match resL P σ rs with
  | some [x] => some x
  | some xs => some (.t xs)
  | none => none

/-- what holds where a function ends. -/
def AEnd (P : Program) (rs : List ResultVar) (post : AV → List Ob → Prop) (σ : St) : Prop :=
  ∃ x, resA P rs σ = some x ∧ ∃ r Ms, Ret σ.M x r Ms ∧ post r Ms

section
variable {P : Program}

theorem res_ok {C : Ctx} {σ : St} {a : Act} {w : World} {fn : Func} {hv : Nat → Option Value} {x : AV} (hsl : ∀ (i : Nat) (x : AV), σ.sl[i]? = some x → ∃ v, a.tmps[i]? = some v ∧ RV w (OwnA C.A hv) hv x v) (hM : MemR C.A w hv σ.M)
    (h : resA P fn.results.toList σ = some x) : ∃ v, (results fn a.tmps).run P w = .ok v w ∧ RV w (OwnA C.A hv) hv x v := by
  have hget : ∀ t, RV w (OwnA C.A hv) hv (σ.sl.getD t .bot) (a.tmps.getD t undef) := fun t => ev_ok (σ := σ) (C := C) hsl (.tmp t)
  have one : ∀ (r : ResultVar) (y : AV), resOne P σ r = some y → ∃ v, (match r with | .tmp t => pure (a.tmps.getD t undef) | .cell q t => do loadVar t (← asAddr (a.tmps.getD q undef)) : Sem Value).run P w = .ok v w ∧ RV w (OwnA C.A hv) hv y v := by
    intro r y hr
    cases r with
    | tmp t => simp only [resOne, Option.some.injEq] at hr; subst hr; exact ⟨_, rfl, hget t⟩
    | cell t ty =>
      simp only [resOne] at hr
      split at hr
      · rename_i ti id k j off hti hq
        split at hr
        · rename_i ob hob
          split at hr
          · rename_i hc
            obtain ⟨rfl, hj⟩ := hc
            have hxv := hget t
            rw [hq] at hxv
            simp only [RV, R] at hxv
            obtain ⟨b, n, c, hb, e1⟩ := hxv
            injection e1 with e1
            obtain ⟨g, cap, ws, e2, h1, hc⟩ := ob_cells (hM_ob hM hob hb) (hM_ob hM hob hb).slice hj
            injection e2 with e2
            injection e2 with e2
            injection e2 with e2
            subst e2
            obtain ⟨u, hu, hru⟩ := load_ok hti h1 hc hr
            exact ⟨u, by simp [e1, asAddr, hu], hru⟩
          · cases hr
        · cases hr
      · cases hr
  have many : ∀ (rs : List ResultVar) (ys : List AV), resL P σ rs = some ys → ∃ vs, (rs.mapM (m := Sem) fun r => match r with | .tmp t => pure (a.tmps.getD t undef) | .cell q t => do loadVar t (← asAddr (a.tmps.getD q undef))).run P w = .ok vs w ∧ RVL w (OwnA C.A hv) hv ys vs := by
    intro rs
    induction rs with
    | nil => intro ys h; simp only [resL, Option.some.injEq] at h; subst h; exact ⟨[], rfl, by simp [RVL]⟩
    | cons r rs ih =>
      intro ys h
      simp only [resL] at h
      split at h
      · rename_i y ys' hy hys
        injection h with h
        subst h
        obtain ⟨v, hv1, hv2⟩ := one r y hy
        obtain ⟨vs, hvs1, hvs2⟩ := ih ys' hys
        refine ⟨v :: vs, ?_, by simp only [RVL]; exact ⟨v, vs, rfl, hv2, hvs2⟩⟩
        simp only [List.mapM_cons, Sem.run_bind, hv1, Result.andThen_ok, hvs1, Sem.run_pure]
      · cases h
  have hres : ∀ vs : List Value, (fn.results.toList.mapM (m := Sem) fun r => match r with | .tmp t => pure (a.tmps.getD t undef) | .cell q t => do loadVar t (← asAddr (a.tmps.getD q undef))).run P w = .ok vs w →
      (results fn a.tmps).run P w = .ok (if h : vs.toArray.size = 1 then vs.toArray[0] else .tuple vs.toArray) w := by
    intro vs h
    unfold results
    rw [Array.mapM_eq_mapM_toList]
    simp only [Sem.run_bind, Sem.run_map, Sem.run_pure]
    exact (congrArg (fun z : Result (List Value) => (z.andThen fun a w' => Result.ok a.toArray w').andThen fun a w' => Result.ok (if h : a.size = 1 then a[0] else Value.tuple a) w') h)
  unfold resA at h
  split at h
  · rename_i y hy
    injection h with h
    subst h
    obtain ⟨vs, h1, h2⟩ := many _ _ hy
    simp only [RVL] at h2
    obtain ⟨v, us, rfl, h3, rfl⟩ := h2
    exact ⟨v, by rw [hres _ h1]; rfl, h3⟩
  · rename_i ys hne hy
    injection h with h
    subst h
    obtain ⟨vs, h1, h2⟩ := many _ _ hy
    refine ⟨.tuple vs.toArray, ?_, by simp only [RV]; exact ⟨_, rfl, by simpa using h2⟩⟩
    rw [hres _ h1]
    have hl : ∀ (l : List AV) (us : List Value), RVL w (OwnA C.A hv) hv l us → us.length = l.length := by
      intro l
      induction l with
      | nil => intro us h; simp only [RVL] at h; subst h; rfl
      | cons x l ih => intro us h; simp only [RVL] at h; obtain ⟨u, us, rfl, _, h⟩ := h; simp [ih us h]
    rw [dif_neg]
    intro h1
    have := hl _ _ h2
    simp only [List.size_toArray] at h1
    rw [h1] at this
    match ys, this with
    | [y], _ => exact hne y rfl
  · cases h

theorem rvl_get {w : World} {T : Nat → Prop} {hv : Nat → Option Value} : ∀ (l : List AV) (us : List Value), RVL w T hv l us → us.length = l.length ∧ ∀ (i : Nat) (x : AV), l[i]? = some x → ∃ v, us[i]? = some v ∧ RV w T hv x v
  | [], us, h => by simp only [RVL] at h; subst h; simp
  | x :: l, us, h => by
    simp only [RVL] at h
    obtain ⟨u, us, rfl, h1, h2⟩ := h
    obtain ⟨h3, h4⟩ := rvl_get l us h2
    refine ⟨by simp [h3], fun i y hy => ?_⟩
    cases i with
    | zero => simp at hy; subst hy; exact ⟨u, by simp, h1⟩
    | succ i => simp at hy; obtain ⟨v, h5, h6⟩ := h4 i y hy; exact ⟨v, by simpa using h5, h6⟩

/-- A FUNCTION's contract, from its body. -/
theorem aspec_of {f : FuncId} {fn : Func} {c : Code} {own : List Nat} {as : List AV} {post : AV → List Ob → Prop} (hf : P.funcs[f]? = some fn) (hb : fn.body = some c) (hok : okFn P f = true)
    (h : @awp P own c ⟨as ++ List.replicate (fn.ntmps - as.length) .bot, []⟩ ⟨AEnd P fn.results.toList post⟩ ⟨fun _ _ => False⟩ ⟨fun σ _ => AEnd P fn.results.toList post σ⟩) : ASpec P f as post := by
  refine ⟨hok, fun w vs A hA hvs => calls_of_wp hf hb ?_⟩
  have hown : ∀ b, ¬ Own noHv b := fun b h => by obtain ⟨i, v, h, _⟩ := h; simp [noHv] at h
  obtain ⟨hlen, hget⟩ := rvl_get as vs hvs
  have hk : Keeps w A w (OwnA A noHv) := ⟨Nat.le_refl _, fun _ _ _ => rfl, fun b _ h => h.elim id (fun h => absurd h (hown b))⟩
  have hS : StR ⟨w, fun _ => False, A⟩ ⟨as ++ List.replicate (fn.ntmps - as.length) .bot, []⟩ { tmps := vs.toArray ++ Array.replicate (fn.ntmps - vs.toArray.size) undef, defers := [] } w := by
    refine ⟨noHv, rfl, by simp [hlen], fun i x hx => ?_, ⟨fun i ob h => by simp at h, fun i v h => by simp [noHv] at h, fun i j vi vj b h => by simp [noHv] at h, hA⟩, ⟨rfl, rfl, rfl, Nat.le_refl _, fun _ _ _ => rfl, fun b h => absurd h (hown b), hA, fun _ _ h => h⟩⟩
    rcases Nat.lt_or_ge i as.length with hlt | hge
    · simp only [List.getElem?_append_left hlt] at hx
      obtain ⟨v, h1, h2⟩ := hget i x hx
      refine ⟨v, ?_, ?_⟩
      · rw [Array.getElem?_append_left (by simp; omega)]; simpa using h1
      · have := RV_keep hk x [] noHv noHv v (fun _ _ _ h => h) h2
        rwa [AV.kill_nil] at this
    · simp only [List.getElem?_append_right hge, List.getElem?_replicate] at hx
      split at hx
      · rename_i hr
        injection hx with hx
        subst hx
        refine ⟨undef, ?_, by simp [RV]⟩
        rw [Array.getElem?_append_right (by simp; omega)]
        simp [hlen, hr]
      · cases hx
  have fin : ∀ (σ : St) (a' : Act) (w' : World), AEnd P fn.results.toList post σ → StR ⟨w, fun _ => False, A⟩ σ a' w' → a'.defers = [] ∧ ∃ v, (results fn a'.tmps).run P w' = .ok v w' ∧
      ∃ r Ms v' hv, Ending.returned v = .returned v' ∧ post r Ms ∧ MemR A w' hv (Ms.map some) ∧ RV w' (OwnA A hv) hv r v' ∧ (∀ b, Own hv b → w.heap.size ≤ b) ∧ Below w.heap.size w w' := by
    rintro σ a' w' ⟨x, hx, r, Ms, hret, hp⟩ ⟨hv, hd, _, hsl, hM, hF⟩
    obtain ⟨v, h1, h2⟩ := res_ok (C := ⟨w, fun _ => False, A⟩) hsl hM hx
    have hfr : ∀ b, Own hv b → w.heap.size ≤ b := fun b h => (hF.own b h).elim (fun h => h.elim) id
    obtain ⟨hv', m1, m2, m3⟩ := hret A w' hv v hM (fun b hb hAb => by have := hfr b hb; have := hA b hAb; omega) h2
    exact ⟨hd, v, h1, r, Ms, v, hv', rfl, hp, m1, m2, fun b hb => hfr b (m3 b hb), ⟨hF.os, hF.tape, hF.output, hF.size, fun b hb => hF.block b hb (fun h => h)⟩⟩
  refine wp_mono (awp_sound c _ _ _ _ h _ _ _ hS) fun e a' w' hq => ?_
  cases e with
  | normal => obtain ⟨σ, h1, h2⟩ := hq; exact fin σ a' w' h1 h2
  | ret => obtain ⟨σ, h1, h2⟩ := hq; exact fin σ a' w' h1 h2
  | exit id => obtain ⟨σ, h1, h2⟩ := hq; exact h1.elim
  | goto l => exact hq.elim
  | panic ch => exact hq.elim
  | outgrown => exact hq.elim
end

end Aw
end Go.Proofs.Ytkolpijhgcijbaa
