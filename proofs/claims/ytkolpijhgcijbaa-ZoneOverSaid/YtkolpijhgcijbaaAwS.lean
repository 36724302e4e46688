/-
  The calculus: calls that are handed objects, and change them; objects that are frozen.
-/
import Derived.Test.YtkolpijhgcijbaaAwR
namespace Go.Proofs.Ytkolpijhgcijbaa
namespace Aw
open Go.RowKit

def AV.isO (i : Nat) : AV → Bool | .o j => j == i | _ => false
def AV.isQ (i k j off : Nat) : AV → Bool | .q i' k' j' off' => i' == i && k' == k && j' == j && off' == off | _ => false
theorem AV.isO_eq {i : Nat} {a : AV} (h : a.isO i = true) : a = .o i := by
  cases a <;> simp [AV.isO] at h
  subst h; rfl
theorem AV.isQ_eq {i k j off : Nat} {a : AV} (h : a.isQ i k j off = true) : a = .q i k j off := by
  cases a <;> simp [AV.isQ] at h
  obtain ⟨⟨⟨rfl, rfl⟩, rfl⟩, rfl⟩ := h; rfl

/-- what is left of an abstract value behind a call that was handed 'as'. -/
def keepQ (as : List AV) : AV → AV := AV.sub (fun i => if as.any (AV.isO i) = true then .o i else .bot) (fun i k j off => if as.any (AV.isQ i k j off) = true then .q i k j off else .bot)

section
variable {w w' : World} {T T' : Nat → Prop} {hv hv' : Nat → Option Value} {F : Nat → AV} {G : Nat → Nat → Nat → Nat → AV}

theorem R_subk (hk : Keeps w T w' T') (hF : ∀ i v, hv i = some v → v.oneCell' = true → R w' T' hv' (F i) [v]) (hF1 : ∀ i, (F i).single = true) (hG : ∀ i k j off us, R w T hv (.q i k j off) us → R w' T' hv' (G i k j off) us) (hG1 : ∀ i k j off, (G i k j off).single = true) :
    ∀ (a : AV) (us : List Value), R w T hv a us → R w' T' hv' (a.sub F G) us := by
  intro a
  refine AV.rec (motive_1 := fun a => ∀ us, R w T hv a us → R w' T' hv' (a.sub F G) us) (motive_2 := fun l => ∀ us, RL w T hv l us → RL w' T' hv' (AV.subL F G l) us)
    ?_ ?_ ?_ ?_ ?_ ?_ ?_ ?_ ?_ ?_ ?_ a
  · intro us h; simpa only [R, AV.sub] using h
  · intro x us h; simpa only [R, AV.sub] using h
  · intro k xs _ us h
    have := R_keep hk (.s k xs) [] hv hv us (fun _ _ _ h => h) h
    rw [AV.kill_nil] at this
    simpa only [R, AV.sub] using this
  · intro xs ih us h; simp only [R, AV.sub] at h ⊢; exact ih us h
  · intro xs _ us h; simp [R] at h
  · intro x off _ us h
    have := R_keep hk (.p x off) [] hv hv us (fun _ _ _ h => h) h
    rw [AV.kill_nil] at this
    simpa only [R, AV.sub] using this
  · intro i us h
    simp only [R] at h
    obtain ⟨v, h1, rfl, h2⟩ := h
    simp only [AV.sub]
    exact hF i v h1 h2
  · intro i k j off us h
    simp only [AV.sub]
    exact hG i k j off us h
  · intro fn cap ih us h
    simp only [R, AV.sub] at h ⊢
    obtain ⟨cs, h1, h2, h3⟩ := h
    exact ⟨cs, h1, fun x hx => by rw [AV.subL_map] at hx; obtain ⟨y, hy, rfl⟩ := List.mem_map.1 hx; exact single_sub hF1 hG1 y (h2 y hy), ih _ h3⟩
  · intro us h; simpa only [RL, AV.subL] using h
  · intro x xs ih1 ih2 us h
    simp only [RL, AV.subL] at h ⊢
    obtain ⟨u1, u2, rfl, h1, h2⟩ := h
    exact ⟨u1, u2, rfl, ih1 u1 h1, ih2 u2 h2⟩

theorem RL_subk (hk : Keeps w T w' T') (hF : ∀ i v, hv i = some v → v.oneCell' = true → R w' T' hv' (F i) [v]) (hF1 : ∀ i, (F i).single = true) (hG : ∀ i k j off us, R w T hv (.q i k j off) us → R w' T' hv' (G i k j off) us) (hG1 : ∀ i k j off, (G i k j off).single = true) :
    ∀ (l : List AV) (us : List Value), RL w T hv l us → RL w' T' hv' (AV.subL F G l) us
  | [], us, h => by simpa only [RL, AV.subL] using h
  | x :: xs, us, h => by
    simp only [RL, AV.subL] at h ⊢
    obtain ⟨u1, u2, rfl, h1, h2⟩ := h
    exact ⟨u1, u2, rfl, R_subk hk hF hF1 hG hG1 x u1 h1, RL_subk hk hF hF1 hG hG1 xs u2 h2⟩

theorem RV_subk (hk : Keeps w T w' T') (hF : ∀ i v, hv i = some v → v.oneCell' = true → R w' T' hv' (F i) [v]) (hF1 : ∀ i, (F i).single = true) (hG : ∀ i k j off us, R w T hv (.q i k j off) us → R w' T' hv' (G i k j off) us) (hG1 : ∀ i k j off, (G i k j off).single = true) :
    ∀ (a : AV) (v : Value), RV w T hv a v → RV w' T' hv' (a.sub F G) v := by
  intro a
  refine AV.rec (motive_1 := fun a => ∀ v, RV w T hv a v → RV w' T' hv' (a.sub F G) v) (motive_2 := fun l => ∀ vs, RVL w T hv l vs → RVL w' T' hv' (AV.subL F G l) vs)
    ?_ ?_ ?_ ?_ ?_ ?_ ?_ ?_ ?_ ?_ ?_ a
  · intro v _; simp [RV, AV.sub]
  · intro x v h; simpa only [RV, AV.sub] using h
  · intro k xs _ v h; have := R_subk hk hF hF1 hG hG1 (.s k xs) [v] (by simpa only [RV] using h); simpa only [RV, AV.sub] using this
  · intro xs _ v h
    simp only [RV, AV.sub] at h ⊢
    obtain ⟨cs, rfl, h⟩ := h
    exact ⟨cs, rfl, RL_subk hk hF hF1 hG hG1 xs _ h⟩
  · intro xs ih v h
    simp only [RV, AV.sub] at h ⊢
    obtain ⟨vs, rfl, h⟩ := h
    exact ⟨vs, rfl, ih _ h⟩
  · intro x off _ v h; have := R_subk hk hF hF1 hG hG1 (.p x off) [v] (by simpa only [RV] using h); simpa only [RV, AV.sub] using this
  · intro i v h
    have h' : R w T hv (.o i) [v] := by simpa only [RV] using h
    exact R_RV (hF1 i) (R_subk hk hF hF1 hG hG1 (.o i) [v] h')
  · intro i k j off v h
    have h' : R w T hv (.q i k j off) [v] := by simpa only [RV] using h
    exact R_RV (hG1 i k j off) (R_subk hk hF hF1 hG hG1 (.q i k j off) [v] h')
  · intro fn cap _ v h; have := R_subk hk hF hF1 hG hG1 (.f fn cap) [v] (by simpa only [RV] using h); simpa only [RV, AV.sub] using this
  · intro vs h; simpa only [RVL, AV.subL] using h
  · intro x xs ih1 ih2 vs h
    simp only [RVL, AV.subL] at h ⊢
    obtain ⟨u, us, rfl, h1, h2⟩ := h
    exact ⟨u, us, rfl, ih1 u h1, ih2 us h2⟩

theorem RVL_subk (hk : Keeps w T w' T') (hF : ∀ i v, hv i = some v → v.oneCell' = true → R w' T' hv' (F i) [v]) (hF1 : ∀ i, (F i).single = true) (hG : ∀ i k j off us, R w T hv (.q i k j off) us → R w' T' hv' (G i k j off) us) (hG1 : ∀ i k j off, (G i k j off).single = true) :
    ∀ (l : List AV) (us : List Value), RVL w T hv l us → RVL w' T' hv' (AV.subL F G l) us
  | [], us, h => by simpa only [RVL, AV.subL] using h
  | x :: xs, us, h => by
    simp only [RVL, AV.subL] at h ⊢
    obtain ⟨u, u2, rfl, h1, h2⟩ := h
    exact ⟨u, u2, rfl, RV_subk hk hF hF1 hG hG1 x u h1, RVL_subk hk hF hF1 hG hG1 xs u2 h2⟩

theorem size_sub (hF1 : ∀ i, (F i).single = true) (hG1 : ∀ i k j off, (G i k j off).single = true) (a : AV) : (a.sub F G).size = a.size := by
  refine AV.rec (motive_1 := fun a => (a.sub F G).size = a.size) (motive_2 := fun l => AV.sizeL (AV.subL F G l) = AV.sizeL l) ?_ ?_ ?_ ?_ ?_ ?_ ?_ ?_ ?_ ?_ ?_ a
  case refine_7 => intro i; simp only [AV.sub]; rw [AV.size_single (hF1 i)]; rfl
  case refine_8 => intro i k j off; simp only [AV.sub]; rw [AV.size_single (hG1 i k j off)]; rfl
  all_goals intros; simp_all [AV.sub, AV.subL, AV.size, AV.sizeL]
end

/-- A CONTRACT of a function that is handed objects: they are M before, M' behind. -/
def MSpec (P : Program) (f : FuncId) (as : List AV) (M : Mem) (post : AV → Mem → Prop) : Prop :=
  okFn P f = true ∧ ∀ (w : World) (vs : List Value) (A : Nat → Prop) (hv : Nat → Option Value), MemR A w hv M → (∀ b, Own hv b → ¬ A b) → RVL w (OwnA A hv) hv as vs → Calls P f vs.toArray w fun e w' =>
    ∃ r M' v hv', e = .returned v ∧ post r M' ∧ MemR A w' hv' M' ∧ RV w' (OwnA A hv') hv' r v ∧ RVL w' (OwnA A hv') hv' as vs ∧ Keeps w (Own hv) w' (Own hv') ∧ w'.os = w.os ∧ w'.tape = w.tape ∧ w'.output = w.output

def ACallM (P : Program) (f : FuncId) (as : List AV) (M : Mem) [K : HK (AV → Mem → Prop)] : Prop := ∃ post, MSpec P f as M post ∧ ∀ r M', post r M' → K.k r M'

/-- an operation that is such a call. -/
def amc (P : Program) (o : Oper) (σ : St) [N : HK (St → Prop)] : Prop :=
  match o.op, o.guard with
  | .call ⟨.value (.func f), args, _⟩, none => ACallM P f (args.toList.map σ.ev) σ.M (K := ⟨fun r M' => N.k ⟨setS (σ.sl.map (keepQ (args.toList.map σ.ev))) o.dst r, M'⟩⟩)
  | .call ⟨.value (.tmp t), args, _⟩, none => AOpt (asF (σ.ev (.tmp t))) (K := ⟨fun fc => ACallM P fc.1 (args.toList.map σ.ev ++ fc.2) σ.M (K := ⟨fun r M' => N.k ⟨setS (σ.sl.map (keepQ (args.toList.map σ.ev ++ fc.2))) o.dst r, M'⟩⟩)⟩)
  | _, _ => False

/-- a region in the order of the text; the operation m is such a call. -/
def AOpsM (P : Program) (own : List Nat) (ops : List Oper) (m : Nat) : Nat → List Oper → St → [HK (St → Prop)] → Prop
  | _, [], σ, N => N.k σ
  | k, o :: rest, σ, N => @ACond (k == m) ⟨@amc P o σ ⟨fun σ' => @AOpsM P own ops m (k + 1) rest σ' N⟩⟩ ⟨@aop P own ops o σ ⟨fun σ' => @AOpsM P own ops m (k + 1) rest σ' N⟩⟩

section
variable {P : Program} {C : Ctx} {σ : St} {a : Act} {w : World} {Q : Exit → Act → World → Prop}

theorem keepQ_single_o (as : List AV) (i : Nat) : (if as.any (AV.isO i) = true then AV.o i else .bot).single = true := by split <;> rfl
theorem keepQ_single_q (as : List AV) (i k j off : Nat) : (if as.any (AV.isQ i k j off) = true then AV.q i k j off else .bot).single = true := by split <;> rfl

theorem rvl_mem {T : Nat → Prop} {hv : Nat → Option Value} : ∀ (l : List AV) (us : List Value) (x : AV), RVL w T hv l us → x ∈ l → ∃ (i : Nat) (u : Value), l[i]? = some x ∧ us[i]? = some u ∧ RV w T hv x u
  | y :: l, us, x, h, hx => by
    simp only [RVL] at h
    obtain ⟨v, vs, rfl, h1, h2⟩ := h
    rcases List.mem_cons.1 hx with rfl | hx
    · exact ⟨0, v, rfl, rfl, h1⟩
    · obtain ⟨i, u, h3, h4, h5⟩ := rvl_mem l vs x h2 hx
      exact ⟨i + 1, u, by simpa using h3, by simpa using h4, h5⟩

theorem amc_call {o : Oper} {f : FuncId} {as : List AV} {vs : List Value} {N : HN} (hS : StR C σ a w) (hrun : okFn P f = true → (execOp a.eval o).run P w = .ok (.enter f vs.toArray) w)
    (has : ∀ hv, (∀ (i : Nat) (x : AV), σ.sl[i]? = some x → ∃ v, a.tmps[i]? = some v ∧ RV w (OwnA C.A hv) hv x v) → RVL w (OwnA C.A hv) hv as vs)
    (h : ACallM P f as σ.M (K := ⟨fun r M' => N.k ⟨setS (σ.sl.map (keepQ as)) o.dst r, M'⟩⟩)) : o.wp P a w (fun a' w' => ∃ σ', N.k σ' ∧ StR C σ' a' w') Q := by
  obtain ⟨post, ⟨hok, hspec⟩, hK⟩ := h
  obtain ⟨hv, hd, hsz, hsl, hM, hF⟩ := hS
  have hvs := has hv hsl
  unfold Oper.wp
  rw [hrun hok]
  refine (hspec w vs C.A hv hM (fun b hb => hF.sep hb) hvs).mono ?_
  rintro e w' ⟨r, M', v, hv', rfl, hp, hM', hr, has', hkp, h1, h2, h3⟩
  refine ⟨_, hK r M' hp, hv', by cases o.dst <;> exact hd, ?_, fun i x hx => ?_, hM', ?_⟩
  · rw [put_size, hsz]; simp only [setS_len, List.length_map]
  · rcases setS_get _ _ _ _ hx with ⟨e1, rfl, hlt⟩ | ⟨hne, hx⟩
    · refine ⟨v, ?_, hr⟩
      rw [List.length_map] at hlt
      rw [e1]
      simp [Act.put, hsz, hlt]
    · rw [List.getElem?_map] at hx
      simp only [Option.map_eq_some_iff] at hx
      obtain ⟨y, hy, rfl⟩ := hx
      obtain ⟨u, g1, g2⟩ := hsl i y hy
      refine ⟨u, by rw [put_get _ _ _ _ hne]; exact g1, ?_⟩
      have hkA : Keeps w (OwnA C.A hv) w' (OwnA C.A hv') := ⟨hkp.size, fun b hb hn => hkp.block b hb (fun ho => hn (.inr ho)), fun b hb ho => ho.elim .inl (fun ho => .inr (hkp.own b hb ho))⟩
      refine RV_subk hkA (fun i v hiv h1c => ?_) (keepQ_single_o as) (fun i k j off us hus => ?_) (keepQ_single_q as) y u g2
      · split
        · rename_i hany
          obtain ⟨z, hz, hzi⟩ := List.any_eq_true.1 hany
          obtain rfl := AV.isO_eq hzi
          obtain ⟨p, u1, q1, q2, q3⟩ := rvl_mem _ _ _ hvs hz
          have q4 := rvl_at _ _ p _ u1 has' q1 q2
          simp only [RV, R] at q3 q4
          obtain ⟨u2, s1, s2, _⟩ := q3
          obtain ⟨u3, s3, s4, s5⟩ := q4
          injection s2 with s2
          injection s4 with s4
          rw [hiv] at s1
          injection s1 with s1
          simp only [R]
          exact ⟨v, by rw [s3, ← s4, s2, s1], rfl, h1c⟩
        · simp only [R]; exact ⟨v, rfl, h1c⟩
      · split
        · rename_i hany
          obtain ⟨z, hz, hzi⟩ := List.any_eq_true.1 hany
          obtain rfl := AV.isQ_eq hzi
          obtain ⟨p, u1, q1, q2, q3⟩ := rvl_mem _ _ _ hvs hz
          have q4 := rvl_at _ _ p _ u1 has' q1 q2
          simp only [RV, R] at q3 q4 hus ⊢
          obtain ⟨b, n, c, s1, s2⟩ := q3
          obtain ⟨b', n', c', s3, s4⟩ := q4
          obtain ⟨b'', n'', c'', s5, s6⟩ := hus
          rw [s1] at s5
          injection s5 with s5
          injection s5 with s5 _ _
          injection s5 with s5
          injection s5 with s5
          injection s2 with s2
          injection s4 with s4
          rw [s2] at s4
          injection s4 with s4
          injection s4 with s4
          injection s4 with s4
          exact ⟨b', n', c', s3, by rw [s6, ← s5, s4]⟩
        · exact R_botq hus
  · refine ⟨h1.trans hF.os, h2.trans hF.tape, h3.trans hF.output, Nat.le_trans hF.size hkp.size, fun b hb hn => ?_, fun b hb => ?_, hF.aold, hF.dis⟩
    · refine (hkp.block b (Nat.lt_of_lt_of_le hb hF.size) (fun ho => ?_)).trans (hF.block b hb hn)
      rcases hF.own b ho with g | g
      · exact hn g
      · omega
    · rcases Nat.lt_or_ge b w.heap.size with hlt | hge
      · exact hF.own b (hkp.own b hlt hb)
      · exact .inr (Nat.le_trans hF.size hge)

theorem ok_enter {o : Oper} {c : Operand} {args : Array Operand} {tys : Array TypeId} {f : FuncId} {cs : Array Value} (ho : o.op = .call ⟨.value c, args, tys⟩) (hc : a.eval c = .func (.func f) #[] cs) (hok : okFn P f = true) :
    (execOp a.eval o).run P w = .ok (.enter f (args.toList.map a.eval ++ cs.toList).toArray) w := by
  unfold okFn at hok
  cases hf : P.funcs[f]? with
  | none => rw [hf] at hok; simp at hok
  | some fn =>
    rw [hf] at hok
    simp only [Bool.and_eq_true, Bool.not_eq_true'] at hok
    have h1 : ¬ fn.name = "runtime.NumGoroutine" := by simpa using hok.1
    have hb : ¬ fn.body = none := by intro e; rw [e] at hok; simp at hok
    have e : (args.toList.map a.eval ++ cs.toList).toArray = args.map a.eval ++ cs := by rw [← Array.toList_map, ← Array.toList_append]
    rw [e]
    simp [execOp, ho, resolve, Deferred.ofValue, hc, invoke, callFunc, hf, h1, hb]

theorem amc_sound {ops : Array Oper} {i : Nat} {o : Oper} {N : HK (St → Prop)} (ho : ops[i]? = some o) (h : amc P o σ (N := N)) (hS : StR C σ a w) :
    wpOp P ops Q i (fun a' w' => ∃ σ', N.k σ' ∧ StR C σ' a' w') a w := by
  unfold wpOp
  simp only [ho]
  unfold amc at h
  split at h
  · rename_i f args tys hop hg
    rw [if_pos (wanted_none hg _)]
    refine .inl (amc_call (vs := args.toList.map a.eval) hS (fun hok => ?_) (fun hv hsl => rvl_map (fun x => ev_ok hsl x) args.toList) h)
    have := ok_enter (w := w) (a := a) (c := .func f) (cs := #[]) hop rfl hok
    simpa using this
  · rename_i t args tys hop hg
    rw [if_pos (wanted_none hg _)]
    obtain ⟨⟨f, cap⟩, hf, h⟩ := AOpt_elim h
    have hfc := asF_eq hf
    obtain ⟨hv0, _, _, hsl0, _, _⟩ := id hS
    have hx0 := ev_ok hsl0 (.tmp t)
    rw [hfc] at hx0
    simp only [RV, R] at hx0
    obtain ⟨cs, e1, _⟩ := hx0
    injection e1 with e1
    refine .inl (amc_call (vs := args.toList.map a.eval ++ cs.toList) hS (fun hok => ok_enter hop e1 hok) (fun hv hsl => ?_) h)
    have hx := ev_ok hsl (.tmp t)
    rw [hfc] at hx
    simp only [RV, R] at hx
    obtain ⟨cs', e2, hcl, hcs⟩ := hx
    injection e2 with e2
    rw [e1] at e2
    injection e2 with _ _ e2
    subst e2
    exact rvl_app _ _ _ _ (rvl_map (fun x => ev_ok hsl x) args.toList) (rvl_of_rl cap cs.toList hcl hcs)
  · exact h.elim

theorem aopsm_sound {own : List Nat} {ops : Array Oper} {m : Nat} {N : HK (St → Prop)} (hQ : ∀ σ a w, N.k σ → StR C σ a w → Q .normal a w) : ∀ (l : List Oper) (k : Nat) (σ : St) (a : Act) (w : World), ops.toList.drop k = l → @AOpsM P own ops.toList m k l σ N → StR C σ a w →
    wpOps P ops Q (List.range' k l.length) a w
  | [], k, σ, a, w, _, h, hS => by simp only [List.length_nil, List.range'_zero, wpOps]; exact hQ σ a w h hS
  | o :: l, k, σ, a, w, hk, h, hS => by
    have ho : ops[k]? = some o := by
      have : (ops.toList.drop k)[0]? = some o := by rw [hk]; rfl
      rw [List.getElem?_drop] at this
      simpa using this
    have hk' : ops.toList.drop (k + 1) = l := by rw [← List.drop_drop, hk]; rfl
    rw [List.length_cons, List.range'_succ, wpOps_cons]
    cases hm : (k == m) with
    | true =>
      refine wpOp_mono (fun a' w' => ?_) (amc_sound ho (h.1 hm) hS)
      rintro ⟨σ', h1, h2⟩
      exact aopsm_sound hQ l (k + 1) σ' a' w' hk' h1 h2
    | false =>
      refine wpOp_mono (fun a' w' => ?_) (aop_sound ho (h.2 hm) hS)
      rintro ⟨σ', h1, h2⟩
      exact aopsm_sound hQ l (k + 1) σ' a' w' hk' h1 h2

/-- A REGION in the order of the text with a call that is handed objects: the operation m. -/
theorem swp_m {own : List Nat} {id : Nat} {ops : Array Oper} {N : HN} {E : HE} {Rt : HR} (m : Nat) (h : @AOpsM P own ops.toList m 0 ops.toList σ N) : @SWp P (.region id ops false) σ N E Rt := by
  intro C a w hS
  refine wp_region ?_
  have := aopsm_sound (P := P) (own := own) (ops := ops) (m := m) (N := N) (Q := APost C N.k E.k (fun σ => Rt.k σ ())) (fun σ a w h1 h2 => ⟨σ, h1, h2⟩) ops.toList 0 σ a w rfl h hS
  rw [List.range_eq_range']
  simpa using this

/-- a region in the order of the text. -/
theorem swp_text {own : List Nat} {id : Nat} {ops : Array Oper} {N : HN} {E : HE} {Rt : HR} (h : @AOps P own ops.toList ops.toList σ N) : @SWp P (.region id ops false) σ N E Rt := fun _ _ _ hS => region_sound (own := own) (fun σ _ _ hN hS => ⟨σ, hN, hS⟩) h hS

theorem acall_m {f : FuncId} {as : List AV} {M : Mem} {K : HK (AV → Mem → Prop)} {x : AV} {M' : Mem} (spec : MSpec P f as M (fun r N => r = x ∧ N = M')) (h : K.k x M') : ACallM P f as M (K := K) := ⟨_, spec, by rintro r N ⟨rfl, rfl⟩; exact h⟩

/-- the values of the arguments, remembered. -/
def ghost (vs : List Value) (as : List AV) : Ob := ⟨some vs, 0, 1, as⟩

def freeM (Z : List Nat) (M : Mem) : Bool := M.all fun o => match o with | some ob => AV.freeL Z ob.xs | none => true

/-- where a function ends that was handed objects. -/
def MEnd (P : Program) (rs : List ResultVar) (as : List AV) (vs : List Value) (post : AV → Mem → Prop) (σ : St) : Prop :=
  ∃ σ' x M', Le σ σ' ∧ resA P rs σ' = some x ∧ σ'.M = M' ++ [some (ghost vs as)] ∧ x.free [M'.length] = true ∧ AV.freeL [M'.length] as = true ∧ freeM [M'.length] M' = true ∧ post x M'

theorem freeL_mem {Z : List Nat} : ∀ (l : List AV), AV.freeL Z l = true → ∀ x ∈ l, x.free Z = true
  | y :: l, h, x, hx => by
    simp only [AV.freeL, Bool.and_eq_true] at h
    rcases List.mem_cons.1 hx with rfl | hx
    · exact h.1
    · exact freeL_mem l h.2 x hx
theorem killL_free {Z : List Nat} {l : List AV} (h : AV.freeL Z l = true) : AV.killL Z l = l := by
  rw [AV.killL_map, List.map_congr_left (fun x hx => AV.kill_free Z x (freeL_mem l h x hx))]
  simp

theorem mspec_of {f : FuncId} {fn : Func} {c : Code} {own : List Nat} {as : List AV} {M : Mem} {post : AV → Mem → Prop} (hf : P.funcs[f]? = some fn) (hb : fn.body = some c) (hok : okFn P f = true)
    (h : ∀ vs : List Value, @awp P own c ⟨as ++ List.replicate (fn.ntmps - as.length) .bot, M ++ [some (ghost vs as)]⟩ ⟨MEnd P fn.results.toList as vs post⟩ ⟨fun _ _ => False⟩ ⟨fun σ _ => MEnd P fn.results.toList as vs post σ⟩) : MSpec P f as M post := by
  refine ⟨hok, fun w vs A hv hM0 hsep hvs0 => calls_of_wp hf hb ?_⟩
  obtain ⟨hM, hs0⟩ := mem_add hM0 (Below.refl _ w) (ob := ghost vs as) (v := .map none) (fun b hb => by simp [blk] at hb) (fun hs => ObR.of_map (ob := ghost vs as) (ks := vs) rfl ⟨vs, .inr ⟨by simp [ghost], rfl, rfl⟩, by
    have := RVL_keep hs.keeps hs.hv _ _ hvs0
    rwa [AV.killL_nil] at this⟩)
  have hvs : RVL w (OwnA A (hvAdd hv M.length (.map none))) (hvAdd hv M.length (.map none)) as vs := by
    have := RVL_keep hs0.keeps hs0.hv _ _ hvs0
    rwa [AV.killL_nil] at this
  have hoeq : ∀ b, Own (hvAdd hv M.length (.map none)) b → Own hv b := fun b hb => by
    rcases (own_add (mem_none hM0 (Nat.le_refl _))).1 hb with h | h
    · exact h
    · simp [blk] at h
  obtain ⟨hlen, hget⟩ := rvl_get as vs hvs
  have hS : StR ⟨w, Own hv, A⟩ ⟨as ++ List.replicate (fn.ntmps - as.length) .bot, M ++ [some (ghost vs as)]⟩ { tmps := vs.toArray ++ Array.replicate (fn.ntmps - vs.toArray.size) undef, defers := [] } w := by
    refine ⟨_, rfl, by simp [hlen], fun i x hx => ?_, hM, ⟨rfl, rfl, rfl, Nat.le_refl _, fun _ _ _ => rfl, fun b h => .inl (hoeq b h), hM0.old, fun b hA ho => hsep b ho hA⟩⟩
    rcases Nat.lt_or_ge i as.length with hlt | hge
    · simp only [List.getElem?_append_left hlt] at hx
      obtain ⟨v, h1, h2⟩ := hget i x hx
      refine ⟨v, ?_, h2⟩
      rw [Array.getElem?_append_left (by simp; omega)]; simpa using h1
    · simp only [List.getElem?_append_right hge, List.getElem?_replicate] at hx
      split at hx
      · rename_i hr
        injection hx with hx
        subst hx
        refine ⟨undef, ?_, by simp [RV]⟩
        rw [Array.getElem?_append_right (by simp; omega)]
        simp [hlen, hr]
      · cases hx
  have fin : ∀ (σ : St) (a' : Act) (w' : World), MEnd P fn.results.toList as vs post σ → StR ⟨w, Own hv, A⟩ σ a' w' → a'.defers = [] ∧ ∃ v, (results fn a'.tmps).run P w' = .ok v w' ∧
      ∃ r M' v' hv', Ending.returned v = .returned v' ∧ post r M' ∧ MemR A w' hv' M' ∧ RV w' (OwnA A hv') hv' r v' ∧ RVL w' (OwnA A hv') hv' as vs ∧ Keeps w (Own hv) w' (Own hv') ∧ w'.os = w.os ∧ w'.tape = w.tape ∧ w'.output = w.output := by
    rintro σ a' w' ⟨⟨sl', M1⟩, x, M', hle, hx, hM1, f1, f2, f3, hp⟩ hSσ
    obtain ⟨hv2, hd, _, hsl, hM2, hF⟩ := hle _ _ _ hSσ
    simp only at hM1
    subst hM1
    obtain ⟨v, h1, h2⟩ := res_ok (C := ⟨w, Own hv, A⟩) hsl hM2 hx
    have hg : (M' ++ [some (ghost vs as)])[M'.length]? = some (some (ghost vs as)) := by simp
    obtain ⟨vg, hvg, hob⟩ := hM2.live _ _ hg
    obtain ⟨vals, ⟨hk0, _⟩ | ⟨_, rfl, rfl⟩, hr⟩ := hob.map (ks := vs) rfl
    · simp [ghost] at hk0
    let hv3 : Nat → Option Value := fun i => if i < M'.length then hv2 i else none
    have hown : ∀ b, Own hv3 b → Own hv2 b := by
      rintro b ⟨i, u, hi, hb⟩
      simp only [hv3] at hi
      split at hi
      · exact ⟨i, u, hi, hb⟩
      · cases hi
    have hs : StepR A w' hv2 [M'.length] w' hv3 := by
      refine ⟨⟨Nat.le_refl _, fun _ _ _ => rfl, fun b _ hb => hown b hb⟩, fun i u hi h => ?_, rfl, rfl, rfl⟩
      obtain ⟨ob, hob⟩ := hM2.dom i u h
      have := (List.getElem?_eq_some_iff.1 hob).1
      simp only [List.length_append, List.length_cons, List.length_nil, List.mem_singleton] at this hi
      simp only [hv3, if_pos (show i < M'.length by omega)]
      exact h
    refine ⟨hd, v, h1, x, M', v, hv3, rfl, hp, ⟨fun i ob hi => ?_, fun i u hi => ?_, fun i j vi vj b hi hj => ?_, hM2.old⟩, ?_, ?_, ⟨hF.size, fun b hb hn => hF.block b hb hn, fun b hlt hb => ?_⟩, hF.os, hF.tape, hF.output⟩
    · have hlt : i < M'.length := (List.getElem?_eq_some_iff.1 hi).1
      obtain ⟨v, h1, h2, h3⟩ := live_step hM2 hs (fun v b h1 h2 => rfl) (show i ∉ [M'.length] by simp only [List.mem_singleton]; omega) (by rw [List.getElem?_append_left hlt]; exact hi)
      have hk : Ob.kill [M'.length] ob = ob := by
        simp only [freeM, List.all_eq_true] at f3
        have := f3 _ (List.mem_of_getElem? hi)
        simp only at this
        cases ob
        simp only [Ob.kill, Ob.mk.injEq, true_and]
        exact killL_free this
      rw [hk] at h3
      exact ⟨v, h2, h3⟩
    · simp only [hv3] at hi
      split at hi
      · rename_i hlt
        obtain ⟨ob, hob⟩ := hM2.dom i u hi
        rw [List.getElem?_append_left hlt] at hob
        exact ⟨ob, hob⟩
      · cases hi
    · simp only [hv3] at hi hj
      split at hi
      · split at hj
        · exact hM2.inj i j vi vj b hi hj
        · cases hj
      · cases hi
    · have := hs.rv h2
      rwa [AV.kill_free _ _ f1] at this
    · have := RVL_keep hs.keeps hs.hv _ _ hr
      have e : AV.killL [M'.length] (ghost vals as).xs = as := killL_free f2
      rw [e] at this
      exact this
    · rcases hF.own b (hown b hb) with g | g
      · exact g
      · simp only at g; omega
  refine wp_mono (awp_sound c _ _ _ _ (h vs) _ _ _ hS) fun e a' w' hq => ?_
  cases e with
  | normal => obtain ⟨σ, h1, h2⟩ := hq; exact fin σ a' w' h1 h2
  | ret => obtain ⟨σ, h1, h2⟩ := hq; exact fin σ a' w' h1 h2
  | exit id => obtain ⟨σ, h1, h2⟩ := hq; exact h1.elim
  | goto l => exact hq.elim
  | panic ch => exact hq.elim
  | outgrown => exact hq.elim

/-- the object i is frozen: it is told as a slice that nobody writes. -/
def frz1 (i : Nat) (k : Nat) (xs : List AV) : AV → AV := AV.sub (fun j => if j = i then .s k xs else .o j) (fun j kk jj off => if j = i then .bot else .q j kk jj off)
def frzM (i : Nat) (k : Nat) (xs : List AV) (M : Mem) : Mem := (M.set i none).map fun o => o.map fun ob => { ob with xs := AV.subL (fun j => if j = i then .s k xs else .o j) (fun j kk jj off => if j = i then .bot else .q j kk jj off) ob.xs }

theorem le_frz {sl : List AV} {M : Mem} (i : Nat) {ty k : Nat} {xs : List AV} (hi : M[i]? = some (some ⟨none, ty, k, xs⟩)) (hp : AV.pureL xs = true) : Le ⟨sl, M⟩ ⟨sl.map (frz1 i k xs), frzM i k xs M⟩ := by
  intro C a w hS
  obtain ⟨hv, hd, hsz, hsl, hM, hF⟩ := hS
  let hv' : Nat → Option Value := fun j => if j = i then none else hv j
  have hown : ∀ b, Own hv' b → Own hv b ∧ ∀ v, hv i = some v → blk v ≠ some b := by
    rintro b ⟨j, v, hj, hb⟩
    simp only [hv'] at hj
    split at hj
    · cases hj
    · rename_i hne
      exact ⟨⟨j, v, hj, hb⟩, fun v' hv'' e => hne (hM.inj j i v v' b hj hv'' hb e)⟩
  have hk : Keeps w (OwnA C.A hv) w (OwnA C.A hv') := ⟨Nat.le_refl _, fun _ _ _ => rfl, fun b _ h => h.elim .inl fun h => .inr (hown b h).1⟩
  have sF : ∀ j, (if j = i then AV.s k xs else .o j).single = true := fun j => by split <;> rfl
  have sG : ∀ j kk jj off, (if j = i then AV.bot else .q j kk jj off).single = true := fun j kk jj off => by split <;> rfl
  have hFF : ∀ j v, hv j = some v → v.oneCell' = true → R w (OwnA C.A hv') hv' (if j = i then .s k xs else .o j) [v] := by
    intro j v hj h1c
    split
    · rename_i hji
      subst hji
      obtain ⟨us, hrow, hks, hus⟩ := (hM_ob hM hi hj).row rfl
      have hus' := RL_pure xs hv noHv us hp hus
      have hus2 := RL_keep hk (Z := []) (hv := noHv) (hv' := noHv) (fun _ _ _ h => h) _ _ hus'
      rw [AV.killL_nil] at hus2
      simp only [R]
      rcases hrow.2 with ⟨rfl, h0⟩ | ⟨g, cap, cur, rfl, _, hg, hnc, hcm, hcs, htk⟩
      · have he : xs = [] := List.eq_nil_of_length_eq_zero h0
        rw [he]
        exact ⟨none, 0, [], by simp, Nat.le_refl _, Nat.zero_le _, by simp, by simp [RL], fun h => absurd rfl h⟩
      · refine ⟨_, cap, us, rfl, hnc, hcm, hks, hus2, fun _ => ⟨g, 0, rfl, (Array.getElem?_eq_some_iff.1 hg).1, fun h' => ?_, fun m u hu => ?_⟩⟩
        · rcases h' with h' | h'
          · exact hF.sep ⟨j, _, hj, rfl⟩ h'
          · exact (hown g h').2 _ hj rfl
        · have := hrow.cells (g := g) rfl m u hu
          rw [Addr.add_lit] at this
          exact this
    · rename_i hji
      simp only [R]
      exact ⟨v, by simp only [hv', if_neg hji]; exact hj, rfl, h1c⟩
  have hGG : ∀ j kk jj off us, R w (OwnA C.A hv) hv (.q j kk jj off) us → R w (OwnA C.A hv') hv' (if j = i then .bot else .q j kk jj off) us := by
    intro j kk jj off us h
    split
    · exact R_botq h
    · rename_i hji
      simp only [R] at h ⊢
      obtain ⟨b, n, c, h1, h2⟩ := h
      exact ⟨b, n, c, by simp only [hv', if_neg hji]; exact h1, h2⟩
  refine ⟨hv', hd, by simpa using hsz, fun j x hx => ?_, ⟨fun j ob hj => ?_, fun j v hj => ?_, fun j1 j2 v1 v2 b h1 h2 => ?_, hM.old⟩, ⟨hF.os, hF.tape, hF.output, hF.size, hF.block, fun b hb => hF.own b (hown b hb).1, hF.aold, hF.dis⟩⟩
  · simp only [List.getElem?_map, Option.map_eq_some_iff] at hx
    obtain ⟨y, hy, rfl⟩ := hx
    obtain ⟨v, h1, h2⟩ := hsl j y hy
    exact ⟨v, h1, RV_subk hk hFF sF hGG sG y v h2⟩
  · simp only [frzM, List.getElem?_map, Option.map_eq_some_iff] at hj
    obtain ⟨o, ho, o', rfl, rfl⟩ := hj
    rw [List.getElem?_set] at ho
    split at ho
    · split at ho <;> simp at ho
    · rename_i hne
      obtain ⟨v, h1, hob⟩ := hM.live j o' ho
      refine ⟨v, by simp only [hv', if_neg (Ne.symm hne)]; exact h1, ?_⟩
      cases hm : o'.mp with
      | some ks =>
        obtain ⟨vals, g1, g3⟩ := hob.map hm
        exact ObR.of_map (ks := ks) rfl ⟨vals, g1, RVL_subk hk hFF sF hGG sG _ _ g3⟩
      | none =>
        obtain ⟨us, h2, h3, h4⟩ := hob.row hm
        refine ObR.of_row rfl ⟨us, ?_, fun x hx => ?_, RL_subk hk hFF sF hGG sG _ _ h4⟩
        · simp only [AV.subL_map, List.length_map]; exact h2
        · simp only [AV.subL_map, List.mem_map] at hx
          obtain ⟨y, hy, rfl⟩ := hx
          rw [size_sub sF sG]; exact h3 y hy
  · simp only [hv'] at hj
    split at hj
    · cases hj
    · rename_i hne
      obtain ⟨ob, hob⟩ := hM.dom j v hj
      refine ⟨{ ob with xs := AV.subL (fun j => if j = i then .s k xs else .o j) (fun j kk jj off => if j = i then .bot else .q j kk jj off) ob.xs }, ?_⟩
      simp only [frzM, List.getElem?_map]
      rw [List.getElem?_set_ne (Ne.symm hne), hob]
      rfl
  · simp only [hv'] at h1 h2
    split at h1
    · cases h1
    · split at h2
      · cases h2
      · exact hM.inj j1 j2 v1 v2 b h1 h2

/-- objects of the end are forgotten. -/
theorem le_cut {sl sl' : List AV} {M M' Mx : Mem} (h : leSl sl sl') (hM : M = M' ++ Mx) (hf : AV.freeL ((List.range Mx.length).map (· + M'.length)) sl' = true)
    (hm : freeM ((List.range Mx.length).map (· + M'.length)) M' = true) : Le ⟨sl, M⟩ ⟨sl', M'⟩ :=
  le_of h hM hf fun ob hob => by
    simp only [freeM, List.all_eq_true] at hm
    exact hm _ hob
end

end Aw
end Go.Proofs.Ytkolpijhgcijbaa
