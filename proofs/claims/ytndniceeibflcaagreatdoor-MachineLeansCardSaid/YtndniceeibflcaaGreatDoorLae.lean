/-
  Parts of several texts in one: AwS, AwW, AwX, AwY, AwZ, AA1, AA2, AA6, AA7, AA8, AAA, AAB, Ti.
-/
import Derived.Test.YtndniceeibflcaaGreatDoorProg
import Derived.WalkKit
import Derived.Lib.ConvBytes
import Derived.LaidEql
import Derived.Lib.ItoaNum
import Derived.Lib.LaidTab
import Derived.KernelRfl
import GoSem.Claims
import GoSem.ClaimJoined
import Derived.Orders
import Derived.Laws.StructEq
import Derived.Maps.Keyed
import Derived.Lib.Strings
import Derived.Maps.AppendAt
import Derived.Laws.Concat
import Derived.MapKept
import Derived.Laws.MakeOwn
import Derived.Scope
import Derived.Laws.BitsLemmas
import Derived.Maps.RangeRun
import Derived.StillTail
import Derived.OrdersIn
import Derived.TacticsIn
import Derived.RangeFuncRecord
import Derived.RangeFuncCalls
import Derived.RangeFuncSeq
import Derived.Test.YtndniceeibflcaaGreatDoorLaa
import Derived.Test.YtndniceeibflcaaGreatDoorLab
import Derived.Test.YtndniceeibflcaaGreatDoorLac
import Derived.Test.YtndniceeibflcaaGreatDoorLad
set_option linter.unusedSimpArgs false
set_option linter.unusedVariables false
namespace Go.Proofs.YtndniceeibflcaaGreatDoor
namespace Aw
end Aw
namespace Mp
end Mp
end Go.Proofs.YtndniceeibflcaaGreatDoor
namespace Go.Proofs.YtndniceeibflcaaGreatDoor
namespace Aw
open Go.RowKit

section
variable {w w' : World} {T T' : Nat → Prop} {hv hv' : Nat → Option Value} {F : Nat → AV} {G : Nat → Nat → Nat → Nat → AV}

theorem RL_subk (hk : Keeps w T w' T') (hF : ∀ i v, hv i = some v → v.oneCell' = true → R w' T' hv' (F i) [v]) (hF1 : ∀ i, (F i).single = true) (hG : ∀ i k j off us, R w T hv (.q i k j off) us → R w' T' hv' (G i k j off) us) (hG1 : ∀ i k j off, (G i k j off).single = true) :
    ∀ (l : List AV) (us : List Value), RL w T hv l us → RL w' T' hv' (AV.subL F G l) us
  | [], us, h => by simpa only [RL, AV.subL] using h
  | x :: xs, us, h => by
    simp only [RL, AV.subL] at h ⊢
    obtain ⟨u1, u2, rfl, h1, h2⟩ := h
    exact ⟨u1, u2, rfl, R_subk hk hF hF1 hG hG1 x u1 h1, RL_subk hk hF hF1 hG hG1 xs u2 h2⟩

theorem RV_subk (hk : Keeps w T w' T') (hF : ∀ i v, hv i = some v → v.oneCell' = true → R w' T' hv' (F i) [v]) (hF1 : ∀ i, (F i).single = true) (hG : ∀ i k j off us, R w T hv (.q i k j off) us → R w' T' hv' (G i k j off) us) (hG1 : ∀ i k j off, (G i k j off).single = true) :
    ∀ (a : AV) (v : Value), RV w T hv a v → RV w' T' hv' (a.sub F G) v := by
  intro a
  refine AV.rec (motive_1 := fun a => ∀ v, RV w T hv a v → RV w' T' hv' (a.sub F G) v) (motive_2 := fun l => ∀ vs, RVL w T hv l vs → RVL w' T' hv' (AV.subL F G l) vs)
    ?_ ?_ ?_ ?_ ?_ ?_ ?_ ?_ ?_ ?_ ?_ a
  · intro v _; simp [RV, AV.sub]
  · intro x v h; simpa only [RV, AV.sub] using h
  · intro k xs _ v h; have := R_subk hk hF hF1 hG hG1 (.s k xs) [v] (by simpa only [RV] using h); simpa only [RV, AV.sub] using this
  · intro xs _ v h
    simp only [RV, AV.sub] at h ⊢
    obtain ⟨cs, rfl, h⟩ := h
    exact ⟨cs, rfl, RL_subk hk hF hF1 hG hG1 xs _ h⟩
  · intro xs ih v h
    simp only [RV, AV.sub] at h ⊢
    obtain ⟨vs, rfl, h⟩ := h
    exact ⟨vs, rfl, ih _ h⟩
  · intro x off _ v h; have := R_subk hk hF hF1 hG hG1 (.p x off) [v] (by simpa only [RV] using h); simpa only [RV, AV.sub] using this
  · intro i v h
    have h' : R w T hv (.o i) [v] := by simpa only [RV] using h
    exact R_RV (hF1 i) (R_subk hk hF hF1 hG hG1 (.o i) [v] h')
  · intro i k j off v h
    have h' : R w T hv (.q i k j off) [v] := by simpa only [RV] using h
    exact R_RV (hG1 i k j off) (R_subk hk hF hF1 hG hG1 (.q i k j off) [v] h')
  · intro fn cap _ v h; have := R_subk hk hF hF1 hG hG1 (.f fn cap) [v] (by simpa only [RV] using h); simpa only [RV, AV.sub] using this
  · intro vs h; simpa only [RVL, AV.subL] using h
  · intro x xs ih1 ih2 vs h
    simp only [RVL, AV.subL] at h ⊢
    obtain ⟨u, us, rfl, h1, h2⟩ := h
    exact ⟨u, us, rfl, ih1 u h1, ih2 us h2⟩

theorem RVL_subk (hk : Keeps w T w' T') (hF : ∀ i v, hv i = some v → v.oneCell' = true → R w' T' hv' (F i) [v]) (hF1 : ∀ i, (F i).single = true) (hG : ∀ i k j off us, R w T hv (.q i k j off) us → R w' T' hv' (G i k j off) us) (hG1 : ∀ i k j off, (G i k j off).single = true) :
    ∀ (l : List AV) (us : List Value), RVL w T hv l us → RVL w' T' hv' (AV.subL F G l) us
  | [], us, h => by simpa only [RVL, AV.subL] using h
  | x :: xs, us, h => by
    simp only [RVL, AV.subL] at h ⊢
    obtain ⟨u, u2, rfl, h1, h2⟩ := h
    exact ⟨u, u2, rfl, RV_subk hk hF hF1 hG hG1 x u h1, RVL_subk hk hF hF1 hG hG1 xs u2 h2⟩

theorem size_sub (hF1 : ∀ i, (F i).single = true) (hG1 : ∀ i k j off, (G i k j off).single = true) (a : AV) : (a.sub F G).size = a.size := by
  refine AV.rec (motive_1 := fun a => (a.sub F G).size = a.size) (motive_2 := fun l => AV.sizeL (AV.subL F G l) = AV.sizeL l) ?_ ?_ ?_ ?_ ?_ ?_ ?_ ?_ ?_ ?_ ?_ a
  case refine_7 => intro i; simp only [AV.sub]; rw [AV.size_single (hF1 i)]; rfl
  case refine_8 => intro i k j off; simp only [AV.sub]; rw [AV.size_single (hG1 i k j off)]; rfl
  all_goals intros; simp_all [AV.sub, AV.subL, AV.size, AV.sizeL]
end

/-- A CONTRACT of a function that is handed objects: they are M before, M' behind. -/
def MSpec (P : Program) (f : FuncId) (aS : List AV) (M : Mem) (post : AV → Mem → Prop) : Prop :=
  okFn P f = true ∧ ∀ (w : World) (vs : List Value) (A : Nat → Prop) (hv : Nat → Option Value), MemR A w hv M → (∀ b, Own hv b → ¬ A b) → RVL w (OwnA A hv) hv aS vs → Calls P f vs.toArray w fun e w' =>
    ∃ r M' v hv', e = .returned v ∧ post r M' ∧ MemR A w' hv' M' ∧ RV w' (OwnA A hv') hv' r v ∧ RVL w' (OwnA A hv') hv' aS vs ∧ Keeps w (Own hv) w' (Own hv') ∧ w'.os = w.os ∧ w'.tape = w.tape ∧ w'.output = w.output ∧ dr w ≤ dr w'

section
variable {P : Program} {C : Ctx} {σ : St} {a : Act} {w : World} {Q : Exit → Act → World → Prop}

theorem rvl_mem {T : Nat → Prop} {hv : Nat → Option Value} : ∀ (l : List AV) (us : List Value) (x : AV), RVL w T hv l us → x ∈ l → ∃ (i : Nat) (u : Value), l[i]? = some x ∧ us[i]? = some u ∧ RV w T hv x u
  | y :: l, us, x, h, hx => by
    simp only [RVL] at h
    obtain ⟨v, vs, rfl, h1, h2⟩ := h
    rcases List.mem_cons.1 hx with rfl | hx
    · exact ⟨0, v, rfl, rfl, h1⟩
    · obtain ⟨i, u, h3, h4, h5⟩ := rvl_mem l vs x h2 hx
      exact ⟨i + 1, u, by simpa using h3, by simpa using h4, h5⟩

theorem ok_enter {o : Oper} {c : Operand} {args : Array Operand} {tys : Array TypeId} {f : FuncId} {cs : Array Value} (ho : o.op = .call ⟨.value c, args, tys⟩) (hc : a.eval c = .func (.func f) #[] cs) (hok : okFn P f = true) :
    (execOp a.eval o).run P w = .ok (.enter f (args.toList.map a.eval ++ cs.toList).toArray) w := by
  unfold okFn at hok
  cases hf : P.funcs[f]? with
  | none => rw [hf] at hok; simp at hok
  | some fn =>
    rw [hf] at hok
    simp only [Bool.and_eq_true, Bool.not_eq_true'] at hok
    have h1 : ¬ fn.name = "runtime.NumGoroutine" := by simpa using hok.1
    have hb : ¬ fn.body = none := by intro e; rw [e] at hok; simp at hok
    have e : (args.toList.map a.eval ++ cs.toList).toArray = args.map a.eval ++ cs := by rw [← Array.toList_map, ← Array.toList_append]
    rw [e]
    simp [execOp, ho, resolve, Deferred.ofValue, hc, invoke, callFunc, hf, h1, hb]

/-- the values of the arguments, remembered. -/
def ghost (vs : List Value) (aS : List AV) : Ob := ⟨some vs, 0, 1, aS⟩

def freeM (Z : List Nat) (M : Mem) : Bool := M.all fun o => match o with | some ob => AV.freeL Z ob.xs | none => true

theorem freeL_mem {Z : List Nat} : ∀ (l : List AV), AV.freeL Z l = true → ∀ x ∈ l, x.free Z = true
  | y :: l, h, x, hx => by
    simp only [AV.freeL, Bool.and_eq_true] at h
    rcases List.mem_cons.1 hx with rfl | hx
    · exact h.1
    · exact freeL_mem l h.2 x hx
theorem killL_free {Z : List Nat} {l : List AV} (h : AV.freeL Z l = true) : AV.killL Z l = l := by
  rw [AV.killL_map, List.map_congr_left (fun x hx => AV.kill_free Z x (freeL_mem l h x hx))]
  simp

/-- the object i is frozen: it is told as a slice that nobody writes. -/
def frz1 (i : Nat) (k : Nat) (xs : List AV) : AV → AV := AV.sub (fun j => if j = i then .s k xs else .o j) (fun j kk jj off => if j = i then .bot else .q j kk jj off)
def frzM (i : Nat) (k : Nat) (xs : List AV) (M : Mem) : Mem := (M.set i none).map fun o => o.map fun ob => { ob with xs := AV.subL (fun j => if j = i then .s k xs else .o j) (fun j kk jj off => if j = i then .bot else .q j kk jj off) ob.xs }

theorem le_frz {sl : List AV} {M : Mem} (i : Nat) {ty k : Nat} {xs : List AV} (hi : M[i]? = some (some ⟨none, ty, k, xs⟩)) (hp : AV.pureL xs = true) : Le ⟨sl, M⟩ ⟨sl.map (frz1 i k xs), frzM i k xs M⟩ := by
  intro C a w hS
  obtain ⟨hv, hd, hsz, hsl, hM, hF⟩ := hS
  let hv' : Nat → Option Value := fun j => if j = i then none else hv j
  have hown : ∀ b, Own hv' b → Own hv b ∧ ∀ v, hv i = some v → blk v ≠ some b := by
    rintro b ⟨j, v, hj, hb⟩
    simp only [hv'] at hj
    split at hj
    · cases hj
    · rename_i hne
      exact ⟨⟨j, v, hj, hb⟩, fun v' hv'' e => hne (hM.inj j i v v' b hj hv'' hb e)⟩
  have hk : Keeps w (OwnA C.A hv) w (OwnA C.A hv') := ⟨Nat.le_refl _, fun _ _ _ => rfl, fun b _ h => h.elim .inl fun h => .inr (hown b h).1⟩
  have sF : ∀ j, (if j = i then AV.s k xs else .o j).single = true := fun j => by split <;> rfl
  have sG : ∀ j kk jj off, (if j = i then AV.bot else .q j kk jj off).single = true := fun j kk jj off => by split <;> rfl
  have hFF : ∀ j v, hv j = some v → v.oneCell' = true → R w (OwnA C.A hv') hv' (if j = i then .s k xs else .o j) [v] := by
    intro j v hj h1c
    split
    · rename_i hji
      subst hji
      obtain ⟨us, hrow, hks, hus⟩ := (hM_ob hM hi hj).row rfl
      have hus' := RL_pure xs hv noHv us hp hus
      have hus2 := RL_keep hk (Z := []) (hv := noHv) (hv' := noHv) (fun _ _ _ h => h) _ _ hus'
      rw [AV.killL_nil] at hus2
      simp only [R]
      rcases hrow.2 with ⟨rfl, h0⟩ | ⟨g, cap, cur, rfl, _, hg, hnc, hcm, hcs, htk⟩
      · have he : xs = [] := List.eq_nil_of_length_eq_zero h0
        rw [he]
        exact ⟨none, 0, [], by simp, Nat.le_refl _, Nat.zero_le _, by simp, by simp [RL], fun h => absurd rfl h⟩
      · refine ⟨_, cap, us, rfl, hnc, hcm, hks, hus2, fun _ => ⟨g, 0, rfl, (Array.getElem?_eq_some_iff.1 hg).1, fun h' => ?_, fun m u hu => ?_⟩⟩
        · rcases h' with h' | h'
          · exact hF.sep ⟨j, _, hj, rfl⟩ h'
          · exact (hown g h').2 _ hj rfl
        · have := hrow.cells (g := g) rfl m u hu
          rw [Addr.add_lit] at this
          exact this
    · rename_i hji
      simp only [R]
      exact ⟨v, by simp only [hv', if_neg hji]; exact hj, rfl, h1c⟩
  have hGG : ∀ j kk jj off us, R w (OwnA C.A hv) hv (.q j kk jj off) us → R w (OwnA C.A hv') hv' (if j = i then .bot else .q j kk jj off) us := by
    intro j kk jj off us h
    split
    · exact R_botq h
    · rename_i hji
      simp only [R] at h ⊢
      obtain ⟨b, n, c, h1, h2⟩ := h
      exact ⟨b, n, c, by simp only [hv', if_neg hji]; exact h1, h2⟩
  refine ⟨hv', hd, by simpa using hsz, fun j x hx => ?_, ⟨fun j ob hj => ?_, fun j v hj => ?_, fun j1 j2 v1 v2 b h1 h2 => ?_, hM.old, hM.gl.1, fun b h => hM.gl.2 b (hown b h).1⟩, ⟨hF.os, hF.tape, hF.output, hF.drawn, hF.size, hF.block, fun b hb => hF.own b (hown b hb).1, hF.aold, hF.dis⟩⟩
  · simp only [List.getElem?_map, Option.map_eq_some_iff] at hx
    obtain ⟨y, hy, rfl⟩ := hx
    obtain ⟨v, h1, h2⟩ := hsl j y hy
    exact ⟨v, h1, RV_subk hk hFF sF hGG sG y v h2⟩
  · simp only [frzM, List.getElem?_map, Option.map_eq_some_iff] at hj
    obtain ⟨o, ho, o', rfl, rfl⟩ := hj
    rw [List.getElem?_set] at ho
    split at ho
    · split at ho <;> simp at ho
    · rename_i hne
      obtain ⟨v, h1, hob⟩ := hM.live j o' ho
      refine ⟨v, by simp only [hv', if_neg (Ne.symm hne)]; exact h1, ?_⟩
      cases hm : o'.mp with
      | some ks =>
        obtain ⟨vals, g1, g3⟩ := hob.map hm
        exact ObR.of_map (ks := ks) rfl ⟨vals, g1, RVL_subk hk hFF sF hGG sG _ _ g3⟩
      | none =>
        obtain ⟨us, h2, h3, h4⟩ := hob.row hm
        refine ObR.of_row rfl ⟨us, ?_, fun x hx => ?_, RL_subk hk hFF sF hGG sG _ _ h4⟩
        · simp only [AV.subL_map, List.length_map]; exact h2
        · simp only [AV.subL_map, List.mem_map] at hx
          obtain ⟨y, hy, rfl⟩ := hx
          rw [size_sub sF sG]; exact h3 y hy
  · simp only [hv'] at hj
    split at hj
    · cases hj
    · rename_i hne
      obtain ⟨ob, hob⟩ := hM.dom j v hj
      refine ⟨{ ob with xs := AV.subL (fun j => if j = i then .s k xs else .o j) (fun j kk jj off => if j = i then .bot else .q j kk jj off) ob.xs }, ?_⟩
      simp only [frzM, List.getElem?_map]
      rw [List.getElem?_set_ne (Ne.symm hne), hob]
      rfl
  · simp only [hv'] at h1 h2
    split at h1
    · cases h1
    · split at h2
      · cases h2
      · exact hM.inj j1 j2 v1 v2 b h1 h2

/-- objects of the end are forgotten. -/
theorem le_cut {sl sl' : List AV} {M M' Mx : Mem} (h : leSl sl sl') (hM : M = M' ++ Mx) (hf : AV.freeL ((List.range Mx.length).map (· + M'.length)) sl' = true)
    (hm : freeM ((List.range Mx.length).map (· + M'.length)) M' = true) : Le ⟨sl, M⟩ ⟨sl', M'⟩ :=
  le_of h hM hf fun ob hob => by
    simp only [freeM, List.all_eq_true] at hm
    exact hm _ hob
end

end Aw
end Go.Proofs.YtndniceeibflcaaGreatDoor

namespace Go.Proofs.YtndniceeibflcaaGreatDoor
namespace Aw
open Go.RowKit
set_option linter.unusedSimpArgs false

section
theorem RL_set_imp {w : World} {T : Nat → Prop} {hv : Nat → Option Value} {y : AV} : ∀ (xs : List AV) (j : Nat) (x : AV) (us : List Value), xs[j]? = some x → (∀ u, R w T hv x u → R w T hv y u) → RL w T hv xs us → RL w T hv (xs.set j y) us
  | [], j, x, us, h, _, _ => by simp at h
  | z :: xs, 0, x, us, h, hxy, hr => by
    simp only [List.getElem?_cons_zero, Option.some.injEq] at h
    subst h
    simp only [List.set_cons_zero, RL] at hr ⊢
    obtain ⟨u1, u2, e, h1, h2⟩ := hr
    exact ⟨u1, u2, e, hxy u1 h1, h2⟩
  | z :: xs, j + 1, x, us, h, hxy, hr => by
    simp only [List.getElem?_cons_succ] at h
    simp only [List.set_cons_succ, RL] at hr ⊢
    obtain ⟨u1, u2, e, h1, h2⟩ := hr
    exact ⟨u1, u2, e, h1, RL_set_imp xs j x u2 h hxy h2⟩
theorem sizeL_set {y : AV} : ∀ (xs : List AV) (j : Nat) (x : AV), xs[j]? = some x → y.size = x.size → AV.sizeL (xs.set j y) = AV.sizeL xs
  | [], j, x, h, _ => by simp at h
  | z :: xs, 0, x, h, e => by
    simp only [List.getElem?_cons_zero, Option.some.injEq] at h
    subst h
    simp [AV.sizeL, e]
  | z :: xs, j + 1, x, h, e => by
    simp only [List.getElem?_cons_succ] at h
    simp [AV.sizeL, sizeL_set xs j x h e]

theorem mem_same {A : Nat → Prop} {w : World} {hv : Nat → Option Value} {M : Mem} (hM : MemR A w hv M) {i : Nat} {ob ob' : Ob} (hi : M[i]? = some (some ob)) (h : ∀ v, ObR w (OwnA A hv) hv ob v → ObR w (OwnA A hv) hv ob' v) : MemR A w hv (M.set i (some ob')) := by
  have hlt := (List.getElem?_eq_some_iff.1 hi).1
  refine ⟨fun j o hj => ?_, fun j v hj => ?_, hM.inj, hM.old, hM.gl⟩
  · rw [List.getElem?_set] at hj
    split at hj
    · rename_i e
      subst e
      try rw [if_pos hlt] at hj
      injection hj with hj
      injection hj with hj
      subst hj
      obtain ⟨v, h1, h2⟩ := hM.live i ob hi
      exact ⟨v, h1, h v h2⟩
    · exact hM.live j o hj
  · obtain ⟨o, ho⟩ := hM.dom j v hj
    by_cases e : i = j
    · subst e
      exact ⟨ob', by simp [hlt]⟩
    · exact ⟨o, by rw [List.getElem?_set_ne e]; exact ho⟩

theorem le_nil {sl : List AV} {M : Mem} (i j c : Nat) (ty : TypeId) (k : Nat) {ob : Ob} {cells : List AV} (hi : M[i]? = some (some ob)) (hm : ob.mp = none) (hj : ob.xs[j]? = some (.g cells)) (hc : cells[c]? = some (.v (.slice none 0 0))) :
    Le ⟨sl, M⟩ ⟨sl, (M.set i (some { ob with xs := ob.xs.set j (.g (cells.set c (.o M.length))) })) ++ [some ⟨none, ty, k, []⟩]⟩ := by
  intro C a w hS
  obtain ⟨hv, hd, hsz, hsl, hM, hF⟩ := hS
  have hlt := (List.getElem?_eq_some_iff.1 hi).1
  obtain ⟨m1, m2⟩ := mem_add hM (w' := w) (Bel.refl _ _) (ob := ⟨none, ty, k, []⟩) (v := .slice none 0 0) (fun b hb => by simp [blk, Value.ownBlock] at hb)
    (fun hs => ObR.of_row rfl ⟨[], World.ownsRow_nil _ _ _ _, by simp, by simp [RL]⟩)
  have m3 := mem_same (ob' := { ob with xs := ob.xs.set j (.g (cells.set c (.o M.length))) }) m1 (i := i) (ob := ob) (by rw [List.getElem?_append_left hlt]; exact hi) (fun v h => by
    obtain ⟨us, h1, h2, h3⟩ := h.row hm
    refine ObR.of_row hm ⟨us, ?_, ?_, ?_⟩
    · simpa using h1
    · intro x hx
      rcases List.mem_or_eq_of_mem_set hx with hx | rfl
      · exact h2 x hx
      · have h4 := h2 (.g cells) (List.mem_of_getElem? hj)
        simp only [AV.size] at h4 ⊢
        rw [sizeL_set (y := .o M.length) cells c _ hc rfl]; exact h4
    · refine RL_set_imp ob.xs j _ us hj (fun u hu => ?_) h3
      simp only [R] at hu ⊢
      refine RL_set_imp cells c _ u hc (fun u hu => ?_) hu
      simp only [R] at hu ⊢
      exact ⟨_, hvAdd_self _ _, hu.1, hu.2⟩)
  rw [List.set_append_left _ _ hlt] at m3
  refine ⟨_, hd, hsz, fun m x hx => ?_, m3, hF.step m2⟩
  obtain ⟨v, h1, h2⟩ := hsl m x hx
  have := m2.rv h2
  rw [AV.kill_nil] at this
  exact ⟨v, h1, this⟩
/-! the room of a nil slice -/
variable {P : Program} {σ : St}
end
end Aw
end Go.Proofs.YtndniceeibflcaaGreatDoor

namespace Go.Proofs.YtndniceeibflcaaGreatDoor
namespace Aw
open Go.RowKit
open Go.ChangeMaps (setBlock)
set_option linter.unusedSimpArgs false

section
/-- the context D lies inside the context C: its blocks to be kept away from are more, and its world is one that C can come to. -/
structure Sub (C D : Ctx) : Prop where
  a : ∀ b, C.A b → D.A b
  os : D.w0.os = C.w0.os
  tape : D.w0.tape = C.w0.tape
  output : D.w0.output = C.w0.output
  drawn : dr C.w0 ≤ dr D.w0
  size : C.w0.heap.size ≤ D.w0.heap.size
  block : ∀ b, b < C.w0.heap.size → ¬ C.In b → D.w0.heap[b]? = C.w0.heap[b]?
  inn : ∀ b, D.In b → C.In b ∨ C.w0.heap.size ≤ b
  aold : ∀ b, C.A b → b < C.w0.heap.size
  dis : ∀ b, C.A b → ¬ C.In b
  dl : D.dl = C.dl

theorem MemR.keep {A : Nat → Prop} {w w2 : World} {hv : Nat → Option Value} {M : Mem} (hM : MemR A w hv M) (hk : Keeps w (OwnA A hv) w2 (OwnA A hv)) (hb : ∀ b, Own hv b → w2.heap[b]? = w.heap[b]?) (hsz : w.heap.size ≤ w2.heap.size) (hg : GOk w2) : MemR A w2 hv M := by
  refine ⟨fun i ob h => ?_, hM.dom, hM.inj, fun b h => Nat.lt_of_lt_of_le (hM.old b h) hsz, hg, hM.gl.2⟩
  obtain ⟨v, hv1, hob⟩ := hM.live i ob h
  refine ⟨v, hv1, ?_⟩
  cases hm : ob.mp with
  | some ks =>
    obtain ⟨vals, h1, h3⟩ := hob.map hm
    have := RVL_keep hk (Z := []) (hv := hv) (hv' := hv) (fun _ _ _ h => h) _ _ h3
    rw [AV.killL_nil] at this
    exact ObR.of_map hm ⟨vals, h1.block fun b hb' => hb b ⟨i, v, hv1, hb'⟩, this⟩
  | none =>
    obtain ⟨us, h1, h2, h3⟩ := hob.row hm
    have := RL_keep hk (Z := []) (hv := hv) (hv' := hv) (fun _ _ _ h => h) _ _ h3
    rw [AV.killL_nil] at this
    exact ObR.of_row hm ⟨us, ownsRow_of_block h1 fun b hb' => hb b ⟨i, v, hv1, by rw [blk_row h1]; exact hb'⟩, h2, this⟩

/-- an iterator at the block r, over the map at the block bm; 'seen' are the entries that it has handed out. -/
structure It (xs : List AV) (C D : Ctx) (r bm : Nat) (es : Array MapEntry) (clock : Nat) (seen : Array Nat) : Prop where
  sub : Sub C D
  ar : D.A r
  am : D.A bm
  ge : C.w0.heap.size ≤ r
  ne : bm ≠ r
  ng : ¬ GB r
  hr : D.w0.heap[r]? = some (.mapIter (some bm) clock seen clock)
  hm : D.w0.heap[bm]? = some (.map es clock)
  st : Stamps es clock
  pu : AV.pureL xs = true
  vals : RVL D.w0 (fun b => D.A b ∨ D.In b) noHv xs (es.toList.map (·.val))

theorem It.at_r {xs : List AV} {C D : Ctx} {r bm : Nat} {es : Array MapEntry} {clock : Nat} {seen : Array Nat} (h : It xs C D r bm es clock seen) {σ : St} {a : Act} {w : World} (hS : StR D σ a w) : w.heap[r]? = some (.mapIter (some bm) clock seen clock) := by
  obtain ⟨hv, _, _, _, _, hF⟩ := hS
  exact (hF.block r (hF.aold r h.ar) (hF.dis r h.ar)).trans h.hr
theorem It.at_m {xs : List AV} {C D : Ctx} {r bm : Nat} {es : Array MapEntry} {clock : Nat} {seen : Array Nat} (h : It xs C D r bm es clock seen) {σ : St} {a : Act} {w : World} (hS : StR D σ a w) : w.heap[bm]? = some (.map es clock) := by
  obtain ⟨hv, _, _, _, _, hF⟩ := hS
  exact (hF.block bm (hF.aold bm h.am) (hF.dis bm h.am)).trans h.hm

theorem setBlock_size (w : World) (r : Nat) (o : Obj) : (setBlock w r o).heap.size = w.heap.size := by simp [setBlock]
theorem setBlock_ne (w : World) {r b : Nat} (o : Obj) (h : b ≠ r) : (setBlock w r o).heap[b]? = w.heap[b]? := Array.getElem?_setIfInBounds_ne (Ne.symm h)

/-- the iterator goes on: a new context. -/
theorem It.step {xs : List AV} {C D : Ctx} {r bm : Nat} {es : Array MapEntry} {clock : Nat} {seen : Array Nat} (h : It xs C D r bm es clock seen) {σ : St} {a : Act} {w w1 : World} (hS : StR D σ a w) (h1 : w1 = w ∨ w1 = w.drew) (s : Nat) :
    ∃ D', It xs C D' r bm es clock (seen.push s) ∧ StR D' σ a (setBlock w1 r (.mapIter (some bm) clock (seen.push s) clock)) := by
  have hr := h.at_r hS
  have hm := h.at_m hS
  obtain ⟨hv, hd, hsz, hsl, hM, hF⟩ := hS
  have hlt : r < w.heap.size := (Array.getElem?_eq_some_iff.1 hr).1
  have hw : w1.heap = w.heap ∧ w1.os = w.os ∧ w1.tape = w.tape ∧ w1.output = w.output := by rcases h1 with rfl | rfl <;> exact ⟨rfl, rfl, rfl, rfl⟩
  obtain ⟨w2, hw2⟩ : ∃ w2, w2 = setBlock w1 r (.mapIter (some bm) clock (seen.push s) clock) := ⟨_, rfl⟩
  have hsame : ∀ b, b ≠ r → w2.heap[b]? = w.heap[b]? := fun b hb => by rw [hw2, setBlock_ne _ _ hb, hw.1]
  have hsize : w2.heap.size = w.heap.size := by rw [hw2, setBlock_size, hw.1]
  have hself : w2.heap[r]? = some (.mapIter (some bm) clock (seen.push s) clock) := by
    rw [hw2]; simp [setBlock, hw.1, hlt]
  have ho : w2.os = w.os ∧ w2.tape = w.tape ∧ w2.output = w.output := by rw [hw2]; exact hw.2
  have hdr : dr w ≤ dr w2 := by rw [hw2]; rcases h1 with rfl | rfl; exact Nat.le_refl _; exact dr_drew w
  rw [← hw2]
  have hnr : ¬ Own hv r := fun h' => hF.sep h' h.ar
  have hk : Keeps w (OwnA D.A hv) w2 (OwnA D.A hv) := ⟨by rw [hsize]; exact Nat.le_refl _, fun b _ hT => hsame b (by rintro rfl; exact hT (.inl h.ar)), fun b _ h => h⟩
  refine ⟨⟨w2, Own hv, D.A, D.dl⟩, ⟨⟨h.sub.a, ho.1.trans (hF.os.trans h.sub.os), ho.2.1.trans (hF.tape.trans h.sub.tape), ho.2.2.trans (hF.output.trans h.sub.output), Nat.le_trans h.sub.drawn (Nat.le_trans hF.drawn hdr), ?_, fun b hb hn => ?_, fun b hb => ?_, h.sub.aold, h.sub.dis, h.sub.dl⟩, h.ar, h.am, h.ge, h.ne, h.ng, hself, (hsame bm h.ne).trans hm, h.st, h.pu, ?_⟩, hv, hd, hsz, fun i x hx => ?_, MemR.keep hM hk (fun b hb => hsame b (by rintro rfl; exact hnr hb)) (by omega) (hM.gl.1.keep fun b hb => hsame b (by rintro rfl; exact h.ng hb)), ⟨rfl, rfl, rfl, Nat.le_refl _, Nat.le_refl _, fun _ _ _ => rfl, fun b hb => .inl hb, fun b hb => ?_, fun b hA hO => hF.sep hO hA⟩⟩
  · show C.w0.heap.size ≤ w2.heap.size
    rw [hsize]
    exact Nat.le_trans h.sub.size hF.size
  · have hbr : b ≠ r := by rintro rfl; have := h.ge; omega
    refine (hsame b hbr).trans ((hF.block b (Nat.lt_of_lt_of_le hb h.sub.size) (fun h' => ?_)).trans (h.sub.block b hb hn))
    rcases h.sub.inn b h' with h' | h'
    · exact hn h'
    · omega
  · rcases hF.own b hb with h' | h'
    · exact h.sub.inn b h'
    · exact .inr (Nat.le_trans h.sub.size h')
  · have k1 : Keeps D.w0 (fun b => D.A b ∨ D.In b) w2 (fun b => D.A b ∨ Own hv b) := ⟨by rw [hsize]; exact hF.size, fun b hb hn => (hsame b (by rintro rfl; exact hn (.inl h.ar))).trans (hF.block b hb (fun h' => hn (.inr h'))), fun b hb hT => hT.elim .inl (fun h' => by
      rcases hF.own b h' with h' | h'
      · exact .inr h'
      · omega)⟩
    have := RVL_keep k1 (Z := []) (hv := noHv) (hv' := noHv) (fun _ _ _ h => h) _ _ h.vals
    rwa [AV.killL_nil] at this
  · obtain ⟨v, g1, g2⟩ := hsl i x hx
    have := RV_keep hk x [] hv hv v (fun _ _ _ h => h) g2
    rw [AV.kill_nil] at this
    exact ⟨v, g1, this⟩
  · show b < w2.heap.size
    rw [hsize]
    exact hM.old b hb

variable {P : Program}

theorem aops_then {own : List Nat} {ops : Array Oper} {N : HK (St → Prop)} {C : Ctx} {Q : Exit → Act → World → Prop} (l' : List Oper) : ∀ (l : List Oper) (k : Nat) (σ : St) (a : Act) (w : World), ops.toList.drop k = l ++ l' → @AOps P own ops.toList l σ N → StR C σ a w →
    (∀ σ a w, N.k σ → StR C σ a w → wpOps P ops Q (List.range' (k + l.length) l'.length) a w) → wpOps P ops Q (List.range' k (l ++ l').length) a w
  | [], k, σ, a, w, hk, h, hS, hN => by simpa using hN σ a w h hS
  | o :: l, k, σ, a, w, hk, h, hS, hN => by
    have ho : ops[k]? = some o := by
      have : (ops.toList.drop k)[0]? = some o := by rw [hk]; rfl
      rw [List.getElem?_drop] at this
      simpa using this
    have hk' : ops.toList.drop (k + 1) = l ++ l' := by rw [← List.drop_drop, hk]; rfl
    rw [List.cons_append, List.length_cons, List.range'_succ, wpOps_cons]
    refine wpOp_mono (fun a' w' => ?_) (aop_sound ho h hS)
    rintro ⟨σ', h1, h2⟩
    refine aops_then l' l (k + 1) σ' a' w' hk' h1 h2 (fun σ a w hn hs => ?_)
    have := hN σ a w hn hs
    rw [List.length_cons] at this
    rwa [show k + (l.length + 1) = k + 1 + l.length by omega] at this

end
end Aw
end Go.Proofs.YtndniceeibflcaaGreatDoor

namespace Go.Proofs.YtndniceeibflcaaGreatDoor
namespace Aw
open Go.RowKit

section
variable {P : Program} {own : List Nat}

theorem frz_oR {A : Nat → Prop} {M : Mem} {w : World} {hv : Nat → Option Value} (hM : MemR A w hv M) {i : Nat} {v : Value} (h : hv i = some v) :
    R w (fun _ => False) noHv (match M[i]? with | some (some ob) => if (ob.mp.isNone && AV.pureL ob.xs) = true then .s ob.k ob.xs else .bot | _ => .bot) [v] := by
  obtain ⟨ob, hob⟩ := hM.dom i v h
  have := coe_frz M (.o i) A w hv v hM (by simp only [RV, R]; exact ⟨v, h, rfl, (hM_ob hM hob h).one⟩)
  simp only [if_true, frz, AV.sub, hob] at this ⊢
  by_cases hp : (ob.mp.isNone && AV.pureL ob.xs) = true
  · rw [if_pos hp] at this ⊢
    simpa only [RV] using this
  · rw [if_neg hp]
    simp only [R]; exact ⟨v, rfl, (hM_ob hM hob h).one⟩

theorem frz_o1 (M : Mem) (i : Nat) : AV.single (match M[i]? with | some (some ob) => if (ob.mp.isNone && AV.pureL ob.xs) = true then .s ob.k ob.xs else .bot | _ => .bot) = true := by
  split
  · split <;> rfl
  · rfl

theorem frz_R {A : Nat → Prop} {M : Mem} {w : World} {hv : Nat → Option Value} (hM : MemR A w hv M) {x : AV} {us : List Value} (hx : R w (OwnA A hv) hv x us) : R w (fun _ => False) noHv (frz M x) us :=
  R_sub (T := OwnA A hv) (T' := fun _ => False) (hv := hv) (hv' := noHv) (fun b h => h.elim) (fun i v h => frz_oR hM h) (fun i => frz_o1 M i) (fun i k j off us h => R_botq h) (fun _ _ _ _ => rfl) x us hx

end
end Aw
end Go.Proofs.YtndniceeibflcaaGreatDoor

namespace Go.Proofs.YtndniceeibflcaaGreatDoor
namespace Aw
open Go.RowKit

/-- each operation comes behind earlier ones alone; the first n have no guard. -/
def headB (ops : Array Oper) (n : Nat) : Bool :=
  (List.range ops.size).all fun i => match ops[i]? with | some o => o.after.all (fun e => decide (e.on < i)) && (decide (n ≤ i) || o.guard.isNone) | none => true

theorem headB_at {ops : Array Oper} {n : Nat} (h : headB ops n = true) {i : Nat} {o : Oper} (ho : ops[i]? = some o) : (∀ e ∈ o.after, e.on < i) ∧ (i < n → o.guard = none) := by
  have hi := (Array.getElem?_eq_some_iff.1 ho).1
  have := List.all_eq_true.1 h i (List.mem_range.2 hi)
  simp only [ho, Bool.and_eq_true, Bool.or_eq_true, decide_eq_true_eq, Option.isNone_iff_eq_none] at this
  refine ⟨fun e he => ?_, fun hin => by
    rcases this.2 with h2 | h2
    · omega
    · exact h2⟩
  have h1 := Array.all_eq_true'.1 this.1 e he
  simpa using h1

section
variable {P : Program} {own : List Nat} {ops pre : Array Oper} {n : Nat}

/-- the tail. -/
theorem any_tail {Q : Exit → Act → World → Prop} (hh : headB ops n = true) (hc : Region.chainB .any ops n = true) : ∀ (g t fuel : Nat) (listed : Array Bool) (a : Act) (w : World), t + g = ops.size → n ≤ t → g ≤ fuel → listed.size = ops.size →
    (∀ j, j < t → listed.getD j false = true) → (∀ j, t ≤ j → j < ops.size → listed.getD j true = false) → wpOps P ops Q (List.range' t g) a w → wpAny P .any ops Q fuel listed a w := by
  intro g
  induction g with
  | zero =>
    intro t fuel listed a w htg hnt hf hls hlo hhi h
    have h0 : Region.ready .any ops listed = [] := by
      rw [List.eq_nil_iff_forall_not_mem]
      intro i hi
      obtain ⟨hun, o, ho, _⟩ := mem_ready.1 hi
      have hil := (Array.getElem?_eq_some_iff.1 ho).1
      have := hlo i (by omega)
      rw [getD_both hun] at this
      cases this
    simp only [List.range'_zero, wpOps] at h
    cases fuel with
    | zero => exact ⟨h0, h⟩
    | succ f => exact ⟨fun _ => h, fun i hi => by rw [h0] at hi; cases hi⟩
  | succ g ih =>
    intro t fuel listed a w htg hnt hf hls hlo hhi h
    cases fuel with
    | zero => omega
    | succ f =>
      have htl : t < ops.size := by omega
      have hot : ops[t]? = some ops[t] := Array.getElem?_eq_getElem htl
      have hrt : t ∈ Region.ready .any ops listed := by
        rw [mem_ready]
        refine ⟨hhi t (Nat.le_refl _) htl, ops[t], hot, fun e he _ => hlo e.on ((headB_at hh hot).1 e he)⟩
      refine ⟨fun h0 => (by rw [h0] at hrt; cases hrt), fun i hi => ?_⟩
      obtain ⟨hun, o, ho, hall⟩ := mem_ready.1 hi
      have hil := (Array.getElem?_eq_some_iff.1 ho).1
      have hit : i = t := by
        rcases Nat.lt_trichotomy i t with h1 | h1 | h1
        · have := hlo i h1
          rw [getD_both hun] at this
          cases this
        · exact h1
        · have h2 := List.all_eq_true.1 hc i (List.mem_range.2 hil)
          simp only [Bool.or_eq_true, decide_eq_true_eq] at h2
          rcases h2 with h2 | h2
          · omega
          · obtain ⟨o', ho', e, he, hb, hon⟩ := Region.waitsFor_spec h2
            have : o' = o := Option.some.inj (ho'.symm.trans ho)
            subst this
            have h3 := hall e he hb
            rw [hon, getD_both (hhi (i - 1) (by omega) (by omega))] at h3
            cases h3
      subst hit
      rw [List.range'_succ, wpOps_cons] at h
      refine wpOp_mono (fun a' w' h' => ?_) h
      refine ih (i + 1) f _ a' w' (by omega) (by omega) (by omega) (by simp [hls]) (fun j hj => ?_) (fun j hj hjs => ?_) h'
      · by_cases hji : j = i
        · subst hji
          simp [hls, htl]
        · exact getD_set_true (hlo j (by omega))
      · rw [getD_set_ne true (by omega)]
        exact hhi j (by omega) hjs

theorem aany_split {C : Ctx} {Q : Exit → Act → World → Prop} {N : St → Prop} (hpre : ∀ j, j < n → pre[j]? = ops[j]?) (hps : pre.size = n) (hn : n < ops.size) (hh : headB ops n = true) (hs : Region.sinkB .any ops n = true) (hc : Region.chainB .any ops n = true)
    (hN : ∀ σ a w, N σ → StR C σ a w → wpOps P ops Q (List.range' n (ops.size - n)) a w) :
    ∀ (f : Nat) (lp listed : Array Bool) (σ : St) (a : Act) (w : World), lp.size = n → (∀ j, j < n → lp.getD j true = listed.getD j true) → HeadInv .any ops n listed → AAny P own pre N f lp σ → StR C σ a w →
      wpAny P .any ops Q (f + (ops.size - n)) listed a w := by
  have hrd : ∀ (lp listed : Array Bool), lp.size = n → (∀ j, j < n → lp.getD j true = listed.getD j true) → listed.size = ops.size → ∀ i, i < n → (i ∈ Region.ready .any pre lp ↔ i ∈ Region.ready .any ops listed) := by
    intro lp listed hl he hls i hi
    have hgd : ∀ j, j < n → lp.getD j false = listed.getD j false := fun j hj => by
      have := he j hj
      simp only [Array.getD_eq_getD_getElem?] at this ⊢
      rw [Array.getElem?_eq_getElem (by omega), Array.getElem?_eq_getElem (by omega)] at this ⊢
      simpa using this
    rw [mem_ready, mem_ready, hpre i hi, he i hi]
    constructor
    · rintro ⟨h1, o, ho, h2⟩
      exact ⟨h1, o, ho, fun e hem hb => by rw [← hgd e.on (Nat.lt_trans ((headB_at hh ho).1 e hem) hi)]; exact h2 e hem hb⟩
    · rintro ⟨h1, o, ho, h2⟩
      exact ⟨h1, o, ho, fun e hem hb => by rw [hgd e.on (Nat.lt_trans ((headB_at hh ho).1 e hem) hi)]; exact h2 e hem hb⟩
  have hmin : ∀ (listed : Array Bool), listed.size = ops.size → (∃ i, i < n ∧ listed.getD i true = false) → ∃ i, i < n ∧ i ∈ Region.ready .any ops listed := by
    intro listed hls hex
    obtain ⟨i, ⟨hin, hun⟩, hle⟩ := least (fun i => i < n ∧ listed.getD i true = false) hex
    have hoi : ops[i]? = some ops[i] := Array.getElem?_eq_getElem (by omega)
    refine ⟨i, hin, mem_ready.2 ⟨hun, ops[i], hoi, fun e he _ => ?_⟩⟩
    have h1 := (headB_at hh hoi).1 e he
    cases hl : listed.getD e.on false with
    | true => rfl
    | false =>
      have := hle e.on ⟨by omega, getD_in (by omega) hl⟩
      omega
  intro f
  induction f with
  | zero =>
    intro lp listed σ a w hl he inv h hS
    have hall : ∀ j, j < n → listed.getD j false = true := fun j hj => by
      cases hjl : listed.getD j false with
      | true => rfl
      | false =>
        obtain ⟨i, hin, hir⟩ := hmin listed inv.size ⟨j, hj, getD_in (by rw [inv.size]; omega) hjl⟩
        have := (hrd lp listed hl he inv.size i hin).2 hir
        rw [h.1] at this
        cases this
    rw [Nat.zero_add]
    exact any_tail hh hc (ops.size - n) n _ listed a w (by omega) (Nat.le_refl _) (Nat.le_refl _) inv.size hall (fun j h1 h2 => inv.tail j h1 h2) (hN σ a w h.2 hS)
  | succ f ih =>
    intro lp listed σ a w hl he inv h hS
    by_cases hex : ∃ i, i < n ∧ listed.getD i true = false
    · obtain ⟨i0, h01, h02⟩ := hex
      obtain ⟨i1, h11, h12⟩ := hmin listed inv.size ⟨i0, h01, h02⟩
      rw [show f + 1 + (ops.size - n) = (f + (ops.size - n)) + 1 by omega]
      refine ⟨fun h0 => (by rw [h0] at h12; cases h12), fun i hi => ?_⟩
      have hin : i < n := by
        rcases Nat.lt_or_ge i n with h1 | h1
        · exact h1
        · exact absurd hi (tail_waits hs hc hn inv (n - i0) i0 rfl h01 h02 i h1)
      obtain ⟨_, o, ho, _⟩ := mem_ready.1 hi
      have hg := (headB_at hh ho).2 hin
      have hip := (hrd lp listed hl he inv.size i hin).2 hi
      have hA := h.2 i hip o (by rw [hpre i hin]; exact ho)
      have hA' : @aop P own ops.toList o σ ⟨AAny P own pre N f (lp.setIfInBounds i true)⟩ := by
        unfold aop at hA ⊢
        rw [hg] at hA ⊢
        exact hA
      refine wpOp_mono (fun a' w' => ?_) (aop_sound ho hA' hS)
      rintro ⟨σ', h1, h2⟩
      refine ih _ _ σ' a' w' (by simp [hl]) (fun j hj => ?_) (inv.set hi hin) h1 h2
      by_cases hji : j = i
      · subst hji
        simp [hl, hj, inv.size, show j < ops.size by omega]
      · rw [getD_set_ne true (by omega), getD_set_ne true (by omega)]
        exact he j hj
    · have hall : ∀ j, j < n → listed.getD j false = true := fun j hj => by
        cases hjl : listed.getD j false with
        | true => rfl
        | false => exact absurd ⟨j, hj, getD_in (by rw [inv.size]; omega) hjl⟩ hex
      have h0 : Region.ready .any pre lp = [] := by
        rw [List.eq_nil_iff_forall_not_mem]
        intro i hi
        have hip : i < n := by
          obtain ⟨_, o, ho, _⟩ := mem_ready.1 hi
          have := (Array.getElem?_eq_some_iff.1 ho).1
          omega
        obtain ⟨hun, _⟩ := mem_ready.1 ((hrd lp listed hl he inv.size i hip).1 hi)
        have := hall i hip
        rw [getD_both hun] at this
        cases this
      exact any_tail hh hc (ops.size - n) n _ listed a w (by omega) (Nat.le_refl _) (by omega) inv.size hall (fun j h1 h2 => inv.tail j h1 h2) (hN σ a w (h.1 h0) hS)

end
end Aw
end Go.Proofs.YtndniceeibflcaaGreatDoor

namespace Go.Proofs.YtndniceeibflcaaGreatDoor
namespace Aw
open Go.RowKit

section
variable {P : Program} {ops : Array Oper} {Q Q' : Exit → Act → World → Prop} {l n : Nat}

/-- what is not written is kept. -/
def Kept (W : List Nat) (a0 a : Act) : Prop := a.tmps.size = a0.tmps.size ∧ ∀ t, t ∉ W → a.tmps[t]? = a0.tmps[t]?

theorem Kept.refl (W : List Nat) (a : Act) : Kept W a a := ⟨rfl, fun _ _ => rfl⟩
theorem Kept.trans {W : List Nat} {a b c : Act} (h : Kept W a b) (k : Kept W b c) : Kept W a c := ⟨k.1.trans h.1, fun t ht => (k.2 t ht).trans (h.2 t ht)⟩
theorem Kept.put {W : List Nat} {a0 a : Act} (h : Kept W a0 a) {d : Option Tmp} (hd : ∀ x, d = some x → x ∈ W) (v : Value) : Kept W a0 (a.put d v) := ⟨(put_size a d v).trans h.1, fun t ht => by
  rw [put_get a d v t (fun e => ht (hd t e))]; exact h.2 t ht⟩

end
end Aw
end Go.Proofs.YtndniceeibflcaaGreatDoor

namespace Go.Proofs.YtndniceeibflcaaGreatDoor
namespace Aw
open Go.RowKit
set_option linter.unusedSimpArgs false

section
variable {P : Program}

/-- the calls that are put off do not matter to a state. -/
theorem StR.dl {C : Ctx} {σ : St} {a : Act} {w : World} (h : StR C σ a w) (ds : List Deferred) : StR { C with dl := ds } σ { a with defers := ds } w := by
  obtain ⟨hv, hd, hsz, hsl, hM, hF⟩ := h
  exact ⟨hv, rfl, hsz, hsl, hM, ⟨hF.os, hF.tape, hF.output, hF.drawn, hF.size, hF.block, hF.own, hF.aold, hF.dis⟩⟩

/-- the context D lies inside C but for the calls that are put off. -/
def SubD (C D : Ctx) : Prop := Sub C { D with dl := C.dl }

theorem SubD.refl (C : Ctx) (ha : ∀ b, C.A b → b < C.w0.heap.size) (hd : ∀ b, C.A b → ¬ C.In b) : SubD C C := ⟨fun _ h => h, rfl, rfl, rfl, Nat.le_refl _, Nat.le_refl _, fun _ _ _ => rfl, fun _ h => .inl h, ha, hd, rfl⟩
theorem SubD.trans {C D E : Ctx} (h : SubD C D) (k : SubD D E) : SubD C E := by
  refine ⟨fun b hb => k.a b (h.a b hb), k.os.trans h.os, k.tape.trans h.tape, k.output.trans h.output, Nat.le_trans h.drawn k.drawn, Nat.le_trans h.size k.size, fun b hb hn => ?_, fun b hb => ?_, h.aold, h.dis, rfl⟩
  · refine (k.block b (Nat.lt_of_lt_of_le hb h.size) (fun hi => ?_)).trans (h.block b hb hn)
    rcases h.inn b hi with h1 | h1
    · exact hn h1
    · omega
  · rcases k.inn b hb with h1 | h1
    · exact h.inn b h1
    · exact .inr (Nat.le_trans h.size h1)
/-- what is kept away from stays. -/
theorem StR.at {D : Ctx} {σ : St} {a : Act} {w : World} (hS : StR D σ a w) {b : Nat} (hb : D.A b) : w.heap[b]? = D.w0.heap[b]? := by
  obtain ⟨hv, _, _, _, _, hF⟩ := hS
  exact hF.block b (hF.aold b hb) (hF.dis b hb)

end
end Aw
end Go.Proofs.YtndniceeibflcaaGreatDoor

namespace Go.Proofs.YtndniceeibflcaaGreatDoor
namespace Aw
open Go.RowKit
set_option linter.unusedSimpArgs false

section
variable {A : Nat → Prop} {P : Program} {w : World} {hv : Nat → Option Value} {M : Mem}

/-- the block b holds L now; all else is as it was. -/
structure RowTo (w w' : World) (b : Nat) (e : TypeId) (L : List Value) : Prop where
  size : w'.heap.size = w.heap.size
  block : ∀ k, k ≠ b → w'.heap[k]? = w.heap[k]?
  row : w'.heap[b]? = some (.cells L.toArray e (0, 0))
  os : w'.os = w.os
  tape : w'.tape = w.tape
  output : w'.output = w.output

theorem RowTo.trans {w1 w2 : World} {b : Nat} {e : TypeId} {L L2 : List Value} (h : RowTo w w1 b e L) (k : RowTo w1 w2 b e L2) : RowTo w w2 b e L2 :=
  ⟨k.size.trans h.size, fun j hj => (k.block j hj).trans (h.block j hj), k.row, k.os.trans h.os, k.tape.trans h.tape, k.output.trans h.output⟩

end
end Aw
end Go.Proofs.YtndniceeibflcaaGreatDoor

namespace Go.Proofs.YtndniceeibflcaaGreatDoor
namespace Aw
open Go.RowKit
set_option linter.unusedSimpArgs false

/-- whether an object is lent. -/
def liveI (M : Mem) (i : Nat) : Bool := match M[i]? with | some (some _) => true | _ => false
theorem liveI_some {M : Mem} {i : Nat} {ob : Ob} (h : M[i]? = some (some ob)) : liveI M i = true := by unfold liveI; rw [h]
theorem liveI_true {M : Mem} {i : Nat} (h : liveI M i = true) : ∃ ob, M[i]? = some (some ob) := by
  unfold liveI at h
  split at h
  · exact ⟨_, by assumption⟩
  · cases h
def keepF (M : Mem) (aS : List AV) (i : Nat) : AV := if liveI M i = true then (if aS.any (AV.isO i) = true then .o i else .bot) else .o i
def keepG (M : Mem) (aS : List AV) (i k j off : Nat) : AV := if liveI M i = true then (if aS.any (AV.isQ i k j off) = true then .q i k j off else .bot) else .q i k j off
theorem keepF_single (M : Mem) (aS : List AV) (i : Nat) : (keepF M aS i).single = true := by unfold keepF; split <;> (try split) <;> rfl
theorem keepG_single (M : Mem) (aS : List AV) (i k j off : Nat) : (keepG M aS i k j off).single = true := by unfold keepG; split <;> (try split) <;> rfl
/-- the memory behind such a call. -/
def combM (M : Mem) (aS : List AV) (Mc M' : Mem) : Mem :=
  (List.range Mc.length).map fun i => if liveI M i = true then (M'[i]?).getD none else ((Mc[i]?).getD none).map fun ob => { ob with xs := AV.subL (keepF M aS) (keepG M aS) ob.xs }
theorem combM_get {M : Mem} {aS : List AV} {Mc M' : Mem} {i : Nat} {ob : Ob} (h : (combM M aS Mc M')[i]? = some (some ob)) :
    (liveI M i = true ∧ M'[i]? = some (some ob)) ∨ (liveI M i = false ∧ ∃ ob0, Mc[i]? = some (some ob0) ∧ ob = { ob0 with xs := AV.subL (keepF M aS) (keepG M aS) ob0.xs }) := by
  unfold combM at h
  rw [List.getElem?_map, Option.map_eq_some_iff] at h
  obtain ⟨i', hi', h⟩ := h
  have : i' = i := by
    have := List.getElem?_eq_some_iff.1 hi'
    obtain ⟨_, e⟩ := this
    simpa using e.symm
  subst this
  cases hl : liveI M i' with
  | true =>
    rw [hl, if_pos rfl] at h
    left
    refine ⟨rfl, ?_⟩
    cases hm : M'[i']? with
    | none => rw [hm] at h; cases h
    | some o => rw [hm] at h; simp at h; rw [h]
  | false =>
    rw [hl, if_neg (by simp)] at h
    right
    refine ⟨rfl, ?_⟩
    cases hm : Mc[i']? with
    | none => rw [hm] at h; cases h
    | some o =>
      rw [hm] at h
      simp only [Option.getD_some, Option.map_eq_some_iff] at h
      obtain ⟨ob0, rfl, h⟩ := h
      exact ⟨ob0, rfl, h.symm⟩
theorem combM_at {M : Mem} {aS : List AV} {Mc M' : Mem} {i : Nat} (hi : i < Mc.length) : (combM M aS Mc M')[i]? = some (if liveI M i = true then (M'[i]?).getD none else ((Mc[i]?).getD none).map fun ob => { ob with xs := AV.subL (keepF M aS) (keepG M aS) ob.xs }) := by
  unfold combM
  rw [List.getElem?_map, List.getElem?_range hi]
  rfl

/-- a function that is lent the objects of M out of the memory Mc. -/
def FSpec (P : Program) (f : FuncId) (aS : List AV) (M Mc : Mem) (x : AV) (N : Mem) : Prop :=
  okFn P f = true ∧ ∀ (w : World) (vs : List Value) (A : Nat → Prop) (hv : Nat → Option Value), MemR A w hv Mc → (∀ b, Own hv b → ¬ A b) → RVL w (OwnA A hv) hv aS vs → Calls P f vs.toArray w fun e w' =>
    ∃ v hv', e = .returned v ∧ MemR A w' hv' N ∧ RV w' (OwnA A hv') hv' x v ∧ RVL w' (OwnA A hv') hv' aS vs ∧ Keeps w (Own hv) w' (Own hv') ∧ w'.os = w.os ∧ w'.tape = w.tape ∧ w'.output = w.output ∧ dr w ≤ dr w' ∧ ∀ i, liveI M i = false → hv' i = hv i

theorem MSpec.frame {P : Program} {f : FuncId} {aS : List AV} {M M' : Mem} {x : AV} (h : MSpec P f aS M (fun r N => r = x ∧ N = M')) (hdead : ∀ i, liveI M i = false → liveI M' i = false)
    {Mc : Mem} (hsub : ∀ (i : Nat) (ob : Ob), M[i]? = some (some ob) → Mc[i]? = some (some ob)) {Z : List Nat} (hZ : ∀ i, i < Mc.length → liveI M i = false → i ∈ Z) (hfa : AV.freeL Z aS = true) (hfm : freeM Z M = true) :
    FSpec P f aS M Mc x (combM M aS Mc M') := by
  refine ⟨h.1, fun w vs A hv hM hsep hvs => ?_⟩
  obtain ⟨hvc, hvcE⟩ : ∃ hvc : Nat → Option Value, hvc = fun i => if liveI M i = true then hv i else none := ⟨_, rfl⟩
  obtain ⟨A', hA'⟩ : ∃ A' : Nat → Prop, A' = fun b => A b ∨ ∃ i v, liveI M i = false ∧ hv i = some v ∧ blk v = some b := ⟨_, rfl⟩
  have hc1 : ∀ i, liveI M i = true → hvc i = hv i := fun i hi => by rw [hvcE]; simp [hi]
  have hc2 : ∀ i u, hvc i = some u → liveI M i = true ∧ hv i = some u := fun i u hu => by
    rw [hvcE] at hu
    simp only at hu
    split at hu
    · exact ⟨by assumption, hu⟩
    · cases hu
  have hO : ∀ b, Own hvc b → Own hv b := by
    rintro b ⟨i, v, hi, hb⟩
    exact ⟨i, v, (hc2 i v hi).2, hb⟩
  have hT : OwnA A' hvc = OwnA A hv := by
    funext b
    apply propext
    constructor
    · rintro (hb | hb)
      · rw [hA'] at hb
        rcases hb with hb | ⟨i, v, _, hi, hb⟩
        · exact .inl hb
        · exact .inr ⟨i, v, hi, hb⟩
      · exact .inr (hO b hb)
    · rintro (hb | ⟨i, v, hi, hb⟩)
      · exact .inl (by rw [hA']; exact .inl hb)
      · cases hl : liveI M i with
        | true => exact .inr ⟨i, v, by rw [hc1 i hl]; exact hi, hb⟩
        | false => exact .inl (by rw [hA']; exact .inr ⟨i, v, hl, hi, hb⟩)
  have hh : ∀ i u, i ∉ Z → hv i = some u → hvc i = some u := fun i u hi hu => by
    obtain ⟨ob, hob⟩ := hM.dom i u hu
    have hlt := (List.getElem?_eq_some_iff.1 hob).1
    cases hl : liveI M i with
    | true => rw [hc1 i hl]; exact hu
    | false => exact absurd (hZ i hlt hl) hi
  have hMc : MemR A' w hvc M := by
    refine ⟨fun i ob hi => ?_, fun i v hi => ?_, fun i j vi vj b hi hj => hM.inj i j vi vj b (hc2 i vi hi).2 (hc2 j vj hj).2, fun b hb => ?_, hM.gl.1, fun b h => by obtain ⟨i, v, hi, hb⟩ := h; exact hM.gl.2 b ⟨i, v, (hc2 i v hi).2, hb⟩⟩
    · obtain ⟨v, h1, h2⟩ := hM.live i ob (hsub i ob hi)
      refine ⟨v, by rw [hc1 i (liveI_some hi)]; exact h1, ?_⟩
      have hfree : AV.freeL Z ob.xs = true := by
        simp only [freeM, List.all_eq_true] at hfm
        exact hfm _ (List.mem_of_getElem? hi)
      cases hm : ob.mp with
      | some ks =>
        obtain ⟨vals, g1, g3⟩ := h2.map hm
        have := RVL_keep (Keeps.refl w (OwnA A hv)) hh _ _ g3
        rw [killL_free hfree] at this
        exact ObR.of_map hm ⟨vals, g1, hT ▸ this⟩
      | none =>
        obtain ⟨us, g1, g2, g3⟩ := h2.row hm
        have := RL_keep (Keeps.refl w (OwnA A hv)) hh _ _ g3
        rw [killL_free hfree] at this
        exact ObR.of_row hm ⟨us, g1, g2, hT ▸ this⟩
    · exact liveI_true (hc2 i v hi).1
    · rw [hA'] at hb
      rcases hb with hb | ⟨i, v, _, hi, hb⟩
      · exact hM.old b hb
      · exact hM.own_lt ⟨i, v, hi, hb⟩
  have hsep' : ∀ b, Own hvc b → ¬ A' b := by
    rintro b ⟨i, v, hi, hb⟩ hb'
    obtain ⟨hl, hi'⟩ := hc2 i v hi
    rw [hA'] at hb'
    rcases hb' with hb' | ⟨j, u, hlj, hj, hbj⟩
    · exact hsep b ⟨i, v, hi', hb⟩ hb'
    · have := hM.inj i j v u b hi' hj hb hbj
      subst this
      rw [hl] at hlj
      cases hlj
  have hvs' : RVL w (OwnA A' hvc) hvc aS vs := by
    have := RVL_keep (Keeps.refl w (OwnA A hv)) hh _ _ hvs
    rw [killL_free hfa] at this
    exact hT ▸ this
  refine (h.2 w vs A' hvc hMc hsep' hvs').mono ?_
  rintro e w' ⟨r, N, v, hvc', rfl, ⟨rfl, rfl⟩, m1, m2, m3, kp, o1, o2, o3, o4⟩
  obtain ⟨hv', hvE⟩ : ∃ hv' : Nat → Option Value, hv' = fun i => if liveI M i = true then hvc' i else hv i := ⟨_, rfl⟩
  have d1 : ∀ i u, hvc' i = some u → liveI M i = true := fun i u hu => by
    obtain ⟨ob, hob⟩ := m1.dom i u hu
    cases hl : liveI M i with
    | true => rfl
    | false => have := hdead i hl; rw [liveI_some hob] at this; cases this
  have e1 : ∀ i, liveI M i = true → hv' i = hvc' i := fun i hi => by rw [hvE]; simp [hi]
  have e2 : ∀ i, liveI M i = false → hv' i = hv i := fun i hi => by rw [hvE]; simp [hi]
  have e3 : ∀ i u, i ∉ ([] : List Nat) → hvc' i = some u → hv' i = some u := fun i u _ hu => by rw [e1 i (d1 i u hu)]; exact hu
  have hT' : OwnA A' hvc' = OwnA A hv' := by
    funext b
    apply propext
    constructor
    · rintro (hb | ⟨i, v, hi, hb⟩)
      · rw [hA'] at hb
        rcases hb with hb | ⟨i, v, hl, hi, hb⟩
        · exact .inl hb
        · exact .inr ⟨i, v, by rw [e2 i hl]; exact hi, hb⟩
      · exact .inr ⟨i, v, e3 i v (by simp) hi, hb⟩
    · rintro (hb | ⟨i, v, hi, hb⟩)
      · exact .inl (by rw [hA']; exact .inl hb)
      · cases hl : liveI M i with
        | true => exact .inr ⟨i, v, by rw [← e1 i hl]; exact hi, hb⟩
        | false => exact .inl (by rw [hA']; exact .inr ⟨i, v, hl, by rw [← e2 i hl]; exact hi, hb⟩)
  have kpO : Keeps w (Own hv) w' (Own hv') := by
    refine ⟨kp.size, fun b hb hn => kp.block b hb fun ho => hn (hO b ho), ?_⟩
    rintro b hb ⟨i, v, hi, hbv⟩
    cases hl : liveI M i with
    | true => exact hO b (kp.own b hb ⟨i, v, by rw [← e1 i hl]; exact hi, hbv⟩)
    | false => exact ⟨i, v, by rw [← e2 i hl]; exact hi, hbv⟩
  have kpA : Keeps w (OwnA A hv) w' (OwnA A hv') := ⟨kpO.size, fun b hb hn => kpO.block b hb (fun ho => hn (.inr ho)), fun b hb ho => ho.elim .inl (fun ho => .inr (kpO.own b hb ho))⟩
  have kpT : Keeps w' (OwnA A' hvc') w' (OwnA A hv') := by rw [hT']; exact Keeps.refl _ _
  have m3' : RVL w' (OwnA A hv') hv' aS vs := by
    have := RVL_keep kpT e3 _ _ m3
    rwa [AV.killL_nil] at this
  have hblk : ∀ i v b, liveI M i = false → hv i = some v → blk v = some b → w'.heap[b]? = w.heap[b]? := by
    intro i v b hl hi hb
    refine kp.block b (hM.own_lt ⟨i, v, hi, hb⟩) ?_
    rintro ⟨j, u, hj, hbj⟩
    obtain ⟨hlj, hj'⟩ := hc2 j u hj
    have := hM.inj i j v u b hi hj' hb hbj
    subst this
    rw [hl] at hlj
    cases hlj
  have hFF : ∀ i v, hv i = some v → v.oneCell' = true → R w' (OwnA A hv') hv' (keepF M aS i) [v] := by
    intro i v hiv h1c
    unfold keepF
    cases hl : liveI M i with
    | false =>
      rw [if_neg (by simp)]
      simp only [R]
      exact ⟨v, by rw [e2 i hl]; exact hiv, rfl, h1c⟩
    | true =>
      rw [if_pos rfl]
      split
      · rename_i hany
        obtain ⟨z, hz, hzi⟩ := List.any_eq_true.1 hany
        obtain rfl := AV.isO_eq hzi
        obtain ⟨p, u1, q1, q2, q3⟩ := rvl_mem _ _ _ hvs hz
        have q4 := rvl_at _ _ p _ u1 m3' q1 q2
        simp only [RV, R] at q3 q4
        obtain ⟨u2, s1, s2, _⟩ := q3
        obtain ⟨u3, s3, s4, s5⟩ := q4
        injection s2 with s2
        injection s4 with s4
        rw [hiv] at s1
        injection s1 with s1
        simp only [R]
        exact ⟨v, by rw [s3, ← s4, s2, s1], rfl, h1c⟩
      · simp only [R]; exact ⟨v, rfl, h1c⟩
  have hGG : ∀ i k j off us, R w (OwnA A hv) hv (.q i k j off) us → R w' (OwnA A hv') hv' (keepG M aS i k j off) us := by
    intro i k j off us hus
    unfold keepG
    cases hl : liveI M i with
    | false =>
      rw [if_neg (by simp)]
      simp only [R] at hus ⊢
      obtain ⟨b, n, c, s1, s2⟩ := hus
      exact ⟨b, n, c, by rw [e2 i hl]; exact s1, s2⟩
    | true =>
      rw [if_pos rfl]
      split
      · rename_i hany
        obtain ⟨z, hz, hzi⟩ := List.any_eq_true.1 hany
        obtain rfl := AV.isQ_eq hzi
        obtain ⟨p, u1, q1, q2, q3⟩ := rvl_mem _ _ _ hvs hz
        have q4 := rvl_at _ _ p _ u1 m3' q1 q2
        simp only [RV, R] at q3 q4 hus ⊢
        obtain ⟨b, n, c, s1, s2⟩ := q3
        obtain ⟨b', n', c', s3, s4⟩ := q4
        obtain ⟨b'', n'', c'', s5, s6⟩ := hus
        rw [s1] at s5
        injection s5 with s5
        injection s5 with s5 _ _
        injection s5 with s5
        injection s5 with s5
        injection s2 with s2
        injection s4 with s4
        rw [s2] at s4
        injection s4 with s4
        injection s4 with s4
        injection s4 with s4
        exact ⟨b', n', c', s3, by rw [s6, ← s5, s4]⟩
      · exact R_botq hus
  refine ⟨v, hv', rfl, ⟨fun i ob hi => ?_, fun i u hi => ?_, ?_, fun b hb => Nat.lt_of_lt_of_le (hM.old b hb) kp.size, m1.gl.1, fun b ho hb => hM.gl.2 b (kpO.own b (hM.gl.1.lt hb) ho) hb⟩, ?_, m3', kpO, o1, o2, o3, o4, e2⟩
  · rcases combM_get hi with ⟨hl, hi'⟩ | ⟨hl, ob0, hi', rfl⟩
    · obtain ⟨u, g1, g2⟩ := m1.live i ob hi'
      refine ⟨u, by rw [e1 i hl]; exact g1, ?_⟩
      cases hm : ob.mp with
      | some ks =>
        obtain ⟨vals, k1, k3⟩ := g2.map hm
        have := RVL_keep kpT e3 _ _ k3
        rw [AV.killL_nil] at this
        exact ObR.of_map hm ⟨vals, k1, this⟩
      | none =>
        obtain ⟨us, k1, k2, k3⟩ := g2.row hm
        have := RL_keep kpT e3 _ _ k3
        rw [AV.killL_nil] at this
        exact ObR.of_row hm ⟨us, k1, k2, this⟩
    · obtain ⟨u, g1, g2⟩ := hM.live i ob0 hi'
      refine ⟨u, by rw [e2 i hl]; exact g1, ?_⟩
      cases hm : ob0.mp with
      | some ks =>
        obtain ⟨vals, k1, k3⟩ := g2.map hm
        exact ObR.of_map (ks := ks) rfl ⟨vals, k1.block fun b hb => hblk i _ b hl g1 hb, RVL_subk kpA hFF (keepF_single M aS) hGG (keepG_single M aS) _ _ k3⟩
      | none =>
        obtain ⟨us, k1, k2, k3⟩ := g2.row hm
        refine ObR.of_row rfl ⟨us, ?_, fun x hx => ?_, RL_subk kpA hFF (keepF_single M aS) hGG (keepG_single M aS) _ _ k3⟩
        · simp only [AV.subL_map, List.length_map]
          exact ownsRow_of_block k1 fun b hb => hblk i u b hl g1 (by rw [blk_row k1]; exact hb)
        · simp only [AV.subL_map, List.mem_map] at hx
          obtain ⟨y, hy, rfl⟩ := hx
          rw [size_sub (keepF_single M aS) (keepG_single M aS)]
          exact k2 y hy
  · cases hl : liveI M i with
    | true =>
      rw [e1 i hl] at hi
      obtain ⟨ob, hob⟩ := m1.dom i u hi
      obtain ⟨ob0, hob0⟩ := liveI_true hl
      have hlt := (List.getElem?_eq_some_iff.1 (hsub i ob0 hob0)).1
      exact ⟨ob, by rw [combM_at hlt, if_pos hl, hob]; rfl⟩
    | false =>
      rw [e2 i hl] at hi
      obtain ⟨ob, hob⟩ := hM.dom i u hi
      have hlt := (List.getElem?_eq_some_iff.1 hob).1
      exact ⟨_, by rw [combM_at hlt, if_neg (by simp [hl]), hob]; rfl⟩
  · intro i j vi vj b hi hj hbi hbj
    have cross : ∀ i j vi vj b, liveI M i = true → liveI M j = false → hv' i = some vi → hv' j = some vj → blk vi = some b → blk vj = some b → False := by
      intro i j vi vj b hli hlj hi hj hbi hbj
      rw [e1 i hli] at hi
      rw [e2 j hlj] at hj
      have hlt := hM.own_lt ⟨j, vj, hj, hbj⟩
      have h1 := hO b (kp.own b hlt ⟨i, vi, hi, hbi⟩)
      obtain ⟨i2, v2, hi2, hb2⟩ := kp.own b hlt ⟨i, vi, hi, hbi⟩
      obtain ⟨hl2, hi2'⟩ := hc2 i2 v2 hi2
      have := hM.inj i2 j v2 vj b hi2' hj hb2 hbj
      subst this
      rw [hl2] at hlj
      cases hlj
    cases hli : liveI M i with
    | true =>
      cases hlj : liveI M j with
      | true => exact m1.inj i j vi vj b (by rw [← e1 i hli]; exact hi) (by rw [← e1 j hlj]; exact hj) hbi hbj
      | false => exact (cross i j vi vj b hli hlj hi hj hbi hbj).elim
    | false =>
      cases hlj : liveI M j with
      | true => exact (cross j i vj vi b hlj hli hj hi hbj hbi).elim
      | false => exact hM.inj i j vi vj b (by rw [← e2 i hli]; exact hi) (by rw [← e2 j hlj]; exact hj) hbi hbj
  · have := RV_keep kpT r [] hvc' hv' v e3 m2
    rwa [AV.kill_nil] at this


section
variable {P : Program} {C : Ctx} {σ : St} {a : Act} {w : World} {Q : Exit → Act → World → Prop}

theorem frame_call {o : Oper} {f : FuncId} {args : Array Operand} {ats : Array TypeId} {ops : Array Oper} {i : Nat} {M N : Mem} {x : AV} (ho : ops[i]? = some o) (hg : o.guard = none) (hop : o.op = .call ⟨.value (.func f), args, ats⟩)
    (hz : FSpec P f (args.toList.map σ.ev) M σ.M x N) (hS : StR C σ a w) : wpOp P ops Q i (fun a' w' => StR C ⟨setS (σ.sl.map (AV.sub (keepF M (args.toList.map σ.ev)) (keepG M (args.toList.map σ.ev)))) o.dst x, N⟩ a' w') a w := by
  obtain ⟨hv, hd, hsz, hsl, hM, hF⟩ := hS
  unfold wpOp
  simp only [ho]
  rw [if_pos (wanted_none hg _)]
  left
  obtain ⟨hok, hc⟩ := hz
  have hen := ok_enter (w := w) (a := a) (c := .func f) (cs := #[]) hop rfl hok
  have hvs := rvl_map (fun x => ev_ok hsl x) args.toList
  generalize hasE : args.toList.map σ.ev = aS at *
  have hcall := hc w (args.toList.map a.eval) C.A hv hM (fun b hb => hF.sep hb) hvs
  unfold Oper.wp
  rw [show (execOp a.eval o).run P w = .ok (.enter f (args.toList.map a.eval).toArray) w by simpa using hen]
  refine Calls.mono hcall ?_
  rintro e w' ⟨v, hv', rfl, hM', hr, has', hkp, h1, h2, h3, hdw, h4⟩
  refine ⟨hv', by cases o.dst <;> exact hd, ?_, fun i x hx => ?_, hM', ?_⟩
  · rw [put_size, hsz]; simp only [setS_len, List.length_map]
  · rcases setS_get _ _ _ _ hx with ⟨e1, rfl, hlt⟩ | ⟨hne, hx⟩
    · refine ⟨v, ?_, hr⟩
      rw [List.length_map] at hlt
      rw [e1]
      simp [Act.put, hsz, hlt]
    · rw [List.getElem?_map] at hx
      simp only [Option.map_eq_some_iff] at hx
      obtain ⟨y, hy, rfl⟩ := hx
      obtain ⟨u, g1, g2⟩ := hsl i y hy
      refine ⟨u, by rw [put_get _ _ _ _ hne]; exact g1, ?_⟩
      have hkA : Keeps w (OwnA C.A hv) w' (OwnA C.A hv') := ⟨hkp.size, fun b hb hn => hkp.block b hb (fun ho => hn (.inr ho)), fun b hb ho => ho.elim .inl (fun ho => .inr (hkp.own b hb ho))⟩
      refine RV_subk hkA (fun i v hiv h1c => ?_) (keepF_single M aS) (fun i k j off us hus => ?_) (keepG_single M aS) y u g2
      · unfold keepF
        cases hl : liveI M i with
        | false =>
          rw [if_neg (by simp)]
          simp only [R]
          exact ⟨v, by rw [h4 i hl]; exact hiv, rfl, h1c⟩
        | true =>
        rw [if_pos rfl]
        split
        · rename_i hany
          obtain ⟨z, hz, hzi⟩ := List.any_eq_true.1 hany
          obtain rfl := AV.isO_eq hzi
          obtain ⟨p, u1, q1, q2, q3⟩ := rvl_mem _ _ _ hvs hz
          have q4 := rvl_at _ _ p _ u1 has' q1 q2
          simp only [RV, R] at q3 q4
          obtain ⟨u2, s1, s2, _⟩ := q3
          obtain ⟨u3, s3, s4, s5⟩ := q4
          injection s2 with s2
          injection s4 with s4
          rw [hiv] at s1
          injection s1 with s1
          simp only [R]
          exact ⟨v, by rw [s3, ← s4, s2, s1], rfl, h1c⟩
        · simp only [R]; exact ⟨v, rfl, h1c⟩
      · unfold keepG
        cases hl : liveI M i with
        | false =>
          rw [if_neg (by simp)]
          simp only [R] at hus ⊢
          obtain ⟨b, n, c, s1, s2⟩ := hus
          exact ⟨b, n, c, by rw [h4 i hl]; exact s1, s2⟩
        | true =>
        rw [if_pos rfl]
        split
        · rename_i hany
          obtain ⟨z, hz, hzi⟩ := List.any_eq_true.1 hany
          obtain rfl := AV.isQ_eq hzi
          obtain ⟨p, u1, q1, q2, q3⟩ := rvl_mem _ _ _ hvs hz
          have q4 := rvl_at _ _ p _ u1 has' q1 q2
          simp only [RV, R] at q3 q4 hus ⊢
          obtain ⟨b, n, c, s1, s2⟩ := q3
          obtain ⟨b', n', c', s3, s4⟩ := q4
          obtain ⟨b'', n'', c'', s5, s6⟩ := hus
          rw [s1] at s5
          injection s5 with s5
          injection s5 with s5 _ _
          injection s5 with s5
          injection s5 with s5
          injection s2 with s2
          injection s4 with s4
          rw [s2] at s4
          injection s4 with s4
          injection s4 with s4
          injection s4 with s4
          exact ⟨b', n', c', s3, by rw [s6, ← s5, s4]⟩
        · exact R_botq hus
  · refine ⟨h1.trans hF.os, h2.trans hF.tape, h3.trans hF.output, Nat.le_trans hF.drawn hdw, Nat.le_trans hF.size hkp.size, fun b hb hn => ?_, fun b hb => ?_, hF.aold, hF.dis⟩
    · refine (hkp.block b (Nat.lt_of_lt_of_le hb hF.size) (fun ho => ?_)).trans (hF.block b hb hn)
      rcases hF.own b ho with g | g
      · exact hn g
      · omega
    · rcases Nat.lt_or_ge b w.heap.size with hlt | hge
      · exact hF.own b (hkp.own b hlt hb)
      · exact .inr (Nat.le_trans hF.size hge)

/-- such a call, and what comes behind it. -/
def ACallF (P : Program) (f : FuncId) (aS : List AV) (Mc : Mem) [K : HK (Mem → AV → Mem → Prop)] : Prop := ∃ M x N, FSpec P f aS M Mc x N ∧ K.k M x N
theorem acall_f {f : FuncId} {aS : List AV} {Mc : Mem} {K : HK (Mem → AV → Mem → Prop)} {M : Mem} {x : AV} {N : Mem} (spec : FSpec P f aS M Mc x N) (h : K.k M x N) : ACallF P f aS Mc (K := K) := ⟨M, x, N, spec, h⟩

/-- a region in the order of the text; its operation m is such a call. -/
theorem swp_fm {own : List Nat} {id : Nat} {ops : Array Oper} {N : HN} {E : HE} {Rt : HR} {o : Oper} {f : FuncId} {args : Array Operand} {ats : Array TypeId} (m : Nat) (ho : ops.toList[m]? = some o) (hg : o.guard = none) (hop : o.op = .call ⟨.value (.func f), args, ats⟩)
    (h : @AOps P own ops.toList (ops.toList.take m) σ ⟨fun σ' => @ACallF P f (args.toList.map σ'.ev) σ'.M ⟨fun M x M' => @AOps P own ops.toList (ops.toList.drop (m + 1)) ⟨setS (σ'.sl.map (AV.sub (keepF M (args.toList.map σ'.ev)) (keepG M (args.toList.map σ'.ev)))) o.dst x, M'⟩ N⟩⟩) : @SWp P (.region id ops false) σ N E Rt := by
  intro C a w hS
  refine wp_region ?_
  obtain ⟨hlt, hoe⟩ := List.getElem?_eq_some_iff.1 ho
  have hops : ops.toList = ops.toList.take m ++ o :: ops.toList.drop (m + 1) := by rw [← hoe, ← List.drop_eq_getElem_cons hlt, List.take_append_drop]
  generalize ops.toList.take m = pre at *
  generalize ops.toList.drop (m + 1) = suf at *
  have hl : ops.size = (pre ++ o :: suf).length := by rw [← hops]; simp
  rw [List.range_eq_range', hl]
  refine aops_then (P := P) (own := own) _ pre 0 σ a w (by simpa using hops) h hS ?_
  rintro σ' a w ⟨M, x, M', hz, hA⟩ hS
  have ho : ops[0 + pre.length]? = some o := by
    have : ops.toList[pre.length]? = some o := by rw [hops]; simp
    rw [Nat.zero_add]; simpa using this
  rw [List.length_cons, List.range'_succ, wpOps_cons]
  refine wpOp_mono (fun a' w' hS' => ?_) (frame_call ho hg hop hz hS)
  exact aops_sound (P := P) (own := own) (ops := ops) (fun σ a w hN hS => ⟨σ, hN, hS⟩) suf (0 + pre.length + 1) _ a' w' (by rw [hops, Nat.zero_add, ← List.drop_drop]; simp) hA hS'
end

/-- the indexes from n on. -/
def Zr (n k : Nat) : List Nat := (List.range (k + 1)).map (· + n)
theorem mem_Zr {n k i : Nat} : i ∈ Zr n k ↔ n ≤ i ∧ i ≤ n + k := by
  unfold Zr
  simp only [List.mem_map, List.mem_range]
  constructor
  · rintro ⟨a, h, rfl⟩; omega
  · intro h; exact ⟨i - n, by omega, by omega⟩
/-- where a function ends that was handed objects, and has made others that are forgotten. -/
def MEnd2 (P : Program) (rs : List ResultVar) (aS : List AV) (vs : List Value) (post : AV → Mem → Prop) (σ : St) : Prop :=
  ∃ σ' x M' rest, Le σ σ' ∧ resA P rs σ' = some x ∧ σ'.M = M' ++ some (ghost vs aS) :: rest ∧ x.free (Zr M'.length rest.length) = true ∧ AV.freeL (Zr M'.length rest.length) aS = true ∧ freeM (Zr M'.length rest.length) M' = true ∧ post x M'
theorem mspec_of2 {P : Program} {f : FuncId} {fn : Func} {c : Code} {own : List Nat} {aS : List AV} {M : Mem} {post : AV → Mem → Prop} (hf : P.funcs[f]? = some fn) (hb : fn.body = some c) (hok : okFn P f = true)
    (h : ∀ vs : List Value, @awp P own c ⟨aS ++ List.replicate (fn.ntmps - aS.length) .bot, M ++ [some (ghost vs aS)]⟩ ⟨MEnd2 P fn.results.toList aS vs post⟩ ⟨fun _ _ => False⟩ ⟨fun σ _ => MEnd2 P fn.results.toList aS vs post σ⟩) : MSpec P f aS M post := by
  refine ⟨hok, fun w vs A hv hM0 hsep hvs0 => calls_of_wp hf hb ?_⟩
  obtain ⟨hM, hs0⟩ := mem_add hM0 (Bel.refl _ w) (ob := ghost vs aS) (v := .map none) (fun b hb => by simp [blk] at hb) (fun hs => ObR.of_map (ob := ghost vs aS) (ks := vs) rfl ⟨vs, .inr ⟨by simp [ghost], rfl, rfl⟩, by
    have := RVL_keep hs.keeps hs.hv _ _ hvs0
    rwa [AV.killL_nil] at this⟩)
  have hvs : RVL w (OwnA A (hvAdd hv M.length (.map none))) (hvAdd hv M.length (.map none)) aS vs := by
    have := RVL_keep hs0.keeps hs0.hv _ _ hvs0
    rwa [AV.killL_nil] at this
  have hoeq : ∀ b, Own (hvAdd hv M.length (.map none)) b → Own hv b := fun b hb => by
    rcases (own_add (mem_none hM0 (Nat.le_refl _))).1 hb with h | h
    · exact h
    · simp [blk] at h
  obtain ⟨hlen, hget⟩ := rvl_get aS vs hvs
  have hS : StR ⟨w, Own hv, A, []⟩ ⟨aS ++ List.replicate (fn.ntmps - aS.length) .bot, M ++ [some (ghost vs aS)]⟩ { tmps := vs.toArray ++ Array.replicate (fn.ntmps - vs.toArray.size) undef, defers := [] } w := by
    refine ⟨_, rfl, by simp [hlen], fun i x hx => ?_, hM, ⟨rfl, rfl, rfl, Nat.le_refl _, Nat.le_refl _, fun _ _ _ => rfl, fun b h => .inl (hoeq b h), hM0.old, fun b hA ho => hsep b ho hA⟩⟩
    rcases Nat.lt_or_ge i aS.length with hlt | hge
    · simp only [List.getElem?_append_left hlt] at hx
      obtain ⟨v, h1, h2⟩ := hget i x hx
      refine ⟨v, ?_, h2⟩
      rw [Array.getElem?_append_left (by simp; omega)]; simpa using h1
    · simp only [List.getElem?_append_right hge, List.getElem?_replicate] at hx
      split at hx
      · rename_i hr
        injection hx with hx
        subst hx
        refine ⟨undef, ?_, by simp [RV]⟩
        rw [Array.getElem?_append_right (by simp; omega)]
        simp [hlen, hr]
      · cases hx
  have fin : ∀ (σ : St) (a' : Act) (w' : World), MEnd2 P fn.results.toList aS vs post σ → StR ⟨w, Own hv, A, []⟩ σ a' w' → a'.defers = [] ∧ ∃ v, (results fn a'.tmps).run P w' = .ok v w' ∧
      ∃ r M' v' hv', Ending.returned v = .returned v' ∧ post r M' ∧ MemR A w' hv' M' ∧ RV w' (OwnA A hv') hv' r v' ∧ RVL w' (OwnA A hv') hv' aS vs ∧ Keeps w (Own hv) w' (Own hv') ∧ w'.os = w.os ∧ w'.tape = w.tape ∧ w'.output = w.output ∧ dr w ≤ dr w' := by
    rintro σ a' w' ⟨⟨sl', M1⟩, x, M', rest, hle, hx, hM1, f1, f2, f3, hp⟩ hSσ
    obtain ⟨hv2, hd, _, hsl, hM2, hF⟩ := hle _ _ _ hSσ
    simp only at hM1
    subst hM1
    obtain ⟨v, h1, h2⟩ := res_ok (C := ⟨w, Own hv, A, []⟩) hsl hM2 hx
    have hg : (M' ++ some (ghost vs aS) :: rest)[M'.length]? = some (some (ghost vs aS)) := by simp
    obtain ⟨vg, hvg, hob⟩ := hM2.live _ _ hg
    obtain ⟨vals, ⟨hk0, _⟩ | ⟨_, rfl, rfl⟩, hr⟩ := hob.map (ks := vs) rfl
    · simp [ghost] at hk0
    let hv3 : Nat → Option Value := fun i => if i < M'.length then hv2 i else none
    have hown : ∀ b, Own hv3 b → Own hv2 b := by
      rintro b ⟨i, u, hi, hb⟩
      simp only [hv3] at hi
      split at hi
      · exact ⟨i, u, hi, hb⟩
      · cases hi
    have hs : StepR A w' hv2 (Zr M'.length rest.length) w' hv3 := by
      refine ⟨⟨Nat.le_refl _, fun _ _ _ => rfl, fun b _ hb => hown b hb⟩, fun i u hi h => ?_, rfl, rfl, rfl, Nat.le_refl _⟩
      obtain ⟨ob, hob⟩ := hM2.dom i u h
      have := (List.getElem?_eq_some_iff.1 hob).1
      simp only [List.length_append, List.length_cons] at this
      rw [mem_Zr] at hi
      simp only [hv3, if_pos (show i < M'.length by omega)]
      exact h
    refine ⟨hd, v, h1, x, M', v, hv3, rfl, hp, ⟨fun i ob hi => ?_, fun i u hi => ?_, fun i j vi vj b hi hj => ?_, hM2.old, hs.gl hM2.gl⟩, ?_, ?_, ⟨hF.size, fun b hb hn => hF.block b hb hn, fun b hlt hb => ?_⟩, hF.os, hF.tape, hF.output, hF.drawn⟩
    · have hlt : i < M'.length := (List.getElem?_eq_some_iff.1 hi).1
      obtain ⟨v, h1, h2, h3⟩ := live_step hM2 hs (fun v b h1 h2 => rfl) (show i ∉ Zr M'.length rest.length by rw [mem_Zr]; omega) (by rw [List.getElem?_append_left hlt]; exact hi)
      have hk : Ob.kill (Zr M'.length rest.length) ob = ob := by
        simp only [freeM, List.all_eq_true] at f3
        have := f3 _ (List.mem_of_getElem? hi)
        simp only at this
        cases ob
        simp only [Ob.kill, Ob.mk.injEq, true_and]
        exact killL_free this
      rw [hk] at h3
      exact ⟨v, h2, h3⟩
    · simp only [hv3] at hi
      split at hi
      · rename_i hlt
        obtain ⟨ob, hob⟩ := hM2.dom i u hi
        rw [List.getElem?_append_left hlt] at hob
        exact ⟨ob, hob⟩
      · cases hi
    · simp only [hv3] at hi hj
      split at hi
      · split at hj
        · exact hM2.inj i j vi vj b hi hj
        · cases hj
      · cases hi
    · have := hs.rv h2
      rwa [AV.kill_free _ _ f1] at this
    · have := RVL_keep hs.keeps hs.hv _ _ hr
      have e : AV.killL (Zr M'.length rest.length) (ghost vals aS).xs = aS := killL_free f2
      rw [e] at this
      exact this
    · rcases hF.own b (hown b hb) with g | g
      · exact g
      · simp only at g; omega
  refine wp_mono (awp_sound c _ _ _ _ (h vs) _ _ _ hS) fun e a' w' hq => ?_
  cases e with
  | normal => obtain ⟨σ, h1, h2⟩ := hq; exact fin σ a' w' h1 h2
  | ret => obtain ⟨σ, h1, h2⟩ := hq; exact fin σ a' w' h1 h2
  | exit id => obtain ⟨σ, h1, h2⟩ := hq; exact h1.elim
  | goto l => exact hq.elim
  | panic ch => exact hq.elim
  | outgrown => exact hq.elim

end Aw
end Go.Proofs.YtndniceeibflcaaGreatDoor

namespace Go.Proofs.YtndniceeibflcaaGreatDoor
namespace Aw
open Go.RowKit
set_option linter.unusedSimpArgs false

def reF (ix : List Nat) (i : Nat) : AV := match ix.idxOf? i with | some j => .o j | none => .bot
def reG (ix : List Nat) (i k j off : Nat) : AV := match ix.idxOf? i with | some m => .q m k j off | none => .bot
def reM (ix : List Nat) (M : Mem) : Mem := ix.map fun i => ((M[i]?).getD none).map fun ob => { ob with xs := AV.subL (reF ix) (reG ix) ob.xs }

theorem idx_at {ix : List Nat} {i j : Nat} (h : ix.idxOf? i = some j) : ix[j]? = some i := by
  unfold List.idxOf? at h
  rw [List.findIdx?_eq_some_iff_getElem] at h
  obtain ⟨hj, h1, _⟩ := h
  rw [List.getElem?_eq_getElem hj]
  simpa using h1

/-- the objects ix are kept; they are 0, 1 .. now. -/
theorem le_ren {sl : List AV} {M : Mem} (ix : List Nat) (hnd : ix.Nodup) : Le ⟨sl, M⟩ ⟨sl.map (AV.sub (reF ix) (reG ix)), reM ix M⟩ := by
  intro C a w hS
  obtain ⟨hv, hd, hsz, hsl, hM, hF⟩ := hS
  obtain ⟨hv2, hE⟩ : ∃ hv2 : Nat → Option Value, hv2 = fun j => match ix[j]? with | some i => hv i | none => none := ⟨_, rfl⟩
  have h2 : ∀ j i, ix[j]? = some i → hv2 j = hv i := fun j i h => by rw [hE]; simp only [h]
  have h3 : ∀ j v, hv2 j = some v → ∃ i, ix[j]? = some i ∧ hv i = some v := fun j v h => by
    rw [hE] at h
    simp only at h
    cases hi : ix[j]? with
    | none => rw [hi] at h; cases h
    | some i => rw [hi] at h; exact ⟨i, rfl, h⟩
  have hO : ∀ b, Own hv2 b → Own hv b := by
    rintro b ⟨j, v, hj, hb⟩
    obtain ⟨i, _, hi⟩ := h3 j v hj
    exact ⟨i, v, hi, hb⟩
  have hk : Keeps w (OwnA C.A hv) w (OwnA C.A hv2) := ⟨Nat.le_refl _, fun _ _ _ => rfl, fun b _ h => h.elim .inl fun h => .inr (hO b h)⟩
  have sF : ∀ i, (reF ix i).single = true := fun i => by unfold reF; split <;> rfl
  have sG : ∀ i k j off, (reG ix i k j off).single = true := fun i k j off => by unfold reG; split <;> rfl
  have hFF : ∀ i v, hv i = some v → v.oneCell' = true → R w (OwnA C.A hv2) hv2 (reF ix i) [v] := by
    intro i v hi h1
    unfold reF
    split
    · rename_i j hj
      simp only [R]
      exact ⟨v, by rw [h2 j i (idx_at hj)]; exact hi, rfl, h1⟩
    · simp only [R]; exact ⟨v, rfl, h1⟩
  have hGG : ∀ i k j off us, R w (OwnA C.A hv) hv (.q i k j off) us → R w (OwnA C.A hv2) hv2 (reG ix i k j off) us := by
    intro i k j off us h
    unfold reG
    split
    · rename_i m hm
      simp only [R] at h ⊢
      obtain ⟨b, n, c, e1, e2⟩ := h
      exact ⟨b, n, c, by rw [h2 m i (idx_at hm)]; exact e1, e2⟩
    · exact R_botq h
  refine ⟨hv2, hd, by simpa using hsz, fun j x hx => ?_, ⟨fun j ob hj => ?_, fun j v hj => ?_, fun j1 j2 v1 v2 b e1 e2 b1 b2 => ?_, hM.old, hM.gl.1, fun b h => hM.gl.2 b (hO b h)⟩, ⟨hF.os, hF.tape, hF.output, hF.drawn, hF.size, hF.block, fun b hb => hF.own b (hO b hb), hF.aold, hF.dis⟩⟩
  · simp only [List.getElem?_map, Option.map_eq_some_iff] at hx
    obtain ⟨y, hy, rfl⟩ := hx
    obtain ⟨v, e1, e2⟩ := hsl j y hy
    exact ⟨v, e1, RV_subk hk hFF sF hGG sG y v e2⟩
  · unfold reM at hj
    simp only [List.getElem?_map, Option.map_eq_some_iff] at hj
    obtain ⟨i, hi, hj⟩ := hj
    cases ho : M[i]? with
    | none => rw [ho] at hj; simp at hj
    | some o =>
      rw [ho] at hj
      simp only [Option.getD_some, Option.map_eq_some_iff] at hj
      obtain ⟨ob0, rfl, rfl⟩ := hj
      obtain ⟨v, e1, hob⟩ := hM.live i ob0 ho
      refine ⟨v, by rw [h2 j i hi]; exact e1, ?_⟩
      cases hm : ob0.mp with
      | some ks =>
        obtain ⟨vals, g1, g3⟩ := hob.map hm
        exact ObR.of_map (ks := ks) rfl ⟨vals, g1, RVL_subk hk hFF sF hGG sG _ _ g3⟩
      | none =>
        obtain ⟨us, g1, g2, g3⟩ := hob.row hm
        refine ObR.of_row rfl ⟨us, ?_, fun x hx => ?_, RL_subk hk hFF sF hGG sG _ _ g3⟩
        · simp only [AV.subL_map, List.length_map]; exact g1
        · simp only [AV.subL_map, List.mem_map] at hx
          obtain ⟨y, hy, rfl⟩ := hx
          rw [size_sub sF sG]; exact g2 y hy
  · obtain ⟨i, hi, hv0⟩ := h3 j v hj
    obtain ⟨ob, hob⟩ := hM.dom i v hv0
    refine ⟨{ ob with xs := AV.subL (reF ix) (reG ix) ob.xs }, ?_⟩
    unfold reM
    rw [List.getElem?_map, hi, Option.map_some, hob]
    rfl
  · obtain ⟨i1, hi1, hv1⟩ := h3 j1 v1 e1
    obtain ⟨i2, hi2, hv2'⟩ := h3 j2 v2 e2
    have := hM.inj i1 i2 v1 v2 b hv1 hv2' b1 b2
    subst this
    obtain ⟨l1, g1⟩ := List.getElem?_eq_some_iff.1 hi1
    obtain ⟨l2, g2⟩ := List.getElem?_eq_some_iff.1 hi2
    have hp := List.pairwise_iff_getElem.1 hnd
    rcases Nat.lt_trichotomy j1 j2 with h | h | h
    · exact absurd (g1.trans g2.symm) (hp j1 j2 l1 l2 h)
    · exact h
    · exact absurd (g2.trans g1.symm) (hp j2 j1 l2 l1 h)
end Aw
end Go.Proofs.YtndniceeibflcaaGreatDoor

namespace Go.Proofs.YtndniceeibflcaaGreatDoor
namespace Aw
open Go.RowKit
set_option linter.unusedSimpArgs false

/-- such a call. -/
def afc (P : Program) (o : Oper) (σ : St) [N : HK (St → Prop)] : Prop :=
  match o.op, o.guard with
  | .call ⟨.value (.func f), args, _⟩, none => ACallF P f (args.toList.map σ.ev) σ.M (K := ⟨fun M x M' => N.k ⟨setS (σ.sl.map (AV.sub (keepF M (args.toList.map σ.ev)) (keepG M (args.toList.map σ.ev)))) o.dst x, M'⟩⟩)
  | _, _ => False

/-- the orders. -/
inductive OTr
  | done
  | nil
  | alt (i : Nat) (t : OTr) (more : OTr)
def OTr.alts : OTr → List Nat
  | .alt i _ more => i :: more.alts
  | _ => []
def OTr.isDone : OTr → Bool
  | .done => true
  | _ => false
def OTr.okAll (ops : Array Oper) : OTr → Nat → Array Bool → Bool
  | .done, _, L => (Region.ready .any ops L).isEmpty
  | .nil, _, _ => true
  | .alt i s more, n, L => (s.isDone || (decide (2 ≤ n) && (Region.ready .any ops (L.setIfInBounds i true)).all (fun j => s.alts.contains j) && !(Region.ready .any ops (L.setIfInBounds i true)).isEmpty)) && s.okAll ops (n - 1) (L.setIfInBounds i true) && more.okAll ops n L
def OTr.ok (ops : Array Oper) (t : OTr) : Bool := (Region.ready .any ops (Array.replicate ops.size false)).all (fun j => t.alts.contains j) && !(Region.ready .any ops (Array.replicate ops.size false)).isEmpty && decide (0 < ops.size) && !t.isDone && t.okAll ops ops.size (Array.replicate ops.size false)

variable {P : Program} {own : List Nat} {ops : Array Oper} {m : Nat}

theorem afc_sound {C : Ctx} {σ : St} {a : Act} {w : World} {Q : Exit → Act → World → Prop} {i : Nat} {o : Oper} {N : HK (St → Prop)} (ho : ops[i]? = some o) (h : afc P o σ (N := N)) (hS : StR C σ a w) :
    wpOp P ops Q i (fun a' w' => ∃ σ', N.k σ' ∧ StR C σ' a' w') a w := by
  unfold afc at h
  split at h
  · rename_i f args tys hop hg
    obtain ⟨M, x, M', hz, hK⟩ := h
    exact wpOp_mono (fun a' w' hS' => ⟨_, hK, hS'⟩) (frame_call ho hg hop hz hS)
  · exact h.elim

end Aw
end Go.Proofs.YtndniceeibflcaaGreatDoor

namespace Go.Proofs.YtndniceeibflcaaGreatDoor
namespace Aw
open Go.RowKit
set_option linter.unusedSimpArgs false

/-- an operation that is a lent call, with its guard. -/
def amf (P : Program) (ops : List Oper) (o : Oper) (σ : St) [N : HK (St → Prop)] : Prop :=
  match o.op with
  | .call ⟨.value (.func f), args, _⟩ =>
    match o.guard with
    | none => ACallF P f (args.toList.map σ.ev) σ.M (K := ⟨fun M x M' => N.k ⟨setS (σ.sl.map (AV.sub (keepF M (args.toList.map σ.ev)) (keepG M (args.toList.map σ.ev)))) o.dst x, M'⟩⟩)
    | some (j, want) => AOpt ((ops[j]?).bind (·.dst)) (K := ⟨fun d => AOpt (gd (σ.sl.getD d .bot) want) (K := ⟨fun b =>
        @ACond b ⟨ACallF P f (args.toList.map σ.ev) σ.M (K := ⟨fun M x M' => N.k ⟨setS (σ.sl.map (AV.sub (keepF M (args.toList.map σ.ev)) (keepG M (args.toList.map σ.ev)))) o.dst x, M'⟩⟩)⟩ ⟨N.k (σ.step o.dst (.t []) [] σ.M)⟩⟩)⟩)
  | _ => False
/-- a region; the operations that the mask marks are such calls. -/
def AOpsF (P : Program) (own : List Nat) (ops : List Oper) : List Bool → List Oper → St → [HK (St → Prop)] → Prop
  | _, [], σ, N => N.k σ
  | true :: ms, o :: rest, σ, N => @amf P ops o σ ⟨fun σ' => @AOpsF P own ops ms rest σ' N⟩
  | false :: ms, o :: rest, σ, N => @aop P own ops o σ ⟨fun σ' => @AOpsF P own ops ms rest σ' N⟩
  | [], o :: rest, σ, N => @aop P own ops o σ ⟨fun σ' => @AOpsF P own ops [] rest σ' N⟩

section
variable {P : Program} {own : List Nat} {ops : List Oper} {N : HK (St → Prop)} {σ : St} {d : Option Tmp} {f : FuncId} {args : Array Operand} {ats : Array TypeId} {t : TypeId} {p : String} {af : Array Edge} {ms : List Bool} {o : Oper} {rest : List Oper}
theorem w_fnil : @AOpsF P own ops ms [] σ N = N.k σ := by cases ms with
  | nil => exact propext Iff.rfl
  | cons b ms => cases b <;> exact propext Iff.rfl
theorem w_fcall : @AOpsF P own ops (true :: ms) (o :: rest) σ N = @amf P ops o σ ⟨fun σ' => @AOpsF P own ops ms rest σ' N⟩ := propext Iff.rfl
theorem w_fcons : @AOpsF P own ops (false :: ms) (o :: rest) σ N = @aop P own ops o σ ⟨fun σ' => @AOpsF P own ops ms rest σ' N⟩ := propext Iff.rfl
theorem w_fcons0 : @AOpsF P own ops [] (o :: rest) σ N = @aop P own ops o σ ⟨fun σ' => @AOpsF P own ops [] rest σ' N⟩ := propext Iff.rfl
theorem w_amf : @amf P ops ⟨d, .call ⟨.value (.func f), args, ats⟩, t, p, af, none⟩ σ N = ACallF P f (args.toList.map σ.ev) σ.M (K := ⟨fun M x M' => N.k ⟨setS (σ.sl.map (AV.sub (keepF M (args.toList.map σ.ev)) (keepG M (args.toList.map σ.ev)))) d x, M'⟩⟩) := propext Iff.rfl
theorem w_amfg {j : Nat} {want : Bool} : @amf P ops ⟨d, .call ⟨.value (.func f), args, ats⟩, t, p, af, some (j, want)⟩ σ N = AOpt ((ops[j]?).bind (·.dst)) (K := ⟨fun e => AOpt (gd (σ.sl.getD e .bot) want) (K := ⟨fun b =>
        @ACond b ⟨ACallF P f (args.toList.map σ.ev) σ.M (K := ⟨fun M x M' => N.k ⟨setS (σ.sl.map (AV.sub (keepF M (args.toList.map σ.ev)) (keepG M (args.toList.map σ.ev)))) d x, M'⟩⟩)⟩ ⟨N.k (σ.step d (.t []) [] σ.M)⟩⟩)⟩) := propext Iff.rfl
end

section
variable {P : Program} {C : Ctx} {σ : St} {a : Act} {w : World} {Q : Exit → Act → World → Prop}
/-- whether a guarded operation is done. -/
theorem wanted_gd {ops : Array Oper} {o : Oper} {j d : Nat} {want c : Bool} (hg : o.guard = some (j, want)) (hd : (ops[j]?).bind (·.dst) = some d) (hc : gd (σ.sl.getD d .bot) want = some c) (hS : StR C σ a w) : Region.wanted o (yielded ops a.tmps) = c := by
  obtain ⟨hv, _, hsz, hsl, hM, hF⟩ := hS
  have hval : ∀ y, σ.sl.getD d .bot = y → y ≠ .bot → ∃ u, a.tmps[d]? = some u ∧ RV w (OwnA C.A hv) hv y u := by
    intro y hy hne
    rw [List.getD_eq_getElem?_getD] at hy
    cases hx : σ.sl[d]? with
    | none => rw [hx] at hy; exact absurd hy.symm hne
    | some x =>
      rw [hx] at hy
      simp only [Option.getD_some] at hy
      subst hy
      exact hsl d _ hx
  rcases gd_spec hc with ⟨b, hb, rfl⟩ | ⟨hb, rfl⟩
  · obtain ⟨u, h1, h2⟩ := hval _ hb (by simp)
    simp only [RV] at h2
    subst h2
    have hy : yielded ops a.tmps j = some b := by
      unfold yielded
      rw [hd]
      simp [h1]
    simp only [Region.wanted, hg, hy]
    cases b <;> cases want <;> rfl
  · obtain ⟨u, h1, h2⟩ := hval _ hb (by simp)
    simp only [RV, RVL] at h2
    obtain ⟨vs, rfl, _⟩ := h2
    have hy : yielded ops a.tmps j = none := by
      unfold yielded
      rw [hd]
      simp [h1]
    simp only [Region.wanted, hg, hy]
    cases want <;> rfl
theorem wpOp_guard {ops : Array Oper} {k : Nat} {o : Oper} {K : Act → World → Prop} (ho : ops[k]? = some o) (hw : Region.wanted o (yielded ops a.tmps) = true) (h : wpOp P #[⟨o.dst, o.op, o.type, o.pos, o.after, none⟩] Q 0 K a w) : wpOp P ops Q k K a w := by
  unfold wpOp at h ⊢
  simp only [ho]
  rw [if_pos hw]
  have h' : (⟨o.dst, o.op, o.type, o.pos, o.after, none⟩ : Oper).wp P a w K Q ∨ ((⟨o.dst, o.op, o.type, o.pos, o.after, none⟩ : Oper).asks P a w ∧ LetsOut Q) := by
    simpa [Region.wanted] using h
  obtain ⟨d, op, t, p, af, g⟩ := o
  exact h'
theorem amf_sound {ops : Array Oper} {i : Nat} {o : Oper} {N : HK (St → Prop)} (ho : ops[i]? = some o) (h : amf P ops.toList o σ (N := N)) (hS : StR C σ a w) :
    wpOp P ops Q i (fun a' w' => ∃ σ', N.k σ' ∧ StR C σ' a' w') a w := by
  unfold amf at h
  split at h
  · rename_i f args ats hop
    split at h
    · rename_i hg
      obtain ⟨M, x, M', hz, hN⟩ := h
      exact wpOp_mono (fun a' w' hS' => ⟨_, hN, hS'⟩) (frame_call ho hg hop hz hS)
    · rename_i j want hg
      obtain ⟨d, hdst, h⟩ := AOpt_elim h
      obtain ⟨c, hc, h⟩ := AOpt_elim h
      have hdst' : (ops[j]?).bind (·.dst) = some d := by simpa using hdst
      have hw := wanted_gd hg hdst' hc hS
      obtain ⟨h1, h2⟩ := h
      cases hcc : c with
      | true =>
        obtain ⟨M, x, M', hz, hN⟩ := h1 hcc
        refine wpOp_guard ho (by rw [hw, hcc]) ?_
        exact wpOp_mono (fun a' w' hS' => ⟨_, hN, hS'⟩) (frame_call (ops := #[⟨o.dst, o.op, o.type, o.pos, o.after, none⟩]) (i := 0) (o := ⟨o.dst, o.op, o.type, o.pos, o.after, none⟩) rfl rfl hop hz hS)
      | false =>
        have hN := h2 hcc
        obtain ⟨hv, hd, hsz, hsl, hM, hF⟩ := hS
        unfold wpOp
        simp only [ho]
        rw [hw, hcc, if_neg (by simp)]
        exact ⟨_, hN, StR.next hd hsz hsl hF hM (by simp only [RV, RVL]; exact ⟨#[], rfl, rfl⟩) (StepR.refl C.A w hv)⟩
  · exact h.elim
theorem aopsf_sound {own : List Nat} {ops : Array Oper} {N : HK (St → Prop)} (hQ : ∀ σ a w, N.k σ → StR C σ a w → Q .normal a w) : ∀ (l : List Oper) (ms : List Bool) (k : Nat) (σ : St) (a : Act) (w : World), ops.toList.drop k = l → @AOpsF P own ops.toList ms l σ N → StR C σ a w →
    wpOps P ops Q (List.range' k l.length) a w
  | [], ms, k, σ, a, w, _, h, hS => by
    rw [w_fnil] at h
    simp only [List.length_nil, List.range'_zero, wpOps]; exact hQ σ a w h hS
  | o :: l, ms, k, σ, a, w, hk, h, hS => by
    have ho : ops[k]? = some o := by
      have : (ops.toList.drop k)[0]? = some o := by rw [hk]; rfl
      rw [List.getElem?_drop] at this
      simpa using this
    have hk' : ops.toList.drop (k + 1) = l := by rw [← List.drop_drop, hk]; rfl
    rw [List.length_cons, List.range'_succ, wpOps_cons]
    cases ms with
    | nil =>
      rw [w_fcons0] at h
      refine wpOp_mono (fun a' w' => ?_) (aop_sound ho h hS)
      rintro ⟨σ', h1, h2⟩
      exact aopsf_sound hQ l [] (k + 1) σ' a' w' hk' h1 h2
    | cons b ms =>
      cases b with
      | false =>
        rw [w_fcons] at h
        refine wpOp_mono (fun a' w' => ?_) (aop_sound ho h hS)
        rintro ⟨σ', h1, h2⟩
        exact aopsf_sound hQ l ms (k + 1) σ' a' w' hk' h1 h2
      | true =>
        rw [w_fcall] at h
        refine wpOp_mono (fun a' w' => ?_) (amf_sound ho h hS)
        rintro ⟨σ', h1, h2⟩
        exact aopsf_sound hQ l ms (k + 1) σ' a' w' hk' h1 h2
/-- A REGION in the order of the text with calls that are lent objects. -/
theorem swp_fs {own : List Nat} {id : Nat} {ops : Array Oper} {N : HN} {E : HE} {Rt : HR} (ms : List Bool) (h : @AOpsF P own ops.toList ms ops.toList σ N) : @SWp P (.region id ops false) σ N E Rt := by
  intro C a w hS
  refine wp_region ?_
  have := aopsf_sound (P := P) (own := own) (ops := ops) (N := N) (Q := APost C N.k E.k (fun σ => Rt.k σ ())) (fun σ a w h1 h2 => ⟨σ, h1, h2⟩) ops.toList ms 0 σ a w rfl h hS
  rw [List.range_eq_range']
  simpa using this
end

/-- where the object j of a contract lies. -/
def baF (ix : List Nat) (j : Nat) : AV := match ix[j]? with | some i => .o i | none => .bot
def baG (ix : List Nat) (j k m off : Nat) : AV := match ix[j]? with | some i => .q i k m off | none => .bot
def baM (ix : List Nat) (n : Nat) (M : Mem) : Mem := (List.range n).map fun i => match ix.idxOf? i with | some j => ((M[j]?).getD none).map fun ob => { ob with xs := AV.subL (baF ix) (baG ix) ob.xs } | none => none
theorem baM_get {ix : List Nat} {n : Nat} {M : Mem} {i : Nat} {ob : Ob} (h : (baM ix n M)[i]? = some (some ob)) : ∃ j ob0, ix.idxOf? i = some j ∧ M[j]? = some (some ob0) ∧ ob = { ob0 with xs := AV.subL (baF ix) (baG ix) ob0.xs } := by
  unfold baM at h
  rw [List.getElem?_map, Option.map_eq_some_iff] at h
  obtain ⟨i', hi', h⟩ := h
  have : i' = i := by
    obtain ⟨_, e⟩ := List.getElem?_eq_some_iff.1 hi'
    simpa using e.symm
  subst this
  cases hx : ix.idxOf? i' with
  | none => rw [hx] at h; cases h
  | some j =>
    rw [hx] at h
    simp only at h
    cases hm : M[j]? with
    | none => rw [hm] at h; cases h
    | some o =>
      rw [hm] at h
      simp only [Option.getD_some, Option.map_eq_some_iff] at h
      obtain ⟨ob0, rfl, h⟩ := h
      exact ⟨j, ob0, rfl, hm, h.symm⟩
theorem idx_of {ix : List Nat} (hnd : ix.Nodup) {i j : Nat} (h : ix[j]? = some i) : ix.idxOf? i = some j := by
  unfold List.idxOf?
  rw [List.findIdx?_eq_some_iff_getElem]
  obtain ⟨hj, he⟩ := List.getElem?_eq_some_iff.1 h
  refine ⟨hj, by simpa using he, fun m hm => ?_⟩
  have hp := List.pairwise_iff_getElem.1 hnd m j (by omega) hj hm
  simp only [beq_iff_eq, Bool.not_eq_true]
  simp only [beq_eq_false_iff_ne, ne_eq]
  intro e
  exact hp (e.trans he.symm)

/-- a contract over other numbers: its objects 0, 1 .. are ix. -/
theorem MSpec.ren {P : Program} {f : FuncId} {aS aT : List AV} {M M' K : Mem} {x : AV} (h : MSpec P f aS M (fun r N => r = x ∧ N = M')) (ix : List Nat) (hnd : ix.Nodup) (h1 : aT.map (AV.sub (reF ix) (reG ix)) = aS) (h2 : reM ix K = M) (h3 : aS.map (AV.sub (baF ix) (baG ix)) = aT)
    (hix : ∀ i ∈ ix, i < K.length) (hdom : ∀ i, i ∉ ix → K[i]? = none ∨ K[i]? = some none) : MSpec P f aT K (fun r N => r = x.sub (baF ix) (baG ix) ∧ N = baM ix K.length M') := by
  refine ⟨h.1, fun w vs A hv hM hsep hvs => ?_⟩
  obtain ⟨hv2, hE⟩ : ∃ hv2 : Nat → Option Value, hv2 = fun j => match ix[j]? with | some i => hv i | none => none := ⟨_, rfl⟩
  have e2 : ∀ j i, ix[j]? = some i → hv2 j = hv i := fun j i h => by rw [hE]; simp only [h]
  have e3 : ∀ j v, hv2 j = some v → ∃ i, ix[j]? = some i ∧ hv i = some v := fun j v h => by
    rw [hE] at h
    simp only at h
    cases hi : ix[j]? with
    | none => rw [hi] at h; cases h
    | some i => rw [hi] at h; exact ⟨i, rfl, h⟩
  have hO : ∀ b, Own hv2 b → Own hv b := by
    rintro b ⟨j, v, hj, hb⟩
    obtain ⟨i, _, hi⟩ := e3 j v hj
    exact ⟨i, v, hi, hb⟩
  have hO' : ∀ b, Own hv b → Own hv2 b := by
    rintro b ⟨i, v, hi, hb⟩
    obtain ⟨ob, hob⟩ := hM.dom i v hi
    have hmem : i ∈ ix := by
      rcases Classical.em (i ∈ ix) with hm | hm
      · exact hm
      · rcases hdom i hm with h | h <;> rw [h] at hob <;> cases hob
    obtain ⟨j, hj, hji⟩ := List.mem_iff_getElem.1 hmem
    exact ⟨j, v, by rw [e2 j i (by rw [List.getElem?_eq_getElem hj, hji])]; exact hi, hb⟩
  have hT : OwnA A hv2 = OwnA A hv := by
    funext b; apply propext
    exact ⟨fun h => h.elim .inl fun h => .inr (hO b h), fun h => h.elim .inl fun h => .inr (hO' b h)⟩
  have hk : Keeps w (OwnA A hv) w (OwnA A hv2) := by rw [hT]; exact Keeps.refl _ _
  have sF : ∀ i, (reF ix i).single = true := fun i => by unfold reF; split <;> rfl
  have sG : ∀ i k j off, (reG ix i k j off).single = true := fun i k j off => by unfold reG; split <;> rfl
  have hFF : ∀ i v, hv i = some v → v.oneCell' = true → R w (OwnA A hv2) hv2 (reF ix i) [v] := by
    intro i v hi h1
    unfold reF
    split
    · rename_i j hj
      simp only [R]
      exact ⟨v, by rw [e2 j i (idx_at hj)]; exact hi, rfl, h1⟩
    · simp only [R]; exact ⟨v, rfl, h1⟩
  have hGG : ∀ i k j off us, R w (OwnA A hv) hv (.q i k j off) us → R w (OwnA A hv2) hv2 (reG ix i k j off) us := by
    intro i k j off us h
    unfold reG
    split
    · rename_i m hm
      simp only [R] at h ⊢
      obtain ⟨b, n, c, g1, g2⟩ := h
      exact ⟨b, n, c, by rw [e2 m i (idx_at hm)]; exact g1, g2⟩
    · exact R_botq h
  have hM2 : MemR A w hv2 M := by
    subst h2
    refine ⟨fun j ob hj => ?_, fun j v hj => ?_, fun j1 j2 v1 v2 b e1 e2' b1 b2 => ?_, hM.old, hM.gl.1, fun b h => hM.gl.2 b (hO b h)⟩
    · unfold reM at hj
      simp only [List.getElem?_map, Option.map_eq_some_iff] at hj
      obtain ⟨i, hi, hj⟩ := hj
      cases ho : K[i]? with
      | none => rw [ho] at hj; simp at hj
      | some o =>
        rw [ho] at hj
        simp only [Option.getD_some, Option.map_eq_some_iff] at hj
        obtain ⟨ob0, rfl, rfl⟩ := hj
        obtain ⟨v, e1, hob⟩ := hM.live i ob0 ho
        refine ⟨v, by rw [e2 j i hi]; exact e1, ?_⟩
        cases hm : ob0.mp with
        | some ks =>
          obtain ⟨vals, g1, g3⟩ := hob.map hm
          exact ObR.of_map (ks := ks) rfl ⟨vals, g1, RVL_subk hk hFF sF hGG sG _ _ g3⟩
        | none =>
          obtain ⟨us, g1, g2, g3⟩ := hob.row hm
          refine ObR.of_row rfl ⟨us, ?_, fun x hx => ?_, RL_subk hk hFF sF hGG sG _ _ g3⟩
          · simp only [AV.subL_map, List.length_map]; exact g1
          · simp only [AV.subL_map, List.mem_map] at hx
            obtain ⟨y, hy, rfl⟩ := hx
            rw [size_sub sF sG]; exact g2 y hy
    · obtain ⟨i, hi, hv0⟩ := e3 j v hj
      obtain ⟨ob, hob⟩ := hM.dom i v hv0
      refine ⟨{ ob with xs := AV.subL (reF ix) (reG ix) ob.xs }, ?_⟩
      unfold reM
      rw [List.getElem?_map, hi, Option.map_some, hob]
      rfl
    · obtain ⟨i1, hi1, hv1⟩ := e3 j1 v1 e1
      obtain ⟨i2, hi2, hv2'⟩ := e3 j2 v2 e2'
      have := hM.inj i1 i2 v1 v2 b hv1 hv2' b1 b2
      subst this
      have := (idx_of hnd hi1).symm.trans (idx_of hnd hi2)
      injection this
  have hvs2 : RVL w (OwnA A hv2) hv2 aS vs := by
    have := RVL_subk hk hFF sF hGG sG _ _ hvs
    rwa [AV.subL_map, h1] at this
  refine (h.2 w vs A hv2 hM2 (fun b hb => hsep b (hO b hb)) hvs2).mono ?_
  rintro e w' ⟨r, N, v, hw, rfl, ⟨rfl, rfl⟩, m1, m2, m3, kp, o1, o2, o3, o4⟩
  obtain ⟨hw2, hwE⟩ : ∃ hw2 : Nat → Option Value, hw2 = fun i => if i < K.length then (match ix.idxOf? i with | some j => hw j | none => none) else none := ⟨_, rfl⟩
  have d2 : ∀ i j, ix.idxOf? i = some j → hw2 i = hw j := fun i j h => by
    rw [hwE]; simp only [h]
    rw [if_pos (hix i (List.mem_of_getElem? (idx_at h)))]
  have d3 : ∀ i v, hw2 i = some v → ∃ j, ix.idxOf? i = some j ∧ hw j = some v := fun i v h => by
    rw [hwE] at h
    simp only at h
    split at h
    · cases hi : ix.idxOf? i with
      | none => rw [hi] at h; cases h
      | some j => rw [hi] at h; exact ⟨j, rfl, h⟩
    · cases h
  have pO : ∀ b, Own hw2 b → Own hw b := by
    rintro b ⟨j, v, hj, hb⟩
    obtain ⟨i, _, hi⟩ := d3 j v hj
    exact ⟨i, v, hi, hb⟩
  have kk : Keeps w' (OwnA A hw) w' (OwnA A hw2) := ⟨Nat.le_refl _, fun _ _ _ => rfl, fun b _ h => h.elim .inl fun h => .inr (pO b h)⟩
  have bF : ∀ i, (baF ix i).single = true := fun i => by unfold baF; split <;> rfl
  have bG : ∀ i k j off, (baG ix i k j off).single = true := fun i k j off => by unfold baG; split <;> rfl
  have bFF : ∀ i v, hw i = some v → v.oneCell' = true → R w' (OwnA A hw2) hw2 (baF ix i) [v] := by
    intro i v hi h1
    unfold baF
    split
    · rename_i j hj
      simp only [R]
      exact ⟨v, by rw [d2 j i (idx_of hnd hj)]; exact hi, rfl, h1⟩
    · simp only [R]; exact ⟨v, rfl, h1⟩
  have bGG : ∀ i k j off us, R w' (OwnA A hw) hw (.q i k j off) us → R w' (OwnA A hw2) hw2 (baG ix i k j off) us := by
    intro i k j off us h
    unfold baG
    split
    · rename_i m hm
      simp only [R] at h ⊢
      obtain ⟨b, n, c, g1, g2⟩ := h
      exact ⟨b, n, c, by rw [d2 m i (idx_of hnd hm)]; exact g1, g2⟩
    · exact R_botq h
  refine ⟨_, _, v, hw2, rfl, ⟨rfl, rfl⟩, ⟨fun i ob hi => ?_, fun i u hi => ?_, fun i1 i2 v1 v2 b g1 g2 b1 b2 => ?_, m1.old, m1.gl.1, fun b h => m1.gl.2 b (pO b h)⟩, RV_subk kk bFF bF bGG bG _ _ m2, ?_, ⟨kp.size, fun b hb hn => kp.block b hb fun h => hn (hO b h), fun b hb h => hO b (kp.own b hb (pO b h))⟩, o1, o2, o3, o4⟩
  · obtain ⟨j, ob0, hj, hm, rfl⟩ := baM_get hi
    obtain ⟨u, g0, hob⟩ := m1.live j ob0 hm
    refine ⟨u, by rw [d2 i j hj]; exact g0, ?_⟩
    cases hmm : ob0.mp with
    | some ks =>
      obtain ⟨vals, g1, g3⟩ := hob.map hmm
      exact ObR.of_map (ks := ks) rfl ⟨vals, g1, RVL_subk kk bFF bF bGG bG _ _ g3⟩
    | none =>
      obtain ⟨us, g1, g2, g3⟩ := hob.row hmm
      refine ObR.of_row rfl ⟨us, ?_, fun x hx => ?_, RL_subk kk bFF bF bGG bG _ _ g3⟩
      · simp only [AV.subL_map, List.length_map]; exact g1
      · simp only [AV.subL_map, List.mem_map] at hx
        obtain ⟨y, hy, rfl⟩ := hx
        rw [size_sub bF bG]; exact g2 y hy
  · obtain ⟨j, hj, hu⟩ := d3 i u hi
    obtain ⟨ob, hob⟩ := m1.dom j u hu
    refine ⟨{ ob with xs := AV.subL (baF ix) (baG ix) ob.xs }, ?_⟩
    unfold baM
    rw [List.getElem?_map, List.getElem?_range (hix i (List.mem_of_getElem? (idx_at hj))), Option.map_some, hj]
    simp only [hob, Option.getD_some, Option.map_some]
  · obtain ⟨j1, hj1, q1⟩ := d3 i1 v1 g1
    obtain ⟨j2, hj2, q2⟩ := d3 i2 v2 g2
    have := m1.inj j1 j2 v1 v2 b q1 q2 b1 b2
    subst this
    have := (idx_at hj1).symm.trans (idx_at hj2)
    injection this
  · have := RVL_subk kk bFF bF bGG bG _ _ m3
    rwa [AV.subL_map, h3] at this
end Aw
end Go.Proofs.YtndniceeibflcaaGreatDoor

namespace Go.Proofs.YtndniceeibflcaaGreatDoor
open Aw
theorem ti2 : tiOf Tryz.prog 2 = some ⟨false, 1, 8, [.int .i64 (0)], none, none, [], [], false, false, false⟩ := by kernel_rfl
theorem ti3 : tiOf Tryz.prog 3 = some ⟨false, 1, 8, [.int .i64 (0)], none, none, [], [], false, false, false⟩ := by kernel_rfl
theorem ti4 : tiOf Tryz.prog 4 = some ⟨false, 1, 1, [.bool false], none, none, [], [], true, false, false⟩ := by kernel_rfl
theorem ti5 : tiOf Tryz.prog 5 = some ⟨false, 1, 1, [.int .u8 (0)], none, none, [], [], false, false, false⟩ := by kernel_rfl
theorem ti7 : tiOf Tryz.prog 7 = some ⟨true, 4, 24, [.int .i64 (0), .int .i64 (0), .bool false, .int .u8 (0)], none, none, [(0, 1), (1, 1), (2, 1), (3, 1)], [2, 3, 4, 6], false, false, false⟩ := by kernel_rfl
theorem ti9 : tiOf Tryz.prog 9 = some ⟨false, 1, 16, [.string ⟨#[]⟩], none, none, [], [], false, false, true⟩ := by kernel_rfl
theorem ti12 : tiOf Tryz.prog 12 = some ⟨false, 1, 8, [.int .u64 (0)], none, none, [], [], false, false, false⟩ := by kernel_rfl
theorem ti13 : tiOf Tryz.prog 13 = some ⟨true, 2, 24, [.string ⟨#[]⟩, .int .u64 (0)], none, none, [(0, 1), (1, 1)], [9, 12], false, false, false⟩ := by kernel_rfl
theorem ti15 : tiOf Tryz.prog 15 = some ⟨false, 1, 8, [.pointer none], none, none, [], [], false, false, false⟩ := by kernel_rfl
theorem ti16 : tiOf Tryz.prog 16 = some ⟨false, 1, 8, [.pointer none], none, none, [], [], false, false, false⟩ := by kernel_rfl
theorem ti17 : tiOf Tryz.prog 17 = some ⟨false, 1, 8, [.pointer none], none, none, [], [], false, false, false⟩ := by kernel_rfl
theorem ti18 : tiOf Tryz.prog 18 = some ⟨true, 1, 8, [.pointer none], none, none, [(0, 1)], [17], false, false, false⟩ := by kernel_rfl
theorem ti20 : tiOf Tryz.prog 20 = some ⟨false, 1, 16, [.nilIface], none, none, [], [], false, false, false⟩ := by kernel_rfl
theorem ti21 : tiOf Tryz.prog 21 = some ⟨false, 1, 4, [.int .i32 (0)], none, none, [], [], false, false, false⟩ := by kernel_rfl
theorem ti22 : tiOf Tryz.prog 22 = some ⟨false, 1, 24, [.slice none 0 0], some 79, none, [], [], false, false, false⟩ := by kernel_rfl
theorem ti23 : tiOf Tryz.prog 23 = some ⟨true, 2, 32, [.int .i64 (0), .slice none 0 0], none, none, [(0, 1), (1, 1)], [3, 22], false, false, false⟩ := by kernel_rfl
theorem ti24 : tiOf Tryz.prog 24 = some ⟨true, 2, 32, [.int .i64 (0), .slice none 0 0], none, none, [(0, 1), (1, 1)], [3, 22], false, false, false⟩ := by kernel_rfl
theorem ti25 : tiOf Tryz.prog 25 = some ⟨true, 3, 40, [.int .i64 (0), .slice none 0 0, .int .i64 (0)], none, none, [(0, 2), (2, 1)], [24, 3], false, false, false⟩ := by kernel_rfl
theorem ti26 : tiOf Tryz.prog 26 = some ⟨true, 3, 40, [.int .i64 (0), .slice none 0 0, .int .i64 (0)], none, none, [(0, 2), (2, 1)], [24, 3], false, false, false⟩ := by kernel_rfl
theorem ti27 : tiOf Tryz.prog 27 = some ⟨false, 1, 24, [.slice none 0 0], some 9, none, [], [], false, false, false⟩ := by kernel_rfl
theorem ti32 : tiOf Tryz.prog 32 = some ⟨false, 1, 8, [.pointer none], none, none, [], [], false, false, false⟩ := by kernel_rfl
theorem ti33 : tiOf Tryz.prog 33 = some ⟨false, 1, 8, [.int .i64 (0)], none, none, [], [], false, false, false⟩ := by kernel_rfl
theorem ti46 : tiOf Tryz.prog 46 = some ⟨false, 1, 8, [.int .u64 (0)], none, none, [], [], false, false, false⟩ := by kernel_rfl
theorem ti51 : tiOf Tryz.prog 51 = some ⟨false, 1, 24, [.slice none 0 0], some 33, none, [], [], false, false, false⟩ := by kernel_rfl
theorem ti54 : tiOf Tryz.prog 54 = some ⟨true, 4, 64, [.int .i64 (0), .slice none 0 0, .int .i64 (0), .slice none 0 0], none, none, [(0, 2), (2, 1), (3, 1)], [24, 3, 27], false, false, false⟩ := by kernel_rfl
theorem ti55 : tiOf Tryz.prog 55 = some ⟨true, 4, 64, [.int .i64 (0), .slice none 0 0, .int .i64 (0), .slice none 0 0], none, none, [(0, 2), (2, 1), (3, 1)], [24, 3, 27], false, false, false⟩ := by kernel_rfl
theorem ti70 : tiOf Tryz.prog 70 = some ⟨false, 1, 24, [.slice none 0 0], some 3, none, [], [], false, false, false⟩ := by kernel_rfl
theorem ti72 : tiOf Tryz.prog 72 = some ⟨false, 1, 24, [.slice none 0 0], some 81, none, [], [], false, false, false⟩ := by kernel_rfl
theorem ti78 : tiOf Tryz.prog 78 = some ⟨true, 2, 16, [.int .i64 (0), .int .i64 (0)], none, none, [(0, 1), (1, 1)], [3, 3], false, true, false⟩ := by kernel_rfl
theorem ti79 : tiOf Tryz.prog 79 = some ⟨true, 2, 16, [.int .i64 (0), .int .i64 (0)], none, none, [(0, 1), (1, 1)], [3, 3], false, true, false⟩ := by kernel_rfl
end Go.Proofs.YtndniceeibflcaaGreatDoor
