/-
  The calculus: 'core' is sound: maps.
-/
import Derived.Test.YtkolpijhgcijbaaAwE
import Derived.MapKept
namespace Go.Proofs.Ytkolpijhgcijbaa
namespace Aw
open Go.RowKit

set_option maxHeartbeats 1000000
section
variable {A : Nat → Prop} {P : Program} {w : World} {hv : Nat → Option Value} {M : Mem} {a : Act} {K : Kont} {Q : Exit → Act → World → Prop} {ρ : Operand → AV}

theorem valsOf_eq {T : Nat → Prop} : ∀ (xs : List AV) (l us : List Value), valsOf xs = some l → RL w T hv xs us → us = l
  | [], l, us, h, hr => by simp only [valsOf, Option.some.injEq] at h; subst h; simpa only [RL] using hr
  | .v x :: xs, l, us, h, hr => by
    simp only [valsOf, Option.map_eq_some_iff] at h
    obtain ⟨l', h1, rfl⟩ := h
    simp only [RL, R] at hr
    obtain ⟨u1, u2, rfl, ⟨rfl, _⟩, h3⟩ := hr
    rw [valsOf_eq xs l' u2 h1 h3]
    rfl
  | .bot :: _, l, us, h, hr => by simp [valsOf] at h
  | .s _ _ :: _, l, us, h, hr => by simp [valsOf] at h
  | .g _ :: _, l, us, h, hr => by simp [valsOf] at h
  | .t _ :: _, l, us, h, hr => by simp [valsOf] at h
  | .p _ _ :: _, l, us, h, hr => by simp [valsOf] at h
  | .o _ :: _, l, us, h, hr => by simp [valsOf] at h
  | .q _ _ _ _ :: _, l, us, h, hr => by simp [valsOf] at h
  | .f _ _ :: _, l, us, h, hr => by simp [valsOf] at h

theorem valOf_eq {T : Nat → Prop} {x : AV} {v u : Value} (h : valOf x = some v) (hr : RV w T hv x u) : u = v := by
  cases x with
  | v y => simp only [valOf, Option.some.injEq] at h; simp only [RV] at hr; rw [hr, h]
  | g xs =>
    simp only [valOf, Option.map_eq_some_iff] at h
    obtain ⟨l, h1, rfl⟩ := h
    simp only [RV] at hr
    obtain ⟨cs, rfl, h2⟩ := hr
    rw [← valsOf_eq xs l cs.toList h1 h2]
  | _ => simp [valOf] at h

theorem zeroA_ok {T : Nat → Prop} {t : TypeId} {z : AV} (h : zeroA P t = some z) : ∃ v, (zeroValue t).run P w = .ok v w ∧ RV w T hv z v := by
  unfold zeroA at h
  split at h
  · rename_i cs hz
    obtain ⟨i, hi, hz⟩ := Option.bind_eq_some_iff.1 hz
    split at h
    · rename_i hc
      injection h with h
      subst h
      simp only [List.all_eq_true] at hc
      refine ⟨.agg cs, by simp [zeroValue, typeInfo, hi, hz], ?_⟩
      simp only [RV]
      exact ⟨cs, rfl, rl_vals cs.toList hc⟩
    · cases h
  · rename_i v _ hz
    obtain ⟨i, hi, hz⟩ := Option.bind_eq_some_iff.1 hz
    split at h
    · injection h with h
      subst h
      exact ⟨v, by simp [zeroValue, typeInfo, hi, hz], by simp only [RV]⟩
    · cases h
  · cases h

theorem afind_run {kt : TypeId} {v : Value} {K : HK (Nat → Prop)} {L : HK Prop} {es : Array MapEntry} (h : AFind P kt (es.toList.map (·.key)) v (K := K) (L := L)) :
    (∃ l, keyOf P kt v = some l) ∧ Maps.Keyed P kt ∧ ((∃ j e, (Instr.findKey kt v es.toList).run P w = .ok (some (j, e.val)) w ∧ es[j]? = some e ∧ e.key = v ∧ K.k j) ∨ ((Instr.findKey kt v es.toList).run P w = .ok none w ∧ L.k)) := by
  obtain ⟨⟨hk, ⟨l, hl⟩, hall⟩, h⟩ := h
  refine ⟨⟨l, hl⟩, hk, ?_⟩
  rcases hk.find w hl es.toList (fun e he => hall e.key (List.mem_map.2 ⟨e, he, rfl⟩)) with ⟨h1, h2⟩ | ⟨j, e, h1, h2, h3⟩
  · rcases h with ⟨j, ⟨hj, _⟩, _⟩ | ⟨_, hL⟩
    · rw [List.getElem?_map] at hj
      simp only [Option.map_eq_some_iff] at hj
      obtain ⟨e, he, hke⟩ := hj
      exact absurd hke (h2 e (List.mem_of_getElem? he))
    · exact .inr ⟨h1, hL⟩
  · rcases h with ⟨j', ⟨_, hu⟩, hK⟩ | ⟨hn, _⟩
    · have : j = j' := hu j (by rw [List.getElem?_map, h2]; simp [h3])
      subst this
      exact .inl ⟨j, e, h1, by simpa using h2, h3, hK⟩
    · exact absurd h3 (hn e.key (List.mem_map.2 ⟨e, List.mem_of_getElem? h2, rfl⟩))

theorem rvl_at {T : Nat → Prop} : ∀ (l : List AV) (us : List Value) (i : Nat) (x : AV) (u : Value), RVL w T hv l us → l[i]? = some x → us[i]? = some u → RV w T hv x u
  | [], us, i, x, u, h, hx, hu => by simp at hx
  | y :: l, us, i, x, u, h, hx, hu => by
    simp only [RVL] at h
    obtain ⟨v, vs, rfl, h1, h2⟩ := h
    cases i with
    | zero => simp at hx hu; subst hx; subst hu; exact h1
    | succ i => simp at hx hu; exact rvl_at l vs i x u h2 hx hu
theorem rvl_set {T : Nat → Prop} : ∀ (l : List AV) (us : List Value) (i : Nat) (x : AV) (u : Value), RVL w T hv l us → RV w T hv x u → RVL w T hv (l.set i x) (us.set i u)
  | [], us, i, x, u, h, hx => by simp only [RVL] at h; subst h; simp [RVL]
  | y :: l, us, i, x, u, h, hx => by
    simp only [RVL] at h
    obtain ⟨v, vs, rfl, h1, h2⟩ := h
    cases i with
    | zero => simp only [List.set_cons_zero, RVL]; exact ⟨u, vs, rfl, hx, h2⟩
    | succ i => simp only [List.set_cons_succ, RVL]; exact ⟨v, _, rfl, h1, rvl_set l vs i x u h2 hx⟩

/-- a map's block is written. -/
theorem mem_map {id b : Nat} {ob : Ob} {es es' : Array MapEntry} {clock clock' : Nat} {ks' : List Value} {xs' : List AV} (hM : MemR A w hv M) (hid : M[id]? = some (some ob)) (hb : hv id = some (.map (some b))) (hh : w.heap[b]? = some (.map es clock))
    (hk0 : ob.k = 0) (hk : es'.toList.map (·.key) = ks') (hx : RVL w (OwnA A hv) hv xs' (es'.toList.map (·.val))) :
    MemR A { w with heap := w.heap.setIfInBounds b (.map es' clock') } hv (M.set id (some { ob with mp := some ks', xs := xs' })) ∧ StepR A w hv [] { w with heap := w.heap.setIfInBounds b (.map es' clock') } hv := by
  have hlt : b < w.heap.size := (Array.getElem?_eq_some_iff.1 hh).1
  have hoth : ∀ c, c ≠ b → ({ w with heap := w.heap.setIfInBounds b (.map es' clock') } : World).heap[c]? = w.heap[c]? := fun c hc => Array.getElem?_setIfInBounds_ne (Ne.symm hc)
  have hs : StepR A w hv [] { w with heap := w.heap.setIfInBounds b (.map es' clock') } hv :=
    ⟨⟨by simp, fun c _ hT => hoth c (by rintro rfl; exact hT ⟨id, _, hb, rfl⟩), fun _ _ h => h⟩, fun _ _ _ h => h, rfl, rfl, rfl⟩
  refine ⟨⟨fun i ob' h => ?_, fun i u h => ?_, hM.inj, fun b h => by have := hM.old b h; simpa using this⟩, hs⟩
  · rw [setOb_get _ _ _ _ (List.getElem?_eq_some_iff.1 hid).1] at h
    by_cases hi : i = id
    · subst hi
      rw [if_pos rfl] at h
      simp only [Option.some.injEq] at h
      subst h
      refine ⟨_, hb, ObR.of_map (ob := { ob with mp := some ks', xs := xs' }) (ks := ks') rfl ⟨_, .inl ⟨hk0, b, es', clock', rfl, by simp [hlt], hk, rfl⟩, ?_⟩⟩
      have := RVL_keep hs.keeps hs.hv _ _ hx
      rwa [AV.killL_nil] at this
    · rw [if_neg hi] at h
      obtain ⟨v1, h9, h10, h11⟩ := live_step hM hs (fun v' b' hi' hb' => hoth b' (by rintro rfl; exact hi (hM.inj i id _ _ _ hi' hb hb' rfl))) (by simp) h
      rw [Ob.kill_nil] at h11
      exact ⟨v1, h9, h11⟩
  · obtain ⟨o, ho⟩ := hM.dom i u h
    rw [setOb_get _ _ _ _ (List.getElem?_eq_some_iff.1 hid).1]
    by_cases hi : i = id
    · exact ⟨_, by rw [if_pos hi]⟩
    · exact ⟨o, by rw [if_neg hi]; exact ho⟩

theorem mapPut_ok {K : HK Kont} {o : Oper} {t : TypeId} {m x y : Operand} (hrun : ∀ u w', (Instr.mapUpdate t (a.eval m) (a.eval x) (a.eval y)).run P w = .ok u w' → (execOp a.eval o).run P w = .ok .skip w')
    (hρ : ∀ x, RV w (OwnA A hv) hv (ρ x) (a.eval x)) (hM : MemR A w hv M) (h : mapPut P t (ρ m) (ρ x) (ρ y) M (K := K)) : o.wp P a w (After A o a w hv K.k) Q := by
  obtain ⟨⟨kt, et⟩, id, kv, ob, ks, hmp, hm, hx, hid, hks, hk0, hf⟩ := h
  have hu := mapOf_eq hmp
  have hmv := hρ m
  rw [hm] at hmv
  simp only [RV, R] at hmv
  obtain ⟨v, hv1, e1, _⟩ := hmv
  injection e1 with e1
  obtain ⟨vals, ⟨_, b, es, clock, rfl, h1, rfl, rfl⟩ | ⟨hk1, _⟩, h3⟩ := (hM_ob hM hid hv1).map hks
  case inr => exact absurd hk0 hk1
  have hkv := valOf_eq hx (hρ x)
  obtain ⟨⟨l, hl⟩, hk, hfr⟩ := afind_run (w := w) hf
  have hck := hk.check w false hl
  have hlen := rvl_len _ _ h3
  rcases hfr with ⟨j, e, g1, g2, g3, hK⟩ | ⟨g1, hL⟩
  · have hst := hk.stays w hl
    have hr : (Instr.mapUpdate t (a.eval m) (a.eval x) (a.eval y)).run P w = .ok () { w with heap := w.heap.setIfInBounds b (.map (es.modify j fun e => { e with key := kv, val := a.eval y }) clock) } := by
      have g3' : ((es[j]?).map (·.key)).getD kv = kv := by rw [g2]; simp [g3]
      simp only [Instr.mapUpdate, Sem.run_bind, run_underlying hu, Result.andThen_ok, e1, MapKept.run_getObj_map h1, hkv, hck, g1, g3', hst, MapKept.run_setObj_map _ h1]
    obtain ⟨m1, m2⟩ := mem_map (es' := es.modify j fun e => { e with key := kv, val := a.eval y }) (clock' := clock) (ks' := es.toList.map (·.key)) (xs' := ob.xs.set j (ρ y)) hM hid hv1 h1 hk0 (by
      apply List.ext_getElem?
      intro i
      simp only [Array.toList_modify, List.getElem?_map, List.getElem?_modify]
      by_cases hij : j = i
      · subst hij
        have : es.toList[j]? = some e := by simpa using g2
        simp [this, g3]
      · simp [hij]) (by
      have := rvl_set ob.xs _ j (ρ y) (a.eval y) h3 (hρ y)
      have e : (es.modify j fun e => { e with key := kv, val := a.eval y }).toList.map (·.val) = (es.toList.map (·.val)).set j (a.eval y) := by
        apply List.ext_getElem?
        intro i
        simp only [Array.toList_modify, List.getElem?_map, List.getElem?_modify, List.getElem?_set, List.length_map]
        have hjl : j < es.toList.length := by simpa using (Array.getElem?_eq_some_iff.1 g2).1
        by_cases hij : j = i
        · subst hij
          have hjs : j < es.size := by simpa using hjl
          simp [hjs]
        · simp [hij]
      rw [e]
      exact this)
    have hks' : ({ ob with mp := some (es.toList.map (·.key)), xs := ob.xs.set j (ρ y) } : Ob) = { ob with xs := ob.xs.set j (ρ y) } := by rw [← hks]
    rw [hks'] at m1
    exact wp_skip' (hrun _ _ hr) ⟨_, [], _, _, _, hK, rfl, m1, by simp [RV], m2⟩
  · have hr : (Instr.mapUpdate t (a.eval m) (a.eval x) (a.eval y)).run P w = .ok () { w with heap := w.heap.setIfInBounds b (.map (es.push { key := kv, val := a.eval y, born := clock }) (clock + 1)) } := by
      simp only [Instr.mapUpdate, Sem.run_bind, run_underlying hu, Result.andThen_ok, e1, MapKept.run_getObj_map h1, hkv, hck, g1, MapKept.run_setObj_map _ h1]
    obtain ⟨m1, m2⟩ := mem_map (es' := es.push { key := kv, val := a.eval y, born := clock }) (clock' := clock + 1) (ks' := es.toList.map (·.key) ++ [kv]) (xs' := ob.xs ++ [ρ y]) hM hid hv1 h1 hk0 (by simp) (by
      have := rvl_app _ _ _ _ h3 (show RVL w (OwnA A hv) hv [ρ y] [a.eval y] by simp only [RVL]; exact ⟨_, _, rfl, hρ y, rfl⟩)
      simpa using this)
    exact wp_skip' (hrun _ _ hr) ⟨_, [], _, _, _, hL, rfl, m1, by simp [RV], m2⟩

theorem lookup_ok {K : HK Kont} {o : Oper} {t : TypeId} {m x : Operand} {ok : Bool} (ho : o.op = .lookup t m x ok) (hρ : ∀ x, RV w (OwnA A hv) hv (ρ x) (a.eval x)) (hM : MemR A w hv M)
    (h : ∃ ke id kv ob ks z, mapOf P t = some ke ∧ ρ m = .o id ∧ valOf (ρ x) = some kv ∧ M[id]? = some (some ob) ∧ ob.mp = some ks ∧ zeroA P ke.2 = some z ∧
      ob.k = 0 ∧ AFind P ke.1 ks kv (K := ⟨fun j => AGet ob.xs j (K := ⟨fun y => K.k (if ok then .t [y, B true] else y) [] M⟩)⟩) (L := ⟨K.k (if ok then .t [z, B false] else z) [] M⟩)) : o.wp P a w (After A o a w hv K.k) Q := by
  obtain ⟨⟨kt, et⟩, id, kv, ob, ks, z, hmp, hm, hx, hid, hks, hz, hk0, hf⟩ := h
  have hu := mapOf_eq hmp
  have hmv := hρ m
  rw [hm] at hmv
  simp only [RV, R] at hmv
  obtain ⟨v, hv1, e1, _⟩ := hmv
  injection e1 with e1
  obtain ⟨vals, ⟨_, b, es, clock, rfl, h1, rfl, rfl⟩ | ⟨hk1, _⟩, h3⟩ := (hM_ob hM hid hv1).map hks
  case inr => exact absurd hk0 hk1
  have hkv := valOf_eq hx (hρ x)
  obtain ⟨⟨l, hl⟩, hk, hfr⟩ := afind_run (w := w) hf
  have hck := hk.check w es.isEmpty hl
  rcases hfr with ⟨j, e, g1, g2, g3, y, hy, hK⟩ | ⟨g1, hL⟩
  · have hye : RV w (OwnA A hv) hv y e.val := rvl_at ob.xs _ j y e.val h3 hy (by simp [g2])
    refine after_same (v := if ok then .tuple #[e.val, .bool true] else e.val) ?_ hM ?_ hK
    · simp only [execOp, ho, Instr.lookup, Sem.run_bind, run_underlying hu, Result.andThen_ok, e1, MapKept.run_getObj_map h1, Sem.run_pure, hkv, hck, g1]
    · cases ok with
      | true => simp only [if_true, RV, RVL]; exact ⟨_, rfl, e.val, _, rfl, hye, _, _, rfl, rfl, rfl⟩
      | false => simpa using hye
  · obtain ⟨zv, hz1, hz2⟩ := zeroA_ok (w := w) (hv := hv) (T := OwnA A hv) hz
    refine after_same (v := if ok then .tuple #[zv, .bool false] else zv) ?_ hM ?_ hL
    · simp only [execOp, ho, Instr.lookup, Sem.run_bind, run_underlying hu, Result.andThen_ok, e1, MapKept.run_getObj_map h1, Sem.run_pure, hkv, hck, g1, hz1]
    · cases ok with
      | true => simp only [if_true, RV, RVL]; exact ⟨_, rfl, zv, _, rfl, hz2, _, _, rfl, rfl, rfl⟩
      | false => simpa using hz2

end

end Aw
end Go.Proofs.Ytkolpijhgcijbaa
