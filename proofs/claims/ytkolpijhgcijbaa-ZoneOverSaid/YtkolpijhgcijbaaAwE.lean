/-
  The calculus: 'core' is sound: the theorem.
-/
import Derived.Test.YtkolpijhgcijbaaAwD
namespace Go.Proofs.Ytkolpijhgcijbaa
namespace Aw
open Go.RowKit

set_option maxHeartbeats 1000000
section
variable {A : Nat → Prop} {P : Program} {w : World} {hv : Nat → Option Value} {M : Mem} {a : Act} {K : Kont} {Q : Exit → Act → World → Prop} {ρ : Operand → AV}

theorem hM_ob {i : Nat} {ob : Ob} {v : Value} (hM : MemR A w hv M) (hi : M[i]? = some (some ob)) (hv1 : hv i = some v) : ObR w (OwnA A hv) hv ob v := by
  obtain ⟨v', h1, h2⟩ := hM.live i ob hi
  rw [hv1] at h1
  injection h1 with h1
  subst h1
  exact h2

theorem append_case {o : Oper} {x y : Operand} {t e : TypeId} {ti te : TI} {i : Nat} {ob : Ob} {ys : List AV} {Ad : Option Addr} {c : Nat} {news : List Value} (ho : o.op = .call { callee := .builtin .append, args := #[x, y], argTypes := #[t, t] })
    (hM : MemR A w hv M) (ht : tiOf P t = some ti) (he : ti.elem = some e) (hte : tiOf P e = some te) (hx : RV w (OwnA A hv) hv (.o i) (a.eval x)) (hi : M[i]? = some (some ob)) (hmp : ob.mp = none) (hty : ob.ty = e) (hk : ob.k = te.size) (h0 : 0 < te.size)
    (hlen : ob.xs.length + ys.length ≤ 1000000) (hby : te.bytes ≤ 1000) (hy : a.eval y = .slice Ad ys.length c) (hsz : ∀ z ∈ ys, z.size = ob.k) (hnews : RL w (OwnA A hv) noHv ys news ∨ RL w (OwnA A hv) hv ys news) (hsrc : ys ≠ [] → ∃ ad : Addr, Ad = some ad ∧ ∀ j u, news[j]? = some u → w.cell? (ad.add j) = some u)
    {zs : List AV} (hzs : (zs = ys ∧ RL w (OwnA A hv) noHv ys news) ∨ (zs = AV.killL [i] ys ∧ RL w (OwnA A hv) hv ys news))
    (hK : K (.o i) [i] ((Mem.kill [i] M).set i (some { ob with xs := AV.killL [i] ob.xs ++ zs }))) : o.wp P a w (After A o a w hv K) Q := by
  simp only [RV, R] at hx
  obtain ⟨v, hvi, e1, _⟩ := hx
  injection e1 with e1
  obtain ⟨us, hrow, hks, hus⟩ := (hM_ob hM hi hvi).row hmp
  have h1 : ∀ u ∈ news, u.oneCell' = true := by rcases hnews with h | h <;> exact RL_one _ _ h
  have hnl : news.length = ys.length * ob.k := by rcases hnews with h | h <;> exact RL_len ys news hsz h
  subst hty
  rw [hk] at hrow hnl
  obtain ⟨v', w', hr, h2, h3, h4⟩ := run_append_src (ty := o.type) ht he hte h0 hrow (A := Ad) (m := ys.length) (c := c) hnl (fun hpos => hsrc (by intro e; rw [e] at hpos; simp at hpos)) h1 hlen hby
  have hzl : zs.length = ys.length := by rcases hzs with ⟨rfl, _⟩ | ⟨rfl, _⟩ <;> simp [AV.killL_map]
  obtain ⟨m1, m2⟩ := mem_append (ys := zs) (news := news) hM hi hmp (blk_row hrow) (blk_row h2) hvi hus hks (by rw [hk, hzl]; exact h2) h3 h4 (fun z hz => by
      rcases hzs with ⟨rfl, _⟩ | ⟨rfl, _⟩
      · exact hsz z hz
      · simp only [AV.killL_map, List.mem_map] at hz; obtain ⟨q, hq, rfl⟩ := hz; rw [AV.size_kill]; exact hsz q hq) (fun hs => by
      rcases hzs with ⟨rfl, h⟩ | ⟨rfl, h⟩
      · have := RL_keep hs.keeps (Z := []) (hv := noHv) (hv' := hvSet hv i v') (fun i u _ h => by simp [noHv] at h) _ _ h
        rwa [AV.killL_nil] at this
      · exact RL_keep hs.keeps hs.hv _ _ h)
  refine wp_value (v := v') (w' := w') ?_ ⟨_, [i], _, _, _, hK, rfl, m1, ?_, m2⟩
  · simp only [execOp, ho, resolve, invoke, builtin, Sem.run_bind, Sem.run_pure, Result.andThen_ok, List.map_toArray, List.map_cons, List.map_nil, e1, hy, hr]
  · simp only [RV, R]
    refine ⟨v', by simp [hvSet], rfl, ?_⟩
    rcases h2.2 with ⟨rfl, _⟩ | ⟨g, cap, cur, rfl, _⟩ <;> rfl

theorem rvl_of_rl {T : Nat → Prop} : ∀ (l : List AV) (us : List Value), (∀ x ∈ l, x.single = true) → RL w T hv l us → RVL w T hv l us
  | [], us, _, h => by simpa only [RL, RVL] using h
  | x :: l, us, hs, h => by
    simp only [RL] at h
    obtain ⟨u1, u2, rfl, h1, h2⟩ := h
    have h3 := R_size _ _ _ h1
    rw [AV.size_single (hs x List.mem_cons_self)] at h3
    match u1, h3 with
    | [u], _ =>
      simp only [RVL]
      exact ⟨u, u2, rfl, R_RV (hs x List.mem_cons_self) h1, rvl_of_rl l u2 (fun y hy => hs y (List.mem_cons_of_mem _ hy)) h2⟩

theorem rvl_len {T : Nat → Prop} : ∀ (l : List AV) (us : List Value), RVL w T hv l us → us.length = l.length
  | [], us, h => by simp only [RVL] at h; subst h; rfl
  | x :: l, us, h => by simp only [RVL] at h; obtain ⟨u, us, rfl, _, h⟩ := h; simp [rvl_len l us h]
theorem mapOf_eq {t : TypeId} {ke : TypeId × TypeId} (h : mapOf P t = some ke) : P.underlying t = some (.map ke.1 ke.2) := by
  unfold mapOf at h
  split at h
  · rename_i k e hu; injection h with h; subst h; exact hu
  · cases h

theorem arr1 {α : Type} {x : Array α} {y : α} (h : x.toList = [y]) : x = #[y] := by cases x; simp at h; subst h; rfl
theorem arr2 {α : Type} {x : Array α} {y z : α} (h : x.toList = [y, z]) : x = #[y, z] := by cases x; simp at h; subst h; rfl

theorem callA_sound {K : HK Kont} {o : Oper} {c : Call} (ho : o.op = .call c) (hρ : ∀ x, RV w (OwnA A hv) hv (ρ x) (a.eval x)) (hM : MemR A w hv M) (h : callA P c ρ M (K := K)) : o.wp P a w (After A o a w hv K.k) Q := by
  obtain ⟨callee, args, argTypes⟩ := c
  unfold callA at h
  split at h
  · -- a function
    rename_i f hc
    simp only at hc
    subst hc
    refine call_ok (args := args.toList.map a.eval) hM (rvl_map hρ args.toList) (fun hok => ?_) h
    unfold okFn at hok
    cases hf : P.funcs[f]? with
    | none => rw [hf] at hok; simp at hok
    | some fn =>
      rw [hf] at hok
      simp only [Bool.and_eq_true, Bool.not_eq_true'] at hok
      have h1 : ¬ fn.name = "runtime.NumGoroutine" := by simpa using hok.1
      have hb : ¬ fn.body = none := by intro e; rw [e] at hok; simp at hok
      have e : (args.toList.map a.eval).toArray = args.map a.eval := by rw [← Array.toList_map]
      rw [e]
      simp [execOp, ho, resolve, Deferred.ofValue, Act.eval, invoke, callFunc, hf, h1, hb]
  · -- a function value
    rename_i x hne hc
    simp only at hc
    subst hc
    split at h
    · rename_i f cap hx
      have hfx := hρ x
      rw [hx] at hfx
      simp only [RV, R] at hfx
      obtain ⟨cs, e1, hcl, hcs⟩ := hfx
      injection e1 with e1
      have hcv : RVL w (OwnA A hv) hv cap cs.toList := rvl_of_rl cap cs.toList hcl hcs
      refine call_ok (args := args.toList.map a.eval ++ cs.toList) hM (rvl_app _ _ _ _ (rvl_map hρ args.toList) hcv) (fun hok => ?_) h
      unfold okFn at hok
      cases hf : P.funcs[f]? with
      | none => rw [hf] at hok; simp at hok
      | some fn =>
        rw [hf] at hok
        simp only [Bool.and_eq_true, Bool.not_eq_true'] at hok
        have h1 : ¬ fn.name = "runtime.NumGoroutine" := by simpa using hok.1
        have hb : ¬ fn.body = none := by intro e; rw [e] at hok; simp at hok
        have e : (args.toList.map a.eval ++ cs.toList).toArray = args.map a.eval ++ cs := by rw [← Array.toList_map, ← Array.toList_append]
        rw [e]
        simp [execOp, ho, resolve, Deferred.ofValue, e1, invoke, callFunc, hf, h1, hb]
    · exact h.elim
  · -- len
    rename_i hc
    simp only at hc
    subst hc
    split at h
    · rename_i x t hx ht
      split at h
      · rename_i ti n hti hn
        obtain ⟨he, hK⟩ := h
        obtain ⟨e, he⟩ := Option.isSome_iff_exists.1 he
        have hu := ti_elem hti he
        have hax := arr1 hx
        have hat := arr1 ht
        simp only at hax hat
        subst hax; subst hat
        have hxv := hρ x
        have hlen : ∃ A m c, a.eval x = .slice A m c ∧ (m : Int) = n := by
          unfold lenA at hn
          split at hn
          · rename_i k xs hxs
            rw [hxs] at hxv
            simp only [RV, R] at hxv
            obtain ⟨A, c, ws, e1, _⟩ := hxv
            injection e1 with e1
            injection hn with hn
            exact ⟨A, _, c, e1, hn⟩
          · rename_i hxs
            rw [hxs] at hxv
            simp only [RV] at hxv
            injection hn with hn
            exact ⟨none, 0, 0, hxv, hn⟩
          · rename_i i hxs
            rw [hxs] at hxv
            simp only [RV, R] at hxv
            obtain ⟨v, hv1, e1, _⟩ := hxv
            injection e1 with e1
            split at hn
            · rename_i ob hob
              split at hn
              case h_2 => cases hn
              rename_i hmp
              obtain ⟨us, hrow, _⟩ := (hM_ob hM hob hv1).row hmp
              injection hn with hn
              rcases hrow.2 with ⟨hv0, h0⟩ | ⟨g, cap, cur, hv0, _⟩
              · exact ⟨none, 0, 0, by rw [e1, hv0], by omega⟩
              · exact ⟨_, _, _, by rw [e1, hv0], hn⟩
            · cases hn
          · cases hn
        obtain ⟨A, m, c, hev, hmn⟩ := hlen
        refine after_same (v := .int .i64 n) (r := I n) ?_ hM (by simp only [RV]) hK
        simp [execOp, ho, resolve, invoke, builtin, Builtin.len_, run_underlying hu, hev, goInt, hmn]
      · rename_i ti hti hn
        split at h
        · rename_i ke n hke hn'
          have hax := arr1 hx
          have hat := arr1 ht
          simp only at hax hat
          subst hax; subst hat
          have hxv := hρ x
          unfold lenM at hn'
          split at hn'
          · rename_i i hxs
            rw [hxs] at hxv
            simp only [RV, R] at hxv
            obtain ⟨v, hv1, e1, _⟩ := hxv
            injection e1 with e1
            split at hn'
            · rename_i ob hob
              split at hn'
              · rename_i ks hmp
                split at hn'
                case isFalse => cases hn'
                rename_i hk0
                obtain ⟨vals, ⟨_, b, es, clock, rfl, h1, h2, rfl⟩ | ⟨hk1, _⟩, h3⟩ := (hM_ob hM hob hv1).map hmp
                case inr => exact absurd hk0 hk1
                injection hn' with hn'
                have hl := (rvl_len _ _ h3)
                simp only [List.length_map, Array.length_toList] at hl
                refine after_same (v := .int .i64 n) (r := I n) ?_ hM (by simp only [RV]) h
                have hu : P.underlying t = some (.map ke.1 ke.2) := mapOf_eq hke
                simp [execOp, ho, resolve, invoke, builtin, Builtin.len_, run_underlying hu, e1, goInt, getObj, h1, Sem.run]
                omega
              · cases hn'
            · cases hn'
          · cases hn'
        · exact h.elim
      · exact h.elim
    · exact h.elim
  · -- min
    rename_i hc
    simp only at hc
    subst hc
    split at h
    · rename_i x y hxy
      have := arr2 hxy
      simp only at this
      subst this
      split at h
      · rename_i r hr
        unfold minmaxA at hr
        split at hr
        · rename_i p q hp hq
          have hpx := hρ x
          have hqy := hρ y
          rw [hp] at hpx
          rw [hq] at hqy
          simp only [RV] at hpx hqy
          injection hr with hr
          subst hr
          refine after_same (v := .int .i64 (min p q)) ?_ hM (by simp only [RV]; rfl) h
          simp [execOp, ho, resolve, invoke, builtin, Builtin.min_, Builtin.min2, hpx, hqy, List.foldlM]
          omega
        · cases hr
      · exact h.elim
    · exact h.elim
  · -- max
    rename_i hc
    simp only at hc
    subst hc
    split at h
    · rename_i x y hxy
      have := arr2 hxy
      simp only at this
      subst this
      split at h
      · rename_i r hr
        unfold minmaxA at hr
        split at hr
        · rename_i p q hp hq
          have hpx := hρ x
          have hqy := hρ y
          rw [hp] at hpx
          rw [hq] at hqy
          simp only [RV] at hpx hqy
          injection hr with hr
          subst hr
          refine after_same (v := .int .i64 (max p q)) ?_ hM (by simp only [RV]; rfl) h
          simp [execOp, ho, resolve, invoke, builtin, Builtin.max_, Builtin.max2, hpx, hqy, List.foldlM]
          omega
        · cases hr
      · exact h.elim
    · exact h.elim
  · -- append
    rename_i hc
    simp only at hc
    subst hc
    split at h
    · rename_i x y t t' hxy htt
      have e1 := arr2 hxy
      have e2 := arr2 htt
      simp only at e1 e2
      subst e1; subst e2
      split at h
      · rename_i ti hti
        split at h
        · rename_i e he
          split at h
          · rename_i te hte
            split at h
            · -- a persistent source
              rename_i i k ys hx hy
              split at h
              · rename_i ob hob
                obtain ⟨⟨rfl, hmp, h1, h2, h3, h4, h5, h6⟩, hK⟩ := h
                have hyv := hρ y
                rw [hy] at hyv
                simp only [RV, R] at hyv
                obtain ⟨A, c, ws, e1, _, _, g1, g2, g3⟩ := hyv
                injection e1 with e1
                exact append_case ho hM hti he hte (by rw [← hx]; exact hρ x) hob hmp h1 h2 h4 h5 h6 e1 (fun z hz => by rw [g1 z hz, h3, h2]) (.inl g2) (fun hne => by
                  obtain ⟨b, off, rfl, _, _, hc⟩ := g3 hne
                  exact ⟨_, rfl, fun j u hu => by rw [Addr.add_lit]; exact hc j u hu⟩) (.inl ⟨rfl, g2⟩) hK
              · exact h.elim
            · -- a nil source
              rename_i i hx hy
              split at h
              case h_2 => exact h.elim
              rename_i ob hob
              obtain ⟨⟨rfl, hmp⟩, hK⟩ := h
              have hxv := hρ x
              have hyv := hρ y
              rw [hx] at hxv
              rw [hy] at hyv
              simp only [RV] at hyv
              have hxv0 := hxv
              simp only [RV, R] at hxv
              obtain ⟨v, hv1, e1, _⟩ := hxv
              injection e1 with e1
              obtain ⟨us, hrow, _⟩ := (hM_ob hM hob hv1).row hmp
              have hu := ti_elem hti he
              obtain ⟨ie, _, _, hie, _⟩ := tiOf_spec hte
              refine after_same (v := v) ?_ hM (by rw [← e1]; exact hxv0) hK
              rcases hrow.2 with ⟨rfl, _⟩ | ⟨g, cap, cur, rfl, _, _, hnc, _⟩
              · simp [execOp, ho, resolve, invoke, builtin, e1, hyv, Builtin.append_, run_underlying hu, sizeOf, typeInfo, hie, Builtin.lenOf, Builtin.firstCells]
              · simp [execOp, ho, resolve, invoke, builtin, e1, hyv, Builtin.append_, run_underlying hu, sizeOf, typeInfo, hie, Builtin.lenOf, Builtin.firstCells, hnc, storeCells]
            · -- an own source
              rename_i i j hx hy
              split at h
              · rename_i ob ob' hob hob'
                obtain ⟨⟨hij, rfl, hmp, hmp', h1, h2, h3, h4, h5, h6⟩, hK⟩ := h
                have hyv := hρ y
                rw [hy] at hyv
                simp only [RV, R] at hyv
                obtain ⟨v, hv1, e1, _⟩ := hyv
                injection e1 with e1
                obtain ⟨us, hrow, hks, hus⟩ := (hM_ob hM hob' hv1).row hmp'
                have hshape : ∃ A c, v = .slice A ob'.xs.length c := by
                  rcases hrow.2 with ⟨rfl, h0⟩ | ⟨g, cap, cur, rfl, _⟩
                  · exact ⟨none, 0, by rw [h0]⟩
                  · exact ⟨_, _, rfl⟩
                obtain ⟨A, c, rfl⟩ := hshape
                exact append_case ho hM hti he hte (by rw [← hx]; exact hρ x) hob hmp h1 h2 h4 h5 h6 e1 (fun z hz => by rw [hks z hz, h3, h2]) (.inr hus) (fun hne => by
                  obtain ⟨g, cap, hg⟩ := ownsRow_add hrow (List.length_pos_iff.2 hne)
                  injection hg with hg
                  subst hg
                  exact ⟨_, rfl, hrow.cells (g := g) rfl⟩) (.inr ⟨rfl, hus⟩) hK
              · exact h.elim
            · exact h.elim
          · exact h.elim
        · exact h.elim
      · exact h.elim
    · exact h.elim
  · exact h.elim
end

end Aw
end Go.Proofs.Ytkolpijhgcijbaa
