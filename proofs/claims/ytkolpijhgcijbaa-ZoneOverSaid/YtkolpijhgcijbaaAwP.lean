/-
  The calculus: regions whose order is drawn: the end.
-/
import Derived.Test.YtkolpijhgcijbaaAwO
namespace Go.Proofs.Ytkolpijhgcijbaa
namespace Aw
open Go.RowKit

section
variable {P : Program} {own : List Nat} {ops : Array Oper}

theorem step_put (σ : St) (d : Option Tmp) (r : AV) : σ.step d r [] σ.M = σ.put d r := by simp only [St.step, St.put, killS_nil]

theorem atake_yields {o : Oper} {m : Md} {ts : List Nat} {σ : St} {N : HN} (hd : det P own o = true) (h : @atake P own ops.toList o m ts σ N) :
    ∃ r, m.need ts σ.sl r ∧ N.k (σ.put o.dst r) ∧ ∀ σ', Seen ops o (m.mem σ.M) σ σ' → ∀ N' : HN, N'.k (σ'.put o.dst r) → @aop P own ops.toList o σ' N' := by
  unfold atake at h
  split at h
  · rename_i hg
    obtain ⟨r, ⟨h1, h2⟩, h3⟩ := coreC_det (M0 := m.mem σ.M) hd h
    refine ⟨r, h1, h2, fun σ' hs N' hN => ?_⟩
    unfold aop
    simp only [hg]
    exact coreC_congr (fun x hx => (ev_seen (ops := ops) hs.1 x hx).symm) (h3 _ hs.2 ⟨fun r Z M' => N'.k (σ'.step o.dst r Z M')⟩ (by rw [← step_put] at hN; exact hN))
  · rename_i j want hg
    obtain ⟨d, hdd, h⟩ := AOpt_elim h
    obtain ⟨b, hb, h⟩ := AOpt_elim (α := Bool) h
    have hl : d ∈ o.looksAt ops := by
      refine List.mem_append_right _ ?_
      have hd' : (ops[j]?).bind (·.dst) = some d := by simpa using hdd
      simp only [hg, hd', Option.toList_some, List.mem_singleton]
    cases hbw : (b == want) with
    | true =>
      obtain ⟨r, ⟨h1, h2⟩, h3⟩ := coreC_det (M0 := m.mem σ.M) hd (h.1 hbw)
      refine ⟨r, h1, h2, fun σ' hs N' hN => ?_⟩
      unfold aop
      simp only [hg, hdd, AOpt_some]
      rw [hs.1 d hl, hb, AOpt_some]
      refine ⟨fun _ => ?_, fun e => by rw [hbw] at e; cases e⟩
      exact coreC_congr (fun x hx => (ev_seen (ops := ops) hs.1 x hx).symm) (h3 _ hs.2 ⟨fun r Z M' => N'.k (σ'.step o.dst r Z M')⟩ (by rw [← step_put] at hN; exact hN))
    | false =>
      obtain ⟨h1, h2⟩ := h.2 hbw
      refine ⟨.bot, h1, h2, fun σ' hs N' hN => ?_⟩
      unfold aop
      simp only [hg, hdd, AOpt_some]
      rw [hs.1 d hl, hb, AOpt_some]
      refine ⟨fun e => (by rw [hbw] at e; cases e), fun _ => ?_⟩
      rw [← step_put] at hN
      exact hN

/-- the list of what is done, and its mask. -/
def Fits (ops : Array Oper) (listed : Array Bool) (lm : Nat) : Prop := listed.size = ops.size ∧ ∀ j, listed.getD j false = lm.testBit j

theorem Fits.getT {listed : Array Bool} {lm : Nat} (h : Fits ops listed lm) {j : Nat} (hj : j < ops.size) : listed.getD j true = lm.testBit j := by
  rw [← h.2 j]
  have : j < listed.size := by rw [h.1]; exact hj
  simp [this]

theorem Fits.set {listed : Array Bool} {lm : Nat} (h : Fits ops listed lm) {i : Nat} (hi : i < ops.size) : Fits ops (listed.setIfInBounds i true) (lm ||| (1 <<< i)) := by
  refine ⟨by simpa using h.1, fun j => ?_⟩
  rw [Nat.testBit_or, Nat.testBit_shiftLeft]
  have hil : i < listed.size := by rw [h.1]; exact hi
  by_cases hij : i = j
  · subst hij
    simp [hil]
  · rw [← h.2 j]
    have e : (listed.setIfInBounds i true).getD j false = listed.getD j false := by
      simp [Array.getD_eq_getD_getElem?, Array.getElem?_setIfInBounds_ne hij]
    rw [e]
    by_cases hge : i ≤ j
    · have : j - i ≠ 0 := by omega
      simp [one_bit this]
    · simp [hge]

theorem sub_mask {a lm : Nat} (h : Nat.beq (a &&& lm) a = true) {t : Nat} (ht : a.testBit t = true) : lm.testBit t = true := by
  have h := Nat.eq_of_beq_eq_true h
  rw [← h, Nat.testBit_and, Bool.and_eq_true] at ht
  exact ht.2
theorem mem_mask {l : List Nat} {t : Nat} : (maskOf l).testBit t = true ↔ t ∈ l := by rw [maskOf_bit]; simp
theorem disj_mask {a b : Nat} (h : Nat.beq (a &&& b) 0 = true) {t : Nat} (ha : a.testBit t = true) (hb : b.testBit t = true) : False := by
  have h := Nat.eq_of_beq_eq_true h
  have : (a &&& b).testBit t = true := by rw [Nat.testBit_and, ha, hb]; rfl
  rw [h] at this
  simp at this
theorem meet_mask {l : List Nat} {b : Nat} (h : (!(Nat.beq (maskOf l &&& b) 0)) = true) : ∃ t ∈ l, b.testBit t = true := by
  have h1 : maskOf l &&& b ≠ 0 := by
    intro e
    rw [e] at h
    simp at h
  obtain ⟨t, ht⟩ := Nat.exists_testBit_of_ne_zero h1
  rw [Nat.testBit_and, Bool.and_eq_true] at ht
  exact ⟨t, mem_mask.1 ht.1, ht.2⟩
theorem super_mask {l : List Nat} {b : Nat} : Nat.beq (maskOf l &&& b) (maskOf l) = true ↔ ∀ t ∈ l, b.testBit t = true := by
  constructor
  · intro h t ht
    exact sub_mask h (mem_mask.2 ht)
  · intro h
    rw [Nat.beq_eq]
    apply Nat.eq_of_testBit_eq
    intro t
    rw [Nat.testBit_and]
    cases ht : (maskOf l).testBit t with
    | false => rfl
    | true => rw [h t (mem_mask.1 ht)]; rfl

theorem readyI_mem {listed : Array Bool} {lm : Nat} (h : Fits ops listed lm) : ∀ (l : List Oper) (k : Nat), ops.toList.drop k = l → ∀ i, i ∈ readyI (l.map (infOf P own ops)) k lm ↔ k ≤ i ∧ i ∈ Region.ready .any ops listed
  | [], k, hk, i => by
    simp only [List.map_nil, readyI, List.not_mem_nil, false_iff]
    rintro ⟨h1, h2⟩
    obtain ⟨_, o, ho, _⟩ := mem_ready.1 h2
    have := (Array.getElem?_eq_some_iff.1 ho).1
    have h3 : ops.toList.length ≤ k := List.drop_eq_nil_iff.1 hk
    simp at h3
    omega
  | o :: l, k, hk, i => by
    have ho : ops[k]? = some o := by
      have : (ops.toList.drop k)[0]? = some o := by rw [hk]; rfl
      rw [List.getElem?_drop] at this
      simpa using this
    have hkl := (Array.getElem?_eq_some_iff.1 ho).1
    have hk' : ops.toList.drop (k + 1) = l := by rw [← List.drop_drop, hk]; rfl
    have ih := readyI_mem h l (k + 1) hk' i
    have hself : (!(lm.testBit k) && Nat.beq ((infOf P own ops o).af &&& lm) (infOf P own ops o).af) = true ↔ k ∈ Region.ready .any ops listed := by
      rw [mem_ready, h.getT hkl, Bool.and_eq_true, Bool.not_eq_true']
      refine and_congr Iff.rfl ?_
      simp only [infOf]
      rw [super_mask]
      constructor
      · intro hh
        refine ⟨o, ho, fun e he hb => ?_⟩
        have := hh e.on (List.mem_map.2 ⟨e, List.mem_filter.2 ⟨by simpa using he, hb⟩, rfl⟩)
        rw [h.2]; exact this
      · rintro ⟨o', ho', hh⟩ t ht
        rw [ho] at ho'
        injection ho' with ho'
        subst ho'
        obtain ⟨e, he, rfl⟩ := List.mem_map.1 ht
        obtain ⟨he1, he2⟩ := List.mem_filter.1 he
        have := hh e (by simpa using he1) he2
        rw [← h.2]; exact this
    simp only [List.map_cons, readyI]
    split
    · rename_i hc
      rw [List.mem_cons, ih]
      constructor
      · rintro (rfl | ⟨h1, h2⟩)
        · exact ⟨Nat.le_refl _, hself.1 hc⟩
        · exact ⟨by omega, h2⟩
      · rintro ⟨h1, h2⟩
        by_cases hik : i = k
        · exact .inl hik
        · exact .inr ⟨by omega, h2⟩
    · rename_i hc
      rw [ih]
      constructor
      · rintro ⟨h1, h2⟩; exact ⟨by omega, h2⟩
      · rintro ⟨h1, h2⟩
        by_cases hik : i = k
        · subst hik; exact absurd (hself.2 h2) hc
        · exact ⟨by omega, h2⟩

theorem readyI_eq {listed : Array Bool} {lm : Nat} (h : Fits ops listed lm) (i : Nat) : i ∈ readyI (ops.toList.map (infOf P own ops)) 0 lm ↔ i ∈ Region.ready .any ops listed := by
  rw [readyI_mem h ops.toList 0 rfl]
  simp

theorem depOkI_get {i d : Nat} : ∀ (l : List Oper) (k : Nat), depOkI i d (l.map (infOf P own ops)) k = true → ∀ (j : Nat) (oj : Oper), l[j]? = some oj → d.testBit (k + j) = true → k + j = i ∨ ∃ e ∈ oj.after, Region.binds .any e = true ∧ d.testBit e.on = true
  | [], _, _, j, oj, hj, _ => by simp at hj
  | o :: l, k, h, j, oj, hj, hd => by
    simp only [List.map_cons, depOkI, Bool.and_eq_true] at h
    cases j with
    | zero =>
      simp at hj
      subst hj
      have h1 := h.1
      rw [Nat.add_zero] at hd ⊢
      rw [hd] at h1
      simp only [Bool.not_true, Bool.false_or, Bool.or_eq_true] at h1
      rcases h1 with h1 | h1
      · exact .inl (Nat.eq_of_beq_eq_true h1)
      · obtain ⟨t, ht, hb⟩ := meet_mask h1
        obtain ⟨e, he, rfl⟩ := List.mem_map.1 ht
        obtain ⟨he1, he2⟩ := List.mem_filter.1 he
        exact .inr ⟨e, by simpa using he1, he2, hb⟩
    | succ j =>
      simp at hj
      have := depOkI_get l (k + 1) h.2 j oj hj (by rw [show k + 1 + j = k + (j + 1) by omega]; exact hd)
      rw [show k + 1 + j = k + (j + 1) by omega] at this
      exact this

theorem freeI_get {i : Nat} {oi : Oper} {m : Md} {lm d : Nat} : ∀ (l : List Oper) (k : Nat), freeI i (infOf P own ops oi) m lm d (l.map (infOf P own ops)) k = true → ∀ (j : Nat) (oj : Oper), l[j]? = some oj → k + j ≠ i → d.testBit (k + j) = false → lm.testBit (k + j) = false →
    oi.apart ops oj = true ∧ (match m with | .reads => Op.cls oj.op < 1 | .plain => Op.cls oj.op < 2 | .over => True)
  | [], _, _, j, oj, hj, _, _, _ => by simp at hj
  | o :: l, k, h, j, oj, hj, hne, hd, hl => by
    simp only [List.map_cons, freeI, Bool.and_eq_true] at h
    cases j with
    | zero =>
      simp at hj
      subst hj
      have h1 := h.1
      rw [Nat.add_zero] at hd hl hne
      have hb : Nat.beq k i = false := by
        cases hb : Nat.beq k i with
        | false => rfl
        | true => exact absurd (Nat.eq_of_beq_eq_true hb) hne
      rw [hd, hl, hb] at h1
      simp only [Bool.false_or, Bool.and_eq_true, Inf.apart_eq] at h1
      refine ⟨h1.1, ?_⟩
      have h2 := h1.2
      cases m with
      | reads => simpa [infOf, Nat.blt_eq] using h2
      | plain => simpa [infOf, Nat.blt_eq] using h2
      | over => trivial
    | succ j =>
      simp at hj
      exact freeI_get l (k + 1) h.2 j oj hj (by omega) (by rw [show k + 1 + j = k + (j + 1) by omega]; exact hd) (by rw [show k + 1 + j = k + (j + 1) by omega]; exact hl)

theorem asch_any {N : HN} : ∀ (s : Sch) (top : Bool) (n : Nat) (listed : Array Bool) (lm : Nat) (σ : St), Fits ops listed lm → s.ok (ops.toList.map (infOf P own ops)) top n lm = true → @ASch P own ops.toList s σ N →
    (top = true → AAny P own ops N.k n listed σ) ∧ (top = false → ∀ k, n = k + 1 → ∀ i ∈ s.alts, ∀ o, ops[i]? = some o → @aop P own ops.toList o σ ⟨AAny P own ops N.k k (listed.setIfInBounds i true)⟩) := by
  intro s
  induction s with
  | done =>
    intro top n listed lm σ hf hok h
    simp only [Sch.ok, Bool.and_eq_true, List.isEmpty_iff] at hok
    have h0 : Region.ready .any ops listed = [] := by
      rw [List.eq_nil_iff_forall_not_mem]
      intro i hi
      have := (readyI_eq (P := P) (own := own) hf i).2 hi
      rw [hok.2] at this
      cases this
    refine ⟨fun _ => ?_, fun e => (by rw [hok.1] at e; cases e)⟩
    cases n with
    | zero => exact ⟨h0, h⟩
    | succ n => exact ⟨fun _ => h, fun i hi => by rw [h0] at hi; cases hi⟩
  | take i m ts s ih =>
    intro top n listed lm σ hf hok h
    simp only [Sch.ok, Bool.and_eq_true] at hok
    obtain ⟨⟨⟨⟨ht, hn⟩, hr⟩, htk⟩, hok⟩ := hok
    refine ⟨fun _ => ?_, fun e => by rw [ht] at e; cases e⟩
    cases n with
    | zero => simp at hn
    | succ n =>
      simp only [Nat.add_sub_cancel] at hok
      unfold ASch at h
      obtain ⟨o, ho, h⟩ := AOpt_elim h
      have ho : ops[i]? = some o := by simpa using ho
      have hil := (Array.getElem?_eq_some_iff.1 ho).1
      unfold takeI at htk
      have hoi : (ops.toList.map (infOf P own ops))[i]? = some (infOf P own ops o) := by simp [ho]
      simp only [hoi, Bool.and_eq_true] at htk
      obtain ⟨⟨⟨⟨hdet, hdep⟩, hlist⟩, hfree⟩, hseen⟩ := htk
      generalize depsI i (ops.toList.map (infOf P own ops)) 0 0 = d at *
      obtain ⟨r, h1, h2, h3⟩ := atake_yields hdet h
      have hr : i ∈ Region.ready .any ops listed := (readyI_eq (P := P) (own := own) hf i).1 (by simpa using hr)
      have hlt : ∀ j oj, ops[j]? = some oj → j < ops.size := fun j oj hj => (Array.getElem?_eq_some_iff.1 hj).1
      refine aany_first (dep := fun j => d.testBit j) ho h3 (fun j oj hj hd => ?_) n listed σ ⟨fun _ _ => rfl, by cases m <;> first | exact MLe.refl _ | exact MLe.nil _⟩ (fun j hj => ?_) (fun j oj hj hne hd hun => ?_) hr ((ih true n _ _ _ (hf.set hil) hok h2).1 rfl)
      · have := depOkI_get ops.toList 0 hdep j oj (by simpa using hj) (by simpa using hd)
        simpa using this
      · rw [hf.2 j] at hj
        cases hdj : d.testBit j with
        | false => rfl
        | true => exact (disj_mask hlist hj hdj).elim
      · rw [hf.getT (hlt j oj hj)] at hun
        have := freeI_get ops.toList 0 hfree j oj (by simpa using hj) (by simpa using hne) (by simpa using hd) (by simpa using hun)
        refine ⟨this.1, ?_, ?_⟩
        · cases m with
          | reads => exact .inl (by have := this.2; simp only at this; omega)
          | plain => exact .inl this.2
          | over =>
            refine .inr ⟨fun t ht => ?_, h1.2⟩
            simp only [infOf] at hseen
            have := mem_mask.1 (sub_mask hseen (mem_mask.2 ht))
            exact List.all_eq_true.1 h1.1 t this
        · cases m with
          | reads => exact .inl this.2
          | plain => exact .inr rfl
          | over => exact .inr rfl
  | nil =>
    intro top n listed lm σ hf hok h
    simp only [Sch.ok, Bool.not_eq_true'] at hok
    exact ⟨fun e => (by rw [hok] at e; cases e), fun _ k _ i hi => by simp [Sch.alts] at hi⟩
  | alt i s more ih1 ih2 =>
    intro top n listed lm σ hf hok h
    simp only [Sch.ok, Bool.and_eq_true] at hok
    obtain ⟨⟨⟨hn, hall⟩, hs⟩, hm⟩ := hok
    unfold ASch at h
    obtain ⟨hi, hmo⟩ := h
    have key : ∀ k, n = k + 1 → ∀ j ∈ i :: more.alts, ∀ o, ops[j]? = some o → @aop P own ops.toList o σ ⟨AAny P own ops N.k k (listed.setIfInBounds j true)⟩ := by
      intro k hk j hj o ho
      rcases List.mem_cons.1 hj with rfl | hj
      · obtain ⟨o', ho', hi⟩ := AOpt_elim hi
        have ho' : ops[j]? = some o' := by simpa using ho'
        rw [ho] at ho'
        injection ho' with e
        subst e
        subst hk
        exact aop_mono (N := ⟨fun σ' => @ASch P own ops.toList s σ' N⟩) (fun r Z M' _ h => (ih1 true k _ _ (σ.step o.dst r Z M') (hf.set (Array.getElem?_eq_some_iff.1 ho).1) hs h).1 rfl) hi
      · exact (ih2 false n listed lm σ hf hm hmo).2 rfl k hk j hj o ho
    refine ⟨fun ht => ?_, fun _ => key⟩
    cases n with
    | zero => simp at hn
    | succ n =>
      subst ht
      simp only [Bool.not_true, Bool.false_or, Bool.and_eq_true, List.all_eq_true] at hall
      refine ⟨fun h0 => ?_, fun j hj o ho => key n rfl j ?_ o ho⟩
      · have h1 := hall.1
        have : readyI (ops.toList.map (infOf P own ops)) 0 lm = [] := by
          rw [List.eq_nil_iff_forall_not_mem]
          intro q hq
          have := (readyI_eq (P := P) (own := own) hf q).1 hq
          rw [h0] at this
          cases this
        rw [this] at h1
        simp at h1
      · have := hall.2 j ((readyI_eq (P := P) (own := own) hf j).2 hj)
        simpa using this

theorem StR.drawn {C : Ctx} {σ : St} {a : Act} {w : World} (h : StR C σ a w) : StR C σ a { w with drawn := w.drawn + 1 } := by
  obtain ⟨hv, hd, hsz, hsl, hM, hF⟩ := h
  have hs : StepR C.A w hv [] { w with drawn := w.drawn + 1 } hv := ⟨⟨Nat.le_refl _, fun _ _ _ => rfl, fun b _ hb => hb⟩, fun i u _ h => h, rfl, rfl, rfl⟩
  refine ⟨hv, hd, hsz, fun i x hx => ?_, ⟨fun i ob hi => ?_, hM.dom, hM.inj, hM.old⟩, hF.step hs⟩
  · obtain ⟨v, h1, h2⟩ := hsl i x hx
    have := hs.rv h2
    rw [AV.kill_nil] at this
    exact ⟨v, h1, this⟩
  · obtain ⟨v, h1, h2, h3⟩ := live_step hM hs (fun v b h1 h2 => rfl) (by simp) hi
    rw [show Ob.kill [] ob = ob by cases ob; simp [Ob.kill, AV.killL_nil]] at h3
    exact ⟨v, h2, h3⟩

/-- a region whose order is drawn. -/
theorem swp_draw {id : Nat} {σ : St} {N : HN} {E : HE} {Rt : HR} (s : Sch) (tb : List Inf) (hm : P.follows .mixedOrders = true) (hok : s.fits P own ops tb = true) (h : @ASch P own ops.toList s σ N) :
    @SWp P (.region id ops true) σ N E Rt := by
  intro C a w hS
  unfold Sch.fits at hok
  rw [Bool.and_eq_true] at hok
  obtain ⟨h1, h2⟩ := hok
  have htb := tbOk_eq ops.toList tb h1
  subst htb
  rw [show (ops.toList.map (infOf P own ops)).length = ops.size by simp] at h2
  have hf : Fits ops (Array.replicate ops.size false) 0 := ⟨by simp, fun j => by
    simp only [Array.getD_eq_getD_getElem?, Array.getElem?_replicate, Nat.zero_testBit]
    split <;> rfl⟩
  exact wp_region_any hm (aany_sound (own := own) (fun σ a w hN hS => ⟨σ, hN, hS⟩) _ _ σ _ _ ((asch_any s true _ _ _ σ hf h2 h).1 rfl) hS.drawn)
end
end Aw
end Go.Proofs.Ytkolpijhgcijbaa
