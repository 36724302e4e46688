/-
  The calculus: regions whose order is drawn.
-/
import Derived.Test.YtkolpijhgcijbaaAwN
namespace Go.Proofs.Ytkolpijhgcijbaa
namespace Aw
open Go.RowKit

theorem AV.kill_pure (Z : List Nat) (a : AV) : a.pure = true → a.kill Z = a := by
  refine AV.rec (motive_1 := fun a => a.pure = true → a.kill Z = a) (motive_2 := fun l => AV.pureL l = true → AV.killL Z l = l) ?_ ?_ ?_ ?_ ?_ ?_ ?_ ?_ ?_ ?_ ?_ a <;> intros <;> simp_all [AV.pure, AV.pureL, AV.kill, AV.killL]

section
variable {P : Program} {own : List Nat} {ops : Array Oper}

def St.put (σ : St) (d : Option Tmp) (r : AV) : St := ⟨setS σ.sl d r, σ.M⟩

theorem killS_nil (l : List AV) : killS [] l = l := by simp [killS]
theorem killS_map (Z : List Nat) (l : List AV) : killS Z l = l.map (AV.kill Z) := by
  apply List.ext_getElem?
  intro i
  rw [killS_get, List.getElem?_map]
theorem killS_setS (Z : List Nat) (l : List AV) (d : Option Tmp) (r : AV) : killS Z (setS l d r) = setS (killS Z l) d (r.kill Z) := by
  cases d with
  | none => rfl
  | some d => simp only [killS_map, setS, List.map_set]
theorem setS_comm (l : List AV) {d e : Option Tmp} (r s : AV) (h : ∀ t, d = some t → e ≠ some t) : setS (setS l d r) e s = setS (setS l e s) d r := by
  cases d with
  | none => rfl
  | some d =>
    cases e with
    | none => rfl
    | some e =>
      have hne : d ≠ e := fun he => h d rfl (he ▸ rfl)
      simp only [setS]
      exact List.set_comm _ _ hne
theorem setS_getD (l : List AV) {d : Option Tmp} (r : AV) {t : Nat} (h : d ≠ some t) : (setS l d r).getD t .bot = l.getD t .bot := by
  cases d with
  | none => rfl
  | some d =>
    simp only [setS, List.getD_eq_getElem?_getD]
    rw [List.getElem?_set_ne (by simpa using h)]
theorem killS_getD (Z : List Nat) (l : List AV) (t : Nat) : (killS Z l).getD t .bot = (l.getD t .bot).kill Z := by
  simp only [List.getD_eq_getElem?_getD, killS_get]
  cases l[t]? <;> simp [AV.kill]

def Seen (ops : Array Oper) (oi : Oper) (M0 : Mem) (σ0 σ : St) : Prop := (∀ t ∈ oi.looksAt ops, σ.sl.getD t .bot = σ0.sl.getD t .bot) ∧ MLe M0 σ.M

theorem ev_seen {o : Oper} {σ σ0 : St} (h : ∀ t ∈ o.looksAt ops, σ.sl.getD t .bot = σ0.sl.getD t .bot) : ∀ x ∈ o.op.operands, σ.ev x = σ0.ev x := by
  intro x hx
  cases x with
  | tmp t => exact h t (List.mem_append_left _ (List.mem_filterMap.2 ⟨.tmp t, by simpa using hx, rfl⟩))
  | const v => rfl
  | func f => rfl
  | global g => rfl

def PureC (ops : Array Oper) (oi : Oper) (σ0 : St) (r : AV) : Prop := (∀ t ∈ oi.looksAt ops, (σ0.sl.getD t .bot).pure = true) ∧ r.pure = true

theorem aop_mono {o : Oper} {σ : St} {N N' : HN} (h : ∀ r Z M', Cls o σ.M Z M' → N.k (σ.step o.dst r Z M') → N'.k (σ.step o.dst r Z M')) (hc : @aop P own ops.toList o σ N) : @aop P own ops.toList o σ N' := by
  have hb : N.k (σ.step o.dst .bot [] σ.M) → N'.k (σ.step o.dst .bot [] σ.M) := h _ _ _ ⟨fun _ => rfl, fun _ => MLe.refl _⟩
  unfold aop at hc ⊢
  split
  · rename_i hg
    simp only [hg] at hc
    exact coreC_mono h hc
  · rename_i j want hg
    simp only [hg] at hc
    revert hc
    exact AOpt_mono fun d _ => AOpt_mono fun b _ => ACond_mono (coreC_mono h) hb

theorem aop_swap {oi oj : Oper} {σ0 σ : St} {M0 : Mem} {r : AV} {N : HN} (hap : oi.apart ops oj = true) (hs : Seen ops oi M0 σ0 σ) (h2 : Op.cls oj.op < 2 ∨ PureC ops oi σ0 r) (h1 : Op.cls oj.op < 1 ∨ M0 = [])
    (h : @aop P own ops.toList oj (σ.put oi.dst r) N) : @aop P own ops.toList oj σ ⟨fun σ' => Seen ops oi M0 σ0 σ' ∧ N.k (σ'.put oi.dst r)⟩ := by
  obtain ⟨a1, a2, a3⟩ := Oper.apart_spec hap
  have step : ∀ r' Z M', Cls oj σ.M Z M' → N.k ((σ.put oi.dst r).step oj.dst r' Z M') → Seen ops oi M0 σ0 (σ.step oj.dst r' Z M') ∧ N.k ((σ.step oj.dst r' Z M').put oi.dst r) := by
    intro r' Z M' hcls hN
    have hk : ∀ x : AV, (PureC ops oi σ0 r → x.pure = true) → x.kill Z = x := fun x hx => by
      rcases h2 with h2 | h2
      · rw [hcls.1 h2, AV.kill_nil]
      · exact AV.kill_pure Z x (hx h2)
    refine ⟨⟨fun t ht => ?_, ?_⟩, ?_⟩
    · have hne : oj.dst ≠ some t := fun e => a3 t e ht
      simp only [St.step]
      rw [setS_getD _ _ hne, killS_getD, hs.1 t ht]
      exact hk _ fun hp => hp.1 t ht
    · rcases h1 with h1 | h1
      · exact hs.2.trans (hcls.2 h1)
      · subst h1; exact MLe.nil _
    · have : (σ.put oi.dst r).step oj.dst r' Z M' = (σ.step oj.dst r' Z M').put oi.dst r := by
        simp only [St.put, St.step, killS_setS]
        rw [hk r fun hp => hp.2, setS_comm _ _ _ a2]
      rw [← this]
      exact hN
  have hev : ∀ x ∈ oj.op.operands, (σ.put oi.dst r).ev x = σ.ev x := ev_seen (ops := ops) fun t ht => setS_getD _ _ fun e => a1 t e ht
  have hM : (σ.put oi.dst r).M = σ.M := rfl
  unfold aop at h ⊢
  split
  · rename_i hg
    simp only [hg] at h
    exact coreC_mono step (coreC_congr hev h)
  · rename_i j want hg
    simp only [hg] at h
    obtain ⟨d, hd, h⟩ := AOpt_elim h
    have hl : d ∈ oj.looksAt ops := by
      refine List.mem_append_right _ ?_
      have hd' : (ops[j]?).bind (·.dst) = some d := by simpa using hd
      simp only [hg, hd', Option.toList_some, List.mem_singleton]
    have hsl : (σ.put oi.dst r).sl.getD d .bot = σ.sl.getD d .bot := setS_getD _ _ fun e => a1 d e hl
    obtain ⟨b, hb, h⟩ := AOpt_elim (α := Bool) h
    rw [hsl] at hb
    simp only [hd, AOpt_some, hb]
    revert h
    exact ACond_mono (fun h => coreC_mono step (coreC_congr hev h)) (fun h => step _ _ _ ⟨fun _ => rfl, fun _ => MLe.refl _⟩ h)

/-- every order. -/
def AAny (P : Program) (own : List Nat) (ops : Array Oper) (N : St → Prop) : Nat → Array Bool → St → Prop
  | 0, listed, σ => Region.ready .any ops listed = [] ∧ N σ
  | n + 1, listed, σ => (Region.ready .any ops listed = [] → N σ) ∧ ∀ i ∈ Region.ready .any ops listed, ∀ o, ops[i]? = some o → @aop P own ops.toList o σ ⟨AAny P own ops N n (listed.setIfInBounds i true)⟩

theorem aany_sound {C : Ctx} {Q : Exit → Act → World → Prop} {N : St → Prop} (hQ : ∀ σ a w, N σ → StR C σ a w → Q .normal a w) : ∀ (n : Nat) (listed : Array Bool) (σ : St) (a : Act) (w : World), AAny P own ops N n listed σ → StR C σ a w →
    wpAny P .any ops Q n listed a w
  | 0, listed, σ, a, w, h, hS => ⟨h.1, hQ σ a w h.2 hS⟩
  | n + 1, listed, σ, a, w, h, hS => ⟨fun h0 => hQ σ a w (h.1 h0) hS, fun i hi => by
      obtain ⟨_, o, ho, _⟩ := mem_ready.1 hi
      refine wpOp_mono (fun a' w' => ?_) (aop_sound ho (h.2 i hi o ho) hS)
      rintro ⟨σ', h1, h2⟩
      exact aany_sound hQ n _ σ' a' w' h1 h2⟩

theorem aany_first {i : Nat} {oi : Oper} {r : AV} {M0 : Mem} {σ0 : St} {N : St → Prop} {dep : Nat → Bool} (hi : ops[i]? = some oi)
    (hY : ∀ σ, Seen ops oi M0 σ0 σ → ∀ N : HN, N.k (σ.put oi.dst r) → @aop P own ops.toList oi σ N)
    (hdep : ∀ j oj, ops[j]? = some oj → dep j = true → j = i ∨ ∃ e ∈ oj.after, Region.binds .any e = true ∧ dep e.on = true) :
    ∀ (n : Nat) (listed : Array Bool) (σ : St), Seen ops oi M0 σ0 σ →
      (∀ j, listed.getD j false = true → dep j = false) →
      (∀ j oj, ops[j]? = some oj → j ≠ i → dep j = false → listed.getD j true = false → oi.apart ops oj = true ∧ (Op.cls oj.op < 2 ∨ PureC ops oi σ0 r) ∧ (Op.cls oj.op < 1 ∨ M0 = [])) →
      i ∈ Region.ready .any ops listed → AAny P own ops N n (listed.setIfInBounds i true) (σ.put oi.dst r) → AAny P own ops N (n + 1) listed σ := by
  intro n
  induction n with
  | zero =>
    intro listed σ hs _ _ hr H
    refine ⟨fun h => (by rw [h] at hr; cases hr), fun j hj o ho => ?_⟩
    by_cases hji : j = i
    · subst hji
      rw [hi] at ho
      injection ho with ho
      subst ho
      exact hY σ hs ⟨AAny P own ops N 0 _⟩ H
    · have := ready_mono hj hji
      rw [H.1] at this
      cases this
  | succ n ih =>
    intro listed σ hs hlist hfree hr H
    refine ⟨fun h => (by rw [h] at hr; cases hr), fun j hj oj hoj => ?_⟩
    by_cases hji : j = i
    · subst hji
      rw [hi] at hoj
      injection hoj with ho
      subst ho
      exact hY σ hs ⟨AAny P own ops N (n + 1) _⟩ H
    · have g1 := H.2 j (ready_mono hj hji) oj hoj
      obtain ⟨hjun, oj', hoj', hall⟩ := mem_ready.1 hj
      rw [hoj] at hoj'
      injection hoj' with ho
      subst ho
      have hjd : dep j = false := by
        cases hd : dep j with
        | false => rfl
        | true =>
          rcases hdep j oj hoj hd with h | ⟨e, he, hb, hde⟩
          · exact absurd h hji
          · have := hlist e.on (hall e he hb)
            rw [hde] at this
            cases this
      obtain ⟨f1, f2, f3⟩ := hfree j oj hoj hji hjd hjun
      have g2 := aop_swap f1 hs f2 f3 g1
      refine aop_mono (fun r' Z M' hcls h => ?_) g2
      refine ih (listed.setIfInBounds j true) _ h.1 (fun k hk => ?_) (fun k ok hk hki hkd hun => ?_) (ready_mono hr (Ne.symm hji)) ?_
      · by_cases hjk : j = k
        · subst hjk; exact hjd
        · rw [getD_set_ne false hjk] at hk; exact hlist k hk
      · refine hfree k ok hk hki hkd ?_
        by_cases hjk : j = k
        · subst hjk; exact hjun
        · rw [getD_set_ne true hjk] at hun; exact hun
      · rw [Array.setIfInBounds_comm _ _ hji]
        exact h.2

inductive Md | reads | plain | over

def Md.mem : Md → Mem → Mem | .reads, M => M | _, _ => []
def Md.need : Md → List Nat → List AV → AV → Prop
  | .over, ts, sl, r => (ts.all fun t => (sl.getD t .bot).pure) = true ∧ r.pure = true
  | _, _, _, _ => True

/-- an operation that is taken first. -/
def atake (P : Program) (own : List Nat) (ops : List Oper) (o : Oper) (m : Md) (ts : List Nat) (σ : St) [N : HN] : Prop :=
  match o.guard with
  | none => coreC P own o σ.ev (m.mem σ.M) (K := ⟨fun r _ _ => m.need ts σ.sl r ∧ N.k (σ.put o.dst r)⟩)
  | some (j, want) => AOpt ((ops[j]?).bind (·.dst)) (K := ⟨fun d => AOpt (asB (σ.sl.getD d .bot)) (K := ⟨fun b =>
      @ACond (b == want) ⟨coreC P own o σ.ev (m.mem σ.M) (K := ⟨fun r _ _ => m.need ts σ.sl r ∧ N.k (σ.put o.dst r)⟩)⟩ ⟨m.need ts σ.sl .bot ∧ N.k (σ.put o.dst .bot)⟩⟩)⟩)

inductive Sch
  | done
  | take (i : Nat) (m : Md) (ts : List Nat) (s : Sch)
  | nil
  | alt (i : Nat) (s : Sch) (more : Sch)

def ASch (P : Program) (own : List Nat) (ops : List Oper) : Sch → St → [HN] → Prop
  | .done, σ, N => N.k σ
  | .take i m ts s, σ, N => AOpt (ops[i]?) (K := ⟨fun o => @atake P own ops o m ts σ ⟨fun σ' => @ASch P own ops s σ' N⟩⟩)
  | .nil, _, _ => True
  | .alt i s more, σ, N => AOpt (ops[i]?) (K := ⟨fun o => @aop P own ops o σ ⟨fun σ' => @ASch P own ops s σ' N⟩⟩) ∧ @ASch P own ops more σ N

/-- what is asked of an operation by the check of a schedule: its slot (and 1), the slots that it looks at, what it comes after, its class, whether it can be taken first. -/
structure Inf where
  dst : Nat
  lk : Nat
  af : Nat
  cls : Nat
  det : Bool

def maskOf : List Nat → Nat
  | [] => 0
  | t :: l => (1 <<< t) ||| maskOf l

theorem one_bit {k : Nat} (h : k ≠ 0) : Nat.testBit 1 k = false := by
  obtain ⟨m, rfl⟩ : ∃ m, k = m + 1 := ⟨k - 1, by omega⟩
  simp [Nat.testBit_succ]

theorem maskOf_bit (t : Nat) : ∀ l : List Nat, (maskOf l).testBit t = l.contains t
  | [] => by simp [maskOf]
  | u :: l => by
    rw [maskOf, Nat.testBit_or, maskOf_bit t l, List.contains_cons, Nat.testBit_shiftLeft]
    by_cases h : t = u
    · subst h; simp
    · have h' : (t == u) = false := by simpa using h
      rw [h']
      by_cases hge : u ≤ t
      · have : t - u ≠ 0 := by omega
        simp [hge, one_bit this]
      · simp [hge]

def infOf (P : Program) (own : List Nat) (ops : Array Oper) (o : Oper) : Inf :=
  ⟨match o.dst with | none => 0 | some t => t + 1, maskOf (o.looksAt ops), maskOf ((o.after.toList.filter (Region.binds .any)).map (·.on)), Op.cls o.op, det P own o⟩

def Inf.eqb (x y : Inf) : Bool := Nat.beq x.dst y.dst && Nat.beq x.lk y.lk && Nat.beq x.af y.af && Nat.beq x.cls y.cls && (x.det == y.det)
theorem Inf.eqb_eq {x y : Inf} (h : x.eqb y = true) : x = y := by
  obtain ⟨a, b, c, d, e⟩ := x
  obtain ⟨a', b', c', d', e'⟩ := y
  simp only [Inf.eqb, Bool.and_eq_true, Nat.beq_eq, beq_iff_eq] at h
  obtain ⟨⟨⟨⟨h1, h2⟩, h3⟩, h4⟩, h5⟩ := h
  subst h1; subst h2; subst h3; subst h4; subst h5; rfl

def tbOk (P : Program) (own : List Nat) (ops : Array Oper) : List Oper → List Inf → Bool
  | [], [] => true
  | o :: l, x :: tb => (infOf P own ops o).eqb x && tbOk P own ops l tb
  | _, _ => false
theorem tbOk_eq {P : Program} {own : List Nat} {ops : Array Oper} : ∀ (l : List Oper) (tb : List Inf), tbOk P own ops l tb = true → tb = l.map (infOf P own ops)
  | [], [], _ => rfl
  | o :: l, x :: tb, h => by
    simp only [tbOk, Bool.and_eq_true] at h
    rw [List.map_cons, tbOk_eq l tb h.2, Inf.eqb_eq h.1]
  | [], _ :: _, h => by simp [tbOk] at h
  | _ :: _, [], h => by simp [tbOk] at h

def Inf.apart (x y : Inf) : Bool :=
  (match x.dst with | 0 => true | d + 1 => !(y.lk.testBit d) && !(Nat.beq y.dst (d + 1))) && (match y.dst with | 0 => true | d + 1 => !(x.lk.testBit d))

theorem Inf.apart_eq (P : Program) (own : List Nat) (ops : Array Oper) (o o' : Oper) : (infOf P own ops o).apart (infOf P own ops o') = o.apart ops o' := by
  unfold Inf.apart Oper.apart infOf
  congr 1
  · cases o.dst with
    | none => rfl
    | some d =>
      have : (!(Nat.beq (match o'.dst with | none => 0 | some t => t + 1) (d + 1))) = (o'.dst != some d) := by
        cases o'.dst with
        | none => rfl
        | some e =>
          by_cases h : e = d
          · subst h; simp
          · have hb : Nat.beq (e + 1) (d + 1) = false := by
              cases hb : Nat.beq (e + 1) (d + 1) with
              | false => rfl
              | true => exact absurd (Nat.succ.inj (Nat.eq_of_beq_eq_true hb)) h
            simp only [hb]
            simp [h]
      simp only [maskOf_bit, this]
  · cases o'.dst with
    | none => rfl
    | some d => simp only [maskOf_bit]

/-- what may come next, when the operations of the mask are done. -/
def readyI : List Inf → Nat → Nat → List Nat
  | [], _, _ => []
  | x :: tb, k, lm => if !(lm.testBit k) && Nat.beq (x.af &&& lm) x.af then k :: readyI tb (k + 1) lm else readyI tb (k + 1) lm

/-- what comes after i. -/
def depsI (i : Nat) : List Inf → Nat → Nat → Nat
  | [], _, m => m
  | x :: tb, k, m => depsI i tb (k + 1) (if Nat.beq k i || !(Nat.beq (x.af &&& m) 0) then m ||| (1 <<< k) else m)

def depOkI (i d : Nat) : List Inf → Nat → Bool
  | [], _ => true
  | x :: tb, k => (!(d.testBit k) || Nat.beq k i || !(Nat.beq (x.af &&& d) 0)) && depOkI i d tb (k + 1)

def freeI (i : Nat) (xi : Inf) (m : Md) (lm d : Nat) : List Inf → Nat → Bool
  | [], _ => true
  | x :: tb, k => (Nat.beq k i || d.testBit k || lm.testBit k || (xi.apart x && (match m with | .reads => Nat.blt x.cls 1 | .plain => Nat.blt x.cls 2 | .over => true))) && freeI i xi m lm d tb (k + 1)

def takeI (tb : List Inf) (i : Nat) (m : Md) (ts : List Nat) (lm d : Nat) : Bool :=
  match tb[i]? with
  | none => false
  | some x => x.det && depOkI i d tb 0 && Nat.beq (lm &&& d) 0 && freeI i x m lm d tb 0 && (match m with | .over => Nat.beq (x.lk &&& maskOf ts) x.lk | _ => true)

def Sch.alts : Sch → List Nat
  | .alt i _ more => i :: more.alts
  | _ => []

def Sch.ok (tb : List Inf) : Sch → Bool → Nat → Nat → Bool
  | .done, top, _, lm => top && (readyI tb 0 lm).isEmpty
  | .take i m ts s, top, n, lm => top && !(Nat.beq n 0) && (readyI tb 0 lm).contains i && takeI tb i m ts lm (depsI i tb 0 0) && s.ok tb true (n - 1) (lm ||| (1 <<< i))
  | .nil, top, _, _ => !top
  | .alt i s more, top, n, lm => !(Nat.beq n 0) && (!top || (!(readyI tb 0 lm).isEmpty && (readyI tb 0 lm).all (i :: more.alts).contains)) && s.ok tb true (n - 1) (lm ||| (1 <<< i)) && more.ok tb false n lm

/-- the schedule fits the region. -/
def Sch.fits (P : Program) (own : List Nat) (ops : Array Oper) (s : Sch) (tb : List Inf) : Bool := tbOk P own ops ops.toList tb && s.ok tb true tb.length 0

end
end Aw
end Go.Proofs.Ytkolpijhgcijbaa
