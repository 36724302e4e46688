/-
  The calculus: states, regions in the order of the text.
-/
import Derived.Test.YtkolpijhgcijbaaAwL
namespace Go.Proofs.Ytkolpijhgcijbaa
namespace Aw
open Go.RowKit

structure St where
  sl : List AV
  M : Mem

def St.ev (σ : St) : Operand → AV
  | .tmp t => σ.sl.getD t .bot
  | .const v => .v v
  | .func f => .f (.func f) []
  | .global _ => .bot

def killS (Z : List Nat) (l : List AV) : List AV := if Z.isEmpty then l else AV.killL Z l

def setS (l : List AV) (d : Option Tmp) (r : AV) : List AV := match d with | some d => l.set d r | none => l

def St.step (σ : St) (d : Option Tmp) (r : AV) (Z : List Nat) (M' : Mem) : St := ⟨setS (killS Z σ.sl) d r, M'⟩

/-- the call that is walked: the world in which it began, and the blocks that it was handed. -/
structure Ctx where
  w0 : World
  In : Nat → Prop
  A : Nat → Prop

structure Frm (C : Ctx) (w : World) (hv : Nat → Option Value) : Prop where
  os : w.os = C.w0.os
  tape : w.tape = C.w0.tape
  output : w.output = C.w0.output
  size : C.w0.heap.size ≤ w.heap.size
  block : ∀ b, b < C.w0.heap.size → ¬ C.In b → w.heap[b]? = C.w0.heap[b]?
  own : ∀ b, Own hv b → C.In b ∨ C.w0.heap.size ≤ b
  aold : ∀ b, C.A b → b < C.w0.heap.size
  dis : ∀ b, C.A b → ¬ C.In b

theorem Frm.sep {C : Ctx} {w : World} {hv : Nat → Option Value} (h : Frm C w hv) {b : Nat} (hb : Own hv b) : ¬ C.A b := fun hA => by
  rcases h.own b hb with h1 | h1
  · exact h.dis b hA h1
  · have := h.aold b hA; omega

theorem Frm.step {C : Ctx} {w w' : World} {hv hv' : Nat → Option Value} {Z : List Nat} (h : Frm C w hv) (s : StepR C.A w hv Z w' hv') : Frm C w' hv' := by
  refine ⟨s.os.trans h.os, s.tape.trans h.tape, s.output.trans h.output, Nat.le_trans h.size s.kp.size, fun b hb hn => ?_, fun b hb => ?_, h.aold, h.dis⟩
  · refine (s.kp.block b (Nat.lt_of_lt_of_le hb h.size) (fun ho => ?_)).trans (h.block b hb hn)
    rcases h.own b ho with h1 | h1
    · exact hn h1
    · omega
  · rcases Nat.lt_or_ge b w.heap.size with hlt | hge
    · exact h.own b (s.kp.own b hlt hb)
    · exact .inr (Nat.le_trans h.size hge)

def StR (C : Ctx) (σ : St) (a : Act) (w : World) : Prop :=
  ∃ hv, a.defers = [] ∧ a.tmps.size = σ.sl.length ∧ (∀ (i : Nat) (x : AV), σ.sl[i]? = some x → ∃ v, a.tmps[i]? = some v ∧ RV w (OwnA C.A hv) hv x v) ∧ MemR C.A w hv σ.M ∧ Frm C w hv

section
variable {P : Program} {C : Ctx} {σ : St} {a : Act} {w : World} {Q : Exit → Act → World → Prop}

theorem ev_ok {hv : Nat → Option Value} (h : ∀ (i : Nat) (x : AV), σ.sl[i]? = some x → ∃ v, a.tmps[i]? = some v ∧ RV w (OwnA C.A hv) hv x v) (x : Operand) : RV w (OwnA C.A hv) hv (σ.ev x) (a.eval x) := by
  cases x with
  | tmp t =>
    simp only [St.ev, Act.eval, List.getD_eq_getElem?_getD]
    cases ht : σ.sl[t]? with
    | none => simp [RV]
    | some y =>
      obtain ⟨v, h1, h2⟩ := h t y ht
      simp only [Option.getD_some, Array.getD_eq_getD_getElem?, h1]
      exact h2
  | const v => simp only [St.ev, Act.eval, RV]
  | global g => simp [St.ev, RV]
  | func f => simp only [St.ev, Act.eval, RV, R]; exact ⟨#[], rfl, by simp, by simp [RL]⟩

theorem killS_get (Z : List Nat) (l : List AV) (i : Nat) : (killS Z l)[i]? = (l[i]?).map (AV.kill Z) := by
  unfold killS
  split
  · rename_i h
    have : Z = [] := by simpa using h
    subst this
    cases l[i]? <;> simp [AV.kill_nil]
  · rw [AV.killL_map, List.getElem?_map]

theorem setS_get (l : List AV) (d : Option Tmp) (r : AV) (i : Nat) {x : AV} (h : (setS l d r)[i]? = some x) : (d = some i ∧ x = r ∧ i < l.length) ∨ (d ≠ some i ∧ l[i]? = some x) := by
  cases d with
  | none => exact .inr ⟨by simp, h⟩
  | some d =>
    simp only [setS, List.getElem?_set] at h
    by_cases hd : d = i
    · subst hd
      rw [if_pos rfl] at h
      split at h
      · rename_i hlt; injection h with h; exact .inl ⟨rfl, h.symm, hlt⟩
      · cases h
    · rw [if_neg hd] at h
      exact .inr ⟨by simpa using hd, h⟩

theorem setS_len (l : List AV) (d : Option Tmp) (r : AV) : (setS l d r).length = l.length := by cases d <;> simp [setS]
theorem killS_len (Z : List Nat) (l : List AV) : (killS Z l).length = l.length := by unfold killS; split <;> simp [AV.killL_map]
theorem put_size (a : Act) (d : Option Tmp) (v : Value) : (a.put d v).tmps.size = a.tmps.size := by cases d <;> simp [Act.put]
theorem put_get (a : Act) (d : Option Tmp) (v : Value) (i : Nat) (h : d ≠ some i) : (a.put d v).tmps[i]? = a.tmps[i]? := by
  cases d with
  | none => rfl
  | some d => simp only [Act.put]; exact Array.getElem?_setIfInBounds_ne (by simpa using h)

/-- one step of the state. -/
theorem StR.next {hv hv' : Nat → Option Value} {w' : World} {Z : List Nat} {M' : Mem} {r : AV} {v : Value} {d : Option Tmp} (hd : a.defers = []) (hsz : a.tmps.size = σ.sl.length)
    (hsl : ∀ (i : Nat) (x : AV), σ.sl[i]? = some x → ∃ v, a.tmps[i]? = some v ∧ RV w (OwnA C.A hv) hv x v) (hF : Frm C w hv) (hM' : MemR C.A w' hv' M') (hr : RV w' (OwnA C.A hv') hv' r v) (hs : StepR C.A w hv Z w' hv') :
    StR C (σ.step d r Z M') (a.put d v) w' := by
  refine ⟨hv', by cases d <;> exact hd, ?_, fun i x hx => ?_, hM', hF.step hs⟩
  · rw [put_size, hsz]; simp only [St.step, setS_len, killS_len]
  · rcases setS_get _ _ _ _ hx with ⟨rfl, rfl, hlt⟩ | ⟨hne, hx⟩
    · refine ⟨v, ?_, hr⟩
      rw [killS_len] at hlt
      simp [Act.put, hsz, hlt]
    · rw [killS_get] at hx
      simp only [Option.map_eq_some_iff] at hx
      obtain ⟨y, hy, rfl⟩ := hx
      obtain ⟨u, h1, h2⟩ := hsl i y hy
      exact ⟨u, by rw [put_get _ _ _ _ hne]; exact h1, hs.rv h2⟩

/-- an operation, with its guard. -/
def aop (P : Program) (own : List Nat) (ops : List Oper) (o : Oper) (σ : St) [N : HK (St → Prop)] : Prop :=
  match o.guard with
  | none => coreC P own o σ.ev σ.M (K := ⟨fun r Z M' => N.k (σ.step o.dst r Z M')⟩)
  | some (j, want) => AOpt ((ops[j]?).bind (·.dst)) (K := ⟨fun d => AOpt (asB (σ.sl.getD d .bot)) (K := ⟨fun b =>
      @ACond (b == want) ⟨coreC P own o σ.ev σ.M (K := ⟨fun r Z M' => N.k (σ.step o.dst r Z M')⟩)⟩ ⟨N.k (σ.step o.dst .bot [] σ.M)⟩⟩)⟩)

theorem wanted_none {o : Oper} (h : o.guard = none) (y : Nat → Option Bool) : Region.wanted o y = true := by simp [Region.wanted, h]

theorem aop_sound {own : List Nat} {ops : Array Oper} {i : Nat} {o : Oper} {N : HK (St → Prop)} (ho : ops[i]? = some o) (h : aop P own ops.toList o σ (N := N)) (hS : StR C σ a w) :
    wpOp P ops Q i (fun a' w' => ∃ σ', N.k σ' ∧ StR C σ' a' w') a w := by
  obtain ⟨hv, hd, hsz, hsl, hM, hF⟩ := hS
  have hρ := ev_ok hsl
  have run : coreC P own o σ.ev σ.M (K := ⟨fun r Z M' => N.k (σ.step o.dst r Z M')⟩) → o.wp P a w (fun a' w' => ∃ σ', N.k σ' ∧ StR C σ' a' w') Q := fun hc =>
    Oper.wp_mono (fun a' w' => by
      rintro ⟨r, Z, M', hv', v, hK, rfl, hM', hr, hs⟩
      exact ⟨_, hK, StR.next hd hsz hsl hF hM' hr hs⟩) (core_sound hρ hM (coreC_core hc))
  have skip : N.k (σ.step o.dst .bot [] σ.M) → ∃ σ', N.k σ' ∧ StR C σ' (a.put o.dst undef) w := fun hN =>
    ⟨_, hN, StR.next hd hsz hsl hF hM (by simp [RV]) (StepR.refl C.A w hv)⟩
  unfold wpOp
  simp only [ho]
  unfold aop at h
  split at h
  · rename_i hg
    rw [if_pos (wanted_none hg _)]
    exact .inl (run h)
  · rename_i j want hg
    obtain ⟨d, hdst, h⟩ := AOpt_elim h
    obtain ⟨b, hb, h⟩ := AOpt_elim h
    have hb := asB_eq hb
    · · have hbv : ∃ u, a.tmps[d]? = some u ∧ u = .bool b := by
          rw [List.getD_eq_getElem?_getD] at hb
          cases hx : σ.sl[d]? with
          | none => rw [hx] at hb; simp at hb
          | some x =>
            rw [hx] at hb
            simp only [Option.getD_some] at hb
            subst hb
            obtain ⟨u, h1, h2⟩ := hsl d _ hx
            simp only [RV] at h2
            exact ⟨u, h1, h2⟩
        obtain ⟨u, hu, rfl⟩ := hbv
        have hy : yielded ops a.tmps j = some b := by
          have hdst' : (ops[j]?).bind (·.dst) = some d := by simpa using hdst
          unfold yielded
          rw [hdst']
          simp [hu]
        have hw : Region.wanted o (yielded ops a.tmps) = (b == want) := by
          simp only [Region.wanted, hg, hy]
          cases b <;> cases want <;> rfl
        rw [hw]
        obtain ⟨h1, h2⟩ := h
        cases hbw : (b == want) with
        | true => simp only [if_true]; exact .inl (run (h1 hbw))
        | false => simp only [Bool.false_eq_true, if_false]; exact skip (h2 hbw)

/-- a region, in the order of the text. -/
def AOps (P : Program) (own : List Nat) (ops : List Oper) : List Oper → St → [HK (St → Prop)] → Prop
  | [], σ, N => N.k σ
  | o :: rest, σ, N => aop P own ops o σ (N := ⟨fun σ' => @AOps P own ops rest σ' N⟩)

theorem aops_sound {own : List Nat} {ops : Array Oper} {N : HK (St → Prop)} (hQ : ∀ σ a w, N.k σ → StR C σ a w → Q .normal a w) : ∀ (l : List Oper) (k : Nat) (σ : St) (a : Act) (w : World), ops.toList.drop k = l → @AOps P own ops.toList l σ N → StR C σ a w →
    wpOps P ops Q (List.range' k l.length) a w
  | [], k, σ, a, w, _, h, hS => by simp only [List.length_nil, List.range'_zero, wpOps]; exact hQ σ a w h hS
  | o :: l, k, σ, a, w, hk, h, hS => by
    have ho : ops[k]? = some o := by
      have : (ops.toList.drop k)[0]? = some o := by rw [hk]; rfl
      rw [List.getElem?_drop] at this
      simpa using this
    have hk' : ops.toList.drop (k + 1) = l := by rw [← List.drop_drop, hk]; rfl
    rw [List.length_cons, List.range'_succ, wpOps_cons]
    refine wpOp_mono (fun a' w' => ?_) (aop_sound ho h hS)
    rintro ⟨σ', h1, h2⟩
    exact aops_sound hQ l (k + 1) σ' a' w' hk' h1 h2

theorem region_sound {own : List Nat} {id : Nat} {ops : Array Oper} {N : HK (St → Prop)} (hQ : ∀ σ a w, N.k σ → StR C σ a w → Q .normal a w) (h : @AOps P own ops.toList ops.toList σ N) (hS : StR C σ a w) : (Code.region id ops false).wp P Q a w := by
  refine wp_region ?_
  have := aops_sound (P := P) (own := own) (ops := ops) hQ ops.toList 0 σ a w rfl h hS
  rw [List.range_eq_range']
  simpa using this
end

end Aw
end Go.Proofs.Ytkolpijhgcijbaa
