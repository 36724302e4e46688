/-
  Several texts in one: Aw1, Aw2, Aw3, Aw4, Aw5, Aw6, Aw7, Aw8, Aw9, AwA, AwB, AwC, AwD, AwE, AwT, AwF.
-/
import Derived.WalkKit
import Derived.Orders
import Derived.Laws.StructEq
import Derived.Maps.Keyed
import Derived.Maps.AppendAt
import Derived.MapKept
import Derived.Laws.MakeOwn
set_option linter.unusedSimpArgs false
set_option linter.unusedVariables false
namespace Go.Proofs.Ytkolpijhgcijbaa
namespace Aw
open Go.RowKit

/-- An abstract value. -/
inductive AV where
  | bot
  | v (x : Value)
  | s (k : Nat) (xs : List AV)
  | g (xs : List AV)
  | t (xs : List AV)
  | p (x : AV) (off : Nat)
  | o (i : Nat)
  | q (i k j off : Nat)
  | f (fn : Fn) (cap : List AV)
  deriving Inhabited

abbrev I (n : Int) : AV := .v (.int .i64 n)
abbrev B (b : Bool) : AV := .v (.bool b)

mutual
def AV.size : AV → Nat
  | .g xs => AV.sizeL xs
  | _ => 1
def AV.sizeL : List AV → Nat
  | [] => 0
  | x :: xs => x.size + AV.sizeL xs
end

mutual
/-- the objects of the list Z are forgotten. -/
def AV.kill (Z : List Nat) : AV → AV
  | .o i => if Z.contains i then .bot else .o i
  | .q i k j off => if Z.contains i then .bot else .q i k j off
  | .g xs => .g (AV.killL Z xs)
  | .t xs => .t (AV.killL Z xs)
  | .f fn xs => .f fn (AV.killL Z xs)
  | a => a
def AV.killL (Z : List Nat) : List AV → List AV
  | [] => []
  | x :: xs => x.kill Z :: AV.killL Z xs
end

mutual
/-- no object of the list Z is named. -/
def AV.free (Z : List Nat) : AV → Bool
  | .o i => !Z.contains i
  | .q i _ _ _ => !Z.contains i
  | .g xs => AV.freeL Z xs
  | .t xs => AV.freeL Z xs
  | .f _ xs => AV.freeL Z xs
  | _ => true
def AV.freeL (Z : List Nat) : List AV → Bool
  | [] => true
  | x :: xs => x.free Z && AV.freeL Z xs
end

theorem AV.kill_free (Z : List Nat) (a : AV) : a.free Z = true → a.kill Z = a := by
  refine AV.rec (motive_1 := fun a => a.free Z = true → a.kill Z = a) (motive_2 := fun l => AV.freeL Z l = true → AV.killL Z l = l) ?_ ?_ ?_ ?_ ?_ ?_ ?_ ?_ ?_ ?_ ?_ a <;> intros <;> simp_all [AV.free, AV.freeL, AV.kill, AV.killL]
theorem AV.free_nil (a : AV) : a.free [] = true := by
  refine AV.rec (motive_1 := fun a => a.free [] = true) (motive_2 := fun l => AV.freeL [] l = true) ?_ ?_ ?_ ?_ ?_ ?_ ?_ ?_ ?_ ?_ ?_ a <;> intros <;> simp_all [AV.free, AV.freeL]
theorem AV.kill_nil (a : AV) : a.kill [] = a := AV.kill_free [] a (AV.free_nil a)
theorem AV.killL_map (Z : List Nat) : ∀ l : List AV, AV.killL Z l = l.map (AV.kill Z)
  | [] => rfl
  | x :: xs => by simp [AV.killL, AV.killL_map Z xs]
theorem AV.killL_nil (l : List AV) : AV.killL [] l = l := by
  rw [AV.killL_map]; induction l <;> simp_all [AV.kill_nil]
theorem AV.size_kill (Z : List Nat) (a : AV) : (a.kill Z).size = a.size := by
  refine AV.rec (motive_1 := fun a => (a.kill Z).size = a.size) (motive_2 := fun l => AV.sizeL (AV.killL Z l) = AV.sizeL l) ?_ ?_ ?_ ?_ ?_ ?_ ?_ ?_ ?_ ?_ ?_ a <;> intros <;> simp_all [AV.kill, AV.killL, AV.size, AV.sizeL] <;> split <;> rfl

def AV.single : AV → Bool
  | .g _ | .t _ => false
  | _ => true
theorem AV.single_kill (Z : List Nat) (a : AV) (h : a.single = true) : (a.kill Z).single = true := by
  cases a with
  | o i => simp only [AV.kill]; split <;> rfl
  | q i k j off => simp only [AV.kill]; split <;> rfl
  | g xs => cases h
  | t xs => cases h
  | _ => rfl

def noHv : Nat → Option Value := fun _ => none

def Readable (w : World) (T : Nat → Prop) (A : Option Addr) (ws : List Value) : Prop :=
  ∃ b off, A = some ⟨b, off, none⟩ ∧ b < w.heap.size ∧ ¬ T b ∧ ∀ j u, ws[j]? = some u → w.cell? ⟨b, off + j, none⟩ = some u

mutual
/-- what an abstract value says of the cells us of a value. -/
def R (w : World) (T : Nat → Prop) : (Nat → Option Value) → AV → List Value → Prop
  | _, .bot, us => ∃ u : Value, us = [u] ∧ u.oneCell' = true
  | _, .v x, us => us = [x] ∧ x.oneCell' = true
  | _, .s k xs, us => ∃ A c ws, us = [.slice A xs.length c] ∧ xs.length ≤ c ∧ c ≤ maxLen ∧ (∀ x ∈ xs, x.size = k) ∧ RL w T noHv xs ws ∧ (xs ≠ [] → Readable w T A ws)
  | hv, .g xs, us => RL w T hv xs us
  | _, .t _, _ => False
  | _, .p x off, us => ∃ b o ws, us = [.pointer (some ⟨b, o + off, none⟩)] ∧ R w T noHv x ws ∧ Readable w T (some ⟨b, o, none⟩) ws
  | hv, .o i, us => ∃ v, hv i = some v ∧ us = [v] ∧ v.oneCell' = true
  | hv, .q i k j off, us => ∃ b n c, hv i = some (.slice (some ⟨b, 0, none⟩) n c) ∧ us = [.pointer (some ⟨b, j * k + off, none⟩)]
  | hv, .f fn cap, us => ∃ cs : Array Value, us = [.func fn #[] cs] ∧ (∀ x ∈ cap, x.single = true) ∧ RL w T hv cap cs.toList
def RL (w : World) (T : Nat → Prop) : (Nat → Option Value) → List AV → List Value → Prop
  | _, [], us => us = []
  | hv, x :: xs, us => ∃ u1 u2, us = u1 ++ u2 ∧ R w T hv x u1 ∧ RL w T hv xs u2
end

mutual
/-- what an abstract value says of a value. -/
def RV (w : World) (T : Nat → Prop) (hv : Nat → Option Value) : AV → Value → Prop
  | .bot, _ => True
  | .v x, v => v = x
  | .g xs, v => ∃ cs, v = .agg cs ∧ RL w T hv xs cs.toList
  | .t xs, v => ∃ vs, v = .tuple vs ∧ RVL w T hv xs vs.toList
  | a, v => R w T hv a [v]
def RVL (w : World) (T : Nat → Prop) (hv : Nat → Option Value) : List AV → List Value → Prop
  | [], vs => vs = []
  | x :: xs, vs => ∃ u us, vs = u :: us ∧ RV w T hv x u ∧ RVL w T hv xs us
end

theorem R_size {w : World} {T : Nat → Prop} : ∀ (a : AV) (hv : Nat → Option Value) (us : List Value), R w T hv a us → us.length = a.size := by
  intro a
  refine AV.rec (motive_1 := fun a => ∀ hv us, R w T hv a us → us.length = a.size) (motive_2 := fun l => ∀ hv us, RL w T hv l us → us.length = AV.sizeL l)
    ?_ ?_ ?_ ?_ ?_ ?_ ?_ ?_ ?_ ?_ ?_ a
  · intro hv us h; simp only [R] at h; obtain ⟨u, rfl, _⟩ := h; rfl
  · intro x hv us h; simp only [R] at h; rw [h.1]; rfl
  · intro k xs _ hv us h; simp only [R] at h; obtain ⟨A, c, ws, rfl, _⟩ := h; rfl
  · intro xs ih hv us h; simp only [R] at h; simpa [AV.size] using ih _ _ h
  · intro xs _ hv us h; simp [R] at h
  · intro x off _ hv us h; simp only [R] at h; obtain ⟨b, o, ws, rfl, _⟩ := h; rfl
  · intro i hv us h; simp only [R] at h; obtain ⟨v, _, rfl, _⟩ := h; rfl
  · intro i k j off hv us h; simp only [R] at h; obtain ⟨b, n, c, _, rfl⟩ := h; rfl
  · intro fn cap _ hv us h; simp only [R] at h; obtain ⟨cs, rfl, _⟩ := h; rfl
  · intro hv us h; simp only [RL] at h; subst h; rfl
  · intro x xs ih1 ih2 hv us h; simp only [RL] at h; obtain ⟨u1, u2, rfl, h1, h2⟩ := h; simp [AV.sizeL, ih1 _ _ h1, ih2 _ _ h2]

/-- from (w, T) to (w', T'): old cells outside T are kept. -/
structure Keeps (w : World) (T : Nat → Prop) (w' : World) (T' : Nat → Prop) : Prop where
  size : w.heap.size ≤ w'.heap.size
  block : ∀ b, b < w.heap.size → ¬ T b → w'.heap[b]? = w.heap[b]?
  own : ∀ b, b < w.heap.size → T' b → T b

theorem Keeps.refl (w : World) (T : Nat → Prop) : Keeps w T w T := ⟨Nat.le_refl _, fun _ _ _ => rfl, fun _ _ h => h⟩
theorem Keeps.trans {w w1 w2 : World} {T T1 T2 : Nat → Prop} (h : Keeps w T w1 T1) (k : Keeps w1 T1 w2 T2) : Keeps w T w2 T2 :=
  ⟨Nat.le_trans h.size k.size, fun b hb hT => (k.block b (Nat.lt_of_lt_of_le hb h.size) (fun h1 => hT (h.own b hb h1))).trans (h.block b hb hT),
    fun b hb h2 => h.own b hb (k.own b (Nat.lt_of_lt_of_le hb h.size) h2)⟩

theorem Readable.keep {w w' : World} {T T' : Nat → Prop} (hk : Keeps w T w' T') {A : Option Addr} {ws : List Value} (h : Readable w T A ws) : Readable w' T' A ws := by
  obtain ⟨b, off, rfl, hb, hT, hc⟩ := h
  refine ⟨b, off, rfl, Nat.lt_of_lt_of_le hb hk.size, fun h' => hT (hk.own b hb h'), fun j u hu => ?_⟩
  rw [World.cell?_of_block (w := w) (hk.block b hb hT)]
  exact hc j u hu

theorem R_keep {w w' : World} {T T' : Nat → Prop} (hk : Keeps w T w' T') : ∀ (a : AV) (Z : List Nat) (hv hv' : Nat → Option Value) (us : List Value), (∀ i u, i ∉ Z → hv i = some u → hv' i = some u) →
    R w T hv a us → R w' T' hv' (a.kill Z) us := by
  intro a
  refine AV.rec (motive_1 := fun a => ∀ Z hv hv' us, (∀ i u, i ∉ Z → hv i = some u → hv' i = some u) → R w T hv a us → R w' T' hv' (a.kill Z) us)
    (motive_2 := fun l => ∀ Z hv hv' us, (∀ i u, i ∉ Z → hv i = some u → hv' i = some u) → RL w T hv l us → RL w' T' hv' (AV.killL Z l) us)
    ?_ ?_ ?_ ?_ ?_ ?_ ?_ ?_ ?_ ?_ ?_ a
  · intro Z hv hv' us hh h; simpa [R, AV.kill] using h
  · intro x Z hv hv' us hh h; simpa only [R, AV.kill] using h
  · intro k xs ih Z hv hv' us hh h
    simp only [R, AV.kill] at h ⊢
    obtain ⟨A, c, ws, hus, h1, h2, h3, h4, h5⟩ := h
    have := ih [] noHv noHv ws (fun i u _ h => h) h4
    rw [AV.killL_nil] at this
    exact ⟨A, c, ws, hus, h1, h2, h3, this, fun hne => (h5 hne).keep hk⟩
  · intro xs ih Z hv hv' us hh h
    simp only [R, AV.kill] at h ⊢
    exact ih Z hv hv' us hh h
  · intro xs ih Z hv hv' us hh h; simp [R] at h
  · intro x off ih Z hv hv' us hh h
    simp only [R, AV.kill] at h ⊢
    obtain ⟨b, o, ws, hus, h1, h2⟩ := h
    have := ih [] noHv noHv ws (fun i u _ h => h) h1
    rw [AV.kill_nil] at this
    exact ⟨b, o, ws, hus, this, h2.keep hk⟩
  · intro i Z hv hv' us hh h
    simp only [R] at h
    obtain ⟨v, h1, rfl, h2⟩ := h
    simp only [AV.kill]
    split
    · exact ⟨v, rfl, h2⟩
    · rename_i hc
      exact ⟨v, hh i v (by simpa using hc) h1, rfl, h2⟩
  · intro i k j off Z hv hv' us hh h
    simp only [R] at h
    obtain ⟨b, n, c, h1, rfl⟩ := h
    simp only [AV.kill]
    split
    · exact ⟨_, rfl, rfl⟩
    · rename_i hc
      exact ⟨b, n, c, hh i _ (by simpa using hc) h1, rfl⟩
  · intro fn cap ih Z hv hv' us hh h
    simp only [R, AV.kill] at h ⊢
    obtain ⟨cs, h1, h2, h3⟩ := h
    exact ⟨cs, h1, fun x hx => by rw [AV.killL_map] at hx; obtain ⟨y, hy, rfl⟩ := List.mem_map.1 hx; exact AV.single_kill Z y (h2 y hy), ih Z hv hv' _ hh h3⟩
  · intro Z hv hv' us hh h; simpa only [RL, AV.killL] using h
  · intro x xs ih1 ih2 Z hv hv' us hh h
    simp only [RL, AV.killL] at h ⊢
    obtain ⟨u1, u2, rfl, h1, h2⟩ := h
    exact ⟨u1, u2, rfl, ih1 Z hv hv' u1 hh h1, ih2 Z hv hv' u2 hh h2⟩

theorem RL_keep {w w' : World} {T T' : Nat → Prop} (hk : Keeps w T w' T') {Z : List Nat} {hv hv' : Nat → Option Value} (hh : ∀ i u, i ∉ Z → hv i = some u → hv' i = some u) :
    ∀ (l : List AV) (us : List Value), RL w T hv l us → RL w' T' hv' (AV.killL Z l) us
  | [], us, h => by simpa only [RL, AV.killL] using h
  | x :: xs, us, h => by
    simp only [RL, AV.killL] at h ⊢
    obtain ⟨u1, u2, rfl, h1, h2⟩ := h
    exact ⟨u1, u2, rfl, R_keep hk x Z hv hv' u1 hh h1, RL_keep hk hh xs u2 h2⟩

theorem RV_keep {w w' : World} {T T' : Nat → Prop} (hk : Keeps w T w' T') : ∀ (a : AV) (Z : List Nat) (hv hv' : Nat → Option Value) (v : Value), (∀ i u, i ∉ Z → hv i = some u → hv' i = some u) →
    RV w T hv a v → RV w' T' hv' (a.kill Z) v := by
  intro a
  refine AV.rec (motive_1 := fun a => ∀ Z hv hv' v, (∀ i u, i ∉ Z → hv i = some u → hv' i = some u) → RV w T hv a v → RV w' T' hv' (a.kill Z) v)
    (motive_2 := fun l => ∀ Z hv hv' vs, (∀ i u, i ∉ Z → hv i = some u → hv' i = some u) → RVL w T hv l vs → RVL w' T' hv' (AV.killL Z l) vs)
    ?_ ?_ ?_ ?_ ?_ ?_ ?_ ?_ ?_ ?_ ?_ a
  case refine_1 => intro Z hv hv' v hh h; simp [RV, AV.kill]
  case refine_2 => intro x Z hv hv' v hh h; simpa only [RV, AV.kill] using h
  case refine_3 => intro k xs _ Z hv hv' v hh h; exact R_keep hk (.s k xs) Z hv hv' [v] hh h
  case refine_4 =>
    intro xs _ Z hv hv' v hh h
    simp only [RV, AV.kill] at h ⊢
    obtain ⟨cs, rfl, h⟩ := h
    exact ⟨cs, rfl, RL_keep hk hh xs _ h⟩
  case refine_5 =>
    intro xs ih Z hv hv' v hh h
    simp only [RV, AV.kill] at h ⊢
    obtain ⟨vs, rfl, h⟩ := h
    exact ⟨vs, rfl, ih Z hv hv' _ hh h⟩
  case refine_6 => intro x off _ Z hv hv' v hh h; exact R_keep hk (.p x off) Z hv hv' [v] hh h
  case refine_7 =>
    intro i Z hv hv' v hh h
    have := R_keep hk (.o i) Z hv hv' [v] hh h
    simp only [AV.kill] at this ⊢
    split at this
    · rw [if_pos (by assumption)]; simp [RV]
    · rw [if_neg (by assumption)]; exact this
  case refine_8 =>
    intro i k j off Z hv hv' v hh h
    have := R_keep hk (.q i k j off) Z hv hv' [v] hh h
    simp only [AV.kill] at this ⊢
    split at this
    · rw [if_pos (by assumption)]; simp [RV]
    · rw [if_neg (by assumption)]; exact this
  case refine_9 => intro fn cap _ Z hv hv' v hh h; exact R_keep hk (.f fn cap) Z hv hv' [v] hh h
  case refine_10 => intro Z hv hv' vs hh h; simpa only [RVL, AV.killL] using h
  case refine_11 =>
    intro x xs ih1 ih2 Z hv hv' vs hh h
    simp only [RVL, AV.killL] at h ⊢
    obtain ⟨u, us, rfl, h1, h2⟩ := h
    exact ⟨u, us, rfl, ih1 Z hv hv' u hh h1, ih2 Z hv hv' us hh h2⟩

/-- an object: a row of elements of k cells each; or a map (its keys in 'mp', its values in 'xs'). -/
structure Ob where
  mp : Option (List Value)
  ty : TypeId
  k : Nat
  xs : List AV

abbrev Mem := List (Option Ob)


/-- the block that a header names. -/
def blk : Value → Option Nat
  | .map b => b
  | v => v.ownBlock

theorem blk_row {w : World} {base e k n : Nat} {v : Value} {us : List Value} (h : w.ownsRow base e k v n us) : blk v = v.ownBlock := by
  rcases h.2 with ⟨rfl, _⟩ | ⟨g, cap, cur, rfl, _⟩ <;> rfl

def Own (hv : Nat → Option Value) (b : Nat) : Prop := ∃ i v, hv i = some v ∧ blk v = some b

/-- own, or one of the blocks that are to be kept away from. -/
def OwnA (A : Nat → Prop) (hv : Nat → Option Value) (b : Nat) : Prop := A b ∨ Own hv b

def RowR (w : World) (T : Nat → Prop) (hv : Nat → Option Value) (ob : Ob) (v : Value) : Prop :=
  ∃ us, w.ownsRow 0 ob.ty ob.k v ob.xs.length us ∧ (∀ x ∈ ob.xs, x.size = ob.k) ∧ RL w T hv ob.xs us

/-- each entry is older than the map's clock, and no two are of one age. -/
def Stamps (es : Array MapEntry) (clock : Nat) : Prop := (∀ e ∈ es.toList, e.born < clock) ∧ (es.toList.map (·.born)).Nodup

/-- a map (k = 0); or values that are only remembered. -/
def MapB (w : World) (k : Nat) (ks : List Value) (v : Value) (vals : List Value) : Prop :=
  (k = 0 ∧ ∃ (b : Nat) (es : Array MapEntry) (clock : Nat), v = .map (some b) ∧ w.heap[b]? = some (.map es clock) ∧ es.toList.map (·.key) = ks ∧ es.toList.map (·.val) = vals ∧ Stamps es clock) ∨ (k ≠ 0 ∧ v = .map none ∧ vals = ks)

def MapR (w : World) (T : Nat → Prop) (hv : Nat → Option Value) (k : Nat) (ks : List Value) (xs : List AV) (v : Value) : Prop :=
  ∃ vals, MapB w k ks v vals ∧ RVL w T hv xs vals

theorem MapB.block {w w' : World} {k : Nat} {ks : List Value} {v : Value} {vals : List Value} (h : MapB w k ks v vals) (hb : ∀ b, blk v = some b → w'.heap[b]? = w.heap[b]?) : MapB w' k ks v vals := by
  rcases h with ⟨hk, b, es, clock, rfl, h1, h2, h3⟩ | h
  · exact .inl ⟨hk, b, es, clock, rfl, (hb b rfl).trans h1, h2, h3⟩
  · exact .inr h

def ObR (w : World) (T : Nat → Prop) (hv : Nat → Option Value) (ob : Ob) (v : Value) : Prop :=
  match ob.mp with
  | none => RowR w T hv ob v
  | some ks => MapR w T hv ob.k ks ob.xs v

theorem ObR.row {w : World} {T : Nat → Prop} {hv : Nat → Option Value} {ob : Ob} {v : Value} (h : ObR w T hv ob v) (hm : ob.mp = none) : RowR w T hv ob v := by
  unfold ObR at h; rw [hm] at h; exact h
theorem ObR.map {w : World} {T : Nat → Prop} {hv : Nat → Option Value} {ob : Ob} {v : Value} {ks : List Value} (h : ObR w T hv ob v) (hm : ob.mp = some ks) : MapR w T hv ob.k ks ob.xs v := by
  unfold ObR at h; rw [hm] at h; exact h
theorem ObR.of_row {w : World} {T : Nat → Prop} {hv : Nat → Option Value} {ob : Ob} {v : Value} (hm : ob.mp = none) (h : RowR w T hv ob v) : ObR w T hv ob v := by
  unfold ObR; rw [hm]; exact h
theorem ObR.of_map {w : World} {T : Nat → Prop} {hv : Nat → Option Value} {ob : Ob} {v : Value} {ks : List Value} (hm : ob.mp = some ks) (h : MapR w T hv ob.k ks ob.xs v) : ObR w T hv ob v := by
  unfold ObR; rw [hm]; exact h
theorem ObR.slice {w : World} {T : Nat → Prop} {hv : Nat → Option Value} {ob : Ob} {A : Option Addr} {n c : Nat} (h : ObR w T hv ob (.slice A n c)) : ob.mp = none := by
  unfold ObR at h
  cases hm : ob.mp with
  | none => rfl
  | some ks => rw [hm] at h; obtain ⟨vals, ⟨_, b, es, clock, e, _⟩ | ⟨_, e, _⟩, _⟩ := h <;> cases e

theorem RVL_keep {w w' : World} {T T' : Nat → Prop} (hk : Keeps w T w' T') {Z : List Nat} {hv hv' : Nat → Option Value} (hh : ∀ i u, i ∉ Z → hv i = some u → hv' i = some u) :
    ∀ (l : List AV) (us : List Value), RVL w T hv l us → RVL w' T' hv' (AV.killL Z l) us
  | [], us, h => by simpa only [RVL, AV.killL] using h
  | x :: xs, us, h => by
    simp only [RVL, AV.killL] at h ⊢
    obtain ⟨u, u2, rfl, h1, h2⟩ := h
    exact ⟨u, u2, rfl, RV_keep hk x Z hv hv' u hh h1, RVL_keep hk hh xs u2 h2⟩

theorem ObR.lt {w : World} {T : Nat → Prop} {hv : Nat → Option Value} {ob : Ob} {v : Value} (h : ObR w T hv ob v) {b : Nat} (hb : blk v = some b) : b < w.heap.size := by
  cases hm : ob.mp with
  | none =>
    obtain ⟨us, hrow, _⟩ := h.row hm
    rw [blk_row hrow] at hb
    exact (hrow.lt b hb).2
  | some ks =>
    obtain ⟨vals, ⟨_, b', es, clock, rfl, hh, _⟩ | ⟨_, rfl, _⟩, _⟩ := h.map hm
    · simp only [blk, Option.some.injEq] at hb
      subst hb
      exact (Array.getElem?_eq_some_iff.1 hh).1
    · simp [blk] at hb
theorem ObR.one {w : World} {T : Nat → Prop} {hv : Nat → Option Value} {ob : Ob} {v : Value} (h : ObR w T hv ob v) : v.oneCell' = true := by
  cases hm : ob.mp with
  | none =>
    obtain ⟨us, hrow, _⟩ := h.row hm
    rcases hrow.2 with ⟨rfl, _⟩ | ⟨g, cap, cur, rfl, _⟩ <;> rfl
  | some ks =>
    obtain ⟨vals, ⟨_, b', es, clock, rfl, hh, _⟩ | ⟨_, rfl, _⟩, _⟩ := h.map hm <;> rfl

structure MemR (A : Nat → Prop) (w : World) (hv : Nat → Option Value) (M : Mem) : Prop where
  live : ∀ i ob, M[i]? = some (some ob) → ∃ v, hv i = some v ∧ ObR w (OwnA A hv) hv ob v
  dom : ∀ i v, hv i = some v → ∃ ob, M[i]? = some (some ob)
  inj : ∀ i j vi vj b, hv i = some vi → hv j = some vj → blk vi = some b → blk vj = some b → i = j
  old : ∀ b, A b → b < w.heap.size

theorem viewStore_drawn {p : Program} {w w' : World} {at_ : Addr} {u : TypeId} {k : Addr} {v : Value} {b : Bool} {l : List Addr} (h : w.viewStore p at_ u k v b = .ok (w', l)) : w'.drawn = w.drawn := by
  unfold World.viewStore at h
  simp only [bind, Except.bind, pure, Except.pure] at h
  repeat' split at h
  all_goals first
    | cases h; done
    | (cases h; rfl)
    | skip
  all_goals trace_state
theorem ask_drawn {α : Type} : ∀ (x : Ask α) (w : World), w.drawn ≤ (w.ask x).2.drawn
  | .done a, w => Nat.le_refl _
  | .ask what range k, w => by
    unfold World.ask
    simp only
    split
    · exact ask_drawn _ w
    · have := ask_drawn (k ((Question.extern what range).cut (w.tape w.drawn (Question.extern what range)))) { w with drawn := w.drawn + 1 }
      exact Nat.le_trans (Nat.le_succ _) this
theorem sys_drawn (w : World) (c : Sys) : w.drawn ≤ (w.sys c).2.drawn := by
  have := ask_drawn (Kernel.perform c w.os) w
  unfold World.sys
  split
  · exact Nat.le_refl _
  · rename_i e
    rw [e] at this
    exact this
theorem run_drawn {α : Type} {P : Program} : ∀ (s : Sem α) {w w' : World} {v : α}, s.run P w = .ok v w' → w.drawn ≤ w'.drawn := by
  intro s
  induction s with
  | pure a => intro w w' v h; simp only [Sem.run] at h; cases h; exact Nat.le_refl _
  | load m a k ih =>
    intro w w' v h
    simp only [Sem.run] at h
    split at h
    · exact ih _ h
    · split at h
      · exact ih _ h
      · cases h
  | store m a x k ih =>
    intro w w' v h
    have key : (∃ u, w.cell? a = some u ∧ k.run P (w.setCell a x) = .ok v w') ∨ (∃ w1 l, w.farStore P a x (m == .atomic) = .ok (w1, l) ∧ k.run P w1 = .ok v w') := by
      cases x <;> simp only [Sem.run] at h <;> first
        | (cases h; done)
        | (split at h
           · rename_i u hu
             split at h
             · cases h
             · exact .inl ⟨u, hu, h⟩
           · split at h
             · rename_i w1 l hf
               exact .inr ⟨w1, l, hf, h⟩
             · cases h)
    rcases key with ⟨u, _, h⟩ | ⟨w1, l, hf, h⟩
    · have := ih h; exact this
    · have h1 := ih h
      unfold World.farStore at hf
      split at hf
      · split at hf
        · rename_i hv
          cases hf
          rw [viewStore_drawn hv] at h1
          exact h1
        · cases hf
      · cases hf
  | new o k ih => intro w w' v h; simp only [Sem.run] at h; have := ih _ h; exact this
  | shape r k ih => intro w w' v h; simp only [Sem.run] at h; exact ih _ h
  | freeze a n k ih =>
    intro w w' v h
    simp only [Sem.run] at h
    refine Nat.le_trans ?_ (ih h)
    unfold World.freeze
    split <;> exact Nat.le_refl _
  | frozen a k ih => intro w w' v h; simp only [Sem.run] at h; exact ih _ h
  | getObj r k ih =>
    intro w w' v h
    simp only [Sem.run] at h
    split at h
    · cases h
    · exact ih _ h
    · cases h
  | setObj r o k ih =>
    intro w w' v h
    simp only [Sem.run] at h
    split at h
    · cases h
    · have := ih h; exact this
    · cases h
  | choose q k ih =>
    intro w w' v h
    simp only [Sem.run] at h
    split at h
    · exact ih _ h
    · have := ih _ h; exact Nat.le_trans (Nat.le_succ _) this
  | sys c k ih => intro w w' v h; simp only [Sem.run] at h; exact Nat.le_trans (sys_drawn w c) (ih _ h)
  | program k ih => intro w w' v h; simp only [Sem.run] at h; exact ih _ h
  | mark m k ih => intro w w' v h; simp only [Sem.run] at h; exact ih h
  | halt x => intro w w' v h; simp only [Sem.run] at h; cases h

/-- one step: what is not own is kept; the objects of Z have new headers or are gone. -/
structure StepR (A : Nat → Prop) (w : World) (hv : Nat → Option Value) (Z : List Nat) (w' : World) (hv' : Nat → Option Value) : Prop where
  kp : Keeps w (Own hv) w' (Own hv')
  hv : ∀ i u, i ∉ Z → hv i = some u → hv' i = some u
  os : w'.os = w.os
  tape : w'.tape = w.tape
  output : w'.output = w.output
  drawn : w.drawn ≤ w'.drawn

/-- what lies there stays, and the draws only grow. -/
structure Bel (n : Nat) (w w' : World) : Prop extends Below n w w' where
  drawn : w.drawn ≤ w'.drawn
theorem Bel.refl (n : Nat) (w : World) : Bel n w w := ⟨Below.refl n w, Nat.le_refl _⟩

theorem StepR.keeps {A : Nat → Prop} {w w' : World} {hv hv' : Nat → Option Value} {Z : List Nat} (h : StepR A w hv Z w' hv') : Keeps w (OwnA A hv) w' (OwnA A hv') :=
  ⟨h.kp.size, fun b hb hn => h.kp.block b hb (fun ho => hn (.inr ho)), fun b hb ho => ho.elim .inl (fun ho => .inr (h.kp.own b hb ho))⟩

theorem StepR.refl (A : Nat → Prop) (w : World) (hv : Nat → Option Value) : StepR A w hv [] w hv := ⟨Keeps.refl _ _, fun _ _ _ h => h, rfl, rfl, rfl, Nat.le_refl _⟩

theorem StepR.rv {A : Nat → Prop} {w w' : World} {hv hv' : Nat → Option Value} {Z : List Nat} (h : StepR A w hv Z w' hv') {a : AV} {v : Value} (hr : RV w (OwnA A hv) hv a v) : RV w' (OwnA A hv') hv' (a.kill Z) v :=
  RV_keep h.keeps a Z hv hv' v h.hv hr

def Mem.kill (Z : List Nat) (M : Mem) : Mem := M.map fun o => o.map fun ob => { ob with xs := AV.killL Z ob.xs }

theorem MemR.own_lt {A : Nat → Prop} {w : World} {hv : Nat → Option Value} {M : Mem} (h : MemR A w hv M) {b : Nat} (hb : Own hv b) : b < w.heap.size := by
  obtain ⟨i, v, hi, hv'⟩ := hb
  obtain ⟨ob, hob⟩ := h.dom i v hi
  obtain ⟨v', hi', hob'⟩ := h.live i ob hob
  rw [hi] at hi'
  injection hi' with hi'
  subst hi'
  exact hob'.lt hv'

theorem MemR.lt {A : Nat → Prop} {w : World} {hv : Nat → Option Value} {M : Mem} (h : MemR A w hv M) {b : Nat} (hb : OwnA A hv b) : b < w.heap.size :=
  hb.elim (h.old b) h.own_lt

end Aw
end Go.Proofs.Ytkolpijhgcijbaa

namespace Go.Proofs.Ytkolpijhgcijbaa
namespace Aw
open Go.RowKit

section
variable {A : Nat → Prop} {w : World} {T : Nat → Prop} {hv : Nat → Option Value}

theorem R_one : ∀ (a : AV) (hv : Nat → Option Value) (us : List Value), R w T hv a us → ∀ u ∈ us, u.oneCell' = true := by
  intro a
  refine AV.rec (motive_1 := fun a => ∀ hv us, R w T hv a us → ∀ u ∈ us, u.oneCell' = true) (motive_2 := fun l => ∀ hv us, RL w T hv l us → ∀ u ∈ us, u.oneCell' = true)
    ?_ ?_ ?_ ?_ ?_ ?_ ?_ ?_ ?_ ?_ ?_ a
  · intro hv us h; simp only [R] at h; obtain ⟨u, rfl, h1⟩ := h; simpa using h1
  · intro x hv us h; simp only [R] at h; obtain ⟨rfl, h⟩ := h; simpa using h
  · intro k xs _ hv us h; simp only [R] at h; obtain ⟨A, c, ws, rfl, _⟩ := h; simp [Value.oneCell']
  · intro xs ih hv us h; simp only [R] at h; exact ih _ _ h
  · intro xs _ hv us h; simp [R] at h
  · intro x off _ hv us h; simp only [R] at h; obtain ⟨b, o, ws, rfl, _⟩ := h; simp [Value.oneCell']
  · intro i hv us h; simp only [R] at h; obtain ⟨v, _, rfl, h1⟩ := h; simpa using h1
  · intro i k j off hv us h; simp only [R] at h; obtain ⟨b, n, c, _, rfl⟩ := h; simp [Value.oneCell']
  · intro fn cap _ hv us h; simp only [R] at h; obtain ⟨cs, rfl, _⟩ := h; simp [Value.oneCell']
  · intro hv us h; simp only [RL] at h; subst h; simp
  · intro x xs ih1 ih2 hv us h
    simp only [RL] at h
    obtain ⟨u1, u2, rfl, h1, h2⟩ := h
    intro u hu
    rcases List.mem_append.1 hu with hu | hu
    · exact ih1 _ _ h1 u hu
    · exact ih2 _ _ h2 u hu

theorem RL_one : ∀ (l : List AV) (us : List Value), RL w T hv l us → ∀ u ∈ us, u.oneCell' = true
  | [], us, h => by simp only [RL] at h; subst h; simp
  | x :: xs, us, h => by
    simp only [RL] at h
    obtain ⟨u1, u2, rfl, h1, h2⟩ := h
    intro u hu
    rcases List.mem_append.1 hu with hu | hu
    · exact R_one x hv _ h1 u hu
    · exact RL_one xs _ h2 u hu

theorem RL_app : ∀ (l l' : List AV) (us us' : List Value), RL w T hv l us → RL w T hv l' us' → RL w T hv (l ++ l') (us ++ us')
  | [], l', us, us', h, h' => by simp only [RL] at h; subst h; simpa using h'
  | x :: xs, l', us, us', h, h' => by
    simp only [RL, List.cons_append] at h ⊢
    obtain ⟨u1, u2, rfl, h1, h2⟩ := h
    exact ⟨u1, u2 ++ us', by simp, h1, RL_app xs l' u2 us' h2 h'⟩

theorem RL_split : ∀ (l l' : List AV) (us : List Value), RL w T hv (l ++ l') us → ∃ u1 u2, us = u1 ++ u2 ∧ RL w T hv l u1 ∧ RL w T hv l' u2
  | [], l', us, h => ⟨[], us, rfl, by simp [RL], by simpa using h⟩
  | x :: xs, l', us, h => by
    simp only [RL, List.cons_append] at h ⊢
    obtain ⟨u1, u2, rfl, h1, h2⟩ := h
    obtain ⟨v1, v2, rfl, h3, h4⟩ := RL_split xs l' u2 h2
    exact ⟨u1 ++ v1, v2, by simp, ⟨u1, v1, rfl, h1, h3⟩, h4⟩

theorem RL_len {k : Nat} : ∀ (l : List AV) (us : List Value), (∀ x ∈ l, x.size = k) → RL w T hv l us → us.length = l.length * k
  | [], us, _, h => by simp only [RL] at h; subst h; simp
  | x :: xs, us, hk, h => by
    simp only [RL] at h
    obtain ⟨u1, u2, rfl, h1, h2⟩ := h
    have e1 := R_size x hv u1 h1
    have e2 := RL_len xs u2 (fun y hy => hk y (List.mem_cons_of_mem _ hy)) h2
    rw [hk x List.mem_cons_self] at e1
    simp only [List.length_append, List.length_cons, e1, e2, Nat.add_mul, Nat.one_mul, Nat.add_comm]

/-- an element of a list of abstract values, and its cells. -/
theorem RL_at {k : Nat} {l : List AV} {us : List Value} (hk : ∀ x ∈ l, x.size = k) (h : RL w T hv l us) {i : Nat} {x : AV} (hx : l[i]? = some x) :
    ∃ u1 u2 u3, us = u1 ++ u2 ++ u3 ∧ u1.length = i * k ∧ R w T hv x u2 ∧ u2.length = k ∧ RL w T hv (l.take i) u1 ∧ RL w T hv (l.drop (i + 1)) u3 := by
  have hi : i < l.length := (List.getElem?_eq_some_iff.1 hx).1
  have hl : l = l.take i ++ (x :: l.drop (i + 1)) := by
    have e : l[i] = x := (List.getElem?_eq_some_iff.1 hx).2
    rw [← e, ← List.drop_eq_getElem_cons hi, List.take_append_drop]
  rw [hl] at h
  obtain ⟨u1, u2, rfl, h1, h2⟩ := RL_split _ _ _ h
  simp only [RL] at h2
  obtain ⟨v1, v2, rfl, h3, h4⟩ := h2
  refine ⟨u1, v1, v2, by simp, ?_, h3, ?_, h1, h4⟩
  · have := RL_len (l.take i) u1 (fun y hy => hk y (List.mem_of_mem_take hy)) h1
    rw [List.length_take, Nat.min_eq_left (by omega)] at this
    exact this
  · rw [R_size x hv v1 h3, hk x (List.mem_of_getElem? hx)]

theorem RL_take {k : Nat} {l : List AV} {us : List Value} (hk : ∀ x ∈ l, x.size = k) (h : RL w T hv l us) (n : Nat) : RL w T hv (l.take n) (us.take (n * k)) := by
  by_cases hn : n ≤ l.length
  · have hl : l = l.take n ++ l.drop n := by simp
    rw [hl] at h
    obtain ⟨u1, u2, rfl, h1, h2⟩ := RL_split _ _ _ h
    have := RL_len (l.take n) u1 (fun y hy => hk y (List.mem_of_mem_take hy)) h1
    rw [List.length_take, Nat.min_eq_left hn] at this
    rw [← this, List.take_left]
    exact h1
  · rw [List.take_of_length_le (by omega), List.take_of_length_le]
    · exact h
    · rw [RL_len l us hk h]; exact Nat.mul_le_mul_right k (by omega)

theorem RL_drop {k : Nat} {l : List AV} {us : List Value} (hk : ∀ x ∈ l, x.size = k) (h : RL w T hv l us) (n : Nat) : RL w T hv (l.drop n) (us.drop (n * k)) := by
  by_cases hn : n ≤ l.length
  · have hl : l = l.take n ++ l.drop n := by simp
    rw [hl] at h
    obtain ⟨u1, u2, rfl, h1, h2⟩ := RL_split _ _ _ h
    have := RL_len (l.take n) u1 (fun y hy => hk y (List.mem_of_mem_take hy)) h1
    rw [List.length_take, Nat.min_eq_left hn] at this
    rw [← this, List.drop_left]
    exact h2
  · rw [List.drop_of_length_le (by omega), List.drop_of_length_le]
    · simp [RL]
    · rw [RL_len l us hk h]; exact Nat.mul_le_mul_right k (by omega)

end

/-- the cells of a value. -/
def AV.cells : AV → List AV
  | .g xs => xs
  | a => [a]

def AV.cellular : AV → Bool
  | .bot | .t _ => false
  | .v x => x.oneCell'
  | _ => true

/-- all cells of one size. -/
def AV.flat (a : AV) : Bool := a.cells.all fun x => x.single

theorem AV.size_single {a : AV} (h : a.single = true) : a.size = 1 := by cases a <;> simp_all [AV.single, AV.size]

section
variable {A : Nat → Prop} {w : World} {T : Nat → Prop} {hv : Nat → Option Value}

theorem RV_R {a : AV} {v : Value} (hc : a.cellular = true) (h : RV w T hv a v) : R w T hv a v.cells.toList := by
  cases a with
  | bot => simp [AV.cellular] at hc
  | t xs => simp [AV.cellular] at hc
  | g xs => simp only [RV] at h; obtain ⟨cs, rfl, h⟩ := h; simpa [R, Value.cells] using h
  | v x => simp only [RV] at h; subst h; simp only [AV.cellular] at hc; refine ⟨?_, hc⟩; cases v <;> first | rfl | cases hc
  | s k xs => simp only [RV] at h; have := R_one _ _ _ h v (by simp); cases v <;> first | exact h | cases this
  | p x off => simp only [RV] at h; have := R_one _ _ _ h v (by simp); cases v <;> first | exact h | cases this
  | o i => simp only [RV] at h; have := R_one _ _ _ h v (by simp); cases v <;> first | exact h | cases this
  | q i k j off => simp only [RV] at h; have := R_one _ _ _ h v (by simp); cases v <;> first | exact h | cases this
  | f fn cap => simp only [RV] at h; have := R_one _ _ _ h v (by simp); cases v <;> first | exact h | cases this

theorem RV_R1 {a : AV} {v : Value} (hs : a.single = true) (hc : a.cellular = true) (h : RV w T hv a v) : R w T hv a [v] := by
  cases a with
  | g xs => simp [AV.single] at hs
  | t xs => simp [AV.single] at hs
  | bot => simp [AV.cellular] at hc
  | v x => simp only [RV] at h; subst h; exact ⟨rfl, hc⟩
  | s k xs => simpa only [RV] using h
  | p x off => simpa only [RV] using h
  | o i => simpa only [RV] using h
  | q i k j off => simpa only [RV] using h
  | f fn cap => simpa only [RV] using h

theorem R_RV {a : AV} {v : Value} (hs : a.single = true) (h : R w T hv a [v]) : RV w T hv a v := by
  cases a with
  | g xs => simp [AV.single] at hs
  | t xs => simp [AV.single] at hs
  | bot => simp [RV]
  | v x => simp only [R, List.cons.injEq, and_true] at h; simpa only [RV] using h.1
  | s k xs => simpa only [RV] using h
  | p x off => simpa only [RV] using h
  | o i => simpa only [RV] using h
  | q i k j off => simpa only [RV] using h
  | f fn cap => simpa only [RV] using h

theorem R_cells {a : AV} (hf : a.flat = true) {us : List Value} : R w T hv a us ↔ RL w T hv a.cells us := by
  cases a with
  | g xs => simp [R, AV.cells]
  | t xs => simp [AV.flat, AV.cells, AV.single] at hf
  | bot => simp [AV.cells, RL]
  | v x => simp [AV.cells, RL]
  | s k xs => simp [AV.cells, RL]
  | p x off => simp [AV.cells, RL]
  | o i => simp [AV.cells, RL]
  | q i k j off => simp [AV.cells, RL]
  | f fn cap => simp [AV.cells, RL]

theorem flat_size {a : AV} (hf : a.flat = true) : ∀ x ∈ a.cells, x.size = 1 := fun x hx => AV.size_single (by simp only [AV.flat, List.all_eq_true] at hf; exact hf x hx)

/-- one cell of a flat value. -/
theorem cell_at {l : List AV} {us : List Value} (hf : ∀ x ∈ l, x.size = 1) (h : RL w T hv l us) {i : Nat} {x : AV} (hx : l[i]? = some x) : ∃ u, us[i]? = some u ∧ R w T hv x [u] := by
  obtain ⟨u1, u2, u3, rfl, h1, h2, h3, _⟩ := RL_at hf h hx
  match u2, h3 with
  | [u], _ => exact ⟨u, by simp at h1; simp [← h1], h2⟩

theorem RL_set {l : List AV} {us : List Value} (hf : ∀ x ∈ l, x.size = 1) (h : RL w T hv l us) {i : Nat} (hi : i < l.length) {x : AV} {u : Value} (hx : R w T hv x [u]) :
    RL w T hv (l.set i x) (us.set i u) := by
  obtain ⟨u1, u2, u3, rfl, h1, _, h3, h4, h5⟩ := RL_at hf h (List.getElem?_eq_getElem hi)
  match u2, h3 with
  | [v], _ =>
    have e1 : l.set i x = l.take i ++ (x :: l.drop (i + 1)) := by rw [List.set_eq_take_append_cons_drop, if_pos hi]
    have e2 : (u1 ++ [v] ++ u3).set i u = u1 ++ (u :: u3) := by simp at h1; subst h1; simp
    rw [e1, e2]
    refine RL_app _ _ _ _ h4 ?_
    simp only [RL]
    exact ⟨[u], u3, rfl, hx, h5⟩

/-- an element of a row is changed. -/
theorem RL_setAt {k : Nat} {l : List AV} {us : List Value} (hk : ∀ x ∈ l, x.size = k) (h : RL w T hv l us) {i : Nat} (hi : i < l.length) {x : AV} {u : List Value} (hx : R w T hv x u) :
    RL w T hv (l.set i x) (us.take (i * k) ++ u ++ us.drop (i * k + k)) := by
  obtain ⟨u1, u2, u3, rfl, h1, _, h3, h4, h5⟩ := RL_at hk h (List.getElem?_eq_getElem hi)
  have e1 : l.set i x = l.take i ++ (x :: l.drop (i + 1)) := by rw [List.set_eq_take_append_cons_drop, if_pos hi]
  have e2 : (u1 ++ u2 ++ u3).take (i * k) ++ u ++ (u1 ++ u2 ++ u3).drop (i * k + k) = u1 ++ (u ++ u3) := by
    rw [← h1]
    have : u1.length + k = (u1 ++ u2).length := by simp [h3]
    rw [this, List.drop_left, List.append_assoc u1 u2 u3, List.take_left]
    simp
  rw [e1, e2]
  refine RL_app _ _ _ _ h4 ?_
  simp only [RL]
  exact ⟨u, u3, rfl, hx, h5⟩
end

end Aw
end Go.Proofs.Ytkolpijhgcijbaa

namespace Go.Proofs.Ytkolpijhgcijbaa
namespace Aw
open Go.RowKit

/-- what the calculus asks of a type. -/
structure TI where
  agg : Bool
  size : Nat
  bytes : Nat
  zero : List Value
  elem : Option TypeId
  arr : Option (Nat × TypeId)
  flds : List (Nat × Nat)
  ftys : List TypeId
  bool : Bool
  eqn : Bool
  deriving Inhabited

/-- a struct whose fields are single integers, one behind the other. -/
def eqnOf (P : Program) (t : TypeId) : Bool :=
  P.stoodInHeld t == false && P.eqGuardType P.depth t == false &&
  (match P.underlying t with
   | some (.struct fs) => (fs.toList.zipIdx.all fun fi => fi.1.name != "_" && fi.1.offset == fi.2 && (match P.underlying fi.1.type with | some (.int _) => true | _ => false))
   | _ => false)

def fldsKnown (P : Program) : TypeDesc → Bool
  | .struct fs => fs.toList.all fun f => (P.info? f.type).isSome
  | _ => true

def tiOf (P : Program) (t : TypeId) : Option TI :=
  match P.info? t, P.underlying t with
  | some i, some d => match i.zero with
    | some z => if z.cells.size = i.size && z.cells.toList.all (·.oneCell') && fldsKnown P d then
        some { agg := (match d with | .struct _ | .array _ _ => true | _ => false), size := i.size, bytes := i.bytes, zero := z.cells.toList,
               elem := (match d with | .slice e => some e | _ => none), arr := (match d with | .array n e => some (n, e) | _ => none),
               flds := (match d with | .struct fs => fs.toList.map fun f => (f.offset, P.cellsOf f.type) | _ => []),
               ftys := (match d with | .struct fs => fs.toList.map fun f => f.type | _ => []),
               bool := (match d with | .bool => true | _ => false), eqn := eqnOf P t }
      else none
    | none => none
  | _, _ => none

def mkA (agg : Bool) (l : List AV) : AV := if agg then .g l else match l with | [x] => x | _ => .bot

/-- the cells l at off are written over. -/
def putsA : List AV → Nat → List AV → List AV
  | cs, _, [] => cs
  | cs, off, c :: r => putsA (cs.set off c) (off + 1) r

def fillA (place : Nat → Option (Nat × Nat)) (cells : List AV) : List (Nat × AV) → Option (List AV)
  | [] => some cells
  | (i, x) :: rest => match place i with
    | none => none
    | some (off, size) => if x.cellular && x.flat && x.cells.length == size && decide (off + size ≤ cells.length) then fillA place (putsA cells off x.cells) rest else none

/-- the load of a type at a place in a value. -/
def loadA (ti : TI) (x : AV) (off : Nat) : Option AV :=
  if !x.flat then none else
  if ti.agg then
    (match x with
     | .g xs => if off == 0 && xs.length == ti.size then some x else if decide (off + ti.size ≤ xs.length) then some (.g ((xs.drop off).take ti.size)) else none
     | _ => none)
  else x.cells[off]?

/-- the store of a value at a place in a value. -/
def storeA (ti : TI) (x : AV) (off : Nat) (y : AV) : Option AV :=
  if x.flat && y.flat && y.cellular && y.cells.length == ti.size && decide (off + ti.size ≤ x.cells.length) then
    (match x with
     | .g xs => some (.g (putsA xs off y.cells))
     | _ => (putsA x.cells off y.cells).head?)
  else none

/-- what comes next, out of simp's sight. -/
class HK (α : Type) where
  k : α

def ACond (b : Bool) [x : HK Prop] [y : HK Prop] : Prop := (b = true → x.k) ∧ (b = false → y.k)
theorem ACond_true (x y : HK Prop) : @ACond true x y = x.k := by simp [ACond]
theorem ACond_false (x y : HK Prop) : @ACond false x y = y.k := by simp [ACond]

def AGet (xs : List AV) (j : Nat) [K : HK (AV → Prop)] : Prop := ∃ x, xs[j]? = some x ∧ K.k x
theorem AGet_zero (x : AV) (xs : List AV) (K : HK (AV → Prop)) : @AGet (x :: xs) 0 K = K.k x := by simp [AGet]
theorem AGet_succ (x : AV) (xs : List AV) (j : Nat) (K : HK (AV → Prop)) : @AGet (x :: xs) (j + 1) K = @AGet xs j K := by simp [AGet]

def okFn (P : Program) (f : FuncId) : Bool :=
  match P.funcs[f]? with
  | some fn => !(fn.name == "runtime.NumGoroutine") && fn.body.isSome
  | none => false

/-- A function's contract: over persistent arguments that lie in no block of A; the result lies in none, too; the new objects that it brings are in new memory. -/
def ASpec (P : Program) (f : FuncId) (as : List AV) (post : AV → List Ob → Prop) : Prop :=
  okFn P f = true ∧ ∀ (w : World) (vs : List Value) (A : Nat → Prop), (∀ b, A b → b < w.heap.size) → RVL w A noHv as vs → Calls P f vs.toArray w fun e w' =>
    ∃ r Ms v hv, e = .returned v ∧ post r Ms ∧ MemR A w' hv (Ms.map some) ∧ RV w' (OwnA A hv) hv r v ∧ (∀ b, Own hv b → w.heap.size ≤ b) ∧ Bel w.heap.size w w'

mutual
/-- an abstract value of which all that lies in memory is its own. -/
def AV.tfree : AV → Bool
  | .s _ xs => xs.isEmpty
  | .p _ _ => false
  | .g xs => AV.tfreeL xs
  | .t xs => AV.tfreeL xs
  | .f _ xs => AV.tfreeL xs
  | _ => true
def AV.tfreeL : List AV → Bool
  | [] => true
  | x :: xs => x.tfree && AV.tfreeL xs
end

mutual
/-- the abstract value with other names of its objects. -/
def AV.sub (F : Nat → AV) (G : Nat → Nat → Nat → Nat → AV) : AV → AV
  | .o i => F i
  | .q i k j off => G i k j off
  | .g xs => .g (AV.subL F G xs)
  | .t xs => .t (AV.subL F G xs)
  | .f fn xs => .f fn (AV.subL F G xs)
  | a => a
def AV.subL (F : Nat → AV) (G : Nat → Nat → Nat → Nat → AV) : List AV → List AV
  | [] => []
  | x :: xs => x.sub F G :: AV.subL F G xs
end

/-- the objects' numbers are moved up. -/
def AV.up (m : Nat) : AV → AV := AV.sub (fun i => .o (i + m)) (fun i k j off => .q (i + m) k j off)
def Ob.up (m : Nat) (ob : Ob) : Ob := { ob with xs := ob.xs.map (AV.up m) }

/-- an argument may be taken for another abstract value: a persistent one (own = false), or an object that is lent (own = true). -/
def Coe (lend : Bool) (M : Mem) (a b : AV) : Prop := ∀ A w hv v, MemR A w hv M → RV w (OwnA A hv) hv a v → RV w (if lend then fun _ => False else OwnA A hv) noHv b v
def CoeL (lend : Bool) (M : Mem) : List AV → List AV → Prop
  | [], [] => True
  | a :: as, b :: bs => Coe lend M a b ∧ CoeL lend M as bs
  | _, _ => False

def ACall (P : Program) (f : FuncId) (as : List AV) (M : Mem) [K : HK (AV → Mem → Prop)] : Prop :=
  ∃ lend bs post, CoeL lend M as bs ∧ ASpec P f bs post ∧ ∀ r Ms, post r Ms → (lend = true → r.tfree = true ∧ ∀ ob ∈ Ms, AV.tfreeL ob.xs = true) ∧ K.k (r.up M.length) (M ++ Ms.map fun ob => some (ob.up M.length))

def lim (n : Int) : Prop := -9223372036854775808 ≤ n ∧ n ≤ 9223372036854775807

def ints : List AV → Option (List Int)
  | [] => some []
  | .v (.int .i64 n) :: r => (ints r).map (n :: ·)
  | _ => none

/-- the kind of a number's type. -/
def intOf (P : Program) (t : TypeId) : Option IntKind := match P.underlying t with | some (.int k) => some k | _ => none

def binA (P : Program) (op : BinOp) (ty : TypeId) (x y : AV) [K : HK (AV → Prop)] : Prop :=
  match op, x, y with
  | .add, .v (.int .i64 a), .v (.int .i64 b) => lim (a + b) ∧ K.k (I (a + b))
  | .sub, .v (.int .i64 a), .v (.int .i64 b) => lim (a - b) ∧ K.k (I (a - b))
  | .mul, .v (.int .i64 a), .v (.int .i64 b) => lim (a * b) ∧ K.k (I (a * b))
  | .quo, .v (.int .i64 a), .v (.int .i64 b) => (b ≠ 0 ∧ lim (a.tdiv b)) ∧ K.k (I (a.tdiv b))
  | .rem, .v (.int .i64 a), .v (.int .i64 b) => b ≠ 0 ∧ K.k (I (a.tmod b))
  | .shl, .v (.int .i64 a), .v (.int _ b) => (0 ≤ b ∧ b ≤ 62 ∧ lim (a * 2 ^ b.toNat)) ∧ K.k (I (a * 2 ^ b.toNat))
  | .shr, .v (.int .i64 a), .v (.int _ b) => (0 ≤ b ∧ b ≤ 62) ∧ K.k (I (a / 2 ^ b.toNat))
  | .and, .v (.int .i64 a), .v (.int .i64 b) => (0 ≤ a ∧ 0 ≤ b ∧ lim a ∧ lim b) ∧ K.k (I ((a.toNat &&& b.toNat : Nat) : Int))
  | .or, .v (.int .i64 a), .v (.int .i64 b) => (0 ≤ a ∧ 0 ≤ b ∧ lim a ∧ lim b) ∧ K.k (I ((a.toNat ||| b.toNat : Nat) : Int))
  | .lss, .v (.int k a), .v (.int k' b) => k = k' ∧ K.k (B (decide (a < b)))
  | .leq, .v (.int k a), .v (.int k' b) => k = k' ∧ K.k (B (decide (a ≤ b)))
  | .gtr, .v (.int k a), .v (.int k' b) => k = k' ∧ K.k (B (decide (b < a)))
  | .geq, .v (.int k a), .v (.int k' b) => k = k' ∧ K.k (B (decide (b ≤ a)))
  | .eql, .v (.int k a), .v (.int k' b) => k = k' ∧ K.k (B (decide (a = b)))
  | .neq, .v (.int k a), .v (.int k' b) => k = k' ∧ K.k (B (!decide (a = b)))
  | .eql, .v (.bool a), .v (.bool b) => (match tiOf P ty with | some ti => ti.bool = true | none => False) ∧ K.k (B (a == b))
  | .neq, .v (.bool a), .v (.bool b) => (match tiOf P ty with | some ti => ti.bool = true | none => False) ∧ K.k (B (!(a == b)))
  | .eql, .g xs, .g ys => (match tiOf P ty, ints xs, ints ys with | some ti, some as, some bs => (ti.eqn = true ∧ as.length = ti.flds.length ∧ bs.length = ti.flds.length) ∧ K.k (B (decide (as = bs))) | _, _, _ => False)
  | .neq, .g xs, .g ys => (match tiOf P ty, ints xs, ints ys with | some ti, some as, some bs => (ti.eqn = true ∧ as.length = ti.flds.length ∧ bs.length = ti.flds.length) ∧ K.k (B (!decide (as = bs))) | _, _, _ => False)
  | .eql, .s _ xs, .v (.slice none _ _) => (match tiOf P ty with | some ti => ti.elem.isSome = true | none => False) ∧ ∀ b : Bool, (b = true → xs = []) → K.k (B b)
  | _, _, _ => False

def mapOf (P : Program) (t : TypeId) : Option (TypeId × TypeId) := match P.underlying t with | some (.map k e) => some (k, e) | _ => none

/-- the zero value of a type, as it lies there. -/
def zeroA (P : Program) (t : TypeId) : Option AV :=
  match (P.info? t).bind (·.zero) with
  | some (.agg cs) => if (cs.toList.all fun u => u.oneCell') = true then some (.g (cs.toList.map AV.v)) else none
  | some z => if z.oneCell' = true then some (.v z) else none
  | none => none

def valsOf : List AV → Option (List Value)
  | [] => some []
  | .v x :: r => (valsOf r).map (x :: ·)
  | _ => none

/-- a value that is known whole. -/
def valOf : AV → Option Value
  | .v x => some x
  | .g xs => (valsOf xs).map fun l => .agg l.toArray
  | _ => none

/-- where a key lies. -/
def Find (ks : List Value) (v : Value) : Option Nat → Prop
  | none => ∀ u ∈ ks, u ≠ v
  | some j => ks[j]? = some v ∧ ∀ i, ks[i]? = some v → i = j

def AFind (P : Program) (kt : TypeId) (ks : List Value) (v : Value) [K : HK (Nat → Prop)] [L : HK Prop] : Prop :=
  (Maps.Keyed P kt ∧ (∃ l, keyOf P kt v = some l) ∧ ∀ u ∈ ks, ∃ l, keyOf P kt u = some l) ∧ ((∃ j, Find ks v (some j) ∧ K.k j) ∨ (Find ks v none ∧ L.k))

def lenM (M : Mem) : AV → Option Int
  | .o i => match M[i]? with | some (some ob) => (match ob.mp with | some _ => if ob.k = 0 then some ob.xs.length else none | none => none) | _ => none
  | _ => none

def lenA (M : Mem) : AV → Option Int
  | .s _ xs => some xs.length
  | .v (.slice none 0 0) => some 0
  | .o i => match M[i]? with | some (some ob) => (match ob.mp with | none => some ob.xs.length | some _ => none) | _ => none
  | _ => none

def minmaxA (isMax : Bool) : AV → AV → Option AV
  | .v (.int .i64 a), .v (.int .i64 b) => some (I (if isMax then max a b else min a b))
  | _, _ => none

def evB (ρ : Operand → AV) : Option Operand → Int → Option Int
  | none, d => some d
  | some x, _ => match ρ x with | .v (.int _ n) => some n | _ => none

def callA (P : Program) (c : Call) (ρ : Operand → AV) (M : Mem) [K : HK (AV → List Nat → Mem → Prop)] : Prop :=
  match c.callee with
  | .value (.func f) => ACall P f (c.args.toList.map ρ) M (K := ⟨fun r M' => K.k r [] M'⟩)
  | .value x => (match ρ x with
    | .f (.func f) cap => ACall P f (c.args.toList.map ρ ++ cap) M (K := ⟨fun r M' => K.k r [] M'⟩)
    | _ => False)
  | .builtin .len => (match c.args.toList, c.argTypes.toList with
    | [x], [t] => (match tiOf P t, lenA M (ρ x) with | some ti, some n => ti.elem.isSome = true ∧ K.k (I n) [] M | some _, none => (match mapOf P t, lenM M (ρ x) with | some _, some n => K.k (I n) [] M | _, _ => False) | _, _ => False)
    | _, _ => False)
  | .builtin .min => (match c.args.toList with
    | [x, y] => (match minmaxA false (ρ x) (ρ y) with | some r => K.k r [] M | none => False)
    | _ => False)
  | .builtin .max => (match c.args.toList with
    | [x, y] => (match minmaxA true (ρ x) (ρ y) with | some r => K.k r [] M | none => False)
    | _ => False)
  | .builtin .append => (match c.args.toList, c.argTypes.toList with
    | [x, y], [t, t'] => (match tiOf P t with
      | some ti => (match ti.elem with
        | some e => (match tiOf P e with
          | some te => (match ρ x, ρ y with
            | .o i, .s k ys => (match M[i]? with
              | some (some ob) => (t = t' ∧ ob.mp = none ∧ ob.ty = e ∧ ob.k = te.size ∧ k = te.size ∧ 0 < te.size ∧ ob.xs.length + ys.length ≤ 1000000 ∧ te.bytes ≤ 1000) ∧
                  K.k (.o i) [i] ((M.kill [i]).set i (some { ob with xs := AV.killL [i] ob.xs ++ ys }))
              | _ => False)
            | .o i, .v (.slice none 0 0) => (match M[i]? with | some (some ob) => (t = t' ∧ ob.mp = none) ∧ K.k (.o i) [] M | _ => False)
            | .o i, .o j => (match M[i]?, M[j]? with
              | some (some ob), some (some ob') => (i ≠ j ∧ t = t' ∧ ob.mp = none ∧ ob'.mp = none ∧ ob.ty = e ∧ ob.k = te.size ∧ ob'.k = te.size ∧ 0 < te.size ∧ ob.xs.length + ob'.xs.length ≤ 1000000 ∧ te.bytes ≤ 1000) ∧
                  K.k (.o i) [i] ((M.kill [i]).set i (some { ob with xs := AV.killL [i] ob.xs ++ AV.killL [i] ob'.xs }))
              | _, _ => False)
            | _, _ => False)
          | none => False)
        | none => False)
      | none => False)
    | _, _ => False)
  | _ => False

mutual
/-- an abstract value that names no object. -/
def AV.pure : AV → Bool
  | .o _ | .q _ _ _ _ => false
  | .g xs => AV.pureL xs
  | .t xs => AV.pureL xs
  | .f _ xs => AV.pureL xs
  | _ => true
def AV.pureL : List AV → Bool
  | [] => true
  | x :: xs => x.pure && AV.pureL xs
end

abbrev Kont := AV → List Nat → Mem → Prop

def newRow (M : Mem) (ty : TypeId) (k : Nat) (xs : List AV) : Mem := M ++ [some ⟨none, ty, k, xs⟩]

def idxA (P : Program) (t : TypeId) (M : Mem) (x : AV) (i : Int) [K : HK (AV → Prop)] : Prop :=
  match tiOf P t with
  | none => False
  | some ti => match ti.elem with
    | some e => (match tiOf P e, x with
      | some te, .s k xs => (k = te.size ∧ 0 ≤ i) ∧ AGet xs i.toNat (K := ⟨fun x => K.k (.p x 0)⟩)
      | some te, .o id => (match M[id]? with
        | some (some ob) => (ob.mp = none ∧ ob.k = te.size ∧ 0 ≤ i ∧ i < ob.xs.length) ∧ K.k (.q id ob.k i.toNat 0)
        | _ => False)
      | _, _ => False)
    | none => match ti.arr with
      | some (n, e) => (match tiOf P e, x with
        | some te, .p y off => (0 ≤ i ∧ i < n) ∧ K.k (.p y (off + i.toNat * te.size))
        | some te, .q id k j off => (0 ≤ i ∧ i < n) ∧ K.k (.q id k j (off + i.toNat * te.size))
        | _, _ => False)
      | none => False

def sliceA (P : Program) (t : TypeId) (M : Mem) (x : AV) (lo hi : Option (Option Int)) [K : HK Kont] : Prop :=
  match tiOf P t, x, lo, hi with
  | some ti, .s k xs, some lo, some hi => (match ti.elem with
    | some e => (match tiOf P e with
      | some te => (k = te.size ∧ 0 ≤ lo.getD 0 ∧ lo.getD 0 ≤ hi.getD xs.length ∧ hi.getD xs.length ≤ xs.length) ∧
          K.k (.s k ((xs.take (hi.getD xs.length).toNat).drop (lo.getD 0).toNat)) [] M
      | none => False)
    | none => False)
  | _, _, _, _ => False

/-- the value of a bound: none: it is not known; some none: none is given. -/
def bndA (ρ : Operand → AV) : Option Operand → Option (Option Int)
  | none => some none
  | some x => match ρ x with | .v (.int _ n) => some (some n) | _ => none

def mapPut (P : Program) (t : TypeId) (m x y : AV) (M : Mem) [K : HK Kont] : Prop :=
  ∃ ke id kv ob ks, mapOf P t = some ke ∧ m = .o id ∧ valOf x = some kv ∧ M[id]? = some (some ob) ∧ ob.mp = some ks ∧ ob.k = 0 ∧
    AFind P ke.1 ks kv (K := ⟨fun j => K.k .bot [] (M.set id (some { ob with xs := ob.xs.set j y }))⟩) (L := ⟨K.k .bot [] (M.set id (some { ob with mp := some (ks ++ [kv]), xs := ob.xs ++ [y] }))⟩)

def core (P : Program) (own : List Nat) (o : Oper) (ρ : Operand → AV) (M : Mem) [K : HK Kont] : Prop :=
  match o.op with
  | .move x => K.k (ρ x) [] M
  | .assign x => (match ρ x, own.contains (o.dst.getD 0) with
    | .v (.slice none 0 0), true => (match tiOf P o.type with
      | some ti => (match ti.elem with
        | some e => (match tiOf P e with | some te => K.k (.o M.length) [] (newRow M e te.size []) | none => False)
        | none => False)
      | none => False)
    | r, _ => K.k r [] M)
  | .pick c a b => (match ρ c with | .v (.bool c) => @ACond c ⟨K.k (ρ a) [] M⟩ ⟨K.k (ρ b) [] M⟩ | _ => False)
  | .box t x => (ρ x).cellular = true ∧ (if own.contains (o.dst.getD 0) then K.k (.q M.length (ρ x).size 0 0) [] (newRow M t (ρ x).size [ρ x]) else (ρ x).pure = true ∧ K.k (.p (ρ x) 0) [] M)
  | .alloc t => (match tiOf P t with | some ti => (ti.agg || ti.zero.length == 1) = true ∧ K.k (.q M.length ti.size 0 0) [] (newRow M t ti.size [mkA ti.agg (ti.zero.map .v)]) | none => False)
  | .load t x => (match tiOf P t, ρ x with
    | some ti, .p y off => (match loadA ti y off with | some r => K.k r [] M | none => False)
    | some ti, .q id k j off => (match M[id]? with
      | some (some ob) => ob.k = k ∧ AGet ob.xs j (K := ⟨fun y => match loadA ti y off with | some r => K.k r [] M | none => False⟩)
      | _ => False)
    | _, _ => False)
  | .store t x y => (match tiOf P t, ρ x with
    | some ti, .q id k j off => (match M[id]? with
      | some (some ob) => ob.k = k ∧ AGet ob.xs j (K := ⟨fun z => match storeA ti z off (ρ y) with | some r => K.k .bot [] (M.set id (some { ob with xs := ob.xs.set j r })) | none => False⟩)
      | _ => False)
    | _, _ => False)
  | .fieldAddr t x f => (match tiOf P t, ρ x with
    | some ti, .p y off => (match ti.flds[f]? with | some (fo, fs) => fs ≠ 0 ∧ K.k (.p y (off + fo)) [] M | none => False)
    | some ti, .q id k j off => (match ti.flds[f]? with | some (fo, fs) => fs ≠ 0 ∧ K.k (.q id k j (off + fo)) [] M | none => False)
    | _, _ => False)
  | .indexAddr t x i => (match ρ i with | .v (.int _ n) => idxA P t M (ρ x) n (K := ⟨fun r => K.k r [] M⟩) | _ => False)
  | .binOp op ty x y _ => binA P op ty (ρ x) (ρ y) (K := ⟨fun r => K.k r [] M⟩)
  | .convert s d x => (match ρ x, intOf P s, intOf P d with | .v (.int _ n), some _, some .u64 => (0 ≤ n ∧ lim n) ∧ K.k (.v (.int .u64 n)) [] M | _, _, _ => False)
  | .unOp .not _ x => (match ρ x with | .v (.bool b) => K.k (B (!b)) [] M | _ => False)
  | .unOp .neg _ x => (match ρ x with | .v (.int .i64 n) => lim (-n) ∧ K.k (I (-n)) [] M | _ => False)
  | .build t parts => (match tiOf P t with
    | some ti => (match fillA (fun i => ti.flds[i]?) (ti.zero.map .v) (parts.toList.map fun ix => (ix.1, ρ ix.2)) with
      | some cells => (ti.agg = true ∧ ti.arr = none) ∧ K.k (.g cells) [] M
      | none => False)
    | none => False)
  | .buildSlice t n parts => (match tiOf P t with
    | some ti => (match ti.elem with
      | some e => (match tiOf P e with
        | some te => (0 < te.size ∧ n * te.size ≤ 16777216 ∧ parts.toList.map (·.1) = List.range n ∧ parts.toList.all (fun ix => (ρ ix.2).cellular && (ρ ix.2).flat && (ρ ix.2).size == te.size) = true) ∧
            (if own.contains (o.dst.getD 0) then K.k (.o M.length) [] (newRow M e te.size (parts.toList.map fun ix => ρ ix.2))
             else AV.pureL (parts.toList.map fun ix => ρ ix.2) = true ∧ K.k (.s te.size (parts.toList.map fun ix => ρ ix.2)) [] M)
        | none => False)
      | none => False)
    | none => False)
  | .extract x i => (match ρ x with | .t xs => (match xs[i]? with | some r => K.k r [] M | none => False) | _ => False)
  | .field t x f => (match tiOf P t, ρ x with
    | some ti, .g xs => (match ti.flds[f]?, ti.ftys[f]? with
      | some (fo, _), some ft => (match tiOf P ft with
        | some tf => (match loadA tf (.g xs) fo with | some r => K.k r [] M | none => False)
        | none => False)
      | _, _ => False)
    | _, _ => False)
  | .slice t x lo hi none => sliceA P t M (ρ x) (bndA ρ lo) (bndA ρ hi) (K := K)
  | .makeFunc fn first cap => (first.size = 0 ∧ (cap.toList.all fun x => (ρ x).cellular && (ρ x).single) = true) ∧ K.k (.f fn (cap.toList.map ρ)) [] M
  | .nilCheck x => (match ρ x with
    | .p y off => K.k (.p y off) [] M
    | .q id k j off => K.k (.q id k j off) [] M
    | _ => False)
  | .makeMap t none => (mapOf P t).isSome = true ∧ K.k (.o M.length) [] (M ++ [some ⟨some [], t, 0, []⟩])
  | .lookup t m x ok => ∃ ke id kv ob ks z, mapOf P t = some ke ∧ ρ m = .o id ∧ valOf (ρ x) = some kv ∧ M[id]? = some (some ob) ∧ ob.mp = some ks ∧ zeroA P ke.2 = some z ∧ ob.k = 0 ∧
      AFind P ke.1 ks kv (K := ⟨fun j => AGet ob.xs j (K := ⟨fun y => K.k (if ok then .t [y, B true] else y) [] M⟩)⟩) (L := ⟨K.k (if ok then .t [z, B false] else z) [] M⟩)
  | .mapUpdate t m x y => mapPut P t (ρ m) (ρ x) (ρ y) M (K := K)
  | .insert t m x y => mapPut P t (ρ m) (ρ x) (ρ y) M (K := K)
  | .makeSlice t l c => ∃ ti e te z k k' n, tiOf P t = some ti ∧ ti.elem = some e ∧ tiOf P e = some te ∧ te.zero = [z] ∧ te.agg = false ∧ ρ l = .v (.int k n) ∧ ρ c = .v (.int k' n) ∧ (0 ≤ n ∧ n ≤ 1000000 ∧ te.size = 1 ∧ te.bytes ≤ 1000) ∧
      K.k (.o M.length) [] (newRow M e 1 (List.replicate n.toNat (.v z)))
  | .call c => callA P c ρ M (K := K)
  | _ => False

end Aw
end Go.Proofs.Ytkolpijhgcijbaa

namespace Go.Proofs.Ytkolpijhgcijbaa
namespace Aw
open Go.RowKit

def Ob.kill (Z : List Nat) (ob : Ob) : Ob := { ob with xs := AV.killL Z ob.xs }

theorem Mem.kill_get (Z : List Nat) (M : Mem) (i : Nat) : (Mem.kill Z M)[i]? = (M[i]?).map fun o => o.map (Ob.kill Z) := by
  simp only [Mem.kill, List.getElem?_map]; rfl
theorem Ob.kill_nil (ob : Ob) : ob.kill [] = ob := by cases ob; simp [Ob.kill, AV.killL_nil]
theorem Mem.kill_nil (M : Mem) : Mem.kill [] M = M := by
  apply List.ext_getElem?
  intro i
  rw [Mem.kill_get]
  cases M[i]? with
  | none => rfl
  | some o => cases o with
    | none => rfl
    | some ob => simp [Ob.kill_nil]

section
variable {A : Nat → Prop} {w w' : World} {hv hv' : Nat → Option Value} {M : Mem} {Z : List Nat}

theorem ownsRow_of_block {e : TypeId} {k n : Nat} {v : Value} {xs : List Value} (h : w.ownsRow 0 e k v n xs) (hb : ∀ b, v.ownBlock = some b → w'.heap[b]? = w.heap[b]?) : w'.ownsRow 0 e k v n xs := by
  refine ⟨h.1, ?_⟩
  rcases h.2 with h | ⟨g, cap, cur, rfl, h1, h2, h3⟩
  · exact .inl h
  · exact .inr ⟨g, cap, cur, rfl, h1, (hb g rfl).trans h2, h3⟩

theorem live_step (hM : MemR A w hv M) (hs : StepR A w hv Z w' hv') {i : Nat} {ob : Ob} (hrow : ∀ v b, hv i = some v → blk v = some b → w'.heap[b]? = w.heap[b]?)
    (hi : i ∉ Z) (h : M[i]? = some (some ob)) : ∃ v, hv i = some v ∧ hv' i = some v ∧ ObR w' (OwnA A hv') hv' (ob.kill Z) v := by
  obtain ⟨v, hv1, hob⟩ := hM.live i ob h
  cases hm : ob.mp with
  | some ks =>
    obtain ⟨vals, h1, h3⟩ := hob.map hm
    exact ⟨_, hv1, hs.hv i _ hi hv1, ObR.of_map (ob := ob.kill Z) (ks := ks) hm ⟨vals, h1.block fun b hb => hrow _ b hv1 hb, RVL_keep hs.keeps hs.hv _ _ h3⟩⟩
  | none =>
  obtain ⟨us, hr, hsz, hl⟩ := hob.row hm
  refine ⟨v, hv1, hs.hv i v hi hv1, ObR.of_row hm ⟨us, ?_, ?_, RL_keep hs.keeps hs.hv _ _ hl⟩⟩
  · simp only [Ob.kill, AV.killL_map, List.length_map]
    exact ownsRow_of_block hr fun b hb => hrow v b hv1 (by rw [blk_row hr]; exact hb)
  · intro x hx
    simp only [Ob.kill, AV.killL_map, List.mem_map] at hx
    obtain ⟨y, hy, rfl⟩ := hx
    rw [AV.size_kill]
    exact hsz y hy

/-- all own rows are kept. -/
theorem mem_keep (hM : MemR A w hv M) (hb : Bel w.heap.size w w') : MemR A w' hv M ∧ StepR A w hv [] w' hv := by
  have hs : StepR A w hv [] w' hv := ⟨⟨hb.size, fun b h _ => hb.block b h, fun _ _ h => h⟩, fun _ _ _ h => h, hb.os, hb.tape, hb.output, hb.drawn⟩
  refine ⟨⟨fun i ob h => ?_, hM.dom, hM.inj, fun b h => Nat.lt_of_lt_of_le (hM.old b h) hb.size⟩, hs⟩
  obtain ⟨v, h1, h2, h3⟩ := live_step hM hs (fun v b h1 h2 => hb.block b (hM.own_lt ⟨i, v, h1, h2⟩)) (by simp) h
  rw [Ob.kill_nil] at h3
  exact ⟨v, h1, h3⟩

def hvAdd (hv : Nat → Option Value) (m : Nat) (v : Value) : Nat → Option Value := fun i => if i = m then some v else hv i

theorem hvAdd_self (m : Nat) (v : Value) : hvAdd hv m v m = some v := by simp [hvAdd]
theorem hvAdd_ne {m i : Nat} (v : Value) (h : i ≠ m) : hvAdd hv m v i = hv i := by simp [hvAdd, h]

theorem mem_none (hM : MemR A w hv M) {i : Nat} (h : M.length ≤ i) : hv i = none := by
  cases hh : hv i with
  | none => rfl
  | some v =>
    obtain ⟨ob, hob⟩ := hM.dom i v hh
    rw [List.getElem?_eq_none h] at hob
    cases hob

theorem own_add {m : Nat} {v : Value} {b : Nat} (hn : hv m = none) : Own (hvAdd hv m v) b ↔ Own hv b ∨ blk v = some b := by
  constructor
  · rintro ⟨i, u, hi, hu⟩
    by_cases h : i = m
    · subst h; rw [hvAdd_self] at hi; injection hi with hi; subst hi; exact .inr hu
    · rw [hvAdd_ne v h] at hi; exact .inl ⟨i, u, hi, hu⟩
  · rintro (⟨i, u, hi, hu⟩ | h)
    · exact ⟨i, u, by rw [hvAdd_ne v (by rintro rfl; rw [hn] at hi; cases hi)]; exact hi, hu⟩
    · exact ⟨m, v, hvAdd_self m v, h⟩

/-- a new object, in a new block (or none yet). -/
theorem mem_add (hM : MemR A w hv M) (hb : Bel w.heap.size w w') {ob : Ob} {v : Value} (hnew : ∀ b, blk v = some b → w.heap.size ≤ b)
    (hob : StepR A w hv [] w' (hvAdd hv M.length v) → ObR w' (OwnA A (hvAdd hv M.length v)) (hvAdd hv M.length v) ob v) :
    MemR A w' (hvAdd hv M.length v) (M ++ [some ob]) ∧ StepR A w hv [] w' (hvAdd hv M.length v) := by
  have hn := mem_none hM (Nat.le_refl M.length)
  have hs : StepR A w hv [] w' (hvAdd hv M.length v) := by
    refine ⟨⟨hb.size, fun b h _ => hb.block b h, fun b hlt h => ?_⟩, fun i u _ h => ?_, hb.os, hb.tape, hb.output, hb.drawn⟩
    · rcases (own_add hn).1 h with h | h
      · exact h
      · have := hnew b h; omega
    · rw [hvAdd_ne v (by rintro rfl; rw [hn] at h; cases h)]; exact h
  refine ⟨⟨fun i o h => ?_, fun i u h => ?_, fun i j vi vj b hi hj hbi hbj => ?_, fun b h => Nat.lt_of_lt_of_le (hM.old b h) hb.size⟩, hs⟩
  · by_cases hi : i = M.length
    · subst hi
      simp at h
      subst h
      exact ⟨v, hvAdd_self _ _, hob hs⟩
    · have hlt : i < M.length := by
        rcases Nat.lt_or_ge i M.length with h' | h'
        · exact h'
        · rw [List.getElem?_eq_none (by simp; omega)] at h; cases h
      rw [List.getElem?_append_left hlt] at h
      obtain ⟨v, h1, h2, h3⟩ := live_step hM hs (fun v b h1 h2 => hb.block b (hM.own_lt ⟨i, v, h1, h2⟩)) (by simp) h
      rw [Ob.kill_nil] at h3
      exact ⟨v, h2, h3⟩
  · by_cases hi : i = M.length
    · subst hi; exact ⟨ob, by simp⟩
    · rw [hvAdd_ne v hi] at h
      obtain ⟨o, ho⟩ := hM.dom i u h
      exact ⟨o, by rw [List.getElem?_append_left (List.getElem?_eq_some_iff.1 ho).1]; exact ho⟩
  · by_cases h1 : i = M.length <;> by_cases h2 : j = M.length
    · omega
    · subst h1
      rw [hvAdd_self] at hi
      rw [hvAdd_ne v h2] at hj
      injection hi with hi
      subst hi
      have := hM.own_lt ⟨j, vj, hj, hbj⟩
      have := hnew b hbi
      omega
    · subst h2
      rw [hvAdd_self] at hj
      rw [hvAdd_ne v h1] at hi
      injection hj with hj
      subst hj
      have := hM.own_lt ⟨i, vi, hi, hbi⟩
      have := hnew b hbj
      omega
    · rw [hvAdd_ne v h1] at hi
      rw [hvAdd_ne v h2] at hj
      exact hM.inj i j vi vj b hi hj hbi hbj

/-- a pure value says the same of every naming of the objects. -/
theorem R_pure : ∀ (a : AV) {T : Nat → Prop} (hv hv' : Nat → Option Value) (us : List Value), a.pure = true → R w T hv a us → R w T hv' a us := by
  intro a T
  refine AV.rec (motive_1 := fun a => ∀ hv hv' us, a.pure = true → R w T hv a us → R w T hv' a us) (motive_2 := fun l => ∀ hv hv' us, AV.pureL l = true → RL w T hv l us → RL w T hv' l us)
    ?_ ?_ ?_ ?_ ?_ ?_ ?_ ?_ ?_ ?_ ?_ a
  · intro hv hv' us hp h; simpa only [R] using h
  · intro x hv hv' us hp h; simpa only [R] using h
  · intro k xs _ hv hv' us hp h; simpa only [R] using h
  · intro xs ih hv hv' us hp h; simp only [R, AV.pure] at *; exact ih _ _ _ hp h
  · intro xs _ hv hv' us hp h; simp [R] at h
  · intro x off _ hv hv' us hp h; simpa only [R] using h
  · intro i hv hv' us hp h; simp [AV.pure] at hp
  · intro i k j off hv hv' us hp h; simp [AV.pure] at hp
  · intro fn cap ih hv hv' us hp h
    simp only [R, AV.pure] at *
    obtain ⟨cs, h1, h2, h3⟩ := h
    exact ⟨cs, h1, h2, ih _ _ _ hp h3⟩
  · intro hv hv' us hp h; simpa only [RL] using h
  · intro x xs ih1 ih2 hv hv' us hp h
    simp only [RL, AV.pureL, Bool.and_eq_true] at *
    obtain ⟨u1, u2, rfl, h1, h2⟩ := h
    exact ⟨u1, u2, rfl, ih1 _ _ _ hp.1 h1, ih2 _ _ _ hp.2 h2⟩
theorem RV_pure {T : Nat → Prop} (a : AV) (hv hv' : Nat → Option Value) (v : Value) (hp : a.pure = true) (h : RV w T hv a v) : RV w T hv' a v := by
  revert hp h
  refine AV.rec (motive_1 := fun a => ∀ v, a.pure = true → RV w T hv a v → RV w T hv' a v) (motive_2 := fun l => ∀ vs, AV.pureL l = true → RVL w T hv l vs → RVL w T hv' l vs)
    ?_ ?_ ?_ ?_ ?_ ?_ ?_ ?_ ?_ ?_ ?_ a v
  · intro v _ _; simp [RV]
  · intro x v _ h; simpa only [RV] using h
  · intro k xs _ v hp h; have := R_pure (.s k xs) hv hv' [v] hp (by simpa only [RV] using h); simpa only [RV] using this
  · intro xs _ v hp h
    simp only [RV, AV.pure] at *
    obtain ⟨cs, rfl, h⟩ := h
    refine ⟨cs, rfl, ?_⟩
    have := R_pure (.g xs) hv hv' cs.toList (by simpa only [AV.pure] using hp) (by simpa only [R] using h)
    simpa only [R] using this
  · intro xs ih v hp h
    simp only [RV, AV.pure] at *
    obtain ⟨vs, rfl, h⟩ := h
    exact ⟨vs, rfl, ih _ hp h⟩
  · intro x off _ v hp h; have := R_pure (.p x off) hv hv' [v] hp (by simpa only [RV] using h); simpa only [RV] using this
  · intro i v hp h; simp [AV.pure] at hp
  · intro i k j off v hp h; simp [AV.pure] at hp
  · intro fn cap _ v hp h; have := R_pure (.f fn cap) hv hv' [v] hp (by simpa only [RV] using h); simpa only [RV] using this
  · intro vs _ h; simpa only [RVL] using h
  · intro x xs ih1 ih2 vs hp h
    simp only [RVL, AV.pureL, Bool.and_eq_true] at *
    obtain ⟨u, us, rfl, h1, h2⟩ := h
    exact ⟨u, us, rfl, ih1 u hp.1 h1, ih2 us hp.2 h2⟩
theorem RVL_pure {T : Nat → Prop} : ∀ (l : List AV) (hv hv' : Nat → Option Value) (us : List Value), AV.pureL l = true → RVL w T hv l us → RVL w T hv' l us
  | [], hv, hv', us, hp, h => by simpa only [RVL] using h
  | x :: xs, hv, hv', us, hp, h => by
    simp only [RVL, AV.pureL, Bool.and_eq_true] at *
    obtain ⟨u, u2, rfl, h1, h2⟩ := h
    exact ⟨u, u2, rfl, RV_pure x _ _ _ hp.1 h1, RVL_pure xs _ _ _ hp.2 h2⟩
theorem RL_pure {T : Nat → Prop} : ∀ (l : List AV) (hv hv' : Nat → Option Value) (us : List Value), AV.pureL l = true → RL w T hv l us → RL w T hv' l us
  | [], hv, hv', us, hp, h => by simpa only [RL] using h
  | x :: xs, hv, hv', us, hp, h => by
    simp only [RL, AV.pureL, Bool.and_eq_true] at *
    obtain ⟨u1, u2, rfl, h1, h2⟩ := h
    exact ⟨u1, u2, rfl, R_pure x _ _ _ hp.1 h1, RL_pure xs _ _ _ hp.2 h2⟩
end

/-- what holds behind an operation. -/
def After (A : Nat → Prop) (o : Oper) (a : Act) (w : World) (hv : Nat → Option Value) (K : Kont) : Act → World → Prop := fun a' w' =>
  ∃ r Z M' hv' v, K r Z M' ∧ a' = a.put o.dst v ∧ MemR A w' hv' M' ∧ RV w' (OwnA A hv') hv' r v ∧ StepR A w hv Z w' hv'

section
variable {A : Nat → Prop} {P : Program} {o : Oper} {a : Act} {w : World} {hv : Nat → Option Value} {M : Mem} {K : Kont} {Q : Exit → Act → World → Prop}

theorem wp_value {next : Act → World → Prop} {v : Value} {w' : World} (h : (execOp a.eval o).run P w = .ok (.value v) w') (hp : next (a.put o.dst v) w') : o.wp P a w next Q := by
  unfold Oper.wp; rw [h]; exact hp
theorem wp_skip' {next : Act → World → Prop} {w' : World} (h : (execOp a.eval o).run P w = .ok .skip w') (hp : next (a.put o.dst undef) w') : o.wp P a w next Q := by
  unfold Oper.wp; rw [h]; exact hp

/-- an operation that makes no memory. -/
theorem after_same {v : Value} {r : AV} (h : (execOp a.eval o).run P w = .ok (.value v) w) (hM : MemR A w hv M) (hr : RV w (OwnA A hv) hv r v) (hK : K r [] M) : o.wp P a w (After A o a w hv K) Q :=
  wp_value h ⟨r, [], M, hv, v, hK, rfl, hM, hr, StepR.refl A w hv⟩
end

end Aw
end Go.Proofs.Ytkolpijhgcijbaa

namespace Go.Proofs.Ytkolpijhgcijbaa
namespace Aw
open Go.RowKit

section
variable {A : Nat → Prop} {P : Program} {w : World} {T : Nat → Prop} {hv : Nat → Option Value}

theorem tiOf_spec {t : TypeId} {ti : TI} (h : tiOf P t = some ti) : ∃ i d z, P.info? t = some i ∧ P.underlying t = some d ∧ i.zero = some z ∧ z.cells.size = i.size ∧ (∀ u ∈ z.cells.toList, u.oneCell' = true) ∧
    ti.agg = (match d with | .struct _ | .array _ _ => true | _ => false) ∧ ti.size = i.size ∧ ti.bytes = i.bytes ∧ ti.zero = z.cells.toList ∧
    ti.elem = (match d with | .slice e => some e | _ => none) ∧ ti.arr = (match d with | .array n e => some (n, e) | _ => none) ∧
    ti.flds = (match d with | .struct fs => fs.toList.map fun f => (f.offset, P.cellsOf f.type) | _ => []) ∧
    ti.ftys = (match d with | .struct fs => fs.toList.map fun f => f.type | _ => []) ∧ ti.bool = (match d with | .bool => true | _ => false) ∧ ti.eqn = eqnOf P t ∧ fldsKnown P d = true := by
  unfold tiOf at h
  split at h
  · rename_i i d hi hd
    split at h
    · rename_i z hz
      split at h
      · rename_i hc
        injection h with h
        subst h
        simp only [Bool.and_eq_true, decide_eq_true_eq, List.all_eq_true] at hc
        exact ⟨i, d, z, hi, hd, hz, hc.1.1, hc.1.2, rfl, rfl, rfl, rfl, rfl, rfl, rfl, rfl, rfl, rfl, hc.2⟩
      · cases h
    · cases h
  · cases h

theorem ti_elem {t e : TypeId} {ti : TI} (h : tiOf P t = some ti) (he : ti.elem = some e) : P.underlying t = some (.slice e) := by
  obtain ⟨i, d, z, _, hd, _, _, _, _, _, _, _, h1, _⟩ := tiOf_spec h
  rw [h1] at he
  cases d <;> simp at he
  subst he
  exact hd

theorem ti_size {t : TypeId} {ti : TI} (h : tiOf P t = some ti) (w : World) : (sizeOf t).run P w = .ok ti.size w := by
  obtain ⟨i, d, z, hi, _, _, _, _, _, h1, _⟩ := tiOf_spec h
  simp [sizeOf, typeInfo, hi, h1]

theorem ti_agg {t : TypeId} {ti : TI} (h : tiOf P t = some ti) (w : World) : (isAgg t).run P w = .ok ti.agg w := by
  obtain ⟨i, d, z, _, hd, _, _, _, h1, _⟩ := tiOf_spec h
  simp only [isAgg, Sem.run_bind, run_underlying hd, Result.andThen_ok, h1]
  cases d <;> rfl

theorem ti_arr {t e : TypeId} {n : Nat} {ti : TI} (h : tiOf P t = some ti) (he : ti.arr = some (n, e)) : P.underlying t = some (.array n e) := by
  obtain ⟨i, d, z, _, hd, _, _, _, _, _, _, _, _, h1, _⟩ := tiOf_spec h
  rw [h1] at he
  cases d <;> simp at he
  obtain ⟨rfl, rfl⟩ := he
  exact hd

theorem ti_fld {t : TypeId} {f fo fs : Nat} {ti : TI} (h : tiOf P t = some ti) (hf : ti.flds[f]? = some (fo, fs)) :
    ∃ Fs : Array Field, ∃ F : Field, P.underlying t = some (.struct Fs) ∧ Fs[f]? = some F ∧ F.offset = fo ∧ P.cellsOf F.type = fs := by
  obtain ⟨i, d, z, _, hd, _, _, _, _, _, _, _, _, _, h1, _⟩ := tiOf_spec h
  rw [h1] at hf
  cases d with
  | struct Fs =>
    simp only [List.getElem?_map, Array.getElem?_toList] at hf
    cases hF : Fs[f]? with
    | none => rw [hF] at hf; simp at hf
    | some F => rw [hF] at hf; simp at hf; exact ⟨Fs, F, hd, hF, hf.1, hf.2⟩
  | _ => simp at hf

theorem ti_fty {t ft : TypeId} {f fo fs : Nat} {ti : TI} (h : tiOf P t = some ti) (hf : ti.flds[f]? = some (fo, fs)) (hg : ti.ftys[f]? = some ft) :
    ∃ Fs : Array Field, ∃ F : Field, P.underlying t = some (.struct Fs) ∧ Fs[f]? = some F ∧ F.offset = fo ∧ F.type = ft := by
  obtain ⟨Fs, F, hu, hF, h1, _⟩ := ti_fld h hf
  obtain ⟨i, d, z, _, hd, _, _, _, _, _, _, _, _, _, _, h2, _⟩ := tiOf_spec h
  rw [hd] at hu
  injection hu with hu
  subst hu
  rw [h2] at hg
  simp only [List.getElem?_map, Array.getElem?_toList, hF, Option.map_some, Option.some.injEq] at hg
  exact ⟨Fs, F, hd, hF, h1, hg⟩

theorem part_ok {t : TypeId} {ti : TI} {xs : List AV} {r : AV} {off : Nat} {cs : Array Value} (ht : tiOf P t = some ti) (hy : RL w T hv xs cs.toList) (hl : loadA ti (.g xs) off = some r) :
    ∃ u, (part t cs off).run P w = .ok u w ∧ RV w T hv r u := by
  unfold loadA at hl
  split at hl
  · cases hl
  rename_i hflat
  have hf : (AV.g xs).flat = true := by simpa using hflat
  have hs : ∀ x ∈ xs, x.size = 1 := flat_size hf
  simp only [part, Sem.run_bind, ti_agg ht, Result.andThen_ok]
  have hwl : cs.size = xs.length := by have := RL_len xs _ hs hy; simpa using this
  split at hl
  · rename_i hag
    simp only [hag, if_true, Sem.run_bind, ti_size ht, Result.andThen_ok, Sem.run_pure]
    refine ⟨_, rfl, ?_⟩
    simp only at hl
    split at hl
    · rename_i hh
      simp only [Bool.and_eq_true, beq_iff_eq] at hh
      injection hl with hl
      subst hl
      simp only [RV]
      refine ⟨_, rfl, ?_⟩
      rw [hh.1, ← hh.2, Nat.zero_add, ← hwl]
      simpa using hy
    · split at hl
      · rename_i hh
        simp only [decide_eq_true_eq] at hh
        injection hl with hl
        subst hl
        have h1 := RL_take (n := ti.size) (fun x hx => hs x (List.mem_of_mem_drop hx)) (RL_drop hs hy off)
        simp only [Nat.mul_one] at h1
        simp only [RV]
        refine ⟨_, rfl, ?_⟩
        have : (cs.extract off (off + ti.size)).toList = (cs.toList.drop off).take ti.size := by simp [List.extract_eq_take_drop]
        rw [this]; exact h1
      · cases hl
  · rename_i hag
    simp only [hag]
    obtain ⟨u, hu, hR⟩ := cell_at hs hy hl
    have hu' : cs[off]? = some u := by simpa using hu
    refine ⟨u, by simp [hu'], R_RV ?_ hR⟩
    simp only [AV.flat, AV.cells, List.all_eq_true] at hf
    exact hf r (List.mem_of_getElem? hl)

theorem run_sizeOf' {t : TypeId} {n : Nat} (h : P.cellsOf t = n) (hn : n ≠ 0) (w : World) : (sizeOf t).run P w = .ok n w := by
  unfold Program.cellsOf at h
  cases hi : P.info? t with
  | none => rw [hi] at h; simp at h; omega
  | some i => rw [hi] at h; simp at h; simp [sizeOf, typeInfo, hi, h]

theorem load_ok {t : TypeId} {ti : TI} {y r : AV} {off b o : Nat} {ws : List Value} (ht : tiOf P t = some ti) (hy : R w T hv y ws) (hc : ∀ j u, ws[j]? = some u → w.cell? ⟨b, o + j, none⟩ = some u)
    (hl : loadA ti y off = some r) : ∃ u, (loadVar t ⟨b, o + off, none⟩).run P w = .ok u w ∧ RV w T hv r u := by
  unfold loadA at hl
  split at hl
  · cases hl
  rename_i hflat
  have hf : y.flat = true := by simpa using hflat
  have hL := (R_cells hf).1 hy
  have hs := flat_size hf
  simp only [loadVar, Sem.run_bind, ti_agg ht, Result.andThen_ok]
  split at hl
  · rename_i hag
    simp only [hag, if_true, Sem.run_bind, ti_size ht, Result.andThen_ok]
    have key : ∀ (zs : List AV) (n : Nat), zs = (y.cells.drop off).take n → n = ti.size → off + n ≤ y.cells.length → ∃ u, ((loadCells ⟨b, o + off, none⟩ ti.size).run P w).andThen (fun a w' => (pure (Value.agg a) : Sem Value).run P w') = .ok u w ∧ RV w T hv (.g zs) u := by
      intro zs n hz hn hlen
      have h1 := RL_take (n := n) (fun x hx => hs x (List.mem_of_mem_drop hx)) (RL_drop hs hL off)
      simp only [Nat.mul_one] at h1
      have hwl : ws.length = y.cells.length := by have := RL_len y.cells ws hs hL; omega
      have h2 := run_loadCells_list (P := P) w ⟨b, o + off, none⟩ ((ws.drop off).take n) (fun j v hj => by
        rw [Addr.add_lit]
        rw [List.getElem?_take] at hj
        split at hj
        · rw [List.getElem?_drop] at hj
          have := hc _ _ hj
          rw [← Nat.add_assoc] at this
          exact this
        · cases hj)
      have hlen2 : ((ws.drop off).take n).length = ti.size := by simp; omega
      rw [hlen2] at h2
      refine ⟨_, by rw [h2]; rfl, ?_⟩
      simp only [RV]
      exact ⟨_, rfl, by rw [hz]; exact h1⟩
    split at hl
    · rename_i xs
      split at hl
      · rename_i hh
        simp only [Bool.and_eq_true, beq_iff_eq] at hh
        injection hl with hl
        subst hl
        exact key xs ti.size (by simp only [AV.cells]; rw [hh.1, ← hh.2]; simp) rfl (by simp only [AV.cells]; omega)
      · split at hl
        · rename_i hh
          simp only [decide_eq_true_eq] at hh
          injection hl with hl
          subst hl
          exact key _ ti.size rfl rfl (by simp only [AV.cells]; exact hh)
        · cases hl
    · cases hl
  · rename_i hag
    simp only [hag]
    obtain ⟨u, hu, hR⟩ := cell_at hs hL hl
    have hcell := hc off u hu
    refine ⟨u, by simp [load, Sem.run, hcell], R_RV ?_ hR⟩
    simp only [AV.flat, List.all_eq_true] at hf
    exact hf r (List.mem_of_getElem? hl)

theorem putsA_len : ∀ (l cs : List AV) (off : Nat), (putsA cs off l).length = cs.length
  | [], cs, off => rfl
  | x :: l, cs, off => by simp [putsA, putsA_len l]

theorem putsA_RL : ∀ (l cs : List AV) (off : Nat) (us vs : List Value), (∀ x ∈ cs, x.size = 1) → (∀ x ∈ l, x.size = 1) → RL w T hv cs us → RL w T hv l vs → off + l.length ≤ cs.length →
    RL w T hv (putsA cs off l) (us.take off ++ vs ++ us.drop (off + vs.length)) ∧ ∀ x ∈ putsA cs off l, x.size = 1
  | [], cs, off, us, vs, h1, _, h3, h4, _ => by
    simp only [RL] at h4
    subst h4
    simp only [putsA, List.append_nil, List.length_nil, Nat.add_zero, List.take_append_drop]
    exact ⟨h3, h1⟩
  | x :: l, cs, off, us, vs, h1, h2, h3, h4, h5 => by
    simp only [RL] at h4
    obtain ⟨u1, u2, rfl, h6, h7⟩ := h4
    have hx1 := R_size x hv u1 h6
    rw [h2 x List.mem_cons_self] at hx1
    match u1, hx1 with
    | [u], _ =>
      simp only [List.length_cons] at h5
      have h8 := RL_set h1 h3 (i := off) (by omega) h6
      have hul : us.length = cs.length := by have := RL_len cs us h1 h3; omega
      have h9 := putsA_RL l (cs.set off x) (off + 1) (us.set off u) u2 (fun y hy => by
        rcases List.mem_or_eq_of_mem_set hy with hy | rfl
        · exact h1 y hy
        · exact h2 _ List.mem_cons_self) (fun y hy => h2 y (List.mem_cons_of_mem _ hy)) h8 h7 (by simp; omega)
      simp only [putsA]
      refine ⟨?_, h9.2⟩
      have e : (us.set off u).take (off + 1) ++ u2 ++ (us.set off u).drop (off + 1 + u2.length) = us.take off ++ ([u] ++ u2) ++ us.drop (off + ([u] ++ u2).length) := by
        have e1 : (us.set off u).take (off + 1) = us.take off ++ [u] := by
          have hl : (us.take off).length = off := by simp; omega
          rw [List.set_eq_take_append_cons_drop, if_pos (by omega), List.take_append, hl, List.take_of_length_le (by omega)]
          simp
        have e2 : (us.set off u).drop (off + 1 + u2.length) = us.drop (off + ([u] ++ u2).length) := by
          rw [List.drop_set_of_lt (by omega)]
          congr 1
          simp
          omega
        rw [e1, e2]
        simp
      rw [← e]
      exact h9.1
end

end Aw
end Go.Proofs.Ytkolpijhgcijbaa

namespace Go.Proofs.Ytkolpijhgcijbaa
namespace Aw
open Go.RowKit

section
variable {A : Nat → Prop} {P : Program} {w : World} {hv : Nat → Option Value} {M : Mem}

theorem obR_row {T : Nat → Prop} {ob : Ob} {v : Value} (h0 : ObR w T hv ob v) (hm : ob.mp = none) (hne : ob.xs ≠ []) : ∃ g cap cur us, v = .slice (some ⟨g, 0, none⟩) ob.xs.length cap ∧ w.heap[g]? = some (.cells cur ob.ty (0, 0)) ∧ ob.xs.length ≤ cap ∧ cap ≤ maxLen ∧
    cur.size = cap * ob.k ∧ cur.toList.take (ob.xs.length * ob.k) = us ∧ (∀ x ∈ ob.xs, x.size = ob.k) ∧ RL w T hv ob.xs us ∧ us.length = ob.xs.length * ob.k := by
  obtain ⟨us, hr, hs, hl⟩ := h0.row hm
  rcases hr.2 with ⟨_, h0⟩ | ⟨g, cap, cur, rfl, _, h1, h2, h3, h4, h5⟩
  · exact absurd (List.eq_nil_of_length_eq_zero h0) hne
  · exact ⟨g, cap, cur, us, rfl, h1, h2, h3, h4, h5, hs, hl, RL_len ob.xs us hs hl⟩

/-- the cells of an element of an object, as they lie. -/
theorem ob_cells {T : Nat → Prop} {ob : Ob} {v : Value} (h : ObR w T hv ob v) (hm : ob.mp = none) {j : Nat} (hj : j < ob.xs.length) : ∃ g cap ws, v = .slice (some ⟨g, 0, none⟩) ob.xs.length cap ∧ R w T hv (ob.xs.getD j .bot) ws ∧
    ∀ i u, ws[i]? = some u → w.cell? ⟨g, j * ob.k + i, none⟩ = some u := by
  obtain ⟨g, cap, cur, us, rfl, h1, h2, h3, h4, h5, h6, h7, h8⟩ := obR_row h hm (by intro e; rw [e] at hj; simp at hj)
  obtain ⟨u1, u2, u3, e, e1, e2, e3, _⟩ := RL_at h6 h7 (List.getElem?_eq_getElem hj)
  refine ⟨g, cap, u2, rfl, by rw [List.getD_eq_getElem?_getD, List.getElem?_eq_getElem hj]; exact e2, fun i u hu => ?_⟩
  rw [cell_of_row w g _ cur ob.ty (0, 0) h1]
  have hi : i < u2.length := (List.getElem?_eq_some_iff.1 hu).1
  have : us[j * ob.k + i]? = some u := by
    rw [e, List.append_assoc, List.getElem?_append_right (by omega), List.getElem?_append_left (by omega), e1]
    simpa using hu
  rw [← h5, List.getElem?_take] at this
  split at this
  · simpa using this
  · cases this

theorem storeA_ok {T : Nat → Prop} {ti : TI} {x y r : AV} {off : Nat} {us : List Value} {v : Value} (hx : R w T hv x us) (hy : RV w T hv y v) (h : storeA ti x off y = some r) :
    off + ti.size ≤ us.length ∧ v.cells.size = ti.size ∧ (∀ u ∈ v.cells.toList, u.oneCell' = true) ∧ R w T hv r (us.take off ++ v.cells.toList ++ us.drop (off + ti.size)) ∧ r.size = x.size := by
  unfold storeA at h
  split at h
  · rename_i hc
    simp only [Bool.and_eq_true, beq_iff_eq, decide_eq_true_eq] at hc
    obtain ⟨⟨⟨⟨h1, h2⟩, h3⟩, h5⟩, h6⟩ := hc
    have hyc := RV_R h3 hy
    have hyl := (R_cells h2).1 hyc
    have hxl := (R_cells h1).1 hx
    have l1 := RL_len _ _ (flat_size h2) hyl
    have l2 := RL_len _ _ (flat_size h1) hxl
    simp only [Nat.mul_one] at l1 l2
    have hp := putsA_RL y.cells x.cells off us v.cells.toList (flat_size h1) (flat_size h2) hxl hyl (by omega)
    have e : v.cells.toList.length = ti.size := by omega
    rw [e] at hp
    have hsz : v.cells.size = ti.size := by simpa using e
    have sizeL1 : ∀ l : List AV, (∀ z ∈ l, z.size = 1) → AV.sizeL l = l.length := by
      intro l
      induction l with
      | nil => intro _; rfl
      | cons z l ih => intro hz; simp [AV.sizeL, hz z List.mem_cons_self, ih fun q hq => hz q (List.mem_cons_of_mem _ hq)]; omega
    refine ⟨by omega, hsz, R_one _ _ _ hyc, ?_⟩
    have hpl := putsA_len y.cells x.cells off
    have hp0 := hp
    have hx0 := hx
    generalize hq : putsA x.cells off y.cells = q at hp hpl
    cases x with
    | g xs =>
      subst hq
      simp only [Option.some.injEq] at h
      subst h
      refine ⟨by simpa [R, AV.cells] using hp.1, ?_⟩
      have hp2 : ∀ x ∈ putsA xs off y.cells, x.size = 1 := hp.2
      have hx2 : ∀ x ∈ xs, x.size = 1 := flat_size h1
      simp only [AV.size]
      rw [sizeL1 _ hp2, putsA_len, sizeL1 _ hx2]
    | t xs => simp [AV.flat, AV.cells, AV.single] at h1
    | _ =>
      simp only at h
      rw [hq] at h
      match q, h, hp, hpl with
      | [z], h, hp, _ =>
        simp only [List.head?_cons, Option.some.injEq] at h
        subst h
        refine ⟨?_, by rw [hp.2 z (by simp)]; rfl⟩
        have := hp.1
        simp only [RL] at this
        obtain ⟨u1, u2, e, h7, rfl⟩ := this
        rw [List.append_nil] at e
        rw [e]; exact h7
  · cases h

theorem setOb_get (M : Mem) (id i : Nat) (o : Option Ob) (hid : id < M.length) : (M.set id o)[i]? = if i = id then some o else M[i]? := by
  rw [List.getElem?_set]
  by_cases h : i = id
  · subst h; simp [hid]
  · rw [if_neg (Ne.symm h), if_neg h]

/-- cells of an object are written over. -/
theorem cells_ok {id j off : Nat} {r : AV} {ob : Ob} {b n c : Nat} {cs : List Value} (hM : MemR A w hv M) (hid : M[id]? = some (some ob)) (hj : j < ob.xs.length) (hb : hv id = some (.slice (some ⟨b, 0, none⟩) n c))
    (hone : ∀ u ∈ cs, u.oneCell' = true)
    (hr : ∀ us, R w (OwnA A hv) hv (ob.xs.getD j .bot) us → off + cs.length ≤ us.length ∧ R w (OwnA A hv) hv r (us.take off ++ cs ++ us.drop (off + cs.length)) ∧ r.size = (ob.xs.getD j .bot).size) :
    ∃ w', (storeCells ⟨b, j * ob.k + off, none⟩ cs).run P w = .ok () w' ∧ MemR A w' hv (M.set id (some { ob with xs := ob.xs.set j r })) ∧ StepR A w hv [] w' hv := by
  obtain ⟨v0, hv0, hob⟩ := hM.live id ob hid
  rw [hb] at hv0
  injection hv0 with hv0
  subst hv0
  obtain ⟨g, cap, cur, us, e0, h1, h2, h3, h4, h5, h6, h7, h8⟩ := obR_row hob hob.slice (by intro e; rw [e] at hj; simp at hj)
  simp only [Value.slice.injEq, Option.some.injEq, Addr.mk.injEq, and_true] at e0
  obtain ⟨rfl, rfl, rfl⟩ := e0
  obtain ⟨u1, u2, u3, e, e1, e2, e3, _⟩ := RL_at h6 h7 (List.getElem?_eq_getElem hj)
  have hgd : ob.xs.getD j .bot = ob.xs[j] := by rw [List.getD_eq_getElem?_getD, List.getElem?_eq_getElem hj]; rfl
  rw [hgd] at hr
  obtain ⟨s1, s4, s5⟩ := hr u2 e2
  have hcl : us.length ≤ cur.size := by rw [h8, h4]; exact Nat.mul_le_mul_right _ h2
  have hul : us.length = u1.length + u2.length + u3.length := by rw [e]; simp; omega
  have hrun := run_storeCells_at P b (j * ob.k + off) ob.ty cs 0 cur w h1 (by simp; omega) hone
  simp only [Nat.add_zero] at hrun
  refine ⟨_, hrun, ?_⟩
  have hs : StepR A w hv [] (w.setRow b (cur.toList.take (j * ob.k + off) ++ cs ++ cur.toList.drop (j * ob.k + off + cs.length)).toArray) hv :=
    ⟨⟨by simp, fun b' _ hT => setRow_other _ _ _ _ (by rintro rfl; exact hT ⟨id, _, hb, rfl⟩), fun _ _ h => h⟩, fun _ _ _ h => h, rfl, rfl, rfl, Nat.le_refl _⟩
  refine ⟨⟨fun i ob' h => ?_, fun i u h => ?_, hM.inj, fun b h => by have := hM.old b h; simpa using this⟩, hs⟩
  · rw [setOb_get _ _ _ _ (List.getElem?_eq_some_iff.1 hid).1] at h
    by_cases hi : i = id
    · subst hi
      rw [if_pos rfl] at h
      simp only [Option.some.injEq] at h
      subst h
      have us' : (cur.toList.take (j * ob.k + off) ++ cs ++ cur.toList.drop (j * ob.k + off + cs.length)).take (ob.xs.length * ob.k) = us.take (j * ob.k) ++ (u2.take off ++ cs ++ u2.drop (off + cs.length)) ++ us.drop (j * ob.k + ob.k) := by
        have hu2 : u2.length = ob.k := e3
        apply List.ext_getElem?
        intro m
        have hcur : ∀ m, m < us.length → cur.toList[m]? = us[m]? := fun m hm => by rw [← h5, List.getElem?_take, if_pos (by omega)]
        have husm : ∀ m, m < ob.k → us[j * ob.k + m]? = u2[m]? := fun m hm => by
          rw [e, List.append_assoc, List.getElem?_append_right (by omega), List.getElem?_append_left (by omega), e1]; congr 1; omega
        have hsz : cur.toList.length = cur.size := by simp
        have hmul : j * ob.k + ob.k ≤ ob.xs.length * ob.k := by rw [← Nat.succ_mul]; exact Nat.mul_le_mul_right _ hj
        rw [List.getElem?_take]
        by_cases hm : m < ob.xs.length * ob.k
        · rw [if_pos hm]
          by_cases c1 : m < j * ob.k
          · rw [List.append_assoc, List.getElem?_append_left (by simp; omega), List.append_assoc, List.getElem?_append_left (by simp; omega), List.getElem?_take, List.getElem?_take, if_pos (by omega), if_pos c1, hcur m (by omega)]
          · obtain ⟨d, rfl⟩ : ∃ d, m = j * ob.k + d := ⟨m - j * ob.k, by omega⟩
            by_cases c2 : d < off
            · rw [List.append_assoc, List.getElem?_append_left (by simp; omega), List.append_assoc, List.getElem?_append_right (by simp; omega), List.append_assoc, List.append_assoc, List.getElem?_append_left (by simp; omega), List.getElem?_take, if_pos (by omega), hcur _ (by omega), husm d (by omega), List.getElem?_take]
              simp only [List.length_take]
              rw [show j * ob.k + d - min (j * ob.k) us.length = d by omega, if_pos c2]
            · by_cases c3 : d < off + cs.length
              · rw [List.append_assoc, List.getElem?_append_right (by simp; omega), List.getElem?_append_left (by simp; omega), List.append_assoc, List.getElem?_append_right (by simp; omega), List.append_assoc, List.append_assoc, List.getElem?_append_right (by simp; omega), List.getElem?_append_left (by simp; omega)]
                simp only [List.length_take]
                congr 1
                omega
              · by_cases c4 : d < ob.k
                · rw [List.getElem?_append_right (by simp; omega), List.getElem?_drop, List.append_assoc, List.getElem?_append_right (by simp; omega), List.getElem?_append_left (by simp; omega), List.getElem?_append_right (by simp; omega), List.getElem?_drop]
                  simp only [List.length_take, List.length_append]
                  rw [show j * ob.k + off + cs.length + (j * ob.k + d - (min (j * ob.k + off) cur.toList.length + cs.length)) = j * ob.k + d by omega, hcur _ (by omega), husm d c4]
                  congr 1
                  omega
                · rw [List.getElem?_append_right (by simp; omega), List.getElem?_drop, List.getElem?_append_right (by simp; omega), List.getElem?_drop]
                  simp only [List.length_take, List.length_append, List.length_drop]
                  rw [show j * ob.k + off + cs.length + (j * ob.k + d - (min (j * ob.k + off) cur.toList.length + cs.length)) = j * ob.k + d by omega, hcur _ (by omega)]
                  congr 1
                  omega
        · rw [if_neg hm, List.getElem?_eq_none]
          simp
          omega
      refine ⟨_, hb, ObR.of_row (ob := { ob with xs := ob.xs.set j r }) hob.slice ⟨us.take (j * ob.k) ++ (u2.take off ++ cs ++ u2.drop (off + cs.length)) ++ us.drop (j * ob.k + ob.k), ⟨?_, .inr ⟨b, c, _, ?_, Nat.zero_le _, setRow_heap w b cur _ ob.ty _ h1, ?_, h3, ?_, ?_⟩⟩, ?_, ?_⟩⟩
      · have hmul : j * ob.k + ob.k ≤ ob.xs.length * ob.k := by rw [← Nat.succ_mul]; exact Nat.mul_le_mul_right _ hj
        simp
        omega
      · simp
      · simpa using h2
      · simp
        omega
      · simp only [List.length_set]
        exact us'
      · intro x hx
        rcases List.mem_or_eq_of_mem_set hx with hx | rfl
        · exact h6 x hx
        · rw [s5]; exact h6 _ (List.getElem_mem hj)
      · have hset := RL_setAt h6 h7 hj s4
        have := RL_keep hs.keeps hs.hv _ _ hset
        rw [AV.killL_nil] at this
        exact this
    · rw [if_neg hi] at h
      obtain ⟨v1, h9, h10, h11⟩ := live_step hM hs (fun v' b' hi' hb' => setRow_other _ _ _ _ (by rintro rfl; exact hi (hM.inj i id _ _ _ hi' hb hb' rfl))) (by simp) h
      rw [Ob.kill_nil] at h11
      exact ⟨v1, h9, h11⟩
  · obtain ⟨o, ho⟩ := hM.dom i u h
    rw [setOb_get _ _ _ _ (List.getElem?_eq_some_iff.1 hid).1]
    by_cases hi : i = id
    · exact ⟨_, by rw [if_pos hi]⟩
    · exact ⟨o, by rw [if_neg hi]; exact ho⟩

theorem store_ok {t : TypeId} {ti : TI} {id k j off : Nat} {y r : AV} {ob : Ob} {ad v : Value} (ht : tiOf P t = some ti) (hM : MemR A w hv M) (hid : M[id]? = some (some ob)) (hk : ob.k = k) (hj : j < ob.xs.length)
    (ha : RV w (OwnA A hv) hv (.q id k j off) ad) (hy : RV w (OwnA A hv) hv y v) (hst : storeA ti (ob.xs.getD j .bot) off y = some r) :
    ∃ w', (Instr.storeAt t ad v).run P w = .ok () w' ∧ MemR A w' hv (M.set id (some { ob with xs := ob.xs.set j r })) ∧ StepR A w hv [] w' hv := by
  simp only [RV, R] at ha
  obtain ⟨b, n, c, hb, he⟩ := ha
  injection he with he
  subst he
  subst hk
  have hall : ∀ us, R w (OwnA A hv) hv (ob.xs.getD j .bot) us → off + ti.size ≤ us.length ∧ v.cells.size = ti.size ∧ (∀ u ∈ v.cells.toList, u.oneCell' = true) ∧ R w (OwnA A hv) hv r (us.take off ++ v.cells.toList ++ us.drop (off + ti.size)) ∧ r.size = (ob.xs.getD j .bot).size :=
    fun us hus => storeA_ok hus hy hst
  obtain ⟨v0, hv0, hob⟩ := hM.live id ob hid
  rw [hb] at hv0
  injection hv0 with hv0
  subst hv0
  obtain ⟨g, cap, ws, e2, e3, _⟩ := ob_cells hob hob.slice hj
  obtain ⟨_, s2, s3, _⟩ := hall ws e3
  have hl : v.cells.toList.length = ti.size := by simpa using s2
  obtain ⟨w', h1, h2, h3⟩ := cells_ok (P := P) (off := off) (r := r) (cs := v.cells.toList) hM hid hj hb s3 (fun us hus => by
    obtain ⟨t1, _, _, t4, t5⟩ := hall us hus
    rw [hl]
    exact ⟨t1, t4, t5⟩)
  refine ⟨w', ?_, h2, h3⟩
  simp only [Instr.storeAt, Sem.run_bind, Instr.sureAddr, Sem.run_pure, Result.andThen_ok, storeVar, ti_size ht, s2, ne_eq, not_true_eq_false, if_false]
  exact h1

end

end Aw
end Go.Proofs.Ytkolpijhgcijbaa

namespace Go.Proofs.Ytkolpijhgcijbaa
namespace Aw
open Go.RowKit

section
variable {A : Nat → Prop} {P : Program} {w : World} {hv : Nat → Option Value} {M : Mem} {T : Nat → Prop}

theorem getD_at {l : List AV} {i : Nat} (h : i < l.length) : l.getD i .bot = l[i] := by rw [List.getD_eq_getElem?_getD, List.getElem?_eq_getElem h]; rfl

theorem readable_sub {b off n : Nat} {u1 u2 u3 : List Value} (h : Readable w T (some ⟨b, off, none⟩) (u1 ++ u2 ++ u3)) (hn : u1.length = n) : Readable w T (some ⟨b, off + n, none⟩) u2 := by
  obtain ⟨b', off', e, hb, hT, hc⟩ := h
  injection e with e
  injection e with e1 e2
  subst e1; subst e2
  refine ⟨b, off + n, rfl, hb, hT, fun j u hu => ?_⟩
  have := hc (n + j) u (by rw [List.append_assoc, List.getElem?_append_right (by omega), List.getElem?_append_left (by have := (List.getElem?_eq_some_iff.1 hu).1; omega)]; rw [← hu]; congr 1; omega)
  rw [← Nat.add_assoc] at this
  exact this

theorem idx_ok {t : TypeId} {x : AV} {xv : Value} {k : IntKind} {i : Int} {K : HK (AV → Prop)} (hM : MemR A w hv M) (hx : RV w (OwnA A hv) hv x xv) (h : idxA P t M x i (K := K)) :
    ∃ u r, (Instr.indexAt t xv (.int k i)).run P w = .ok u w ∧ RV w (OwnA A hv) hv r u ∧ K.k r := by
  unfold idxA at h
  split at h
  · exact h.elim
  rename_i ti hti
  split at h
  · rename_i e he
    have hu := ti_elem hti he
    split at h
    · rename_i te kk xs hte
      obtain ⟨⟨h1, h2⟩, y, hy, hK⟩ := h
      have hi : i.toNat < xs.length := (List.getElem?_eq_some_iff.1 hy).1
      have h3 : i < xs.length := by omega
      simp only [RV, R] at hx
      obtain ⟨A, c, ws, e1, h4, h5, h6, h7, h8⟩ := hx
      injection e1 with e1
      subst e1
      obtain ⟨b, off, rfl, hb, hT, hc⟩ := h8 (by intro e; rw [e] at hi; simp at hi)
      obtain ⟨u1, u2, u3, e2, e3, e4, e5, _⟩ := RL_at h6 h7 (List.getElem?_eq_getElem hi)
      refine ⟨.pointer (some ⟨b, off + i.toNat * te.size, none⟩), _, ?_, ?_, hK⟩
      · simp [Instr.indexAt, asIntOf, run_underlying hu, h2, h3, ti_size hte, Addr.add_lit]
      · simp only [RV, R]
        refine ⟨b, off + i.toNat * te.size, u2, by simp, ?_, ?_⟩
        · have : xs[i.toNat] = y := by rw [List.getElem?_eq_getElem hi] at hy; injection hy
          rw [← this]; exact e4
        · rw [e2] at hc
          exact readable_sub ⟨b, off, rfl, hb, hT, hc⟩ (by rw [e3, h1])
    · rename_i te id hte
      split at h
      · rename_i ob hid
        obtain ⟨⟨hmp, h1, h2, h3⟩, hK⟩ := h
        simp only [RV, R] at hx
        obtain ⟨v, hv1, e1, _⟩ := hx
        injection e1 with e1
        subst e1
        obtain ⟨v', hv2, hob⟩ := hM.live id ob hid
        rw [hv1] at hv2
        injection hv2 with hv2
        subst hv2
        obtain ⟨g, cap, cur, us, rfl, _⟩ := obR_row hob hmp (by intro e; rw [e] at h3; simp at h3; omega)
        refine ⟨.pointer (some ⟨g, i.toNat * te.size, none⟩), _, ?_, ?_, hK⟩
        · simp [Instr.indexAt, asIntOf, run_underlying hu, h2, h3, ti_size hte, Addr.add_lit]
        · simp only [RV, R]
          exact ⟨g, _, _, hv1, by rw [h1]; simp⟩
      · exact h.elim
    · exact h.elim
  · split at h
    · rename_i n e he
      have hu := ti_arr hti he
      split at h
      · rename_i te y off hte
        obtain ⟨⟨h1, h2⟩, hK⟩ := h
        simp only [RV, R] at hx
        obtain ⟨b, o, ws, e1, h4, h5⟩ := hx
        injection e1 with e1
        subst e1
        refine ⟨.pointer (some ⟨b, o + (off + i.toNat * te.size), none⟩), _, ?_, ?_, hK⟩
        · simp [Instr.indexAt, asIntOf, run_underlying hu, Instr.sureAddr, h1, h2, ti_size hte, Addr.add_lit, Nat.add_assoc]
        · simp only [RV, R]
          exact ⟨b, o, ws, rfl, h4, h5⟩
      · rename_i te id k' j off hte
        obtain ⟨⟨h1, h2⟩, hK⟩ := h
        simp only [RV, R] at hx
        obtain ⟨b, n', c, hb, e1⟩ := hx
        injection e1 with e1
        subst e1
        refine ⟨.pointer (some ⟨b, j * k' + (off + i.toNat * te.size), none⟩), _, ?_, ?_, hK⟩
        · simp [Instr.indexAt, asIntOf, run_underlying hu, Instr.sureAddr, h1, h2, ti_size hte, Addr.add_lit, Nat.add_assoc]
        · simp only [RV, R]
          exact ⟨b, n', c, hb, rfl⟩
      · exact h.elim
    · exact h.elim

theorem bnd_ok {ρ : Operand → AV} {a : Act} (hρ : ∀ x, RV w (OwnA A hv) hv (ρ x) (a.eval x)) {x : Option Operand} {n : Option Int} (h : bndA ρ x = some n) :
    (x = none ∧ n = none) ∨ ∃ y k m, x = some y ∧ a.eval y = .int k m ∧ n = some m := by
  unfold bndA at h
  split at h
  · injection h with h; exact .inl ⟨rfl, h.symm⟩
  · rename_i y
    split at h
    · rename_i k m hy
      injection h with h
      have := hρ y
      rw [hy] at this
      simp only [RV] at this
      exact .inr ⟨y, k, m, rfl, this, h.symm⟩
    · cases h

theorem slice_ok {t : TypeId} {x : AV} {xv : Value} {lo hi : Option Operand} {ρ : Operand → AV} {a : Act} {K : HK Kont} (hρ : ∀ x, RV w (OwnA A hv) hv (ρ x) (a.eval x)) (hx : RV w (OwnA A hv) hv x xv)
    (h : sliceA P t M x (bndA ρ lo) (bndA ρ hi) (K := K)) :
    ∃ u r, (Instr.sliceAt t xv (lo.map a.eval) (hi.map a.eval) none).run P w = .ok u w ∧ RV w (OwnA A hv) hv r u ∧ K.k r [] M := by
  unfold sliceA at h
  split at h
  · rename_i ti k xs l hh hti hlo hhi
    split at h
    · rename_i e he
      split at h
      · rename_i te hte
        have hu := ti_elem hti he
        obtain ⟨⟨h1, h2, h3, h4⟩, hK⟩ := h
        simp only [RV, R] at hx
        obtain ⟨A, c, ws, e1, h5, h6, h7, h8, h9⟩ := hx
        injection e1 with e1
        subst e1
        -- the bounds as they run
        obtain ⟨L, hL, hL0⟩ : ∃ L : Nat, (L : Int) = l.getD 0 ∧ (l.getD 0).toNat = L := ⟨(l.getD 0).toNat, by omega, rfl⟩
        obtain ⟨H, hH, hH0⟩ : ∃ H : Nat, (H : Int) = hh.getD xs.length ∧ (hh.getD xs.length).toNat = H := ⟨(hh.getD xs.length).toNat, by omega, rfl⟩
        have hLH : L ≤ H := by omega
        have hHn : H ≤ xs.length := by omega
        refine ⟨.slice (if c = L then A else A.map (·.add (L * te.size))) (H - L) (c - L), _, ?_, ?_, hK⟩
        · have hb : (Instr.sliceBounds true xs.length c (lo.map a.eval) (hi.map a.eval) none).run P w = .ok (L, H, c) w := by
            have sb : ∀ (k : IntKind) (i : Int) (n y : Nat) (code : BoundsCode), (n : Int) = i → n ≤ y → (Instr.sliceBound (.int k i) y code).run P w = .ok n w := by
              intro k i n y code h0 h1
              simp only [Instr.sliceBound, Sem.run_bind, asIntOf, Sem.run_pure, Result.andThen_ok]
              rw [if_pos (by omega)]
              simp only [Sem.run_pure]
              congr 1; omega
            rcases bnd_ok hρ hlo with ⟨rfl, rfl⟩ | ⟨y, k1, m1, rfl, hy, rfl⟩ <;> rcases bnd_ok hρ hhi with ⟨rfl, rfl⟩ | ⟨z, k2, m2, rfl, hz, rfl⟩ <;>
              simp only [Option.getD_none, Option.getD_some] at hL hH <;>
              simp only [Option.map_none, Option.map_some, Instr.sliceBounds, Sem.run_bind, Sem.run_pure, Result.andThen_ok, *]
            · rw [show L = 0 by omega, show H = xs.length by omega]
            · rw [sb k2 m2 H c _ hH (by omega)]
              simp only [Result.andThen_ok, Sem.run_bind, Sem.run_pure]
              rw [show L = 0 by omega]
            · rw [sb k1 m1 L _ _ hL (by omega)]
              simp only [Result.andThen_ok]
              rw [show H = xs.length by omega]
            · rw [sb k2 m2 H c _ hH (by omega)]
              simp only [Result.andThen_ok, Sem.run_bind, Sem.run_pure]
              rw [sb k1 m1 L H _ hL (by omega)]
              rfl
          simp only [Instr.sliceAt, Instr.slice, Sem.run_bind, run_underlying hu, Result.andThen_ok, hb, ti_size hte, Sem.run_pure]
        · rw [hL0, hH0]
          have hlen : ((xs.take H).drop L).length = H - L := by simp; omega
          have htk := RL_take h7 h8 H
          have hdr := RL_drop (fun x hx => h7 x (List.mem_of_mem_take hx)) htk L
          simp only [RV, R]
          refine ⟨_, c - L, _, by rw [hlen], by omega, by omega, fun x hx => h7 x (List.mem_of_mem_take (List.mem_of_mem_drop hx)), hdr, fun hne => ?_⟩
          have hpos : 0 < H - L := by
            rcases Nat.eq_zero_or_pos (H - L) with h0 | h0
            · exact absurd (List.eq_nil_of_length_eq_zero (by omega)) hne
            · exact h0
          obtain ⟨b, off, rfl, hb, hT, hc⟩ := h9 (by intro e; rw [e] at hHn; simp at hHn; omega)
          rw [if_neg (by omega)]
          refine ⟨b, off + L * te.size, by simp [Addr.add_lit], hb, hT, fun j u hu => ?_⟩
          rw [h1] at hu
          rw [List.getElem?_drop, List.getElem?_take] at hu
          split at hu
          · have := hc _ _ hu
            rw [← Nat.add_assoc] at this
            exact this
          · cases hu
      · exact h.elim
    · exact h.elim
  · exact h.elim
end

end Aw
end Go.Proofs.Ytkolpijhgcijbaa

namespace Go.Proofs.Ytkolpijhgcijbaa
namespace Aw
open Go.RowKit

section
variable {A : Nat → Prop} {P : Program} {w : World} {hv : Nat → Option Value} {M : Mem} {T : Nat → Prop}

theorem ints_vals : ∀ (xs : List AV) (ns : List Int) (us : List Value), ints xs = some ns → RL w T hv xs us → us.length = ns.length ∧ ∀ (j : Nat) (n : Int), ns[j]? = some n → us[j]? = some (Value.int .i64 n) ∧ xs[j]? = some (I n)
  | [], ns, us, h, hr => by
    simp only [ints, Option.some.injEq] at h
    subst h
    simp only [RL] at hr
    subst hr
    simp
  | .v (.int .i64 m) :: xs, ns, us, h, hr => by
    simp only [ints, Option.map_eq_some_iff] at h
    obtain ⟨ns', h1, rfl⟩ := h
    simp only [RL, R] at hr
    obtain ⟨u1, u2, rfl, ⟨rfl, _⟩, h3⟩ := hr
    obtain ⟨h4, h5⟩ := ints_vals xs ns' u2 h1 h3
    refine ⟨by simp [h4], fun j n hj => ?_⟩
    cases j with
    | zero => simp at hj; subst hj; exact ⟨by simp, by simp⟩
    | succ j => simp at hj; obtain ⟨h6, h7⟩ := h5 j n hj; exact ⟨by simpa using h6, by simpa using h7⟩

theorem eqFields_ints (d : Nat) (us vs : Array Value) (as bs : List Int) (hu : ∀ (j : Nat) (n : Int), as[j]? = some n → us[j]? = some (Value.int .i64 n)) (hv' : ∀ (j : Nat) (n : Int), bs[j]? = some n → vs[j]? = some (Value.int .i64 n)) :
    ∀ (fs : List Field) (m : Nat), (∀ (i : Nat) (f : Field), fs[i]? = some f → (f.name != "_") = true ∧ f.offset = m + i ∧ ∃ k, P.underlying f.type = some (.int k)) → m + fs.length = as.length → m + fs.length = bs.length →
      (Op.eqFields (d + 1) us vs fs).run P w = .ok (decide (as.drop m = bs.drop m)) w := by
  intro fs
  induction fs with
  | nil =>
    intro m _ h1 h2
    simp only [List.length_nil, Nat.add_zero] at h1 h2
    rw [List.drop_of_length_le (by omega), List.drop_of_length_le (by omega)]
    simp [Op.eqFields]
  | cons f fs ih =>
    intro m hf h1 h2
    obtain ⟨hn, ho, k0, hu0⟩ := hf 0 f rfl
    simp only [List.length_cons] at h1 h2
    simp only [Nat.add_zero] at ho
    have ha : as[m]? = some (as[m]'(by omega)) := List.getElem?_eq_getElem (by omega)
    have hb : bs[m]? = some (bs[m]'(by omega)) := List.getElem?_eq_getElem (by omega)
    have hx := hu m _ ha
    have hy := hv' m _ hb
    have hn' : f.name ≠ "_" := by simpa using hn
    have hpart : ∀ (cs : Array Value) (v : Value), cs[m]? = some v → (part f.type cs f.offset).run P w = .ok v w := by
      intro cs v hc
      simp [part, isAgg, run_underlying hu0, ho, hc]
    have hih := ih (m + 1) (fun i g hg => by obtain ⟨a1, a2, a3⟩ := hf (i + 1) g (by simpa using hg); exact ⟨a1, by omega, a3⟩) (by omega) (by omega)
    rw [List.drop_eq_getElem_cons (show m < as.length by omega), List.drop_eq_getElem_cons (show m < bs.length by omega)]
    simp only [Op.eqFields, hn', ne_eq, not_false_eq_true, if_true, Sem.run_bind, hpart us _ hx, hpart vs _ hy, Result.andThen_ok]
    rw [run_equalIn_int w d f.type .i64 k0 _ _ hu0]
    simp only [Result.andThen_ok, Sem.run_ite]
    by_cases he : as[m] = bs[m]
    · simp only [he, beq_self_eq_true, Bool.not_true, Bool.false_eq_true, if_false]
      rw [hih]
      congr 1
      simp only [List.cons.injEq, true_and]
    · have : (as[m] == bs[m]) = false := by simp [he]
      simp only [this, Bool.not_false, if_true, Sem.run_pure, List.cons.injEq, he, false_and, decide_false]

theorem eqn_run {t : TypeId} {ti : TI} {xs ys : List AV} {as bs : List Int} {us vs : Array Value} (ht : tiOf P t = some ti) (he : ti.eqn = true) (h1 : ints xs = some as) (h2 : ints ys = some bs) (l1 : as.length = ti.flds.length) (l2 : bs.length = ti.flds.length)
    (hx : RL w T hv xs us.toList) (hy : RL w T hv ys vs.toList) :
    (Op.equalIn 10000 t (.agg us) (.agg vs)).run P w = .ok (decide (as = bs)) w ∧ P.eqGuardType P.depth t = false := by
  obtain ⟨i, d, z, _, hd, _, _, _, _, _, _, _, _, _, hfl, _, _, heq, _⟩ := tiOf_spec ht
  rw [heq] at he
  unfold eqnOf at he
  simp only [Bool.and_eq_true, beq_iff_eq] at he
  obtain ⟨⟨hst, hg⟩, hfs⟩ := he
  refine ⟨?_, hg⟩
  rw [hd] at hfs
  cases d with
  | struct fs =>
    simp only [List.all_eq_true] at hfs
    have hfo : P.fieldsOf t = fs := by simp [Program.fieldsOf, hd]
    rw [run_equalIn_struct w 9999 t us vs (by rw [hfo]; exact hd) hst, hfo]
    obtain ⟨g1, g2⟩ := ints_vals xs as _ h1 hx
    obtain ⟨g3, g4⟩ := ints_vals ys bs _ h2 hy
    have hl : ti.flds.length = fs.toList.length := by rw [hfl]; simp
    have := eqFields_ints (P := P) (w := w) 9998 us vs as bs (fun j n hj => by simpa using (g2 j n hj).1) (fun j n hj => by simpa using (g4 j n hj).1) fs.toList 0 (fun i f hf => ?_) (by omega) (by omega)
    · simpa using this
    · have := hfs (f, i) (by
        rw [List.mem_iff_getElem?]
        exact ⟨i, by simp [List.getElem?_zipIdx, hf]⟩)
      simp only [Bool.and_eq_true, beq_iff_eq] at this
      obtain ⟨⟨a1, a2⟩, a3⟩ := this
      refine ⟨a1, by omega, ?_⟩
      revert a3
      cases hq : P.underlying f.type with
      | none => simp
      | some q => cases q <;> simp
  | _ => simp at hfs
end

end Aw
end Go.Proofs.Ytkolpijhgcijbaa

namespace Go.Proofs.Ytkolpijhgcijbaa
namespace Aw
open Go.RowKit

set_option maxHeartbeats 1000000
section
variable {A : Nat → Prop} {P : Program} {w : World} {hv : Nat → Option Value} {M : Mem} {T : Nat → Prop}

theorem and_i64 {a b : Int} (ha : 0 ≤ a) (hb : 0 ≤ b) (ha' : a ≤ 9223372036854775807) (hb' : b ≤ 9223372036854775807) : Op.intBits .and .i64 a b = pure (.int .i64 ((a.toNat &&& b.toNat : Nat) : Int)) := by
  obtain ⟨m, rfl⟩ := Int.eq_ofNat_of_zero_le ha
  obtain ⟨n, rfl⟩ := Int.eq_ofNat_of_zero_le hb
  have h1 : m &&& n ≤ m := Nat.and_le_left
  have e : (BitVec.ofInt IntKind.i64.bits (m : Int) &&& BitVec.ofInt IntKind.i64.bits (n : Int)).toNat = m &&& n := by
    simp only [BitVec.ofInt_natCast, BitVec.toNat_and, BitVec.toNat_ofNat]
    rw [Nat.mod_eq_of_lt (by show m < 2 ^ 64; omega), Nat.mod_eq_of_lt (by show n < 2 ^ 64; omega)]
  unfold Op.intBits
  simp only [e, Int.toNat_natCast]
  rw [IntWalk.i64_in _ (by omega)]
theorem or_i64 {a b : Int} (ha : 0 ≤ a) (hb : 0 ≤ b) (ha' : a ≤ 9223372036854775807) (hb' : b ≤ 9223372036854775807) : Op.intBits .or .i64 a b = pure (.int .i64 ((a.toNat ||| b.toNat : Nat) : Int)) := by
  obtain ⟨m, rfl⟩ := Int.eq_ofNat_of_zero_le ha
  obtain ⟨n, rfl⟩ := Int.eq_ofNat_of_zero_le hb
  have h1 : m ||| n < 2 ^ 63 := Nat.or_lt_two_pow (by omega) (by omega)
  have e : (BitVec.ofInt IntKind.i64.bits (m : Int) ||| BitVec.ofInt IntKind.i64.bits (n : Int)).toNat = m ||| n := by
    simp only [BitVec.ofInt_natCast, BitVec.toNat_or, BitVec.toNat_ofNat]
    rw [Nat.mod_eq_of_lt (by show m < 2 ^ 64; omega), Nat.mod_eq_of_lt (by show n < 2 ^ 64; omega)]
  unfold Op.intBits
  simp only [e, Int.toNat_natCast]
  rw [IntWalk.i64_in _ (by omega)]

theorem bin_ok {op : BinOp} {ty : TypeId} {x y : AV} {xv yv : Value} {ox oy : Operand} {K : HK (AV → Prop)} (hx : RV w T hv x xv) (hy : RV w T hv y yv) (h : binA P op ty x y (K := K)) :
    ∃ u r, (do eqGuard op ty ox oy xv yv; binOp op ty xv yv : Sem Value).run P w = .ok u w ∧ RV w T hv r u ∧ K.k r := by
  unfold binA at h
  split at h
  · rename_i a b
    simp only [RV] at hx hy
    subst hx; subst hy
    obtain ⟨h1, hK⟩ := h
    simp only [lim] at h1
    refine ⟨.int .i64 (a + b), I (a + b), ?_, by simp only [RV], hK⟩
    simp [eqGuard_at_int, binOp_add, Op.intArith, IntWalk.i64_in _ h1]
  · rename_i a b
    simp only [RV] at hx hy
    subst hx; subst hy
    obtain ⟨h1, hK⟩ := h
    simp only [lim] at h1
    refine ⟨.int .i64 (a - b), I (a - b), ?_, by simp only [RV], hK⟩
    simp [eqGuard_at_int, binOp_sub, Op.intArith, IntWalk.i64_in _ h1]
  · rename_i a b
    simp only [RV] at hx hy
    subst hx; subst hy
    obtain ⟨h1, hK⟩ := h
    simp only [lim] at h1
    refine ⟨.int .i64 (a * b), I (a * b), ?_, by simp only [RV], hK⟩
    simp [eqGuard_at_int, binOp_mul, Op.intArith, IntWalk.i64_in _ h1]
  · rename_i a b
    simp only [RV] at hx hy
    subst hx; subst hy
    obtain ⟨⟨h0, h1⟩, hK⟩ := h
    simp only [lim] at h1
    refine ⟨.int .i64 (a.tdiv b), I (a.tdiv b), ?_, by simp only [RV], hK⟩
    simp [eqGuard_at_int, binOp_quo, Op.intDiv, h0, IntWalk.i64_in _ h1]
  · rename_i a b
    simp only [RV] at hx hy
    subst hx; subst hy
    obtain ⟨h0, hK⟩ := h
    refine ⟨.int .i64 (a.tmod b), I (a.tmod b), ?_, by simp only [RV], hK⟩
    simp [eqGuard_at_int, binOp_rem, Op.intDiv, h0]
  · rename_i a k b
    simp only [RV] at hx hy
    subst hx; subst hy
    obtain ⟨⟨h0, h2, h1⟩, hK⟩ := h
    simp only [lim] at h1
    refine ⟨.int .i64 (a * 2 ^ b.toNat), I (a * 2 ^ b.toNat), ?_, by simp only [RV], hK⟩
    have hm : min b.toNat IntKind.i64.bits = b.toNat := Nat.min_eq_left (by show b.toNat ≤ 64; omega)
    simp [eqGuard_at_int, binOp_shl, shift_shl_any _ _ _ _ h0, hm, IntWalk.i64_in _ h1]
  · rename_i a k b
    simp only [RV] at hx hy
    subst hx; subst hy
    obtain ⟨⟨h0, h2⟩, hK⟩ := h
    refine ⟨.int .i64 (a / 2 ^ b.toNat), I (a / 2 ^ b.toNat), ?_, by simp only [RV], hK⟩
    have hm : min b.toNat IntKind.i64.bits = b.toNat := Nat.min_eq_left (by show b.toNat ≤ 64; omega)
    simp [eqGuard_at_int, binOp_shr, shift_shr_any _ _ _ _ h0, hm]
  · rename_i a b
    simp only [RV] at hx hy
    subst hx; subst hy
    obtain ⟨⟨h0, h2, h3, h4⟩, hK⟩ := h
    simp only [lim] at h3 h4
    refine ⟨.int .i64 ((a.toNat &&& b.toNat : Nat) : Int), I ((a.toNat &&& b.toNat : Nat) : Int), ?_, by simp only [RV], hK⟩
    simp [eqGuard_at_int, binOp_and, and_i64 h0 h2 h3.2 h4.2]
  · rename_i a b
    simp only [RV] at hx hy
    subst hx; subst hy
    obtain ⟨⟨h0, h2, h3, h4⟩, hK⟩ := h
    simp only [lim] at h3 h4
    refine ⟨.int .i64 ((a.toNat ||| b.toNat : Nat) : Int), I ((a.toNat ||| b.toNat : Nat) : Int), ?_, by simp only [RV], hK⟩
    simp [eqGuard_at_int, binOp_or, or_i64 h0 h2 h3.2 h4.2]
  · rename_i k a k' b
    simp only [RV] at hx hy
    subst hx; subst hy
    obtain ⟨rfl, hK⟩ := h
    refine ⟨.bool (decide (a < b)), B (decide (a < b)), ?_, by simp only [RV], hK⟩
    simp only [eqGuard_at_int, binOp_lss, Sem.run_bind, Sem.run_pure, Result.andThen_ok]
    
  · rename_i k a k' b
    simp only [RV] at hx hy
    subst hx; subst hy
    obtain ⟨rfl, hK⟩ := h
    refine ⟨.bool (decide (a ≤ b)), B (decide (a ≤ b)), ?_, by simp only [RV], hK⟩
    simp only [eqGuard_at_int, binOp_leq, Sem.run_bind, Sem.run_pure, Result.andThen_ok]
    
  · rename_i k a k' b
    simp only [RV] at hx hy
    subst hx; subst hy
    obtain ⟨rfl, hK⟩ := h
    refine ⟨.bool (decide (b < a)), B (decide (b < a)), ?_, by simp only [RV], hK⟩
    simp only [eqGuard_at_int, binOp_gtr, Sem.run_bind, Sem.run_pure, Result.andThen_ok]
    
  · rename_i k a k' b
    simp only [RV] at hx hy
    subst hx; subst hy
    obtain ⟨rfl, hK⟩ := h
    refine ⟨.bool (decide (b ≤ a)), B (decide (b ≤ a)), ?_, by simp only [RV], hK⟩
    simp only [eqGuard_at_int, binOp_geq, Sem.run_bind, Sem.run_pure, Result.andThen_ok]
    
  · rename_i k a k' b
    simp only [RV] at hx hy
    subst hx; subst hy
    obtain ⟨rfl, hK⟩ := h
    refine ⟨.bool (decide (a = b)), B (decide (a = b)), ?_, by simp only [RV], hK⟩
    simp only [eqGuard_at_int, binOp_eql, Sem.run_bind, Sem.run_pure, Result.andThen_ok]
    rfl
  · rename_i k a k' b
    simp only [RV] at hx hy
    subst hx; subst hy
    obtain ⟨rfl, hK⟩ := h
    refine ⟨.bool (!decide (a = b)), B (!decide (a = b)), ?_, by simp only [RV], hK⟩
    simp only [eqGuard_at_int, binOp_neq, Sem.run_bind, Sem.run_pure, Result.andThen_ok]
    rfl
  · rename_i a b
    simp only [RV] at hx hy
    subst hx; subst hy
    obtain ⟨hb, hK⟩ := h
    split at hb
    · rename_i ti hti
      obtain ⟨_, d, _, _, hd, _, _, _, _, _, _, _, _, _, _, _, h1, _⟩ := tiOf_spec hti
      rw [hb] at h1
      have hd' : P.underlying ty = some .bool := by
        cases d with
        | bool => exact hd
        | _ => simp at h1
      refine ⟨.bool (a == b), B (a == b), ?_, by simp only [RV], hK⟩
      simp [eqGuard_at_bool, binOp, Op.equal, Op.maxDepth, run_equalIn_bool' w 9999 ty a b hd']
    · exact hb.elim
  · rename_i a b
    simp only [RV] at hx hy
    subst hx; subst hy
    obtain ⟨hb, hK⟩ := h
    split at hb
    · rename_i ti hti
      obtain ⟨_, d, _, _, hd, _, _, _, _, _, _, _, _, _, _, _, h1, _⟩ := tiOf_spec hti
      rw [hb] at h1
      have hd' : P.underlying ty = some .bool := by
        cases d with
        | bool => exact hd
        | _ => simp at h1
      refine ⟨.bool (!(a == b)), B (!(a == b)), ?_, by simp only [RV], hK⟩
      simp [eqGuard_at_bool, binOp, Op.equal, Op.maxDepth, run_equalIn_bool' w 9999 ty a b hd']
    · exact hb.elim
  · rename_i xs ys
    split at h
    · rename_i ti as bs hti has hbs
      obtain ⟨⟨h1, h2, h3⟩, hK⟩ := h
      simp only [RV] at hx hy
      obtain ⟨cs, rfl, hx⟩ := hx
      obtain ⟨ds, rfl, hy⟩ := hy
      obtain ⟨hr, hg⟩ := eqn_run hti h1 has hbs h2 h3 hx hy
      refine ⟨.bool (decide (as = bs)), B (decide (as = bs)), ?_, by simp only [RV], hK⟩
      simp only [Sem.run_bind, run_eqGuard_agg w .eql ty ox oy cs ds hg, Result.andThen_ok, run_eql_struct, hr]
    · exact h.elim
  · rename_i xs ys
    split at h
    · rename_i ti as bs hti has hbs
      obtain ⟨⟨h1, h2, h3⟩, hK⟩ := h
      simp only [RV] at hx hy
      obtain ⟨cs, rfl, hx⟩ := hx
      obtain ⟨ds, rfl, hy⟩ := hy
      obtain ⟨hr, hg⟩ := eqn_run hti h1 has hbs h2 h3 hx hy
      refine ⟨.bool (!decide (as = bs)), B (!decide (as = bs)), ?_, by simp only [RV], hK⟩
      simp only [Sem.run_bind, run_eqGuard_agg w .neq ty ox oy cs ds hg, Result.andThen_ok, run_neq_struct, hr]
    · exact h.elim
  · rename_i k xs n c
    obtain ⟨h0, hK⟩ := h
    split at h0
    · rename_i ti hti
      obtain ⟨e, he⟩ := Option.isSome_iff_exists.1 h0
      have hu := ti_elem hti he
      simp only [RV] at hy
      subst hy
      simp only [RV, R] at hx
      obtain ⟨A, c', ws, e1, _, _, _, _, h5⟩ := hx
      injection e1 with e1
      subst e1
      refine ⟨.bool A.isNone, B A.isNone, ?_, by simp only [RV], hK _ fun hb => ?_⟩
      · have hq : ∀ d, (Op.equalIn (d + 1) ty (.slice A xs.length c') (.slice none n c)).run P w = .ok A.isNone w := fun d => by
          cases A <;> simp [Op.equalIn, run_underlying hu]
        simp only [eqGuard_at_slice, Sem.run_bind, Sem.run_pure, Result.andThen_ok]
        simp only [binOp]
        simp [Op.equal, Op.maxDepth, hq 9999]
      · cases xs with
        | nil => rfl
        | cons x xs => obtain ⟨b, off, rfl, _⟩ := h5 (by simp); simp at hb
    · exact h0.elim
  · exact h.elim
end

end Aw
end Go.Proofs.Ytkolpijhgcijbaa

namespace Go.Proofs.Ytkolpijhgcijbaa
namespace Aw
open Go.RowKit

section
variable {A : Nat → Prop} {P : Program} {w : World} {hv : Nat → Option Value} {M : Mem}

theorem ownsRow_add {e : TypeId} {k n : Nat} {v : Value} {xs : List Value} (h : w.ownsRow 0 e k v n xs) (hpos : 0 < n) : ∃ g cap, v = .slice (some ⟨g, 0, none⟩) n cap := by
  rcases h.2 with ⟨_, h0⟩ | ⟨g, cap, cur, rfl, _⟩
  · omega
  · exact ⟨g, cap, rfl⟩

/-- the run of an append onto an own row, from whatever source. -/
theorem run_append_src {t e ty : TypeId} {ti te : TI} (ht : tiOf P t = some ti) (he : ti.elem = some e) (hte : tiOf P e = some te) (hsz : 0 < te.size) {v : Value} {n : Nat} {xs : List Value} (hown : w.ownsRow 0 e te.size v n xs)
    {A : Option Addr} {m c : Nat} {news : List Value} (hl : news.length = m * te.size) (hsrc : 0 < m → ∃ a : Addr, A = some a ∧ ∀ j u, news[j]? = some u → w.cell? (a.add j) = some u) (h1 : ∀ u ∈ news, u.oneCell' = true)
    (h63 : n + m ≤ 1000000) (hbytes : te.bytes ≤ 1000) :
    ∃ v' w', (Builtin.append_ #[t, t] ty #[v, .slice A m c]).run P w = .ok v' w' ∧ w'.ownsRow 0 e te.size v' (n + m) (xs ++ news) ∧ w.grownBy w' v.ownBlock ∧ (v'.ownBlock = v.ownBlock ∨ v'.ownBlock = some w.heap.size) := by
  have hu := ti_elem ht he
  obtain ⟨i, d, z, hi, hd, hz, hz1, hz2, _, hs, hb, _⟩ := tiOf_spec hte
  have hby : (n + m) * te.bytes ≤ 140737488355328 := Nat.le_trans (Nat.mul_le_mul h63 hbytes) (by omega)
  rcases A with _ | a
  · have hm : m = 0 := by
      rcases Nat.eq_zero_or_pos m with h0 | h0
      · exact h0
      · obtain ⟨a, h, _⟩ := hsrc h0; cases h
    subst hm
    have hn : news = [] := List.eq_nil_of_length_eq_zero (by simpa using hl)
    subst hn
    refine ⟨v, w, ?_, by simpa using hown, World.grownBy.refl w _, .inl rfl⟩
    rcases hown.2 with ⟨rfl, rfl⟩ | ⟨g, cap, cur, rfl, _, _, hnc, _⟩
    · simp [Builtin.append_, run_underlying hu, sizeOf, typeInfo, hi, Builtin.lenOf, Builtin.firstCells]
    · simp [Builtin.append_, run_underlying hu, sizeOf, typeInfo, hi, Builtin.lenOf, Builtin.firstCells, hnc, storeCells]
  · obtain ⟨v', w', hr, h2, h3, _, h5⟩ := run_append_own_at (P := P) w 0 t ty e i z te.size te.bytes hu hi hz hs.symm hb.symm (by rw [hz1, hs]) hsz v n xs hown a m c news hl (fun j u hu => by
        rcases Nat.eq_zero_or_pos m with h0 | h0
        · subst h0
          have hn : news = [] := List.eq_nil_of_length_eq_zero (by simpa using hl)
          subst hn
          simp at hu
        · obtain ⟨a', h, hc⟩ := hsrc h0
          injection h with h
          subst h
          exact hc j u hu) h1 (by simp only [maxLen]; omega) hby (Nat.zero_le _)
    exact ⟨v', w', hr, h2, h3, h5⟩

def hvSet (hv : Nat → Option Value) (i : Nat) (v : Value) : Nat → Option Value := fun j => if j = i then some v else hv j

/-- an object's row has grown. -/
theorem mem_append {i : Nat} {ob : Ob} {v v' : Value} {w' : World} {ys : List AV} {us news : List Value} (hM : MemR A w hv M) (hi : M[i]? = some (some ob)) (hmp : ob.mp = none) (hvb : blk v = v.ownBlock) (hvb' : blk v' = v'.ownBlock) (hvi : hv i = some v) (hus : RL w (OwnA A hv) hv ob.xs us) (hks : ∀ x ∈ ob.xs, x.size = ob.k)
    (hrow : w'.ownsRow 0 ob.ty ob.k v' (ob.xs.length + ys.length) (us ++ news)) (hg : w.grownBy w' v.ownBlock) (hdr : w.drawn ≤ w'.drawn) (hb : v'.ownBlock = v.ownBlock ∨ v'.ownBlock = some w.heap.size)
    (hys : ∀ y ∈ ys, y.size = ob.k) (hnews : StepR A w hv [i] w' (hvSet hv i v') → RL w' (OwnA A (hvSet hv i v')) (hvSet hv i v') ys news) :
    MemR A w' (hvSet hv i v') ((Mem.kill [i] M).set i (some { ob with xs := AV.killL [i] ob.xs ++ ys })) ∧ StepR A w hv [i] w' (hvSet hv i v') := by
  have hlt : i < M.length := (List.getElem?_eq_some_iff.1 hi).1
  have hself : hvSet hv i v' i = some v' := by simp [hvSet]
  have hne : ∀ j, j ≠ i → hvSet hv i v' j = hv j := fun j h => by simp [hvSet, h]
  have hs : StepR A w hv [i] w' (hvSet hv i v') := by
    refine ⟨⟨hg.size, fun b hb' hT => hg.block b hb' (fun e => hT ⟨i, v, hvi, by rw [hvb]; exact e.symm⟩), fun b hlt' h => ?_⟩, fun j u hj h => ?_, hg.os, hg.tape, hg.output, hdr⟩
    · obtain ⟨j, u, hj, hu⟩ := h
      by_cases hji : j = i
      · subst hji
        rw [hself] at hj
        injection hj with hj
        subst hj
        rw [hvb'] at hu
        rcases hb with hb | hb
        · exact ⟨j, v, hvi, by rw [hvb, ← hb]; exact hu⟩
        · rw [hb] at hu; injection hu with hu; omega
      · rw [hne j hji] at hj
        exact ⟨j, u, hj, hu⟩
    · rw [hne j (by simpa using hj)]; exact h
  refine ⟨⟨fun j o h => ?_, fun j u h => ?_, fun j1 j2 v1 v2 b h1 h2 hb1 hb2 => ?_, fun b h => Nat.lt_of_lt_of_le (hM.old b h) hg.size⟩, hs⟩
  · rw [setOb_get _ _ _ _ (by simpa [Mem.kill] using hlt)] at h
    by_cases hji : j = i
    · subst hji
      rw [if_pos rfl] at h
      simp only [Option.some.injEq] at h
      subst h
      refine ⟨v', hself, ObR.of_row (ob := { ob with xs := AV.killL [j] ob.xs ++ ys }) hmp ⟨us ++ news, ?_, ?_, RL_app _ _ _ _ (RL_keep hs.keeps hs.hv _ _ hus) (hnews hs)⟩⟩
      · simp only [List.length_append, AV.killL_map, List.length_map]; exact hrow
      · intro x hx
        simp only [List.mem_append, AV.killL_map, List.mem_map] at hx
        rcases hx with ⟨y, hy, rfl⟩ | hx
        · rw [AV.size_kill]; exact hks y hy
        · exact hys x hx
    · rw [if_neg hji, Mem.kill_get] at h
      simp only [Option.map_eq_some_iff] at h
      obtain ⟨o', ho', h⟩ := h
      cases o' with
      | none => simp at h
      | some ob' =>
        simp only [Option.some.injEq] at h
        obtain ⟨_, rfl, rfl⟩ := h
        obtain ⟨v1, h9, h10, h11⟩ := live_step hM hs (fun v' b' hi' hb' => hg.block b' (hM.own_lt ⟨j, v', hi', hb'⟩) (fun e => hji (hM.inj j i _ _ b' hi' hvi hb' (by rw [hvb]; exact e.symm)))) (by simpa using hji) ho'
        exact ⟨v1, h10, h11⟩
  · rw [setOb_get _ _ _ _ (by simpa [Mem.kill] using hlt)]
    by_cases hji : j = i
    · exact ⟨_, by rw [if_pos hji]⟩
    · rw [hne j hji] at h
      obtain ⟨o, ho⟩ := hM.dom j u h
      exact ⟨o.kill [i], by rw [if_neg hji, Mem.kill_get, ho]; rfl⟩
  · have key : ∀ j v0 b, j ≠ i → hv j = some v0 → blk v0 = some b → blk v' = some b → False := by
      intro j v0 b hji h hb0 hb'
      rw [hvb'] at hb'
      have hlt' := hM.own_lt ⟨j, v0, h, hb0⟩
      rcases hb with hb | hb
      · exact hji (hM.inj j i _ _ b h hvi hb0 (by rw [hvb, ← hb]; exact hb'))
      · rw [hb] at hb'; injection hb' with hb'; omega
    by_cases e1 : j1 = i <;> by_cases e2 : j2 = i
    · omega
    · subst e1
      rw [hself] at h1
      injection h1 with h1
      subst h1
      rw [hne j2 e2] at h2
      exact (key j2 v2 b e2 h2 hb2 hb1).elim
    · subst e2
      rw [hself] at h2
      injection h2 with h2
      subst h2
      rw [hne j1 e1] at h1
      exact (key j1 v1 b e1 h1 hb1 hb2).elim
    · rw [hne j1 e1] at h1
      rw [hne j2 e2] at h2
      exact hM.inj j1 j2 v1 v2 b h1 h2 hb1 hb2

theorem R_noHv {T : Nat → Prop} (hv : Nat → Option Value) (l : List AV) (us : List Value) (h : RL w T noHv l us) : RL w T hv l us := by
  have := RL_keep (Keeps.refl w T) (Z := []) (hv := noHv) (hv' := hv) (fun i u _ h => by simp [noHv] at h) l us h
  rwa [AV.killL_nil] at this

/-- one value is filled in behind the other. -/
theorem puts_fold (off : Nat) : ∀ (l : List Value) (n : Nat) (cs : Array Value), off + n + l.length ≤ cs.size →
    ((l.zipIdx n).foldl (fun (cs : Array Value) (cj : Value × Nat) => cs.setIfInBounds (off + cj.2) cj.1) cs).toList = cs.toList.take (off + n) ++ l ++ cs.toList.drop (off + n + l.length)
  | [], n, cs, _ => by simp
  | v :: l, n, cs, h => by
    simp only [List.length_cons] at h
    simp only [List.zipIdx_cons, List.foldl_cons]
    rw [puts_fold off l (n + 1) _ (by simp; omega)]
    have hlt : off + n < cs.toList.length := by simp; omega
    simp only [Array.toList_setIfInBounds]
    have e1 : (cs.toList.set (off + n) v).take (off + (n + 1)) = cs.toList.take (off + n) ++ [v] := by
      have hl : (cs.toList.take (off + n)).length = off + n := by simp; omega
      rw [List.set_eq_take_append_cons_drop, if_pos hlt, List.take_append, hl, List.take_of_length_le (by omega)]
      rw [show off + (n + 1) - (off + n) = 1 by omega]
      simp
    have e2 : (cs.toList.set (off + n) v).drop (off + (n + 1) + l.length) = cs.toList.drop (off + n + (v :: l).length) := by
      rw [List.drop_set_of_lt (by omega)]
      congr 1
      simp; omega
    rw [e1, e2]
    simp

def PartsR (w : World) (T : Nat → Prop) (hv : Nat → Option Value) : List (Nat × AV) → List (Nat × Value) → Prop
  | [], [] => True
  | p :: ps, q :: qs => p.1 = q.1 ∧ RV w T hv p.2 q.2 ∧ PartsR w T hv ps qs
  | _, _ => False

theorem fill_ok {T : Nat → Prop} (place : Nat → Option (Nat × Nat)) : ∀ (parts : List (Nat × AV)) (vs : List (Nat × Value)) (cells out : List AV) (cs : Array Value), fillA place cells parts = some out → (∀ x ∈ cells, x.size = 1) → RL w T hv cells cs.toList →
    PartsR w T hv parts vs →
    ∃ res, Instr.fill place cs vs = some res ∧ RL w T hv out res.toList ∧ (∀ x ∈ out, x.size = 1) ∧ res.size = cs.size
  | [], vs, cells, out, cs, h, h1, hr, hp => by
    match vs, hp with
    | [], _ =>
      simp only [fillA, Option.some.injEq] at h
      subst h
      exact ⟨cs, rfl, hr, h1, rfl⟩
  | (i, x) :: parts, vs, cells, out, cs, h, h1, hr, hp => by
    match vs, hp with
    | (i', v) :: vs, hp =>
      obtain ⟨rfl, hx, hp⟩ := hp
      simp only [fillA] at h
      cases hpl : place i with
      | none => rw [hpl] at h; simp at h
      | some os =>
        obtain ⟨off, size⟩ := os
        rw [hpl] at h
        simp only at h
        split at h
        · rename_i hc
          simp only [Bool.and_eq_true, beq_iff_eq, decide_eq_true_eq] at hc
          obtain ⟨⟨⟨c1, c2⟩, c3⟩, c4⟩ := hc
          have hxc := (R_cells c2).1 (RV_R c1 hx)
          have l1 := RL_len _ _ (flat_size c2) hxc
          have l2 := RL_len _ _ h1 hr
          simp only [Nat.mul_one, Array.length_toList] at l1 l2
          have hp2 := putsA_RL x.cells cells off cs.toList v.cells.toList h1 (flat_size c2) hr hxc (by omega)
          have hfold : (v.cells.zipIdx.foldl (fun cs (c, j) => cs.setIfInBounds (off + j) c) cs).toList = cs.toList.take off ++ v.cells.toList ++ cs.toList.drop (off + v.cells.toList.length) := by
            rw [← Array.foldl_toList, Array.toList_zipIdx]
            have := puts_fold off v.cells.toList 0 cs (by simp; omega)
            simpa using this
          obtain ⟨res, r1, r2, r3, r4⟩ := fill_ok place parts vs _ out (v.cells.zipIdx.foldl (fun cs (c, j) => cs.setIfInBounds (off + j) c) cs) h hp2.2 (by rw [hfold]; exact hp2.1) hp
          refine ⟨res, ?_, r2, r3, ?_⟩
          · simp only [Instr.fill, hpl]
            rw [if_neg]
            · exact r1
            · intro hbad
              simp only [Bool.or_eq_true, decide_eq_true_eq] at hbad
              omega
          · rw [r4, ← Array.length_toList, hfold]
            simp
            omega
        · cases h
end

end Aw
end Go.Proofs.Ytkolpijhgcijbaa

namespace Go.Proofs.Ytkolpijhgcijbaa
namespace Aw
open Go.RowKit

theorem AV.subL_map (F : Nat → AV) (G : Nat → Nat → Nat → Nat → AV) : ∀ l : List AV, AV.subL F G l = l.map (AV.sub F G)
  | [] => rfl
  | x :: xs => by simp [AV.subL, AV.subL_map F G xs]

theorem AV.single_up (m : Nat) (a : AV) (h : a.single = true) : (a.up m).single = true := by cases a <;> simp_all [AV.single, AV.up, AV.sub]

theorem AV.size_up (m : Nat) (a : AV) : (a.up m).size = a.size := by
  refine AV.rec (motive_1 := fun a => (a.up m).size = a.size) (motive_2 := fun l => AV.sizeL (AV.subL (fun i => .o (i + m)) (fun i k j off => .q (i + m) k j off) l) = AV.sizeL l) ?_ ?_ ?_ ?_ ?_ ?_ ?_ ?_ ?_ ?_ ?_ a <;> intros <;> simp_all [AV.up, AV.sub, AV.subL, AV.size, AV.sizeL]

section
variable {A : Nat → Prop} {w : World} {T T' : Nat → Prop} {m : Nat}

theorem R_up (hT : ∀ b, T' b → T b) {hv hv' : Nat → Option Value} (hh : ∀ i v, hv i = some v → hv' (i + m) = some v) : ∀ (a : AV) (us : List Value), R w T hv a us → R w T' hv' (a.up m) us := by
  have hk : Keeps w T w T' := ⟨Nat.le_refl _, fun _ _ _ => rfl, fun b _ h => hT b h⟩
  intro a
  refine AV.rec (motive_1 := fun a => ∀ us, R w T hv a us → R w T' hv' (a.up m) us)
    (motive_2 := fun l => ∀ us, RL w T hv l us → RL w T' hv' (AV.subL (fun i => .o (i + m)) (fun i k j off => .q (i + m) k j off) l) us)
    ?_ ?_ ?_ ?_ ?_ ?_ ?_ ?_ ?_ ?_ ?_ a
  · intro us h; simpa only [R, AV.up, AV.sub] using h
  · intro x us h; simpa only [R, AV.up, AV.sub] using h
  · intro k xs _ us h
    have := R_keep hk (.s k xs) [] hv hv us (fun _ _ _ h => h) h
    rw [AV.kill_nil] at this
    simpa only [R, AV.up, AV.sub] using this
  · intro xs ih us h; simp only [R, AV.up, AV.sub] at h ⊢; exact ih us h
  · intro xs _ us h; simp [R] at h
  · intro x off _ us h
    have := R_keep hk (.p x off) [] hv hv us (fun _ _ _ h => h) h
    rw [AV.kill_nil] at this
    simpa only [R, AV.up, AV.sub] using this
  · intro i us h; simp only [R, AV.up, AV.sub] at h ⊢; obtain ⟨v, h1, h2⟩ := h; exact ⟨v, hh i v h1, h2⟩
  · intro i k j off us h; simp only [R, AV.up, AV.sub] at h ⊢; obtain ⟨b, n, c, h1, h2⟩ := h; exact ⟨b, n, c, hh i _ h1, h2⟩
  · intro fn cap ih us h
    simp only [R, AV.up, AV.sub] at h ⊢
    obtain ⟨cs, h1, h2, h3⟩ := h
    exact ⟨cs, h1, fun x hx => by rw [AV.subL_map] at hx; obtain ⟨y, hy, rfl⟩ := List.mem_map.1 hx; exact AV.single_up m y (h2 y hy), ih _ h3⟩
  · intro us h; simpa only [RL, AV.subL] using h
  · intro x xs ih1 ih2 us h
    simp only [RL, AV.subL] at h ⊢
    obtain ⟨u1, u2, rfl, h1, h2⟩ := h
    exact ⟨u1, u2, rfl, ih1 u1 h1, ih2 u2 h2⟩

theorem RL_up (hT : ∀ b, T' b → T b) {hv hv' : Nat → Option Value} (hh : ∀ i v, hv i = some v → hv' (i + m) = some v) : ∀ (l : List AV) (us : List Value), RL w T hv l us → RL w T' hv' (l.map (AV.up m)) us
  | [], us, h => by simpa only [RL, List.map_nil] using h
  | x :: xs, us, h => by
    simp only [RL, List.map_cons] at h ⊢
    obtain ⟨u1, u2, rfl, h1, h2⟩ := h
    exact ⟨u1, u2, rfl, R_up hT hh x u1 h1, RL_up hT hh xs u2 h2⟩

theorem RV_up (hT : ∀ b, T' b → T b) {hv hv' : Nat → Option Value} (hh : ∀ i v, hv i = some v → hv' (i + m) = some v) : ∀ (a : AV) (v : Value), RV w T hv a v → RV w T' hv' (a.up m) v := by
  intro a
  refine AV.rec (motive_1 := fun a => ∀ v, RV w T hv a v → RV w T' hv' (a.up m) v)
    (motive_2 := fun l => ∀ vs, RVL w T hv l vs → RVL w T' hv' (AV.subL (fun i => .o (i + m)) (fun i k j off => .q (i + m) k j off) l) vs)
    ?_ ?_ ?_ ?_ ?_ ?_ ?_ ?_ ?_ ?_ ?_ a
  · intro v _; simp [RV, AV.up, AV.sub]
  · intro x v h; simpa only [RV, AV.up, AV.sub] using h
  · intro k xs _ v h; have := R_up (w := w) hT hh (.s k xs) [v] h; simpa only [RV, AV.up, AV.sub] using this
  · intro xs _ v h
    simp only [RV, AV.up, AV.sub] at h ⊢
    obtain ⟨cs, rfl, h⟩ := h
    refine ⟨cs, rfl, ?_⟩
    rw [AV.subL_map]
    exact RL_up hT hh xs _ h
  · intro xs ih v h
    simp only [RV, AV.up, AV.sub] at h ⊢
    obtain ⟨vs, rfl, h⟩ := h
    exact ⟨vs, rfl, ih _ h⟩
  · intro x off _ v h; have := R_up (w := w) hT hh (.p x off) [v] h; simpa only [RV, AV.up, AV.sub] using this
  · intro i v h; have := R_up (w := w) hT hh (.o i) [v] h; simpa only [RV, AV.up, AV.sub] using this
  · intro i k j off v h; have := R_up (w := w) hT hh (.q i k j off) [v] h; simpa only [RV, AV.up, AV.sub] using this
  · intro fn cap _ v h; have := R_up (w := w) hT hh (.f fn cap) [v] h; simpa only [RV, AV.up, AV.sub] using this
  · intro vs h; simpa only [RVL, AV.subL] using h
  · intro x xs ih1 ih2 vs h
    simp only [RVL, AV.subL] at h ⊢
    obtain ⟨u, us, rfl, h1, h2⟩ := h
    exact ⟨u, us, rfl, ih1 u h1, ih2 us h2⟩
theorem RVL_up (hT : ∀ b, T' b → T b) {hv hv' : Nat → Option Value} (hh : ∀ i v, hv i = some v → hv' (i + m) = some v) : ∀ (l : List AV) (us : List Value), RVL w T hv l us → RVL w T' hv' (l.map (AV.up m)) us
  | [], us, h => by simpa only [RVL, List.map_nil] using h
  | x :: xs, us, h => by
    simp only [RVL, List.map_cons] at h ⊢
    obtain ⟨u, u2, rfl, h1, h2⟩ := h
    exact ⟨u, u2, rfl, RV_up hT hh x u h1, RVL_up hT hh xs u2 h2⟩
end

section
variable {A : Nat → Prop} {P : Program} {w w' : World} {hv : Nat → Option Value} {M : Mem}

theorem coe_rvl {lend : Bool} (hM : MemR A w hv M) : ∀ (as bs : List AV) (vs : List Value), CoeL lend M as bs → RVL w (OwnA A hv) hv as vs → RVL w (if lend then fun _ => False else OwnA A hv) noHv bs vs
  | [], [], vs, _, h => by simpa only [RVL] using h
  | a :: as, b :: bs, vs, hc, h => by
    simp only [CoeL] at hc
    simp only [RVL] at h ⊢
    obtain ⟨u, us, rfl, h1, h2⟩ := h
    exact ⟨u, us, rfl, hc.1 A w hv u hM h1, coe_rvl hM as bs us hc.2 h2⟩
  | [], _ :: _, vs, hc, _ => by simp [CoeL] at hc
  | _ :: _, [], vs, hc, _ => by simp [CoeL] at hc

/-- what is all its own says the same whatever is to be kept away from. -/
theorem R_tfree {T T' : Nat → Prop} : ∀ (a : AV) (hv : Nat → Option Value) (us : List Value), a.tfree = true → R w T hv a us → R w T' hv a us := by
  intro a
  refine AV.rec (motive_1 := fun a => ∀ hv us, a.tfree = true → R w T hv a us → R w T' hv a us) (motive_2 := fun l => ∀ hv us, AV.tfreeL l = true → RL w T hv l us → RL w T' hv l us)
    ?_ ?_ ?_ ?_ ?_ ?_ ?_ ?_ ?_ ?_ ?_ a
  · intro hv us _ h; simpa only [R] using h
  · intro x hv us _ h; simpa only [R] using h
  · intro k xs _ hv us ht h
    simp only [AV.tfree, List.isEmpty_iff] at ht
    subst ht
    simp only [R] at h ⊢
    obtain ⟨A, c, ws, h1, h2, h3, h4, h5, _⟩ := h
    exact ⟨A, c, ws, h1, h2, h3, h4, by simpa only [RL] using h5, fun h => absurd rfl h⟩
  · intro xs ih hv us ht h; simp only [R, AV.tfree] at *; exact ih hv us ht h
  · intro xs _ hv us _ h; simp [R] at h
  · intro x off _ hv us ht h; simp [AV.tfree] at ht
  · intro i hv us _ h; simpa only [R] using h
  · intro i k j off hv us _ h; simpa only [R] using h
  · intro fn cap ih hv us ht h
    simp only [R, AV.tfree] at *
    obtain ⟨cs, h1, h2, h3⟩ := h
    exact ⟨cs, h1, h2, ih hv _ ht h3⟩
  · intro hv us _ h; simpa only [RL] using h
  · intro x xs ih1 ih2 hv us ht h
    simp only [RL, AV.tfreeL, Bool.and_eq_true] at *
    obtain ⟨u1, u2, rfl, h1, h2⟩ := h
    exact ⟨u1, u2, rfl, ih1 hv u1 ht.1 h1, ih2 hv u2 ht.2 h2⟩
theorem RL_tfree {T T' : Nat → Prop} {hv : Nat → Option Value} : ∀ (l : List AV) (us : List Value), AV.tfreeL l = true → RL w T hv l us → RL w T' hv l us
  | [], us, _, h => by simpa only [RL] using h
  | x :: xs, us, ht, h => by
    simp only [RL, AV.tfreeL, Bool.and_eq_true] at *
    obtain ⟨u1, u2, rfl, h1, h2⟩ := h
    exact ⟨u1, u2, rfl, R_tfree x hv u1 ht.1 h1, RL_tfree xs u2 ht.2 h2⟩
theorem RV_tfree {T T' : Nat → Prop} {hv : Nat → Option Value} : ∀ (a : AV) (v : Value), a.tfree = true → RV w T hv a v → RV w T' hv a v := by
  intro a
  refine AV.rec (motive_1 := fun a => ∀ v, a.tfree = true → RV w T hv a v → RV w T' hv a v) (motive_2 := fun l => ∀ vs, AV.tfreeL l = true → RVL w T hv l vs → RVL w T' hv l vs)
    ?_ ?_ ?_ ?_ ?_ ?_ ?_ ?_ ?_ ?_ ?_ a
  · intro v _ _; simp [RV]
  · intro x v _ h; simpa only [RV] using h
  · intro k xs _ v ht h; have := R_tfree (T' := T') (.s k xs) hv [v] ht (by simpa only [RV] using h); simpa only [RV] using this
  · intro xs _ v ht h
    simp only [RV, AV.tfree] at *
    obtain ⟨cs, rfl, h⟩ := h
    exact ⟨cs, rfl, RL_tfree xs _ ht h⟩
  · intro xs ih v ht h
    simp only [RV, AV.tfree] at *
    obtain ⟨vs, rfl, h⟩ := h
    exact ⟨vs, rfl, ih _ ht h⟩
  · intro x off _ v ht h; simp [AV.tfree] at ht
  · intro i v _ h; simpa only [RV, R] using h
  · intro i k j off v _ h; simpa only [RV, R] using h
  · intro fn cap _ v ht h; have := R_tfree (T' := T') (.f fn cap) hv [v] ht (by simpa only [RV] using h); simpa only [RV] using this
  · intro vs _ h; simpa only [RVL] using h
  · intro x xs ih1 ih2 vs ht h
    simp only [RVL, AV.tfreeL, Bool.and_eq_true] at *
    obtain ⟨u, us, rfl, h1, h2⟩ := h
    exact ⟨u, us, rfl, ih1 u ht.1 h1, ih2 us ht.2 h2⟩

theorem RVL_tfree {T T' : Nat → Prop} {hv : Nat → Option Value} : ∀ (l : List AV) (us : List Value), AV.tfreeL l = true → RVL w T hv l us → RVL w T' hv l us
  | [], us, _, h => by simpa only [RVL] using h
  | x :: xs, us, ht, h => by
    simp only [RVL, AV.tfreeL, Bool.and_eq_true] at *
    obtain ⟨u, u2, rfl, h1, h2⟩ := h
    exact ⟨u, u2, rfl, RV_tfree x u ht.1 h1, RVL_tfree xs u2 ht.2 h2⟩

/-- the callee's objects behind the caller's. -/
def hvJoin (hv hvC : Nat → Option Value) (m : Nat) : Nat → Option Value := fun i => if i < m then hv i else hvC (i - m)

theorem own_join {hvC : Nat → Option Value} {m : Nat} (hn : ∀ i, m ≤ i → hv i = none) {b : Nat} : Own (hvJoin hv hvC m) b ↔ Own hv b ∨ Own hvC b := by
  constructor
  · rintro ⟨i, v, hi, hb⟩
    unfold hvJoin at hi
    split at hi
    · exact .inl ⟨i, v, hi, hb⟩
    · exact .inr ⟨i - m, v, hi, hb⟩
  · rintro (⟨i, v, hi, hb⟩ | ⟨i, v, hi, hb⟩)
    · refine ⟨i, v, ?_, hb⟩
      unfold hvJoin
      rw [if_pos]
      · exact hi
      · rcases Nat.lt_or_ge i m with h | h
        · exact h
        · rw [hn i h] at hi; cases hi
    · refine ⟨i + m, v, ?_, hb⟩
      unfold hvJoin
      rw [if_neg (by omega), Nat.add_sub_cancel]
      exact hi

theorem mem_join {hvC : Nat → Option Value} {Ms : List Ob} (hM : MemR A w hv M) (hb : Bel w.heap.size w w') (hC : MemR (OwnA A hv) w' hvC (Ms.map some)) (hf : ∀ b, Own hvC b → w.heap.size ≤ b) :
    MemR A w' (hvJoin hv hvC M.length) (M ++ Ms.map fun ob => some (ob.up M.length)) ∧ StepR A w hv [] w' (hvJoin hv hvC M.length) := by
  have hn : ∀ i, M.length ≤ i → hv i = none := fun i h => mem_none hM h
  have hT : ∀ b, OwnA A (hvJoin hv hvC M.length) b → OwnA (OwnA A hv) hvC b := fun b h => by
    rcases h with h | h
    · exact .inl (.inl h)
    rcases (own_join hn).1 h with h | h
    · exact .inl (.inr h)
    · exact .inr h
  have hs : StepR A w hv [] w' (hvJoin hv hvC M.length) := by
    refine ⟨⟨hb.size, fun b h _ => hb.block b h, fun b hlt h => ?_⟩, fun i u _ h => ?_, hb.os, hb.tape, hb.output, hb.drawn⟩
    · rcases (own_join hn).1 h with h | h
      · exact h
      · have := hf b h; omega
    · unfold hvJoin
      rw [if_pos]
      · exact h
      · rcases Nat.lt_or_ge i M.length with h' | h'
        · exact h'
        · rw [hn i h'] at h; cases h
  refine ⟨⟨fun i ob h => ?_, fun i u h => ?_, fun i j vi vj b hi hj hbi hbj => ?_, fun b h => Nat.lt_of_lt_of_le (hM.old b h) hb.size⟩, hs⟩
  · rcases Nat.lt_or_ge i M.length with hlt | hge
    · rw [List.getElem?_append_left hlt] at h
      obtain ⟨v, h1, h2, h3⟩ := live_step hM hs (fun v b h1 h2 => hb.block b (hM.own_lt ⟨i, v, h1, h2⟩)) (by simp) h
      rw [Ob.kill_nil] at h3
      exact ⟨v, h2, h3⟩
    · rw [List.getElem?_append_right hge, List.getElem?_map] at h
      simp only [Option.map_eq_some_iff] at h
      obtain ⟨ob0, h0, h⟩ := h
      injection h with h
      subst h
      obtain ⟨v, h1, hob⟩ := hC.live (i - M.length) ob0 (by rw [List.getElem?_map, h0]; rfl)
      have hh1 : ∀ (i : Nat) (v : Value), hvC i = some v → hvJoin hv hvC M.length (i + M.length) = some v := fun i v h => by unfold hvJoin; rw [if_neg (by omega), Nat.add_sub_cancel]; exact h
      cases hm : ob0.mp with
      | some ks =>
        obtain ⟨vals, g1, g3⟩ := hob.map hm
        exact ⟨_, by unfold hvJoin; rw [if_neg (by omega)]; exact h1, ObR.of_map (ob := ob0.up M.length) (ks := ks) hm ⟨vals, g1, RVL_up hT hh1 _ _ g3⟩⟩
      | none =>
      obtain ⟨us, h2, h3, h4⟩ := hob.row hm
      refine ⟨v, by unfold hvJoin; rw [if_neg (by omega)]; exact h1, ObR.of_row (ob := ob0.up M.length) hm ⟨us, by simpa [Ob.up] using h2, ?_, ?_⟩⟩
      · intro x hx
        simp only [Ob.up, List.mem_map] at hx
        obtain ⟨y, hy, rfl⟩ := hx
        rw [AV.size_up]; exact h3 y hy
      · exact RL_up hT (fun i v h => by unfold hvJoin; rw [if_neg (by omega), Nat.add_sub_cancel]; exact h) _ _ h4
  · unfold hvJoin at h
    split at h
    · rename_i hlt
      obtain ⟨o, ho⟩ := hM.dom i u h
      exact ⟨o, by rw [List.getElem?_append_left hlt]; exact ho⟩
    · rename_i hge
      obtain ⟨o, ho⟩ := hC.dom _ u h
      rw [List.getElem?_map] at ho
      simp only [Option.map_eq_some_iff, Option.some.injEq, exists_eq_right] at ho
      exact ⟨o.up M.length, by rw [List.getElem?_append_right (by omega), List.getElem?_map, ho]; rfl⟩
  · unfold hvJoin at hi hj
    split at hi <;> split at hj
    · exact hM.inj i j vi vj b hi hj hbi hbj
    · have := hM.own_lt ⟨i, vi, hi, hbi⟩
      have := hf b ⟨_, vj, hj, hbj⟩
      omega
    · have := hM.own_lt ⟨j, vj, hj, hbj⟩
      have := hf b ⟨_, vi, hi, hbi⟩
      omega
    · have := hC.inj _ _ vi vj b hi hj hbi hbj
      omega

theorem mem_tfree {A' : Nat → Prop} {hvC : Nat → Option Value} {Ms : List Ob} (h : MemR A w hvC (Ms.map some)) (ht : ∀ ob ∈ Ms, AV.tfreeL ob.xs = true) (hA : ∀ b, A' b → b < w.heap.size) : MemR A' w hvC (Ms.map some) := by
  refine ⟨fun i ob hi => ?_, h.dom, h.inj, hA⟩
  obtain ⟨v, h1, hob⟩ := h.live i ob hi
  have hmem : ob ∈ Ms := by
    rw [List.getElem?_map] at hi
    simp only [Option.map_eq_some_iff, Option.some.injEq, exists_eq_right] at hi
    exact List.mem_of_getElem? hi
  cases hm : ob.mp with
  | some ks =>
    obtain ⟨vals, g1, g3⟩ := hob.map hm
    exact ⟨_, h1, ObR.of_map hm ⟨vals, g1, RVL_tfree _ _ (ht ob hmem) g3⟩⟩
  | none =>
    obtain ⟨us, h2, h3, h4⟩ := hob.row hm
    exact ⟨v, h1, ObR.of_row hm ⟨us, h2, h3, RL_tfree _ _ (ht ob hmem) h4⟩⟩

theorem call_ok {o : Oper} {a : Act} {K : Kont} {Q : Exit → Act → World → Prop} {f : FuncId} {as : List AV} {args : List Value} (hM : MemR A w hv M) (has : RVL w (OwnA A hv) hv as args)
    (hrun : okFn P f = true → (execOp a.eval o).run P w = .ok (.enter f args.toArray) w) (h : ACall P f as M (K := ⟨fun r M' => K r [] M'⟩)) : o.wp P a w (After A o a w hv K) Q := by
  obtain ⟨lend, bs, post, hcoe, ⟨hok, hspec⟩, hK⟩ := h
  unfold Oper.wp
  rw [hrun hok]
  have hn : ∀ i, M.length ≤ i → hv i = none := fun i h => mem_none hM h
  have hT : ∀ (hvC : Nat → Option Value) b, OwnA A (hvJoin hv hvC M.length) b → OwnA (OwnA A hv) hvC b := fun hvC b h => by
    rcases h with h | h
    · exact .inl (.inl h)
    rcases (own_join hn).1 h with h | h
    · exact .inl (.inr h)
    · exact .inr h
  cases lend with
  | false =>
    refine (hspec w args (OwnA A hv) (fun b h => hM.lt h) (by simpa using coe_rvl hM as bs args hcoe has)).mono ?_
    rintro e w' ⟨r, Ms, v, hvC, rfl, hp, hC, hr, hf, hb⟩
    obtain ⟨h1, h2⟩ := mem_join hM hb hC hf
    exact ⟨_, [], _, _, v, (hK r Ms hp).2, rfl, h1, RV_up (hT hvC) (fun i v h => by unfold hvJoin; rw [if_neg (by omega), Nat.add_sub_cancel]; exact h) r v hr, h2⟩
  | true =>
    refine (hspec w args (fun _ => False) (fun b h => h.elim) (by simpa using coe_rvl hM as bs args hcoe has)).mono ?_
    rintro e w' ⟨r, Ms, v, hvC, rfl, hp, hC, hr, hf, hb⟩
    obtain ⟨⟨t1, t2⟩, hK'⟩ : (r.tfree = true ∧ ∀ ob ∈ Ms, AV.tfreeL ob.xs = true) ∧ _ := ⟨(hK r Ms hp).1 rfl, (hK r Ms hp).2⟩
    have hC' := mem_tfree (A' := OwnA A hv) hC t2 (fun b h => Nat.lt_of_lt_of_le (hM.lt h) hb.size)
    obtain ⟨h1, h2⟩ := mem_join hM hb hC' hf
    exact ⟨_, [], _, _, v, hK', rfl, h1, RV_up (hT hvC) (fun i v h => by unfold hvJoin; rw [if_neg (by omega), Nat.add_sub_cancel]; exact h) r v (RV_tfree r v t1 hr), h2⟩
end

end Aw
end Go.Proofs.Ytkolpijhgcijbaa

namespace Go.Proofs.Ytkolpijhgcijbaa
namespace Aw
open Go.RowKit

section
variable {A : Nat → Prop} {P : Program} {w : World} {hv : Nat → Option Value} {M : Mem} {a : Act} {K : Kont} {Q : Exit → Act → World → Prop} {ρ : Operand → AV}

theorem rvl_map (hρ : ∀ x, RV w (OwnA A hv) hv (ρ x) (a.eval x)) : ∀ l : List Operand, RVL w (OwnA A hv) hv (l.map ρ) (l.map a.eval)
  | [] => by simp [RVL]
  | x :: l => by simp only [List.map_cons, RVL]; exact ⟨_, _, rfl, hρ x, rvl_map hρ l⟩

theorem rvl_app {T : Nat → Prop} : ∀ (l l' : List AV) (us us' : List Value), RVL w T hv l us → RVL w T hv l' us' → RVL w T hv (l ++ l') (us ++ us')
  | [], l', us, us', h, h' => by simp only [RVL] at h; subst h; simpa using h'
  | x :: xs, l', us, us', h, h' => by
    simp only [RVL, List.cons_append] at h ⊢
    obtain ⟨u, v, rfl, h1, h2⟩ := h
    exact ⟨u, v ++ us', by simp, h1, rvl_app xs l' v us' h2 h'⟩

theorem rl_of_vals (hρ : ∀ x, RV w (OwnA A hv) hv (ρ x) (a.eval x)) {k : Nat} : ∀ l : List Operand, (l.all fun x => (ρ x).cellular && (ρ x).size == k) = true → RL w (OwnA A hv) hv (l.map ρ) (l.flatMap fun x => (a.eval x).cells.toList)
  | [], _ => by simp [RL]
  | x :: l, h => by
    simp only [List.all_cons, Bool.and_eq_true] at h
    simp only [List.map_cons, List.flatMap_cons, RL]
    exact ⟨_, _, rfl, RV_R h.1.1 (hρ x), rl_of_vals hρ l h.2⟩

theorem own_lit (w : World) (o : Obj) : Bel w.heap.size w (w.alloc o) := ⟨(Below.refl _ _).alloc (Nat.le_refl _) o, Nat.le_refl _⟩

theorem row_new (e : TypeId) (k n : Nat) (cs : Array Value) (hk : cs.size = n * k) (hn : n ≤ maxLen) : (w.alloc (.cells cs e)).ownsRow 0 e k (.slice (some ⟨w.heap.size, 0, none⟩) n n) n cs.toList :=
  ⟨by simpa using hk, .inr ⟨w.heap.size, n, cs, rfl, Nat.zero_le _, heap_alloc_new w _, Nat.le_refl _, hn, hk, by rw [← hk]; exact List.take_of_length_le (by simp)⟩⟩

/-- a new variable. -/
theorem var_ok {o : Oper} {t : TypeId} {x : AV} {v : Value} (hM : MemR A w hv M) (hrun : (execOp a.eval o).run P w = .ok (.value (.pointer (some ⟨w.heap.size, 0, none⟩))) (w.alloc (.cells v.cells t)))
    (hx : R w (OwnA A hv) hv x v.cells.toList) (hK : K (.q M.length x.size 0 0) [] (newRow M t x.size [x])) : o.wp P a w (After A o a w hv K) Q := by
  have hsz := R_size _ _ _ hx
  obtain ⟨h1, h2⟩ := mem_add hM (own_lit w (.cells v.cells t)) (ob := ⟨none, t, x.size, [x]⟩) (v := .slice (some ⟨w.heap.size, 0, none⟩) 1 1) (fun b hb => by simp [blk, Value.ownBlock] at hb; omega)
    (fun hs => ObR.of_row rfl ⟨v.cells.toList, row_new t x.size 1 v.cells (by simpa using hsz) (by simp [maxLen]), by simp, by
      have := RL_keep hs.keeps hs.hv [x] v.cells.toList (by simp only [RL]; exact ⟨_, _, by simp, hx, rfl⟩)
      rwa [AV.killL_nil] at this⟩)
  refine wp_value hrun ⟨_, [], _, _, _, hK, rfl, h1, ?_, h2⟩
  simp only [RV, R]
  exact ⟨w.heap.size, 1, 1, hvAdd_self _ _, by simp⟩

/-- a new variable that nobody writes. -/
theorem box_ok {o : Oper} {t : TypeId} {x : AV} {v : Value} (hM : MemR A w hv M) (hrun : (execOp a.eval o).run P w = .ok (.value (.pointer (some ⟨w.heap.size, 0, none⟩))) (w.alloc (.cells v.cells t)))
    (hx : R w (OwnA A hv) hv x v.cells.toList) (hp : x.pure = true) (hK : K (.p x 0) [] M) : o.wp P a w (After A o a w hv K) Q := by
  obtain ⟨h1, h2⟩ := mem_keep hM (own_lit w (.cells v.cells t))
  refine wp_value hrun ⟨_, [], _, _, _, hK, rfl, h1, ?_, h2⟩
  simp only [RV, R]
  have hx' := R_keep h2.keeps x [] hv hv _ h2.hv hx
  rw [AV.kill_nil] at hx'
  refine ⟨w.heap.size, 0, v.cells.toList, by simp, R_pure x hv noHv _ hp hx', w.heap.size, 0, rfl, by simp, fun h => by have := hM.lt h; omega, fun j u hj => ?_⟩
  rw [Nat.zero_add, World.cell?_alloc_new]
  simpa using hj
theorem rl_vals {T : Nat → Prop} : ∀ l : List Value, (∀ u ∈ l, u.oneCell' = true) → RL w T hv (l.map AV.v) l
  | [], _ => by simp [RL]
  | u :: l, h => by
    simp only [List.map_cons, RL, R]
    exact ⟨[u], l, rfl, ⟨rfl, h u List.mem_cons_self⟩, rl_vals l fun x hx => h x (List.mem_cons_of_mem _ hx)⟩

theorem zero_ok {T : Nat → Prop} {t : TypeId} {ti : TI} (ht : tiOf P t = some ti) : ∃ z : Value, (zeroValue t).run P w = .ok z w ∧ z.cells.toList = ti.zero ∧ R w T hv (mkA ti.agg (ti.zero.map .v)) z.cells.toList ∧ z.cells.size = ti.size ∨ (ti.agg = false ∧ ti.zero.length ≠ 1) := by
  obtain ⟨i, d, z, hi, hd, hz, hz1, hz2, hag, hs, _, hzero, _⟩ := tiOf_spec ht
  by_cases hc : ti.agg = false ∧ ti.zero.length ≠ 1
  · exact ⟨undef, .inr hc⟩
  refine ⟨z, .inl ⟨by simp [zeroValue, typeInfo, hi, hz], hzero.symm, ?_, by rw [hz1, hs]⟩⟩
  have hl := rl_vals (w := w) (hv := hv) (T := T) z.cells.toList hz2
  unfold mkA
  cases h : ti.agg with
  | true => simp only [if_true, R, hzero]; exact hl
  | false =>
    simp only [Bool.false_eq_true, if_false, hzero]
    rw [hzero] at hc
    simp only [h, true_and, Decidable.not_not, ne_eq] at hc
    match hq : z.cells.toList, hc with
    | [u], _ =>
      rw [hq] at hz2
      simp only [List.map_cons, List.map_nil, R]
      exact ⟨trivial, hz2 u (by simp)⟩

theorem parts_ok (hρ : ∀ x, RV w (OwnA A hv) hv (ρ x) (a.eval x)) : ∀ l : List (Nat × Operand), PartsR w (OwnA A hv) hv (l.map fun ix => (ix.1, ρ ix.2)) (l.map fun ix => (ix.1, a.eval ix.2))
  | [] => by simp [PartsR]
  | (i, x) :: l => by simp only [List.map_cons, PartsR]; exact ⟨trivial, hρ x, parts_ok hρ l⟩

theorem build_ok {t : TypeId} {ti : TI} {parts : Array (Nat × Operand)} {cells : List AV} (hρ : ∀ x, RV w (OwnA A hv) hv (ρ x) (a.eval x)) (ht : tiOf P t = some ti) (hag : ti.agg = true) (har : ti.arr = none)
    (hf : fillA (fun i => ti.flds[i]?) (ti.zero.map .v) (parts.toList.map fun ix => (ix.1, ρ ix.2)) = some cells) :
    ∃ v, (Instr.build t (parts.map fun (i, x) => (i, a.eval x))).run P w = .ok v w ∧ RV w (OwnA A hv) hv (.g cells) v := by
  obtain ⟨i, d, z, hi, hd, hz, hz1, hz2, hag', hs, _, hzero, _, harr, hfl, _, _, _, hall⟩ := tiOf_spec ht
  rw [hzero] at hf
  cases d with
  | struct fs =>
    simp only at hfl
    simp only [fldsKnown, List.all_eq_true] at hall
    obtain ⟨res, r1, r2, r3, r4⟩ := fill_ok (fun i => ti.flds[i]?) _ _ _ cells z.cells hf (fun x hx => by
      simp only [List.mem_map] at hx; obtain ⟨u, _, rfl⟩ := hx; rfl) (rl_vals z.cells.toList hz2) (parts_ok hρ parts.toList)
    have hm : ∀ (l : List Field), (∀ f ∈ l, (P.info? f.type).isSome = true) → (l.mapM fun f => (P.info? f.type).map fun i => (f.offset, i.size)) = some (l.map fun f => (f.offset, P.cellsOf f.type)) := by
      intro l
      induction l with
      | nil => intro _; rfl
      | cons f l ih =>
        intro hl
        obtain ⟨j, hj⟩ := Option.isSome_iff_exists.1 (hl f List.mem_cons_self)
        simp [List.mapM_cons, ih fun g hg => hl g (List.mem_cons_of_mem _ hg), hj, Program.cellsOf]
    refine ⟨.agg res, run_build w t _ res ?_, by simp only [RV]; exact ⟨res, rfl, r2⟩⟩
    have hr1 : Instr.fill (fun i => ((fs.toList.map fun f => (f.offset, P.cellsOf f.type)).toArray)[i]?) z.cells (parts.toList.map fun ix => (ix.1, a.eval ix.2)) = some res := by
      rw [← hfl]; simpa using r1
    unfold Program.built
    simp only [hi, hd, hz, hm fs.toList hall, Array.toList_map]
    exact hr1
  | array n e => simp [har] at harr
  | _ => simp [hag] at hag'
end

end Aw
end Go.Proofs.Ytkolpijhgcijbaa

namespace Go.Proofs.Ytkolpijhgcijbaa
namespace Aw
open Go.RowKit

section
variable {A : Nat → Prop} {P : Program} {w : World} {hv : Nat → Option Value} {M : Mem} {a : Act} {K : Kont} {Q : Exit → Act → World → Prop} {ρ : Operand → AV}

/-- the parts of a slice literal, one behind the other, fill it. -/
theorem fill_row {k : Nat} : ∀ (l : List (Nat × Value)) (m n : Nat) (cs : Array Value), l.map (·.1) = List.range' m l.length → m + l.length = n → cs.size = n * k → (∀ p ∈ l, p.2.cells.size = k) →
    ∃ res, Instr.fill (fun i => some (i * k, k)) cs l = some res ∧ res.toList = cs.toList.take (m * k) ++ l.flatMap (fun p => p.2.cells.toList)
  | [], m, n, cs, _, h2, h3, _ => ⟨cs, rfl, by simp at h2; subst h2; rw [← h3, List.take_of_length_le (by simp)]; simp⟩
  | (i, v) :: l, m, n, cs, h1, h2, h3, h4 => by
    simp only [List.map_cons, List.length_cons, List.range'_succ, List.cons.injEq] at h1 h2
    obtain ⟨rfl, h1⟩ := h1
    have hv := h4 (i, v) List.mem_cons_self
    simp only at hv
    have hmul : i * k + k ≤ n * k := by rw [← Nat.succ_mul]; exact Nat.mul_le_mul_right _ (by omega)
    have hfold : (v.cells.zipIdx.foldl (fun cs (c, j) => cs.setIfInBounds (i * k + j) c) cs).toList = cs.toList.take (i * k) ++ v.cells.toList ++ cs.toList.drop (i * k + v.cells.toList.length) := by
      rw [← Array.foldl_toList, Array.toList_zipIdx]
      have := puts_fold (i * k) v.cells.toList 0 cs (by simp; omega)
      simpa using this
    have hsz : (v.cells.zipIdx.foldl (fun cs (c, j) => cs.setIfInBounds (i * k + j) c) cs).size = n * k := by
      rw [← Array.length_toList, hfold]; simp; omega
    obtain ⟨res, r1, r2⟩ := fill_row l (i + 1) n _ h1 (by omega) hsz (fun p hp => h4 p (List.mem_cons_of_mem _ hp))
    refine ⟨res, ?_, ?_⟩
    · simp only [Instr.fill]
      rw [if_neg]
      · exact r1
      · intro hbad
        simp only [Bool.or_eq_true, decide_eq_true_eq] at hbad
        omega
    · rw [r2, hfold, List.flatMap_cons, ← List.append_assoc]
      congr 1
      have hl : (cs.toList.take (i * k) ++ v.cells.toList).length = (i + 1) * k := by rw [Nat.succ_mul]; simp; omega
      rw [← hl, List.take_left]

theorem buildSlice_run {t e : TypeId} {ti te : TI} {n : Nat} {parts : Array (Nat × Operand)} (ht : tiOf P t = some ti) (he : ti.elem = some e) (hte : tiOf P e = some te) (hn : n * te.size ≤ 16777216) (h0 : 0 < te.size)
    (hparts : parts.toList.map (·.1) = List.range n) (hs : ∀ ix ∈ parts.toList, (a.eval ix.2).cells.size = te.size) :
    ∃ cs : Array Value, (Instr.buildSlice t n (parts.map fun (i, x) => (i, a.eval x))).run P w = .ok (.slice (some ⟨w.heap.size, 0, none⟩) n n) (w.alloc (.cells cs e)) ∧ cs.toList = parts.toList.flatMap (fun ix => (a.eval ix.2).cells.toList) ∧ cs.size = n * te.size := by
  have hu := ti_elem ht he
  obtain ⟨i, d, z, hi, hd, hz, hz1, hz2, _, hsz, _⟩ := tiOf_spec hte
  have hlen : parts.toList.length = n := by have := congrArg List.length hparts; simpa using this
  have hfill := fill_row (k := te.size) (parts.toList.map fun ix => (ix.1, a.eval ix.2)) 0 n ((Array.range (n * te.size)).map ((if n * te.size = 0 then #[] else z.cells)[· % (if n * te.size = 0 then (#[] : Array Value) else z.cells).size]!))
    (by simp only [List.map_map, List.length_map, hlen]; rw [← List.range_eq_range', ← hparts]; rfl) (by simpa using hlen) (by simp) (fun p hp => by
      simp only [List.mem_map] at hp; obtain ⟨ix, hix, rfl⟩ := hp; exact hs ix hix)
  obtain ⟨res, r1, r2⟩ := hfill
  have hr : res.toList = parts.toList.flatMap (fun ix => (a.eval ix.2).cells.toList) := by rw [r2]; simp [List.flatMap_map]
  have hrs : res.size = n * te.size := by
    rw [← Array.length_toList, hr]
    have : ∀ l : List (Nat × Operand), (∀ ix ∈ l, (a.eval ix.2).cells.size = te.size) → (l.flatMap (fun ix => (a.eval ix.2).cells.toList)).length = l.length * te.size := by
      intro l
      induction l with
      | nil => intro _; simp
      | cons x l ih => intro h; simp only [List.flatMap_cons, List.length_append, ih fun y hy => h y (List.mem_cons_of_mem _ hy), List.length_cons, Array.length_toList, h x List.mem_cons_self, Nat.succ_mul, Nat.add_comm]
    rw [this _ hs, hlen]
  refine ⟨res, ?_, hr, hrs⟩
  have r1' : Instr.fill (fun i => some (i * te.size, te.size)) ((Array.range (n * te.size)).map ((if n * te.size = 0 then #[] else z.cells)[· % (if n * te.size = 0 then (#[] : Array Value) else z.cells).size]!)) (parts.map fun (i, x) => (i, a.eval x)).toList = some res := by
    rw [Array.toList_map]; exact r1
  simp only [Instr.buildSlice, Sem.run_bind, run_underlying hu, Result.andThen_ok, ti_size hte]
  rw [if_neg (by omega)]
  by_cases hz0 : n * te.size = 0
  · simp only [hz0, if_true] at r1' ⊢
    simp only [Sem.run_bind, Sem.run_pure, Result.andThen_ok, r1']
    rfl
  · simp only [hz0, if_false] at r1' ⊢
    have hzr : (zeroValue e).run P w = .ok z w := by simp [zeroValue, typeInfo, hi, hz]
    simp only [Sem.run_bind, Sem.run_pure, Result.andThen_ok, hzr, r1']
    rfl

theorem flat_rl {k : Nat} (hρ : ∀ x, RV w (OwnA A hv) hv (ρ x) (a.eval x)) : ∀ l : List (Nat × Operand), (l.all fun ix => (ρ ix.2).cellular && (ρ ix.2).flat && (ρ ix.2).size == k) = true →
    RL w (OwnA A hv) hv (l.map fun ix => ρ ix.2) (l.flatMap fun ix => (a.eval ix.2).cells.toList) ∧ (∀ ix ∈ l, (a.eval ix.2).cells.size = k) ∧ ∀ x ∈ l.map (fun ix => ρ ix.2), x.size = k
  | [], _ => by simp [RL]
  | ix :: l, h => by
    simp only [List.all_cons, Bool.and_eq_true, beq_iff_eq] at h
    obtain ⟨⟨⟨h1, h2⟩, h3⟩, h4⟩ := h
    obtain ⟨g1, g2, g3⟩ := flat_rl hρ l h4
    have hR := RV_R h1 (hρ ix.2)
    have hsz := R_size _ _ _ hR
    refine ⟨?_, ?_, ?_⟩
    · simp only [List.map_cons, List.flatMap_cons, RL]; exact ⟨_, _, rfl, hR, g1⟩
    · intro x hx
      rcases List.mem_cons.1 hx with rfl | hx
      · simp at hsz; omega
      · exact g2 x hx
    · intro x hx
      rcases List.mem_cons.1 hx with rfl | hx
      · exact h3
      · exact g3 x hx

theorem buildSlice_own {o : Oper} {t e : TypeId} {ti te : TI} {n : Nat} {parts : Array (Nat × Operand)} (ho : o.op = .buildSlice t n parts) (hρ : ∀ x, RV w (OwnA A hv) hv (ρ x) (a.eval x)) (hM : MemR A w hv M) (ht : tiOf P t = some ti) (he : ti.elem = some e) (hte : tiOf P e = some te)
    (h : 0 < te.size ∧ n * te.size ≤ 16777216 ∧ parts.toList.map (·.1) = List.range n ∧ (parts.toList.all fun ix => (ρ ix.2).cellular && (ρ ix.2).flat && (ρ ix.2).size == te.size) = true)
    (hK : K (.o M.length) [] (newRow M e te.size (parts.toList.map fun ix => ρ ix.2))) : o.wp P a w (After A o a w hv K) Q := by
  obtain ⟨h0, h1, h2, h3⟩ := h
  obtain ⟨g1, g2, g3⟩ := flat_rl hρ parts.toList h3
  obtain ⟨cs, hr, hcs, hsz⟩ := buildSlice_run (w := w) (a := a) ht he hte h1 h0 h2 g2
  have hlen : parts.toList.length = n := by have := congrArg List.length h2; simpa using this
  have hn : n ≤ maxLen := by
    have : n * 1 ≤ n * te.size := Nat.mul_le_mul_left n h0
    simp only [maxLen]; omega
  obtain ⟨m1, m2⟩ := mem_add hM (own_lit w (.cells cs e)) (ob := ⟨none, e, te.size, parts.toList.map fun ix => ρ ix.2⟩) (v := .slice (some ⟨w.heap.size, 0, none⟩) n n) (fun b hb => by simp [blk, Value.ownBlock] at hb; omega)
    (fun hs => ObR.of_row rfl ⟨cs.toList, by simp only [List.length_map, hlen]; exact row_new e te.size n cs hsz hn, g3, by
      have := RL_keep hs.keeps hs.hv _ _ g1
      rw [AV.killL_nil] at this
      rw [hcs]; exact this⟩)
  refine wp_value (v := .slice (some ⟨w.heap.size, 0, none⟩) n n) (w' := w.alloc (.cells cs e)) (by simp only [execOp, ho, Sem.run_bind, hr, Result.andThen_ok, Sem.run_pure]) ⟨_, [], _, _, _, hK, rfl, m1, ?_, m2⟩
  simp only [RV, R]
  exact ⟨_, hvAdd_self _ _, rfl, rfl⟩

theorem buildSlice_per {o : Oper} {t e : TypeId} {ti te : TI} {n : Nat} {parts : Array (Nat × Operand)} (ho : o.op = .buildSlice t n parts) (hρ : ∀ x, RV w (OwnA A hv) hv (ρ x) (a.eval x)) (hM : MemR A w hv M) (ht : tiOf P t = some ti) (he : ti.elem = some e) (hte : tiOf P e = some te)
    (h : 0 < te.size ∧ n * te.size ≤ 16777216 ∧ parts.toList.map (·.1) = List.range n ∧ (parts.toList.all fun ix => (ρ ix.2).cellular && (ρ ix.2).flat && (ρ ix.2).size == te.size) = true)
    (hp : AV.pureL (parts.toList.map fun ix => ρ ix.2) = true) (hK : K (.s te.size (parts.toList.map fun ix => ρ ix.2)) [] M) : o.wp P a w (After A o a w hv K) Q := by
  obtain ⟨h0, h1, h2, h3⟩ := h
  obtain ⟨g1, g2, g3⟩ := flat_rl hρ parts.toList h3
  obtain ⟨cs, hr, hcs, hsz⟩ := buildSlice_run (w := w) (a := a) ht he hte h1 h0 h2 g2
  have hlen : parts.toList.length = n := by have := congrArg List.length h2; simpa using this
  have hn : n ≤ maxLen := by
    have : n * 1 ≤ n * te.size := Nat.mul_le_mul_left n h0
    simp only [maxLen]; omega
  obtain ⟨m1, m2⟩ := mem_keep hM (own_lit w (.cells cs e))
  refine wp_value (v := .slice (some ⟨w.heap.size, 0, none⟩) n n) (w' := w.alloc (.cells cs e)) (by simp only [execOp, ho, Sem.run_bind, hr, Result.andThen_ok, Sem.run_pure]) ⟨_, [], _, _, _, hK, rfl, m1, ?_, m2⟩
  simp only [RV, R]
  have hx := RL_keep m2.keeps m2.hv _ _ g1
  rw [AV.killL_nil] at hx
  refine ⟨some ⟨w.heap.size, 0, none⟩, n, cs.toList, by simp [hlen], by simp [hlen], hn, g3, by rw [hcs]; exact RL_pure _ hv noHv _ hp hx, fun _ => ⟨w.heap.size, 0, rfl, by simp, fun h => by have := hM.lt h; omega, fun j u hj => ?_⟩⟩
  rw [Nat.zero_add, World.cell?_alloc_new]
  simpa using hj
end

end Aw
end Go.Proofs.Ytkolpijhgcijbaa

namespace Go.Proofs.Ytkolpijhgcijbaa
namespace Aw
open Go.RowKit

set_option maxHeartbeats 1000000
section
variable {A : Nat → Prop} {P : Program} {w : World} {hv : Nat → Option Value} {M : Mem} {a : Act} {K : Kont} {Q : Exit → Act → World → Prop} {ρ : Operand → AV}

theorem hM_ob {i : Nat} {ob : Ob} {v : Value} (hM : MemR A w hv M) (hi : M[i]? = some (some ob)) (hv1 : hv i = some v) : ObR w (OwnA A hv) hv ob v := by
  obtain ⟨v', h1, h2⟩ := hM.live i ob hi
  rw [hv1] at h1
  injection h1 with h1
  subst h1
  exact h2

theorem append_case {o : Oper} {x y : Operand} {t e : TypeId} {ti te : TI} {i : Nat} {ob : Ob} {ys : List AV} {Ad : Option Addr} {c : Nat} {news : List Value} (ho : o.op = .call { callee := .builtin .append, args := #[x, y], argTypes := #[t, t] })
    (hM : MemR A w hv M) (ht : tiOf P t = some ti) (he : ti.elem = some e) (hte : tiOf P e = some te) (hx : RV w (OwnA A hv) hv (.o i) (a.eval x)) (hi : M[i]? = some (some ob)) (hmp : ob.mp = none) (hty : ob.ty = e) (hk : ob.k = te.size) (h0 : 0 < te.size)
    (hlen : ob.xs.length + ys.length ≤ 1000000) (hby : te.bytes ≤ 1000) (hy : a.eval y = .slice Ad ys.length c) (hsz : ∀ z ∈ ys, z.size = ob.k) (hnews : RL w (OwnA A hv) noHv ys news ∨ RL w (OwnA A hv) hv ys news) (hsrc : ys ≠ [] → ∃ ad : Addr, Ad = some ad ∧ ∀ j u, news[j]? = some u → w.cell? (ad.add j) = some u)
    {zs : List AV} (hzs : (zs = ys ∧ RL w (OwnA A hv) noHv ys news) ∨ (zs = AV.killL [i] ys ∧ RL w (OwnA A hv) hv ys news))
    (hK : K (.o i) [i] ((Mem.kill [i] M).set i (some { ob with xs := AV.killL [i] ob.xs ++ zs }))) : o.wp P a w (After A o a w hv K) Q := by
  simp only [RV, R] at hx
  obtain ⟨v, hvi, e1, _⟩ := hx
  injection e1 with e1
  obtain ⟨us, hrow, hks, hus⟩ := (hM_ob hM hi hvi).row hmp
  have h1 : ∀ u ∈ news, u.oneCell' = true := by rcases hnews with h | h <;> exact RL_one _ _ h
  have hnl : news.length = ys.length * ob.k := by rcases hnews with h | h <;> exact RL_len ys news hsz h
  subst hty
  rw [hk] at hrow hnl
  obtain ⟨v', w', hr, h2, h3, h4⟩ := run_append_src (ty := o.type) ht he hte h0 hrow (A := Ad) (m := ys.length) (c := c) hnl (fun hpos => hsrc (by intro e; rw [e] at hpos; simp at hpos)) h1 hlen hby
  have hzl : zs.length = ys.length := by rcases hzs with ⟨rfl, _⟩ | ⟨rfl, _⟩ <;> simp [AV.killL_map]
  obtain ⟨m1, m2⟩ := mem_append (ys := zs) (news := news) hM hi hmp (blk_row hrow) (blk_row h2) hvi hus hks (by rw [hk, hzl]; exact h2) h3 (run_drawn _ hr) h4 (fun z hz => by
      rcases hzs with ⟨rfl, _⟩ | ⟨rfl, _⟩
      · exact hsz z hz
      · simp only [AV.killL_map, List.mem_map] at hz; obtain ⟨q, hq, rfl⟩ := hz; rw [AV.size_kill]; exact hsz q hq) (fun hs => by
      rcases hzs with ⟨rfl, h⟩ | ⟨rfl, h⟩
      · have := RL_keep hs.keeps (Z := []) (hv := noHv) (hv' := hvSet hv i v') (fun i u _ h => by simp [noHv] at h) _ _ h
        rwa [AV.killL_nil] at this
      · exact RL_keep hs.keeps hs.hv _ _ h)
  refine wp_value (v := v') (w' := w') ?_ ⟨_, [i], _, _, _, hK, rfl, m1, ?_, m2⟩
  · simp only [execOp, ho, resolve, invoke, builtin, Sem.run_bind, Sem.run_pure, Result.andThen_ok, List.map_toArray, List.map_cons, List.map_nil, e1, hy, hr]
  · simp only [RV, R]
    refine ⟨v', by simp [hvSet], rfl, ?_⟩
    rcases h2.2 with ⟨rfl, _⟩ | ⟨g, cap, cur, rfl, _⟩ <;> rfl

theorem rvl_of_rl {T : Nat → Prop} : ∀ (l : List AV) (us : List Value), (∀ x ∈ l, x.single = true) → RL w T hv l us → RVL w T hv l us
  | [], us, _, h => by simpa only [RL, RVL] using h
  | x :: l, us, hs, h => by
    simp only [RL] at h
    obtain ⟨u1, u2, rfl, h1, h2⟩ := h
    have h3 := R_size _ _ _ h1
    rw [AV.size_single (hs x List.mem_cons_self)] at h3
    match u1, h3 with
    | [u], _ =>
      simp only [RVL]
      exact ⟨u, u2, rfl, R_RV (hs x List.mem_cons_self) h1, rvl_of_rl l u2 (fun y hy => hs y (List.mem_cons_of_mem _ hy)) h2⟩

theorem rvl_len {T : Nat → Prop} : ∀ (l : List AV) (us : List Value), RVL w T hv l us → us.length = l.length
  | [], us, h => by simp only [RVL] at h; subst h; rfl
  | x :: l, us, h => by simp only [RVL] at h; obtain ⟨u, us, rfl, _, h⟩ := h; simp [rvl_len l us h]
theorem mapOf_eq {t : TypeId} {ke : TypeId × TypeId} (h : mapOf P t = some ke) : P.underlying t = some (.map ke.1 ke.2) := by
  unfold mapOf at h
  split at h
  · rename_i k e hu; injection h with h; subst h; exact hu
  · cases h

theorem arr1 {α : Type} {x : Array α} {y : α} (h : x.toList = [y]) : x = #[y] := by cases x; simp at h; subst h; rfl
theorem arr2 {α : Type} {x : Array α} {y z : α} (h : x.toList = [y, z]) : x = #[y, z] := by cases x; simp at h; subst h; rfl

theorem callA_sound {K : HK Kont} {o : Oper} {c : Call} (ho : o.op = .call c) (hρ : ∀ x, RV w (OwnA A hv) hv (ρ x) (a.eval x)) (hM : MemR A w hv M) (h : callA P c ρ M (K := K)) : o.wp P a w (After A o a w hv K.k) Q := by
  obtain ⟨callee, args, argTypes⟩ := c
  unfold callA at h
  split at h
  · -- a function
    rename_i f hc
    simp only at hc
    subst hc
    refine call_ok (args := args.toList.map a.eval) hM (rvl_map hρ args.toList) (fun hok => ?_) h
    unfold okFn at hok
    cases hf : P.funcs[f]? with
    | none => rw [hf] at hok; simp at hok
    | some fn =>
      rw [hf] at hok
      simp only [Bool.and_eq_true, Bool.not_eq_true'] at hok
      have h1 : ¬ fn.name = "runtime.NumGoroutine" := by simpa using hok.1
      have hb : ¬ fn.body = none := by intro e; rw [e] at hok; simp at hok
      have e : (args.toList.map a.eval).toArray = args.map a.eval := by rw [← Array.toList_map]
      rw [e]
      simp [execOp, ho, resolve, Deferred.ofValue, Act.eval, invoke, callFunc, hf, h1, hb]
  · -- a function value
    rename_i x hne hc
    simp only at hc
    subst hc
    split at h
    · rename_i f cap hx
      have hfx := hρ x
      rw [hx] at hfx
      simp only [RV, R] at hfx
      obtain ⟨cs, e1, hcl, hcs⟩ := hfx
      injection e1 with e1
      have hcv : RVL w (OwnA A hv) hv cap cs.toList := rvl_of_rl cap cs.toList hcl hcs
      refine call_ok (args := args.toList.map a.eval ++ cs.toList) hM (rvl_app _ _ _ _ (rvl_map hρ args.toList) hcv) (fun hok => ?_) h
      unfold okFn at hok
      cases hf : P.funcs[f]? with
      | none => rw [hf] at hok; simp at hok
      | some fn =>
        rw [hf] at hok
        simp only [Bool.and_eq_true, Bool.not_eq_true'] at hok
        have h1 : ¬ fn.name = "runtime.NumGoroutine" := by simpa using hok.1
        have hb : ¬ fn.body = none := by intro e; rw [e] at hok; simp at hok
        have e : (args.toList.map a.eval ++ cs.toList).toArray = args.map a.eval ++ cs := by rw [← Array.toList_map, ← Array.toList_append]
        rw [e]
        simp [execOp, ho, resolve, Deferred.ofValue, e1, invoke, callFunc, hf, h1, hb]
    · exact h.elim
  · -- len
    rename_i hc
    simp only at hc
    subst hc
    split at h
    · rename_i x t hx ht
      split at h
      · rename_i ti n hti hn
        obtain ⟨he, hK⟩ := h
        obtain ⟨e, he⟩ := Option.isSome_iff_exists.1 he
        have hu := ti_elem hti he
        have hax := arr1 hx
        have hat := arr1 ht
        simp only at hax hat
        subst hax; subst hat
        have hxv := hρ x
        have hlen : ∃ A m c, a.eval x = .slice A m c ∧ (m : Int) = n := by
          unfold lenA at hn
          split at hn
          · rename_i k xs hxs
            rw [hxs] at hxv
            simp only [RV, R] at hxv
            obtain ⟨A, c, ws, e1, _⟩ := hxv
            injection e1 with e1
            injection hn with hn
            exact ⟨A, _, c, e1, hn⟩
          · rename_i hxs
            rw [hxs] at hxv
            simp only [RV] at hxv
            injection hn with hn
            exact ⟨none, 0, 0, hxv, hn⟩
          · rename_i i hxs
            rw [hxs] at hxv
            simp only [RV, R] at hxv
            obtain ⟨v, hv1, e1, _⟩ := hxv
            injection e1 with e1
            split at hn
            · rename_i ob hob
              split at hn
              case h_2 => cases hn
              rename_i hmp
              obtain ⟨us, hrow, _⟩ := (hM_ob hM hob hv1).row hmp
              injection hn with hn
              rcases hrow.2 with ⟨hv0, h0⟩ | ⟨g, cap, cur, hv0, _⟩
              · exact ⟨none, 0, 0, by rw [e1, hv0], by omega⟩
              · exact ⟨_, _, _, by rw [e1, hv0], hn⟩
            · cases hn
          · cases hn
        obtain ⟨A, m, c, hev, hmn⟩ := hlen
        refine after_same (v := .int .i64 n) (r := I n) ?_ hM (by simp only [RV]) hK
        simp [execOp, ho, resolve, invoke, builtin, Builtin.len_, run_underlying hu, hev, goInt, hmn]
      · rename_i ti hti hn
        split at h
        · rename_i ke n hke hn'
          have hax := arr1 hx
          have hat := arr1 ht
          simp only at hax hat
          subst hax; subst hat
          have hxv := hρ x
          unfold lenM at hn'
          split at hn'
          · rename_i i hxs
            rw [hxs] at hxv
            simp only [RV, R] at hxv
            obtain ⟨v, hv1, e1, _⟩ := hxv
            injection e1 with e1
            split at hn'
            · rename_i ob hob
              split at hn'
              · rename_i ks hmp
                split at hn'
                case isFalse => cases hn'
                rename_i hk0
                obtain ⟨vals, ⟨_, b, es, clock, rfl, h1, h2, rfl, _⟩ | ⟨hk1, _⟩, h3⟩ := (hM_ob hM hob hv1).map hmp
                case inr => exact absurd hk0 hk1
                injection hn' with hn'
                have hl := (rvl_len _ _ h3)
                simp only [List.length_map, Array.length_toList] at hl
                refine after_same (v := .int .i64 n) (r := I n) ?_ hM (by simp only [RV]) h
                have hu : P.underlying t = some (.map ke.1 ke.2) := mapOf_eq hke
                simp [execOp, ho, resolve, invoke, builtin, Builtin.len_, run_underlying hu, e1, goInt, getObj, h1, Sem.run]
                omega
              · cases hn'
            · cases hn'
          · cases hn'
        · exact h.elim
      · exact h.elim
    · exact h.elim
  · -- min
    rename_i hc
    simp only at hc
    subst hc
    split at h
    · rename_i x y hxy
      have := arr2 hxy
      simp only at this
      subst this
      split at h
      · rename_i r hr
        unfold minmaxA at hr
        split at hr
        · rename_i p q hp hq
          have hpx := hρ x
          have hqy := hρ y
          rw [hp] at hpx
          rw [hq] at hqy
          simp only [RV] at hpx hqy
          injection hr with hr
          subst hr
          refine after_same (v := .int .i64 (min p q)) ?_ hM (by simp only [RV]; rfl) h
          simp [execOp, ho, resolve, invoke, builtin, Builtin.min_, Builtin.min2, hpx, hqy, List.foldlM]
          omega
        · cases hr
      · exact h.elim
    · exact h.elim
  · -- max
    rename_i hc
    simp only at hc
    subst hc
    split at h
    · rename_i x y hxy
      have := arr2 hxy
      simp only at this
      subst this
      split at h
      · rename_i r hr
        unfold minmaxA at hr
        split at hr
        · rename_i p q hp hq
          have hpx := hρ x
          have hqy := hρ y
          rw [hp] at hpx
          rw [hq] at hqy
          simp only [RV] at hpx hqy
          injection hr with hr
          subst hr
          refine after_same (v := .int .i64 (max p q)) ?_ hM (by simp only [RV]; rfl) h
          simp [execOp, ho, resolve, invoke, builtin, Builtin.max_, Builtin.max2, hpx, hqy, List.foldlM]
          omega
        · cases hr
      · exact h.elim
    · exact h.elim
  · -- append
    rename_i hc
    simp only at hc
    subst hc
    split at h
    · rename_i x y t t' hxy htt
      have e1 := arr2 hxy
      have e2 := arr2 htt
      simp only at e1 e2
      subst e1; subst e2
      split at h
      · rename_i ti hti
        split at h
        · rename_i e he
          split at h
          · rename_i te hte
            split at h
            · -- a persistent source
              rename_i i k ys hx hy
              split at h
              · rename_i ob hob
                obtain ⟨⟨rfl, hmp, h1, h2, h3, h4, h5, h6⟩, hK⟩ := h
                have hyv := hρ y
                rw [hy] at hyv
                simp only [RV, R] at hyv
                obtain ⟨A, c, ws, e1, _, _, g1, g2, g3⟩ := hyv
                injection e1 with e1
                exact append_case ho hM hti he hte (by rw [← hx]; exact hρ x) hob hmp h1 h2 h4 h5 h6 e1 (fun z hz => by rw [g1 z hz, h3, h2]) (.inl g2) (fun hne => by
                  obtain ⟨b, off, rfl, _, _, hc⟩ := g3 hne
                  exact ⟨_, rfl, fun j u hu => by rw [Addr.add_lit]; exact hc j u hu⟩) (.inl ⟨rfl, g2⟩) hK
              · exact h.elim
            · -- a nil source
              rename_i i hx hy
              split at h
              case h_2 => exact h.elim
              rename_i ob hob
              obtain ⟨⟨rfl, hmp⟩, hK⟩ := h
              have hxv := hρ x
              have hyv := hρ y
              rw [hx] at hxv
              rw [hy] at hyv
              simp only [RV] at hyv
              have hxv0 := hxv
              simp only [RV, R] at hxv
              obtain ⟨v, hv1, e1, _⟩ := hxv
              injection e1 with e1
              obtain ⟨us, hrow, _⟩ := (hM_ob hM hob hv1).row hmp
              have hu := ti_elem hti he
              obtain ⟨ie, _, _, hie, _⟩ := tiOf_spec hte
              refine after_same (v := v) ?_ hM (by rw [← e1]; exact hxv0) hK
              rcases hrow.2 with ⟨rfl, _⟩ | ⟨g, cap, cur, rfl, _, _, hnc, _⟩
              · simp [execOp, ho, resolve, invoke, builtin, e1, hyv, Builtin.append_, run_underlying hu, sizeOf, typeInfo, hie, Builtin.lenOf, Builtin.firstCells]
              · simp [execOp, ho, resolve, invoke, builtin, e1, hyv, Builtin.append_, run_underlying hu, sizeOf, typeInfo, hie, Builtin.lenOf, Builtin.firstCells, hnc, storeCells]
            · -- an own source
              rename_i i j hx hy
              split at h
              · rename_i ob ob' hob hob'
                obtain ⟨⟨hij, rfl, hmp, hmp', h1, h2, h3, h4, h5, h6⟩, hK⟩ := h
                have hyv := hρ y
                rw [hy] at hyv
                simp only [RV, R] at hyv
                obtain ⟨v, hv1, e1, _⟩ := hyv
                injection e1 with e1
                obtain ⟨us, hrow, hks, hus⟩ := (hM_ob hM hob' hv1).row hmp'
                have hshape : ∃ A c, v = .slice A ob'.xs.length c := by
                  rcases hrow.2 with ⟨rfl, h0⟩ | ⟨g, cap, cur, rfl, _⟩
                  · exact ⟨none, 0, by rw [h0]⟩
                  · exact ⟨_, _, rfl⟩
                obtain ⟨A, c, rfl⟩ := hshape
                exact append_case ho hM hti he hte (by rw [← hx]; exact hρ x) hob hmp h1 h2 h4 h5 h6 e1 (fun z hz => by rw [hks z hz, h3, h2]) (.inr hus) (fun hne => by
                  obtain ⟨g, cap, hg⟩ := ownsRow_add hrow (List.length_pos_iff.2 hne)
                  injection hg with hg
                  subst hg
                  exact ⟨_, rfl, hrow.cells (g := g) rfl⟩) (.inr ⟨rfl, hus⟩) hK
              · exact h.elim
            · exact h.elim
          · exact h.elim
        · exact h.elim
      · exact h.elim
    · exact h.elim
  · exact h.elim
end

end Aw
end Go.Proofs.Ytkolpijhgcijbaa

namespace Go.Proofs.Ytkolpijhgcijbaa
namespace Aw
open Go.RowKit

set_option maxHeartbeats 1000000
section
variable {A : Nat → Prop} {P : Program} {w : World} {hv : Nat → Option Value} {M : Mem} {a : Act} {K : Kont} {Q : Exit → Act → World → Prop} {ρ : Operand → AV}

theorem valsOf_eq {T : Nat → Prop} : ∀ (xs : List AV) (l us : List Value), valsOf xs = some l → RL w T hv xs us → us = l
  | [], l, us, h, hr => by simp only [valsOf, Option.some.injEq] at h; subst h; simpa only [RL] using hr
  | .v x :: xs, l, us, h, hr => by
    simp only [valsOf, Option.map_eq_some_iff] at h
    obtain ⟨l', h1, rfl⟩ := h
    simp only [RL, R] at hr
    obtain ⟨u1, u2, rfl, ⟨rfl, _⟩, h3⟩ := hr
    rw [valsOf_eq xs l' u2 h1 h3]
    rfl
  | .bot :: _, l, us, h, hr => by simp [valsOf] at h
  | .s _ _ :: _, l, us, h, hr => by simp [valsOf] at h
  | .g _ :: _, l, us, h, hr => by simp [valsOf] at h
  | .t _ :: _, l, us, h, hr => by simp [valsOf] at h
  | .p _ _ :: _, l, us, h, hr => by simp [valsOf] at h
  | .o _ :: _, l, us, h, hr => by simp [valsOf] at h
  | .q _ _ _ _ :: _, l, us, h, hr => by simp [valsOf] at h
  | .f _ _ :: _, l, us, h, hr => by simp [valsOf] at h

theorem valOf_eq {T : Nat → Prop} {x : AV} {v u : Value} (h : valOf x = some v) (hr : RV w T hv x u) : u = v := by
  cases x with
  | v y => simp only [valOf, Option.some.injEq] at h; simp only [RV] at hr; rw [hr, h]
  | g xs =>
    simp only [valOf, Option.map_eq_some_iff] at h
    obtain ⟨l, h1, rfl⟩ := h
    simp only [RV] at hr
    obtain ⟨cs, rfl, h2⟩ := hr
    rw [← valsOf_eq xs l cs.toList h1 h2]
  | _ => simp [valOf] at h

theorem zeroA_ok {T : Nat → Prop} {t : TypeId} {z : AV} (h : zeroA P t = some z) : ∃ v, (zeroValue t).run P w = .ok v w ∧ RV w T hv z v := by
  unfold zeroA at h
  split at h
  · rename_i cs hz
    obtain ⟨i, hi, hz⟩ := Option.bind_eq_some_iff.1 hz
    split at h
    · rename_i hc
      injection h with h
      subst h
      simp only [List.all_eq_true] at hc
      refine ⟨.agg cs, by simp [zeroValue, typeInfo, hi, hz], ?_⟩
      simp only [RV]
      exact ⟨cs, rfl, rl_vals cs.toList hc⟩
    · cases h
  · rename_i v _ hz
    obtain ⟨i, hi, hz⟩ := Option.bind_eq_some_iff.1 hz
    split at h
    · injection h with h
      subst h
      exact ⟨v, by simp [zeroValue, typeInfo, hi, hz], by simp only [RV]⟩
    · cases h
  · cases h

theorem afind_run {kt : TypeId} {v : Value} {K : HK (Nat → Prop)} {L : HK Prop} {es : Array MapEntry} (h : AFind P kt (es.toList.map (·.key)) v (K := K) (L := L)) :
    (∃ l, keyOf P kt v = some l) ∧ Maps.Keyed P kt ∧ ((∃ j e, (Instr.findKey kt v es.toList).run P w = .ok (some (j, e.val)) w ∧ es[j]? = some e ∧ e.key = v ∧ K.k j) ∨ ((Instr.findKey kt v es.toList).run P w = .ok none w ∧ L.k)) := by
  obtain ⟨⟨hk, ⟨l, hl⟩, hall⟩, h⟩ := h
  refine ⟨⟨l, hl⟩, hk, ?_⟩
  rcases hk.find w hl es.toList (fun e he => hall e.key (List.mem_map.2 ⟨e, he, rfl⟩)) with ⟨h1, h2⟩ | ⟨j, e, h1, h2, h3⟩
  · rcases h with ⟨j, ⟨hj, _⟩, _⟩ | ⟨_, hL⟩
    · rw [List.getElem?_map] at hj
      simp only [Option.map_eq_some_iff] at hj
      obtain ⟨e, he, hke⟩ := hj
      exact absurd hke (h2 e (List.mem_of_getElem? he))
    · exact .inr ⟨h1, hL⟩
  · rcases h with ⟨j', ⟨_, hu⟩, hK⟩ | ⟨hn, _⟩
    · have : j = j' := hu j (by rw [List.getElem?_map, h2]; simp [h3])
      subst this
      exact .inl ⟨j, e, h1, by simpa using h2, h3, hK⟩
    · exact absurd h3 (hn e.key (List.mem_map.2 ⟨e, List.mem_of_getElem? h2, rfl⟩))

theorem rvl_at {T : Nat → Prop} : ∀ (l : List AV) (us : List Value) (i : Nat) (x : AV) (u : Value), RVL w T hv l us → l[i]? = some x → us[i]? = some u → RV w T hv x u
  | [], us, i, x, u, h, hx, hu => by simp at hx
  | y :: l, us, i, x, u, h, hx, hu => by
    simp only [RVL] at h
    obtain ⟨v, vs, rfl, h1, h2⟩ := h
    cases i with
    | zero => simp at hx hu; subst hx; subst hu; exact h1
    | succ i => simp at hx hu; exact rvl_at l vs i x u h2 hx hu
theorem rvl_set {T : Nat → Prop} : ∀ (l : List AV) (us : List Value) (i : Nat) (x : AV) (u : Value), RVL w T hv l us → RV w T hv x u → RVL w T hv (l.set i x) (us.set i u)
  | [], us, i, x, u, h, hx => by simp only [RVL] at h; subst h; simp [RVL]
  | y :: l, us, i, x, u, h, hx => by
    simp only [RVL] at h
    obtain ⟨v, vs, rfl, h1, h2⟩ := h
    cases i with
    | zero => simp only [List.set_cons_zero, RVL]; exact ⟨u, vs, rfl, hx, h2⟩
    | succ i => simp only [List.set_cons_succ, RVL]; exact ⟨v, _, rfl, h1, rvl_set l vs i x u h2 hx⟩

/-- a map's block is written. -/
theorem mem_map {id b : Nat} {ob : Ob} {es es' : Array MapEntry} {clock clock' : Nat} {ks' : List Value} {xs' : List AV} (hM : MemR A w hv M) (hid : M[id]? = some (some ob)) (hb : hv id = some (.map (some b))) (hh : w.heap[b]? = some (.map es clock))
    (hk0 : ob.k = 0) (hk : es'.toList.map (·.key) = ks') (hx : RVL w (OwnA A hv) hv xs' (es'.toList.map (·.val))) (hst : Stamps es' clock') :
    MemR A { w with heap := w.heap.setIfInBounds b (.map es' clock') } hv (M.set id (some { ob with mp := some ks', xs := xs' })) ∧ StepR A w hv [] { w with heap := w.heap.setIfInBounds b (.map es' clock') } hv := by
  have hlt : b < w.heap.size := (Array.getElem?_eq_some_iff.1 hh).1
  have hoth : ∀ c, c ≠ b → ({ w with heap := w.heap.setIfInBounds b (.map es' clock') } : World).heap[c]? = w.heap[c]? := fun c hc => Array.getElem?_setIfInBounds_ne (Ne.symm hc)
  have hs : StepR A w hv [] { w with heap := w.heap.setIfInBounds b (.map es' clock') } hv :=
    ⟨⟨by simp, fun c _ hT => hoth c (by rintro rfl; exact hT ⟨id, _, hb, rfl⟩), fun _ _ h => h⟩, fun _ _ _ h => h, rfl, rfl, rfl, Nat.le_refl _⟩
  refine ⟨⟨fun i ob' h => ?_, fun i u h => ?_, hM.inj, fun b h => by have := hM.old b h; simpa using this⟩, hs⟩
  · rw [setOb_get _ _ _ _ (List.getElem?_eq_some_iff.1 hid).1] at h
    by_cases hi : i = id
    · subst hi
      rw [if_pos rfl] at h
      simp only [Option.some.injEq] at h
      subst h
      refine ⟨_, hb, ObR.of_map (ob := { ob with mp := some ks', xs := xs' }) (ks := ks') rfl ⟨_, .inl ⟨hk0, b, es', clock', rfl, by simp [hlt], hk, rfl, hst⟩, ?_⟩⟩
      have := RVL_keep hs.keeps hs.hv _ _ hx
      rwa [AV.killL_nil] at this
    · rw [if_neg hi] at h
      obtain ⟨v1, h9, h10, h11⟩ := live_step hM hs (fun v' b' hi' hb' => hoth b' (by rintro rfl; exact hi (hM.inj i id _ _ _ hi' hb hb' rfl))) (by simp) h
      rw [Ob.kill_nil] at h11
      exact ⟨v1, h9, h11⟩
  · obtain ⟨o, ho⟩ := hM.dom i u h
    rw [setOb_get _ _ _ _ (List.getElem?_eq_some_iff.1 hid).1]
    by_cases hi : i = id
    · exact ⟨_, by rw [if_pos hi]⟩
    · exact ⟨o, by rw [if_neg hi]; exact ho⟩

theorem mapPut_ok {K : HK Kont} {o : Oper} {t : TypeId} {m x y : Operand} (hrun : ∀ u w', (Instr.mapUpdate t (a.eval m) (a.eval x) (a.eval y)).run P w = .ok u w' → (execOp a.eval o).run P w = .ok .skip w')
    (hρ : ∀ x, RV w (OwnA A hv) hv (ρ x) (a.eval x)) (hM : MemR A w hv M) (h : mapPut P t (ρ m) (ρ x) (ρ y) M (K := K)) : o.wp P a w (After A o a w hv K.k) Q := by
  obtain ⟨⟨kt, et⟩, id, kv, ob, ks, hmp, hm, hx, hid, hks, hk0, hf⟩ := h
  have hu := mapOf_eq hmp
  have hmv := hρ m
  rw [hm] at hmv
  simp only [RV, R] at hmv
  obtain ⟨v, hv1, e1, _⟩ := hmv
  injection e1 with e1
  obtain ⟨vals, ⟨_, b, es, clock, rfl, h1, rfl, rfl, hst0⟩ | ⟨hk1, _⟩, h3⟩ := (hM_ob hM hid hv1).map hks
  case inr => exact absurd hk0 hk1
  have hkv := valOf_eq hx (hρ x)
  obtain ⟨⟨l, hl⟩, hk, hfr⟩ := afind_run (w := w) hf
  have hck := hk.check w false hl
  have hlen := rvl_len _ _ h3
  rcases hfr with ⟨j, e, g1, g2, g3, hK⟩ | ⟨g1, hL⟩
  · have hst := hk.stays w hl
    have hr : (Instr.mapUpdate t (a.eval m) (a.eval x) (a.eval y)).run P w = .ok () { w with heap := w.heap.setIfInBounds b (.map (es.modify j fun e => { e with key := kv, val := a.eval y }) clock) } := by
      have g3' : ((es[j]?).map (·.key)).getD kv = kv := by rw [g2]; simp [g3]
      simp only [Instr.mapUpdate, Sem.run_bind, run_underlying hu, Result.andThen_ok, e1, MapKept.run_getObj_map h1, hkv, hck, g1, g3', hst, MapKept.run_setObj_map _ h1]
    obtain ⟨m1, m2⟩ := mem_map (es' := es.modify j fun e => { e with key := kv, val := a.eval y }) (clock' := clock) (ks' := es.toList.map (·.key)) (xs' := ob.xs.set j (ρ y)) hM hid hv1 h1 hk0 (by
      apply List.ext_getElem?
      intro i
      simp only [Array.toList_modify, List.getElem?_map, List.getElem?_modify]
      by_cases hij : j = i
      · subst hij
        have : es.toList[j]? = some e := by simpa using g2
        simp [this, g3]
      · simp [hij]) (by
      have := rvl_set ob.xs _ j (ρ y) (a.eval y) h3 (hρ y)
      have e : (es.modify j fun e => { e with key := kv, val := a.eval y }).toList.map (·.val) = (es.toList.map (·.val)).set j (a.eval y) := by
        apply List.ext_getElem?
        intro i
        simp only [Array.toList_modify, List.getElem?_map, List.getElem?_modify, List.getElem?_set, List.length_map]
        have hjl : j < es.toList.length := by simpa using (Array.getElem?_eq_some_iff.1 g2).1
        by_cases hij : j = i
        · subst hij
          have hjs : j < es.size := by simpa using hjl
          simp [hjs]
        · simp [hij]
      rw [e]
      exact this) (by
      have eb : (es.modify j fun e => { e with key := kv, val := a.eval y }).toList.map (·.born) = es.toList.map (·.born) := by
        apply List.ext_getElem?
        intro i
        simp only [Array.toList_modify, List.getElem?_map, List.getElem?_modify]
        cases es.toList[i]? with
        | none => rfl
        | some x => by_cases hij : j = i <;> simp [hij]
      refine ⟨fun x hx => ?_, by rw [eb]; exact hst0.2⟩
      have hm : x.born ∈ (es.modify j fun e => { e with key := kv, val := a.eval y }).toList.map (·.born) := List.mem_map.2 ⟨x, hx, rfl⟩
      rw [eb] at hm
      obtain ⟨y', hy', e'⟩ := List.mem_map.1 hm
      have := hst0.1 y' hy'
      omega)
    have hks' : ({ ob with mp := some (es.toList.map (·.key)), xs := ob.xs.set j (ρ y) } : Ob) = { ob with xs := ob.xs.set j (ρ y) } := by rw [← hks]
    rw [hks'] at m1
    exact wp_skip' (hrun _ _ hr) ⟨_, [], _, _, _, hK, rfl, m1, by simp [RV], m2⟩
  · have hr : (Instr.mapUpdate t (a.eval m) (a.eval x) (a.eval y)).run P w = .ok () { w with heap := w.heap.setIfInBounds b (.map (es.push { key := kv, val := a.eval y, born := clock }) (clock + 1)) } := by
      simp only [Instr.mapUpdate, Sem.run_bind, run_underlying hu, Result.andThen_ok, e1, MapKept.run_getObj_map h1, hkv, hck, g1, MapKept.run_setObj_map _ h1]
    obtain ⟨m1, m2⟩ := mem_map (es' := es.push { key := kv, val := a.eval y, born := clock }) (clock' := clock + 1) (ks' := es.toList.map (·.key) ++ [kv]) (xs' := ob.xs ++ [ρ y]) hM hid hv1 h1 hk0 (by simp) (by
      have := rvl_app _ _ _ _ h3 (show RVL w (OwnA A hv) hv [ρ y] [a.eval y] by simp only [RVL]; exact ⟨_, _, rfl, hρ y, rfl⟩)
      simpa using this) (by
      refine ⟨fun x hx => ?_, ?_⟩
      · simp only [Array.toList_push, List.mem_append, List.mem_singleton] at hx
        rcases hx with hx | rfl
        · have := hst0.1 x hx; omega
        · exact Nat.lt_succ_self _
      · simp only [Array.toList_push, List.map_append, List.map_cons, List.map_nil]
        rw [List.nodup_append]
        refine ⟨hst0.2, by simp, fun b hb c hc => ?_⟩
        simp only [List.mem_singleton] at hc
        subst hc
        obtain ⟨y', hy', e'⟩ := List.mem_map.1 hb
        have := hst0.1 y' hy'
        omega)
    exact wp_skip' (hrun _ _ hr) ⟨_, [], _, _, _, hL, rfl, m1, by simp [RV], m2⟩

theorem lookup_ok {K : HK Kont} {o : Oper} {t : TypeId} {m x : Operand} {ok : Bool} (ho : o.op = .lookup t m x ok) (hρ : ∀ x, RV w (OwnA A hv) hv (ρ x) (a.eval x)) (hM : MemR A w hv M)
    (h : ∃ ke id kv ob ks z, mapOf P t = some ke ∧ ρ m = .o id ∧ valOf (ρ x) = some kv ∧ M[id]? = some (some ob) ∧ ob.mp = some ks ∧ zeroA P ke.2 = some z ∧
      ob.k = 0 ∧ AFind P ke.1 ks kv (K := ⟨fun j => AGet ob.xs j (K := ⟨fun y => K.k (if ok then .t [y, B true] else y) [] M⟩)⟩) (L := ⟨K.k (if ok then .t [z, B false] else z) [] M⟩)) : o.wp P a w (After A o a w hv K.k) Q := by
  obtain ⟨⟨kt, et⟩, id, kv, ob, ks, z, hmp, hm, hx, hid, hks, hz, hk0, hf⟩ := h
  have hu := mapOf_eq hmp
  have hmv := hρ m
  rw [hm] at hmv
  simp only [RV, R] at hmv
  obtain ⟨v, hv1, e1, _⟩ := hmv
  injection e1 with e1
  obtain ⟨vals, ⟨_, b, es, clock, rfl, h1, rfl, rfl, hst0⟩ | ⟨hk1, _⟩, h3⟩ := (hM_ob hM hid hv1).map hks
  case inr => exact absurd hk0 hk1
  have hkv := valOf_eq hx (hρ x)
  obtain ⟨⟨l, hl⟩, hk, hfr⟩ := afind_run (w := w) hf
  have hck := hk.check w es.isEmpty hl
  rcases hfr with ⟨j, e, g1, g2, g3, y, hy, hK⟩ | ⟨g1, hL⟩
  · have hye : RV w (OwnA A hv) hv y e.val := rvl_at ob.xs _ j y e.val h3 hy (by simp [g2])
    refine after_same (v := if ok then .tuple #[e.val, .bool true] else e.val) ?_ hM ?_ hK
    · simp only [execOp, ho, Instr.lookup, Sem.run_bind, run_underlying hu, Result.andThen_ok, e1, MapKept.run_getObj_map h1, Sem.run_pure, hkv, hck, g1]
    · cases ok with
      | true => simp only [if_true, RV, RVL]; exact ⟨_, rfl, e.val, _, rfl, hye, _, _, rfl, rfl, rfl⟩
      | false => simpa using hye
  · obtain ⟨zv, hz1, hz2⟩ := zeroA_ok (w := w) (hv := hv) (T := OwnA A hv) hz
    refine after_same (v := if ok then .tuple #[zv, .bool false] else zv) ?_ hM ?_ hL
    · simp only [execOp, ho, Instr.lookup, Sem.run_bind, run_underlying hu, Result.andThen_ok, e1, MapKept.run_getObj_map h1, Sem.run_pure, hkv, hck, g1, hz1]
    · cases ok with
      | true => simp only [if_true, RV, RVL]; exact ⟨_, rfl, zv, _, rfl, hz2, _, _, rfl, rfl, rfl⟩
      | false => simpa using hz2

end

end Aw
end Go.Proofs.Ytkolpijhgcijbaa

namespace Go.Proofs.Ytkolpijhgcijbaa
namespace Aw
open Go.RowKit

set_option maxHeartbeats 1000000
section
variable {A : Nat → Prop} {P : Program} {w : World} {hv : Nat → Option Value} {M : Mem} {a : Act} {K : Kont} {Q : Exit → Act → World → Prop} {ρ : Operand → AV}

theorem core_sound {K : HK Kont} {own : List Nat} {o : Oper} (hρ : ∀ x, RV w (OwnA A hv) hv (ρ x) (a.eval x)) (hM : MemR A w hv M) (h : core P own o ρ M (K := K)) : o.wp P a w (After A o a w hv K.k) Q := by
  unfold core at h
  split at h
  · -- move
    rename_i x ho
    exact after_same (v := a.eval x) (by simp [execOp, ho]) hM (hρ x) h
  · -- assign
    rename_i x ho
    split at h
    · rename_i hx _
      split at h
      · rename_i ti hti
        split at h
        · rename_i e he
          split at h
          · rename_i te hte
            have hxv := hρ x
            rw [hx] at hxv
            simp only [RV] at hxv
            have hb : Bel w.heap.size w w := Bel.refl _ _
            obtain ⟨m1, m2⟩ := mem_add hM hb (ob := ⟨none, e, te.size, []⟩) (v := .slice none 0 0) (fun b hb => by simp [blk, Value.ownBlock] at hb) (fun hs => ObR.of_row rfl ⟨[], World.ownsRow_nil w 0 e te.size, by simp, by simp [RL]⟩)
            refine wp_value (v := .slice none 0 0) (w' := w) (by simp [execOp, ho, hxv]) ⟨_, [], _, _, _, h, rfl, m1, ?_, m2⟩
            simp only [RV, R]
            exact ⟨_, hvAdd_self _ _, rfl, rfl⟩
          · exact h.elim
        · exact h.elim
      · exact h.elim
    · exact after_same (v := a.eval x) (by simp [execOp, ho]) hM (hρ x) h
  · -- pick
    rename_i c x y ho
    split at h
    · rename_i b hb
      have hc := hρ c
      rw [hb] at hc
      simp only [RV] at hc
      cases b with
      | true => exact after_same (v := a.eval x) (by simp [execOp, ho, hc, asBool]) hM (hρ x) (h.1 rfl)
      | false => exact after_same (v := a.eval y) (by simp [execOp, ho, hc, asBool]) hM (hρ y) (h.2 rfl)
    · exact h.elim
  · -- box
    rename_i t x ho
    obtain ⟨h1, h2⟩ := h
    have hrun : (execOp a.eval o).run P w = .ok (.value (.pointer (some ⟨w.heap.size, 0, none⟩))) (w.alloc (.cells (a.eval x).cells t)) := by
      simp [execOp, ho, Instr.box, newVar, Go.newRow, newObj, Sem.run]
    split at h2
    · exact var_ok hM hrun (RV_R h1 (hρ x)) h2
    · exact box_ok hM hrun (RV_R h1 (hρ x)) h2.1 h2.2
  · -- alloc
    rename_i t ho
    split at h
    · rename_i ti hti
      obtain ⟨hc, hK⟩ := h
      obtain ⟨z, hz⟩ := zero_ok (w := w) (hv := hv) (T := OwnA A hv) hti
      rcases hz with ⟨hz1, hz2, hz3, hz4⟩ | ⟨hb1, hb2⟩
      · have hsz := R_size _ _ _ hz3
        have : (mkA ti.agg (ti.zero.map .v)).size = ti.size := by rw [← hsz]; simpa using hz4
        refine var_ok (v := z) (t := t) hM ?_ hz3 (by rw [this]; exact hK)
        simp [execOp, ho, Instr.alloc, hz1, newVar, Go.newRow, newObj, Sem.run]
      · simp [hb1, hb2] at hc
    · exact h.elim
  · -- load
    rename_i t x ho
    split at h
    · rename_i ti y off hti hx
      split at h
      · rename_i r hr
        have hxv := hρ x
        rw [hx] at hxv
        simp only [RV, R] at hxv
        obtain ⟨b, q, ws, e1, h1, b', o', e2, _, _, hc⟩ := hxv
        injection e1 with e1
        injection e2 with e2
        injection e2 with e2 e3
        subst e2; subst e3
        have h1' : R w (OwnA A hv) hv y ws := by
          have := R_keep (Keeps.refl w (OwnA A hv)) y [] noHv hv ws (fun i u _ h => by simp [noHv] at h) h1
          rwa [AV.kill_nil] at this
        obtain ⟨u, hu, hru⟩ := load_ok hti h1' hc hr
        exact after_same (v := u) (by simp [execOp, ho, Instr.loadAt, Instr.sureAddr, e1, hu]) hM hru h
      · exact h.elim
    · rename_i ti id k j off hti hx
      split at h
      · rename_i ob hob
        obtain ⟨rfl, y, hy, h⟩ := h
        have hj : j < ob.xs.length := (List.getElem?_eq_some_iff.1 hy).1
        have hyx : ob.xs.getD j .bot = y := by rw [List.getD_eq_getElem?_getD, hy]; rfl
        simp only at h
        split at h
        · rename_i r hr
          rw [← hyx] at hr
          have hxv := hρ x
          rw [hx] at hxv
          simp only [RV, R] at hxv
          obtain ⟨b, n, c, hb, e1⟩ := hxv
          injection e1 with e1
          obtain ⟨g, cap, ws, e2, h1, hc⟩ := ob_cells (hM_ob hM hob hb) (hM_ob hM hob hb).slice hj
          injection e2 with e2
          injection e2 with e2
          injection e2 with e2
          subst e2
          obtain ⟨u, hu, hru⟩ := load_ok hti h1 hc hr
          exact after_same (v := u) (by simp [execOp, ho, Instr.loadAt, Instr.sureAddr, e1, hu]) hM hru h
        · exact h.elim
      · exact h.elim
    · exact h.elim
  · -- store
    rename_i t x y ho
    split at h
    · rename_i ti id k j off hti hx
      split at h
      · rename_i ob hob
        obtain ⟨hk, z, hz, h⟩ := h
        have hj : j < ob.xs.length := (List.getElem?_eq_some_iff.1 hz).1
        have hzx : ob.xs.getD j .bot = z := by rw [List.getD_eq_getElem?_getD, hz]; rfl
        simp only at h
        split at h
        · rename_i r hr
          rw [← hzx] at hr
          have hxv := hρ x
          rw [hx] at hxv
          obtain ⟨w', hrun, m1, m2⟩ := store_ok hti hM hob hk hj hxv (hρ y) hr
          exact wp_skip' (w' := w') (by simp [execOp, ho, hrun]) ⟨_, [], _, _, _, h, rfl, m1, by simp [RV], m2⟩
        · exact h.elim
      · exact h.elim
    · exact h.elim
  · -- fieldAddr
    rename_i t x f ho
    split at h
    · rename_i ti y off hti hx
      split at h
      · rename_i fo fs hf
        obtain ⟨hfs, hK⟩ := h
        obtain ⟨Fs, F, hu, hF, rfl, hsz⟩ := ti_fld hti hf
        have hxv := hρ x
        rw [hx] at hxv
        simp only [RV, R] at hxv
        obtain ⟨b, q, ws, e1, h1, h2⟩ := hxv
        injection e1 with e1
        refine after_same (v := .pointer (some ⟨b, q + (off + F.offset), none⟩)) ?_ hM (by simp only [RV, R]; exact ⟨b, q, ws, rfl, h1, h2⟩) hK
        simp [execOp, ho, Instr.fieldAt, run_underlying hu, hF, Instr.sureAddr, e1, fieldPlace, run_sizeOf' hsz hfs, hfs, Addr.add_lit, Nat.add_assoc]
      · exact h.elim
    · rename_i ti id k j off hti hx
      split at h
      · rename_i fo fs hf
        obtain ⟨hfs, hK⟩ := h
        obtain ⟨Fs, F, hu, hF, rfl, hsz⟩ := ti_fld hti hf
        have hxv := hρ x
        rw [hx] at hxv
        simp only [RV, R] at hxv
        obtain ⟨b, n, c, hb, e1⟩ := hxv
        injection e1 with e1
        refine after_same (v := .pointer (some ⟨b, j * k + (off + F.offset), none⟩)) ?_ hM (by simp only [RV, R]; exact ⟨b, n, c, hb, rfl⟩) hK
        simp [execOp, ho, Instr.fieldAt, run_underlying hu, hF, Instr.sureAddr, e1, fieldPlace, run_sizeOf' hsz hfs, hfs, Addr.add_lit, Nat.add_assoc]
      · exact h.elim
    · exact h.elim
  · -- indexAddr
    rename_i t x i ho
    split at h
    · rename_i k n hi
      have hiv := hρ i
      rw [hi] at hiv
      simp only [RV] at hiv
      obtain ⟨u, r, hr, hru, hK⟩ := idx_ok (P := P) (k := k) hM (hρ x) h
      exact after_same (v := u) (by simp [execOp, ho, hiv, hr]) hM hru hK
    · exact h.elim
  · -- binOp
    rename_i op ty x y yt ho
    obtain ⟨u, r, hr, hru, hK⟩ := bin_ok (ox := x) (oy := y) (hρ x) (hρ y) h
    refine after_same (v := u) ?_ hM hru hK
    simp only [execOp, ho, Sem.run_bind, Sem.run_pure] at hr ⊢
    rw [hr]
    rfl
  · -- convert
    rename_i s d x ho
    split at h
    · rename_i k n k1 hn hs hd
      obtain ⟨⟨h1, h2⟩, hK⟩ := h
      have hxv := hρ x
      rw [hn] at hxv
      simp only [RV] at hxv
      simp only [lim] at h2
      have hs' : ∃ q, P.underlying s = some (.int q) := by unfold intOf at hs; split at hs <;> simp_all
      have hd' : P.underlying d = some (.int .u64) := by unfold intOf at hd; split at hd <;> simp_all
      obtain ⟨q, hs'⟩ := hs'
      exact after_same (v := .int .u64 n) (by simp [execOp, ho, hxv, convert, run_underlying hs', run_underlying hd', Conv.intToInt, IntWalk.u64_in _ ⟨h1, (by omega : n ≤ 18446744073709551615)⟩]) hM (by simp only [RV]) hK
    · exact h.elim
  · -- not
    rename_i ty x ho
    split at h
    · rename_i b hb
      have hxv := hρ x
      rw [hb] at hxv
      simp only [RV] at hxv
      exact after_same (v := .bool (!b)) (by simp [execOp, ho, hxv, Op.unary]) hM (by simp only [RV]) h
    · exact h.elim
  · -- neg
    rename_i ty x ho
    split at h
    · rename_i n hn
      obtain ⟨h1, hK⟩ := h
      have hxv := hρ x
      rw [hn] at hxv
      simp only [RV] at hxv
      simp only [lim] at h1
      exact after_same (v := .int .i64 (-n)) (by simp [execOp, ho, hxv, Op.unary, Op.intArith, IntWalk.i64_in _ h1]) hM (by simp only [RV]) hK
    · exact h.elim
  · -- build
    rename_i t parts ho
    split at h
    · rename_i ti hti
      split at h
      · rename_i cells hc
        obtain ⟨⟨h1, h2⟩, hK⟩ := h
        obtain ⟨v, hr, hru⟩ := build_ok hρ hti h1 h2 hc
        exact after_same (v := v) (by simp only [execOp, ho, Sem.run_bind, hr, Result.andThen_ok, Sem.run_pure]) hM hru hK
      · exact h.elim
    · exact h.elim
  · -- buildSlice
    rename_i t n parts ho
    split at h
    · rename_i ti hti
      split at h
      · rename_i e he
        split at h
        · rename_i te hte
          obtain ⟨h1, h2⟩ := h
          split at h2
          · exact buildSlice_own ho hρ hM hti he hte h1 h2
          · exact buildSlice_per ho hρ hM hti he hte h1 h2.1 h2.2
        · exact h.elim
      · exact h.elim
    · exact h.elim
  · -- extract
    rename_i x i ho
    split at h
    · rename_i xs hx
      split at h
      · rename_i r hr
        have hxv := hρ x
        rw [hx] at hxv
        simp only [RV] at hxv
        obtain ⟨vs, e1, hvs⟩ := hxv
        have hat : ∀ (l : List AV) (us : List Value) (i : Nat) (r : AV), RVL w (OwnA A hv) hv l us → l[i]? = some r → ∃ u, us[i]? = some u ∧ RV w (OwnA A hv) hv r u := by
          intro l
          induction l with
          | nil => intro us i r _ h; simp at h
          | cons y l ih =>
            intro us i r h1 h2
            simp only [RVL] at h1
            obtain ⟨u, us, rfl, h3, h4⟩ := h1
            cases i with
            | zero => simp at h2; subst h2; exact ⟨u, by simp, h3⟩
            | succ i => simp at h2; obtain ⟨u', h5, h6⟩ := ih us i r h4 h2; exact ⟨u', by simpa using h5, h6⟩
        obtain ⟨u, hu, hru⟩ := hat xs _ i r hvs hr
        have hu' : vs[i]? = some u := by simpa using hu
        exact after_same (v := u) (by simp [execOp, ho, Instr.extract, e1, hu']) hM hru h
      · exact h.elim
    · exact h.elim
  · -- field
    rename_i t x f ho
    split at h
    · rename_i ti xs hti hx
      split at h
      · rename_i fo fs ft hf hft
        split at h
        · rename_i tf htf
          split at h
          · rename_i r hr
            obtain ⟨Fs, F, hu, hF, rfl, rfl⟩ := ti_fty hti hf hft
            have hxv := hρ x
            rw [hx] at hxv
            simp only [RV] at hxv
            obtain ⟨cs, e1, hcs⟩ := hxv
            obtain ⟨u, hu1, hru⟩ := part_ok htf hcs hr
            exact after_same (v := u) (by simp [execOp, ho, Instr.field, run_underlying hu, hF, e1, asAgg, hu1]) hM hru h
          · exact h.elim
        · exact h.elim
      · exact h.elim
    · exact h.elim
  · -- slice
    rename_i t x lo hi ho
    obtain ⟨u, r, hr, hru, hK⟩ := slice_ok (P := P) hρ (hρ x) h
    exact after_same (v := u) (by simp [execOp, ho, hr]) hM hru hK
  · -- makeFunc
    rename_i fn first cap ho
    obtain ⟨⟨h1, h2⟩, hK⟩ := h
    have hf : first = #[] := Array.eq_empty_of_size_eq_zero h1
    subst hf
    simp only [List.all_eq_true, Bool.and_eq_true] at h2
    refine after_same (v := .func fn #[] (cap.map a.eval)) (by simp [execOp, ho, Instr.makeFunc]) hM ?_ hK
    simp only [RV, R]
    refine ⟨cap.map a.eval, rfl, fun y hy => by obtain ⟨x, hx, rfl⟩ := List.mem_map.1 hy; exact (h2 x hx).2, ?_⟩
    have key : ∀ l : List Operand, (∀ x ∈ l, (ρ x).cellular = true ∧ (ρ x).single = true) → RL w (OwnA A hv) hv (l.map ρ) (l.map a.eval) := by
      intro l
      induction l with
      | nil => intro _; simp [RL]
      | cons x l ih =>
        intro h
        simp only [List.map_cons, RL]
        exact ⟨[a.eval x], _, rfl, RV_R1 (h x List.mem_cons_self).2 (h x List.mem_cons_self).1 (hρ x), ih fun y hy => h y (List.mem_cons_of_mem _ hy)⟩
    rw [Array.toList_map]
    exact key cap.toList h2
  · -- nilCheck
    rename_i x ho
    split at h
    · rename_i y off hx
      have hxv := hρ x
      rw [hx] at hxv
      have hxv0 := hxv
      simp only [RV, R] at hxv
      obtain ⟨b, q, ws, e1, _⟩ := hxv
      injection e1 with e1
      rw [e1] at hxv0
      exact after_same (by simp [execOp, ho, e1]) hM hxv0 h
    · rename_i id k j off hx
      have hxv := hρ x
      rw [hx] at hxv
      have hxv0 := hxv
      simp only [RV, R] at hxv
      obtain ⟨b, n, c, _, e1⟩ := hxv
      injection e1 with e1
      rw [e1] at hxv0
      exact after_same (by simp [execOp, ho, e1]) hM hxv0 h
    · exact h.elim
  · -- makeMap
    rename_i t ho
    obtain ⟨_, hK⟩ := h
    obtain ⟨m1, m2⟩ := mem_add hM (own_lit w (.map #[] 0)) (ob := ⟨some [], t, 0, []⟩) (v := .map (some w.heap.size)) (fun b hb => by simp [blk] at hb; omega)
      (fun hs => ObR.of_map (ks := []) rfl ⟨[], .inl ⟨rfl, w.heap.size, #[], 0, rfl, heap_alloc_new w _, by simp, by simp, by simp [Stamps]⟩, by simp [RVL]⟩)
    refine wp_value (v := .map (some w.heap.size)) (w' := w.alloc (.map #[] 0)) (by simp [execOp, ho, Instr.makeMap, newObj, Sem.run]) ⟨_, [], _, _, _, hK, rfl, m1, ?_, m2⟩
    simp only [RV, R]
    exact ⟨_, hvAdd_self _ _, rfl, rfl⟩
  · -- lookup
    rename_i t m x ok ho
    exact lookup_ok ho hρ hM h
  · -- mapUpdate
    rename_i t m x y ho
    exact mapPut_ok (fun u w' hr => by simp [execOp, ho, hr]) hρ hM h
  · -- insert
    rename_i t m x y ho
    exact mapPut_ok (fun u w' hr => by simp [execOp, ho, hr]) hρ hM h
  · -- makeSlice
    rename_i t l c ho
    obtain ⟨ti, e, te, z, k, k', n, hti, he, hte, hz, hag, hl, hc, ⟨h0, h1, h2, h3⟩, hK⟩ := h
    have hu := ti_elem hti he
    obtain ⟨i, d, z', hi, hd, hz', hz1, hz2, _, hsz, hby, hzero, _⟩ := tiOf_spec hte
    have hlv := hρ l
    have hcv := hρ c
    rw [hl] at hlv
    rw [hc] at hcv
    simp only [RV] at hlv hcv
    have hsz1 : i.size = 1 := by omega
    have hrun := run_makeSlice w t e i z' hu hi hz' k k' n n h0 (Int.le_refl _) (by rw [hsz1]; omega) (by
      have : (i.bytes : Int) ≤ 1000 := by omega
      have : (i.bytes : Int) * n ≤ 1000 * 1000000 := Int.mul_le_mul this h1 h0 (by omega)
      omega) (by omega)
    have hzc : z'.cells = #[z] := by
      rw [hzero] at hz
      exact arr1 hz
    have hmc : (madeCells z'.cells (n.toNat * i.size)).toList = List.replicate n.toNat z := by
      rw [hsz1, Nat.mul_one, hzc]
      apply List.ext_getElem
      · simp [madeCells]
      · intro m h1 h2
        simp [madeCells, Nat.mod_one]
    obtain ⟨m1, m2⟩ := mem_add hM (own_lit w (.cells (madeCells z'.cells (n.toNat * i.size)) e)) (ob := ⟨none, e, 1, List.replicate n.toNat (.v z)⟩) (v := .slice (some ⟨w.heap.size, 0, none⟩) n.toNat n.toNat) (fun b hb => by simp [blk, Value.ownBlock] at hb; omega)
      (fun hs => ObR.of_row rfl ⟨List.replicate n.toNat z, by
        rw [← hmc]; simp only [List.length_replicate]
        exact row_new e 1 n.toNat _ (by simp [madeCells, hsz1]) (by simp only [maxLen]; omega), by intro x hx; simp only [List.mem_replicate] at hx; rw [hx.2]; rfl, by
        have := rl_vals (w := w.alloc (.cells (madeCells z'.cells (n.toNat * i.size)) e)) (hv := hvAdd hv M.length (.slice (some ⟨w.heap.size, 0, none⟩) n.toNat n.toNat)) (T := OwnA A (hvAdd hv M.length (.slice (some ⟨w.heap.size, 0, none⟩) n.toNat n.toNat))) (List.replicate n.toNat z) (fun u hu => by
          simp only [List.mem_replicate] at hu
          rw [hu.2]
          exact hz2 z (by rw [hzc]; simp))
        simpa using this⟩)
    refine wp_value (v := .slice (some ⟨w.heap.size, 0, none⟩) n.toNat n.toNat) (w' := w.alloc (.cells (madeCells z'.cells (n.toNat * i.size)) e)) (by simp only [execOp, ho, hlv, hcv, Sem.run_bind, hrun, Result.andThen_ok, Sem.run_pure]) ⟨_, [], _, _, _, hK, rfl, m1, ?_, m2⟩
    simp only [RV, R]
    exact ⟨_, hvAdd_self _ _, rfl, rfl⟩
  · -- call
    rename_i c ho
    exact callA_sound ho hρ hM h
  · exact h.elim
end

end Aw
end Go.Proofs.Ytkolpijhgcijbaa
