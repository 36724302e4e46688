/-
  A calculus of abstract values over the walk: slices as lists, rows of the call's own as objects. This text: the abstract values, what they say of a world, and that it is kept.
-/
import Derived.WalkKit
import Derived.Orders
import Derived.Laws.StructEq
namespace Go.Proofs.Ytkolpijhgcijbaa
namespace Aw
open Go.RowKit

/-- An abstract value. -/
inductive AV where
  | bot
  | v (x : Value)
  | s (k : Nat) (xs : List AV)
  | g (xs : List AV)
  | t (xs : List AV)
  | p (x : AV) (off : Nat)
  | o (i : Nat)
  | q (i k j off : Nat)
  | f (fn : Fn) (cap : List AV)
  deriving Inhabited

abbrev I (n : Int) : AV := .v (.int .i64 n)
abbrev B (b : Bool) : AV := .v (.bool b)

mutual
def AV.size : AV → Nat
  | .g xs => AV.sizeL xs
  | _ => 1
def AV.sizeL : List AV → Nat
  | [] => 0
  | x :: xs => x.size + AV.sizeL xs
end

mutual
/-- the objects of the list Z are forgotten. -/
def AV.kill (Z : List Nat) : AV → AV
  | .o i => if Z.contains i then .bot else .o i
  | .q i k j off => if Z.contains i then .bot else .q i k j off
  | .g xs => .g (AV.killL Z xs)
  | .t xs => .t (AV.killL Z xs)
  | .f fn xs => .f fn (AV.killL Z xs)
  | a => a
def AV.killL (Z : List Nat) : List AV → List AV
  | [] => []
  | x :: xs => x.kill Z :: AV.killL Z xs
end

mutual
/-- no object of the list Z is named. -/
def AV.free (Z : List Nat) : AV → Bool
  | .o i => !Z.contains i
  | .q i _ _ _ => !Z.contains i
  | .g xs => AV.freeL Z xs
  | .t xs => AV.freeL Z xs
  | .f _ xs => AV.freeL Z xs
  | _ => true
def AV.freeL (Z : List Nat) : List AV → Bool
  | [] => true
  | x :: xs => x.free Z && AV.freeL Z xs
end

theorem AV.kill_free (Z : List Nat) (a : AV) : a.free Z = true → a.kill Z = a := by
  refine AV.rec (motive_1 := fun a => a.free Z = true → a.kill Z = a) (motive_2 := fun l => AV.freeL Z l = true → AV.killL Z l = l) ?_ ?_ ?_ ?_ ?_ ?_ ?_ ?_ ?_ ?_ ?_ a <;> intros <;> simp_all [AV.free, AV.freeL, AV.kill, AV.killL]
theorem AV.free_nil (a : AV) : a.free [] = true := by
  refine AV.rec (motive_1 := fun a => a.free [] = true) (motive_2 := fun l => AV.freeL [] l = true) ?_ ?_ ?_ ?_ ?_ ?_ ?_ ?_ ?_ ?_ ?_ a <;> intros <;> simp_all [AV.free, AV.freeL]
theorem AV.kill_nil (a : AV) : a.kill [] = a := AV.kill_free [] a (AV.free_nil a)
theorem AV.killL_map (Z : List Nat) : ∀ l : List AV, AV.killL Z l = l.map (AV.kill Z)
  | [] => rfl
  | x :: xs => by simp [AV.killL, AV.killL_map Z xs]
theorem AV.killL_nil (l : List AV) : AV.killL [] l = l := by
  rw [AV.killL_map]; induction l <;> simp_all [AV.kill_nil]
theorem AV.size_kill (Z : List Nat) (a : AV) : (a.kill Z).size = a.size := by
  refine AV.rec (motive_1 := fun a => (a.kill Z).size = a.size) (motive_2 := fun l => AV.sizeL (AV.killL Z l) = AV.sizeL l) ?_ ?_ ?_ ?_ ?_ ?_ ?_ ?_ ?_ ?_ ?_ a <;> intros <;> simp_all [AV.kill, AV.killL, AV.size, AV.sizeL] <;> split <;> rfl

def AV.single : AV → Bool
  | .g _ | .t _ => false
  | _ => true
theorem AV.single_kill (Z : List Nat) (a : AV) (h : a.single = true) : (a.kill Z).single = true := by
  cases a with
  | o i => simp only [AV.kill]; split <;> rfl
  | q i k j off => simp only [AV.kill]; split <;> rfl
  | g xs => cases h
  | t xs => cases h
  | _ => rfl

def noHv : Nat → Option Value := fun _ => none

def Readable (w : World) (T : Nat → Prop) (A : Option Addr) (ws : List Value) : Prop :=
  ∃ b off, A = some ⟨b, off, none⟩ ∧ b < w.heap.size ∧ ¬ T b ∧ ∀ j u, ws[j]? = some u → w.cell? ⟨b, off + j, none⟩ = some u

mutual
/-- what an abstract value says of the cells us of a value. -/
def R (w : World) (T : Nat → Prop) : (Nat → Option Value) → AV → List Value → Prop
  | _, .bot, us => ∃ u : Value, us = [u] ∧ u.oneCell' = true
  | _, .v x, us => us = [x] ∧ x.oneCell' = true
  | _, .s k xs, us => ∃ A c ws, us = [.slice A xs.length c] ∧ xs.length ≤ c ∧ c ≤ maxLen ∧ (∀ x ∈ xs, x.size = k) ∧ RL w T noHv xs ws ∧ (xs ≠ [] → Readable w T A ws)
  | hv, .g xs, us => RL w T hv xs us
  | _, .t _, _ => False
  | _, .p x off, us => ∃ b o ws, us = [.pointer (some ⟨b, o + off, none⟩)] ∧ R w T noHv x ws ∧ Readable w T (some ⟨b, o, none⟩) ws
  | hv, .o i, us => ∃ v, hv i = some v ∧ us = [v] ∧ v.oneCell' = true
  | hv, .q i k j off, us => ∃ b n c, hv i = some (.slice (some ⟨b, 0, none⟩) n c) ∧ us = [.pointer (some ⟨b, j * k + off, none⟩)]
  | hv, .f fn cap, us => ∃ cs : Array Value, us = [.func fn #[] cs] ∧ (∀ x ∈ cap, x.single = true) ∧ RL w T hv cap cs.toList
def RL (w : World) (T : Nat → Prop) : (Nat → Option Value) → List AV → List Value → Prop
  | _, [], us => us = []
  | hv, x :: xs, us => ∃ u1 u2, us = u1 ++ u2 ∧ R w T hv x u1 ∧ RL w T hv xs u2
end

mutual
/-- what an abstract value says of a value. -/
def RV (w : World) (T : Nat → Prop) (hv : Nat → Option Value) : AV → Value → Prop
  | .bot, _ => True
  | .v x, v => v = x
  | .g xs, v => ∃ cs, v = .agg cs ∧ RL w T hv xs cs.toList
  | .t xs, v => ∃ vs, v = .tuple vs ∧ RVL w T hv xs vs.toList
  | a, v => R w T hv a [v]
def RVL (w : World) (T : Nat → Prop) (hv : Nat → Option Value) : List AV → List Value → Prop
  | [], vs => vs = []
  | x :: xs, vs => ∃ u us, vs = u :: us ∧ RV w T hv x u ∧ RVL w T hv xs us
end

theorem R_size {w : World} {T : Nat → Prop} : ∀ (a : AV) (hv : Nat → Option Value) (us : List Value), R w T hv a us → us.length = a.size := by
  intro a
  refine AV.rec (motive_1 := fun a => ∀ hv us, R w T hv a us → us.length = a.size) (motive_2 := fun l => ∀ hv us, RL w T hv l us → us.length = AV.sizeL l)
    ?_ ?_ ?_ ?_ ?_ ?_ ?_ ?_ ?_ ?_ ?_ a
  · intro hv us h; simp only [R] at h; obtain ⟨u, rfl, _⟩ := h; rfl
  · intro x hv us h; simp only [R] at h; rw [h.1]; rfl
  · intro k xs _ hv us h; simp only [R] at h; obtain ⟨A, c, ws, rfl, _⟩ := h; rfl
  · intro xs ih hv us h; simp only [R] at h; simpa [AV.size] using ih _ _ h
  · intro xs _ hv us h; simp [R] at h
  · intro x off _ hv us h; simp only [R] at h; obtain ⟨b, o, ws, rfl, _⟩ := h; rfl
  · intro i hv us h; simp only [R] at h; obtain ⟨v, _, rfl, _⟩ := h; rfl
  · intro i k j off hv us h; simp only [R] at h; obtain ⟨b, n, c, _, rfl⟩ := h; rfl
  · intro fn cap _ hv us h; simp only [R] at h; obtain ⟨cs, rfl, _⟩ := h; rfl
  · intro hv us h; simp only [RL] at h; subst h; rfl
  · intro x xs ih1 ih2 hv us h; simp only [RL] at h; obtain ⟨u1, u2, rfl, h1, h2⟩ := h; simp [AV.sizeL, ih1 _ _ h1, ih2 _ _ h2]

/-- from (w, T) to (w', T'): old cells outside T are kept. -/
structure Keeps (w : World) (T : Nat → Prop) (w' : World) (T' : Nat → Prop) : Prop where
  size : w.heap.size ≤ w'.heap.size
  block : ∀ b, b < w.heap.size → ¬ T b → w'.heap[b]? = w.heap[b]?
  own : ∀ b, b < w.heap.size → T' b → T b

theorem Keeps.refl (w : World) (T : Nat → Prop) : Keeps w T w T := ⟨Nat.le_refl _, fun _ _ _ => rfl, fun _ _ h => h⟩
theorem Keeps.trans {w w1 w2 : World} {T T1 T2 : Nat → Prop} (h : Keeps w T w1 T1) (k : Keeps w1 T1 w2 T2) : Keeps w T w2 T2 :=
  ⟨Nat.le_trans h.size k.size, fun b hb hT => (k.block b (Nat.lt_of_lt_of_le hb h.size) (fun h1 => hT (h.own b hb h1))).trans (h.block b hb hT),
    fun b hb h2 => h.own b hb (k.own b (Nat.lt_of_lt_of_le hb h.size) h2)⟩

theorem Readable.keep {w w' : World} {T T' : Nat → Prop} (hk : Keeps w T w' T') {A : Option Addr} {ws : List Value} (h : Readable w T A ws) : Readable w' T' A ws := by
  obtain ⟨b, off, rfl, hb, hT, hc⟩ := h
  refine ⟨b, off, rfl, Nat.lt_of_lt_of_le hb hk.size, fun h' => hT (hk.own b hb h'), fun j u hu => ?_⟩
  rw [World.cell?_of_block (w := w) (hk.block b hb hT)]
  exact hc j u hu

theorem R_keep {w w' : World} {T T' : Nat → Prop} (hk : Keeps w T w' T') : ∀ (a : AV) (Z : List Nat) (hv hv' : Nat → Option Value) (us : List Value), (∀ i u, i ∉ Z → hv i = some u → hv' i = some u) →
    R w T hv a us → R w' T' hv' (a.kill Z) us := by
  intro a
  refine AV.rec (motive_1 := fun a => ∀ Z hv hv' us, (∀ i u, i ∉ Z → hv i = some u → hv' i = some u) → R w T hv a us → R w' T' hv' (a.kill Z) us)
    (motive_2 := fun l => ∀ Z hv hv' us, (∀ i u, i ∉ Z → hv i = some u → hv' i = some u) → RL w T hv l us → RL w' T' hv' (AV.killL Z l) us)
    ?_ ?_ ?_ ?_ ?_ ?_ ?_ ?_ ?_ ?_ ?_ a
  · intro Z hv hv' us hh h; simpa [R, AV.kill] using h
  · intro x Z hv hv' us hh h; simpa only [R, AV.kill] using h
  · intro k xs ih Z hv hv' us hh h
    simp only [R, AV.kill] at h ⊢
    obtain ⟨A, c, ws, hus, h1, h2, h3, h4, h5⟩ := h
    have := ih [] noHv noHv ws (fun i u _ h => h) h4
    rw [AV.killL_nil] at this
    exact ⟨A, c, ws, hus, h1, h2, h3, this, fun hne => (h5 hne).keep hk⟩
  · intro xs ih Z hv hv' us hh h
    simp only [R, AV.kill] at h ⊢
    exact ih Z hv hv' us hh h
  · intro xs ih Z hv hv' us hh h; simp [R] at h
  · intro x off ih Z hv hv' us hh h
    simp only [R, AV.kill] at h ⊢
    obtain ⟨b, o, ws, hus, h1, h2⟩ := h
    have := ih [] noHv noHv ws (fun i u _ h => h) h1
    rw [AV.kill_nil] at this
    exact ⟨b, o, ws, hus, this, h2.keep hk⟩
  · intro i Z hv hv' us hh h
    simp only [R] at h
    obtain ⟨v, h1, rfl, h2⟩ := h
    simp only [AV.kill]
    split
    · exact ⟨v, rfl, h2⟩
    · rename_i hc
      exact ⟨v, hh i v (by simpa using hc) h1, rfl, h2⟩
  · intro i k j off Z hv hv' us hh h
    simp only [R] at h
    obtain ⟨b, n, c, h1, rfl⟩ := h
    simp only [AV.kill]
    split
    · exact ⟨_, rfl, rfl⟩
    · rename_i hc
      exact ⟨b, n, c, hh i _ (by simpa using hc) h1, rfl⟩
  · intro fn cap ih Z hv hv' us hh h
    simp only [R, AV.kill] at h ⊢
    obtain ⟨cs, h1, h2, h3⟩ := h
    exact ⟨cs, h1, fun x hx => by rw [AV.killL_map] at hx; obtain ⟨y, hy, rfl⟩ := List.mem_map.1 hx; exact AV.single_kill Z y (h2 y hy), ih Z hv hv' _ hh h3⟩
  · intro Z hv hv' us hh h; simpa only [RL, AV.killL] using h
  · intro x xs ih1 ih2 Z hv hv' us hh h
    simp only [RL, AV.killL] at h ⊢
    obtain ⟨u1, u2, rfl, h1, h2⟩ := h
    exact ⟨u1, u2, rfl, ih1 Z hv hv' u1 hh h1, ih2 Z hv hv' u2 hh h2⟩

theorem RL_keep {w w' : World} {T T' : Nat → Prop} (hk : Keeps w T w' T') {Z : List Nat} {hv hv' : Nat → Option Value} (hh : ∀ i u, i ∉ Z → hv i = some u → hv' i = some u) :
    ∀ (l : List AV) (us : List Value), RL w T hv l us → RL w' T' hv' (AV.killL Z l) us
  | [], us, h => by simpa only [RL, AV.killL] using h
  | x :: xs, us, h => by
    simp only [RL, AV.killL] at h ⊢
    obtain ⟨u1, u2, rfl, h1, h2⟩ := h
    exact ⟨u1, u2, rfl, R_keep hk x Z hv hv' u1 hh h1, RL_keep hk hh xs u2 h2⟩

theorem RV_keep {w w' : World} {T T' : Nat → Prop} (hk : Keeps w T w' T') : ∀ (a : AV) (Z : List Nat) (hv hv' : Nat → Option Value) (v : Value), (∀ i u, i ∉ Z → hv i = some u → hv' i = some u) →
    RV w T hv a v → RV w' T' hv' (a.kill Z) v := by
  intro a
  refine AV.rec (motive_1 := fun a => ∀ Z hv hv' v, (∀ i u, i ∉ Z → hv i = some u → hv' i = some u) → RV w T hv a v → RV w' T' hv' (a.kill Z) v)
    (motive_2 := fun l => ∀ Z hv hv' vs, (∀ i u, i ∉ Z → hv i = some u → hv' i = some u) → RVL w T hv l vs → RVL w' T' hv' (AV.killL Z l) vs)
    ?_ ?_ ?_ ?_ ?_ ?_ ?_ ?_ ?_ ?_ ?_ a
  case refine_1 => intro Z hv hv' v hh h; simp [RV, AV.kill]
  case refine_2 => intro x Z hv hv' v hh h; simpa only [RV, AV.kill] using h
  case refine_3 => intro k xs _ Z hv hv' v hh h; exact R_keep hk (.s k xs) Z hv hv' [v] hh h
  case refine_4 =>
    intro xs _ Z hv hv' v hh h
    simp only [RV, AV.kill] at h ⊢
    obtain ⟨cs, rfl, h⟩ := h
    exact ⟨cs, rfl, RL_keep hk hh xs _ h⟩
  case refine_5 =>
    intro xs ih Z hv hv' v hh h
    simp only [RV, AV.kill] at h ⊢
    obtain ⟨vs, rfl, h⟩ := h
    exact ⟨vs, rfl, ih Z hv hv' _ hh h⟩
  case refine_6 => intro x off _ Z hv hv' v hh h; exact R_keep hk (.p x off) Z hv hv' [v] hh h
  case refine_7 =>
    intro i Z hv hv' v hh h
    have := R_keep hk (.o i) Z hv hv' [v] hh h
    simp only [AV.kill] at this ⊢
    split at this
    · rw [if_pos (by assumption)]; simp [RV]
    · rw [if_neg (by assumption)]; exact this
  case refine_8 =>
    intro i k j off Z hv hv' v hh h
    have := R_keep hk (.q i k j off) Z hv hv' [v] hh h
    simp only [AV.kill] at this ⊢
    split at this
    · rw [if_pos (by assumption)]; simp [RV]
    · rw [if_neg (by assumption)]; exact this
  case refine_9 => intro fn cap _ Z hv hv' v hh h; exact R_keep hk (.f fn cap) Z hv hv' [v] hh h
  case refine_10 => intro Z hv hv' vs hh h; simpa only [RVL, AV.killL] using h
  case refine_11 =>
    intro x xs ih1 ih2 Z hv hv' vs hh h
    simp only [RVL, AV.killL] at h ⊢
    obtain ⟨u, us, rfl, h1, h2⟩ := h
    exact ⟨u, us, rfl, ih1 Z hv hv' u hh h1, ih2 Z hv hv' us hh h2⟩

/-- an object: a row of elements of k cells each; or a map (its keys in 'mp', its values in 'xs'). -/
structure Ob where
  mp : Option (List Value)
  ty : TypeId
  k : Nat
  xs : List AV

abbrev Mem := List (Option Ob)


/-- the block that a header names. -/
def blk : Value → Option Nat
  | .map b => b
  | v => v.ownBlock

theorem blk_row {w : World} {base e k n : Nat} {v : Value} {us : List Value} (h : w.ownsRow base e k v n us) : blk v = v.ownBlock := by
  rcases h.2 with ⟨rfl, _⟩ | ⟨g, cap, cur, rfl, _⟩ <;> rfl

def Own (hv : Nat → Option Value) (b : Nat) : Prop := ∃ i v, hv i = some v ∧ blk v = some b

/-- own, or one of the blocks that are to be kept away from. -/
def OwnA (A : Nat → Prop) (hv : Nat → Option Value) (b : Nat) : Prop := A b ∨ Own hv b

def RowR (w : World) (T : Nat → Prop) (hv : Nat → Option Value) (ob : Ob) (v : Value) : Prop :=
  ∃ us, w.ownsRow 0 ob.ty ob.k v ob.xs.length us ∧ (∀ x ∈ ob.xs, x.size = ob.k) ∧ RL w T hv ob.xs us

/-- a map (k = 0); or values that are only remembered. -/
def MapB (w : World) (k : Nat) (ks : List Value) (v : Value) (vals : List Value) : Prop :=
  (k = 0 ∧ ∃ (b : Nat) (es : Array MapEntry) (clock : Nat), v = .map (some b) ∧ w.heap[b]? = some (.map es clock) ∧ es.toList.map (·.key) = ks ∧ es.toList.map (·.val) = vals) ∨ (k ≠ 0 ∧ v = .map none ∧ vals = ks)

def MapR (w : World) (T : Nat → Prop) (hv : Nat → Option Value) (k : Nat) (ks : List Value) (xs : List AV) (v : Value) : Prop :=
  ∃ vals, MapB w k ks v vals ∧ RVL w T hv xs vals

theorem MapB.block {w w' : World} {k : Nat} {ks : List Value} {v : Value} {vals : List Value} (h : MapB w k ks v vals) (hb : ∀ b, blk v = some b → w'.heap[b]? = w.heap[b]?) : MapB w' k ks v vals := by
  rcases h with ⟨hk, b, es, clock, rfl, h1, h2, h3⟩ | h
  · exact .inl ⟨hk, b, es, clock, rfl, (hb b rfl).trans h1, h2, h3⟩
  · exact .inr h

def ObR (w : World) (T : Nat → Prop) (hv : Nat → Option Value) (ob : Ob) (v : Value) : Prop :=
  match ob.mp with
  | none => RowR w T hv ob v
  | some ks => MapR w T hv ob.k ks ob.xs v

theorem ObR.row {w : World} {T : Nat → Prop} {hv : Nat → Option Value} {ob : Ob} {v : Value} (h : ObR w T hv ob v) (hm : ob.mp = none) : RowR w T hv ob v := by
  unfold ObR at h; rw [hm] at h; exact h
theorem ObR.map {w : World} {T : Nat → Prop} {hv : Nat → Option Value} {ob : Ob} {v : Value} {ks : List Value} (h : ObR w T hv ob v) (hm : ob.mp = some ks) : MapR w T hv ob.k ks ob.xs v := by
  unfold ObR at h; rw [hm] at h; exact h
theorem ObR.of_row {w : World} {T : Nat → Prop} {hv : Nat → Option Value} {ob : Ob} {v : Value} (hm : ob.mp = none) (h : RowR w T hv ob v) : ObR w T hv ob v := by
  unfold ObR; rw [hm]; exact h
theorem ObR.of_map {w : World} {T : Nat → Prop} {hv : Nat → Option Value} {ob : Ob} {v : Value} {ks : List Value} (hm : ob.mp = some ks) (h : MapR w T hv ob.k ks ob.xs v) : ObR w T hv ob v := by
  unfold ObR; rw [hm]; exact h
theorem ObR.slice {w : World} {T : Nat → Prop} {hv : Nat → Option Value} {ob : Ob} {A : Option Addr} {n c : Nat} (h : ObR w T hv ob (.slice A n c)) : ob.mp = none := by
  unfold ObR at h
  cases hm : ob.mp with
  | none => rfl
  | some ks => rw [hm] at h; obtain ⟨vals, ⟨_, b, es, clock, e, _⟩ | ⟨_, e, _⟩, _⟩ := h <;> cases e

theorem RVL_keep {w w' : World} {T T' : Nat → Prop} (hk : Keeps w T w' T') {Z : List Nat} {hv hv' : Nat → Option Value} (hh : ∀ i u, i ∉ Z → hv i = some u → hv' i = some u) :
    ∀ (l : List AV) (us : List Value), RVL w T hv l us → RVL w' T' hv' (AV.killL Z l) us
  | [], us, h => by simpa only [RVL, AV.killL] using h
  | x :: xs, us, h => by
    simp only [RVL, AV.killL] at h ⊢
    obtain ⟨u, u2, rfl, h1, h2⟩ := h
    exact ⟨u, u2, rfl, RV_keep hk x Z hv hv' u hh h1, RVL_keep hk hh xs u2 h2⟩

theorem ObR.lt {w : World} {T : Nat → Prop} {hv : Nat → Option Value} {ob : Ob} {v : Value} (h : ObR w T hv ob v) {b : Nat} (hb : blk v = some b) : b < w.heap.size := by
  cases hm : ob.mp with
  | none =>
    obtain ⟨us, hrow, _⟩ := h.row hm
    rw [blk_row hrow] at hb
    exact (hrow.lt b hb).2
  | some ks =>
    obtain ⟨vals, ⟨_, b', es, clock, rfl, hh, _⟩ | ⟨_, rfl, _⟩, _⟩ := h.map hm
    · simp only [blk, Option.some.injEq] at hb
      subst hb
      exact (Array.getElem?_eq_some_iff.1 hh).1
    · simp [blk] at hb
theorem ObR.one {w : World} {T : Nat → Prop} {hv : Nat → Option Value} {ob : Ob} {v : Value} (h : ObR w T hv ob v) : v.oneCell' = true := by
  cases hm : ob.mp with
  | none =>
    obtain ⟨us, hrow, _⟩ := h.row hm
    rcases hrow.2 with ⟨rfl, _⟩ | ⟨g, cap, cur, rfl, _⟩ <;> rfl
  | some ks =>
    obtain ⟨vals, ⟨_, b', es, clock, rfl, hh, _⟩ | ⟨_, rfl, _⟩, _⟩ := h.map hm <;> rfl

structure MemR (A : Nat → Prop) (w : World) (hv : Nat → Option Value) (M : Mem) : Prop where
  live : ∀ i ob, M[i]? = some (some ob) → ∃ v, hv i = some v ∧ ObR w (OwnA A hv) hv ob v
  dom : ∀ i v, hv i = some v → ∃ ob, M[i]? = some (some ob)
  inj : ∀ i j vi vj b, hv i = some vi → hv j = some vj → blk vi = some b → blk vj = some b → i = j
  old : ∀ b, A b → b < w.heap.size

/-- one step: what is not own is kept; the objects of Z have new headers or are gone. -/
structure StepR (A : Nat → Prop) (w : World) (hv : Nat → Option Value) (Z : List Nat) (w' : World) (hv' : Nat → Option Value) : Prop where
  kp : Keeps w (Own hv) w' (Own hv')
  hv : ∀ i u, i ∉ Z → hv i = some u → hv' i = some u
  os : w'.os = w.os
  tape : w'.tape = w.tape
  output : w'.output = w.output

theorem StepR.keeps {A : Nat → Prop} {w w' : World} {hv hv' : Nat → Option Value} {Z : List Nat} (h : StepR A w hv Z w' hv') : Keeps w (OwnA A hv) w' (OwnA A hv') :=
  ⟨h.kp.size, fun b hb hn => h.kp.block b hb (fun ho => hn (.inr ho)), fun b hb ho => ho.elim .inl (fun ho => .inr (h.kp.own b hb ho))⟩

theorem StepR.refl (A : Nat → Prop) (w : World) (hv : Nat → Option Value) : StepR A w hv [] w hv := ⟨Keeps.refl _ _, fun _ _ _ h => h, rfl, rfl, rfl⟩

theorem StepR.rv {A : Nat → Prop} {w w' : World} {hv hv' : Nat → Option Value} {Z : List Nat} (h : StepR A w hv Z w' hv') {a : AV} {v : Value} (hr : RV w (OwnA A hv) hv a v) : RV w' (OwnA A hv') hv' (a.kill Z) v :=
  RV_keep h.keeps a Z hv hv' v h.hv hr

def Mem.kill (Z : List Nat) (M : Mem) : Mem := M.map fun o => o.map fun ob => { ob with xs := AV.killL Z ob.xs }

theorem MemR.own_lt {A : Nat → Prop} {w : World} {hv : Nat → Option Value} {M : Mem} (h : MemR A w hv M) {b : Nat} (hb : Own hv b) : b < w.heap.size := by
  obtain ⟨i, v, hi, hv'⟩ := hb
  obtain ⟨ob, hob⟩ := h.dom i v hi
  obtain ⟨v', hi', hob'⟩ := h.live i ob hob
  rw [hi] at hi'
  injection hi' with hi'
  subst hi'
  exact hob'.lt hv'

theorem MemR.lt {A : Nat → Prop} {w : World} {hv : Nat → Option Value} {M : Mem} (h : MemR A w hv M) {b : Nat} (hb : OwnA A hv b) : b < w.heap.size :=
  hb.elim (h.old b) h.own_lt

end Aw
end Go.Proofs.Ytkolpijhgcijbaa
