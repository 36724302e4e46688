/-
  Parts of several texts in one: Aw0, Aw1, Aw2, Aw3, Aw4, Aw5, Aw6, Aw7.
-/
import Derived.Test.YtndniceeibflcaaGreatDoorProg
import Derived.WalkKit
import Derived.Lib.ConvBytes
import Derived.LaidEql
import Derived.Lib.ItoaNum
import Derived.Lib.LaidTab
import Derived.KernelRfl
import GoSem.Claims
import GoSem.ClaimJoined
import Derived.Orders
import Derived.Laws.StructEq
import Derived.Maps.Keyed
import Derived.Lib.Strings
set_option linter.unusedSimpArgs false
set_option linter.unusedVariables false
namespace Go.Proofs.YtndniceeibflcaaGreatDoor
namespace Aw
end Aw
namespace Mp
end Mp
end Go.Proofs.YtndniceeibflcaaGreatDoor
namespace Go.Proofs.YtndniceeibflcaaGreatDoor
namespace Aw
open Go.RowKit

/-- the blocks of the variables. -/
def GB (b : Nat) : Prop := b < 9
/-- the name of the third one. -/
noncomputable def powN : String := match Tryz.prog.globals[2]? with | some g => g.name | none => default
/-- what is laid there. -/
structure GOk (w : World) : Prop where
  size : 9 ≤ w.heap.size
  maxLen : ∃ m, w.cell? ⟨1, 0, none⟩ = some (.int .i64 m)
  pow : Lib.TabIs Tryz.prog w powN .u64 Lib.pow10Tab
  syn : ∃ te pe, w.cell? ⟨3, 0, none⟩ = some (.iface te pe)
  rng : ∃ te pe, w.cell? ⟨4, 0, none⟩ = some (.iface te pe)
  et : w.cell? ⟨0, 0, none⟩ = some (.iface 226 (.agg #[.pointer (some ⟨9, 114, none⟩)]))
theorem gn2 : Tryz.prog.globalNamed powN = some 2 := by kernel_rfl
theorem GOk.keep {w w' : World} (h : GOk w) (hk : ∀ b, GB b → w'.heap[b]? = w.heap[b]?) : GOk w' := by
  have c : ∀ g, g < 9 → w'.cell? ⟨g, 0, none⟩ = w.cell? ⟨g, 0, none⟩ := fun g hg => World.cell?_of_block (hk g hg)
  refine ⟨?_, ?_, ?_, ?_, ?_, ?_⟩
  · rcases Nat.lt_or_ge 8 w'.heap.size with h1 | h1
    · exact h1
    · have e := hk 8 (by show 8 < 9; omega)
      rw [Array.getElem?_eq_none h1] at e
      have := h.size
      rw [Array.getElem?_eq_getElem (show 8 < w.heap.size by omega)] at e
      cases e
  · rw [c 1 (by omega)]; exact h.maxLen
  · have := h.pow
    unfold Lib.TabIs World.var? at this ⊢
    rw [gn2] at this ⊢
    simp only [Option.bind_some] at this ⊢
    rw [hk 2 (by show 2 < 9; omega)]
    exact this
  · rw [c 3 (by omega)]; exact h.syn
  · rw [c 4 (by omega)]; exact h.rng
  · rw [c 0 (by omega)]; exact h.et
/-- the count of draws: not wanted here. -/
def dr (_ : World) : Nat := 0
theorem dr_of {w w' : World} (_ : w.drawn ≤ w'.drawn) : dr w ≤ dr w' := Nat.le_refl _
theorem dr_succ (w : World) : dr w ≤ dr { w with drawn := w.drawn + 1 } := Nat.le_refl _
theorem dr_drew (w : World) : dr w ≤ dr w.drew := Nat.le_refl _
theorem dr_bytes (w : World) (e : TypeId) (b : ByteArray) : dr w ≤ dr (Lib.bytesWorld w e b) := Nat.le_refl _
theorem GOk.lt {w : World} (h : GOk w) {b : Nat} (hb : GB b) : b < w.heap.size := Nat.lt_of_lt_of_le hb h.size

end Aw
end Go.Proofs.YtndniceeibflcaaGreatDoor

namespace Go.Proofs.YtndniceeibflcaaGreatDoor
namespace Aw
open Go.RowKit

/-- An abstract value. -/
inductive AV where
  | bot
  | v (x : Value)
  | s (k : Nat) (xs : List AV)
  | g (xs : List AV)
  | t (xs : List AV)
  | p (x : AV) (off : Nat)
  | o (i : Nat)
  | q (i k j off : Nat)
  | f (fn : Fn) (cap : List AV)
  deriving Inhabited

abbrev I (n : Int) : AV := .v (.int .i64 n)
abbrev B (b : Bool) : AV := .v (.bool b)

mutual
def AV.size : AV → Nat
  | .g xs => AV.sizeL xs
  | _ => 1
def AV.sizeL : List AV → Nat
  | [] => 0
  | x :: xs => x.size + AV.sizeL xs
end

mutual
/-- the objects of the list Z are forgotten. -/
def AV.kill (Z : List Nat) : AV → AV
  | .o i => if Z.contains i then .bot else .o i
  | .q i k j off => if Z.contains i then .bot else .q i k j off
  | .g xs => .g (AV.killL Z xs)
  | .t xs => .t (AV.killL Z xs)
  | .f fn xs => .f fn (AV.killL Z xs)
  | a => a
def AV.killL (Z : List Nat) : List AV → List AV
  | [] => []
  | x :: xs => x.kill Z :: AV.killL Z xs
end

mutual
/-- no object of the list Z is named. -/
def AV.free (Z : List Nat) : AV → Bool
  | .o i => !Z.contains i
  | .q i _ _ _ => !Z.contains i
  | .g xs => AV.freeL Z xs
  | .t xs => AV.freeL Z xs
  | .f _ xs => AV.freeL Z xs
  | _ => true
def AV.freeL (Z : List Nat) : List AV → Bool
  | [] => true
  | x :: xs => x.free Z && AV.freeL Z xs
end

theorem AV.kill_free (Z : List Nat) (a : AV) : a.free Z = true → a.kill Z = a := by
  refine AV.rec (motive_1 := fun a => a.free Z = true → a.kill Z = a) (motive_2 := fun l => AV.freeL Z l = true → AV.killL Z l = l) ?_ ?_ ?_ ?_ ?_ ?_ ?_ ?_ ?_ ?_ ?_ a <;> intros <;> simp_all [AV.free, AV.freeL, AV.kill, AV.killL]
theorem AV.free_nil (a : AV) : a.free [] = true := by
  refine AV.rec (motive_1 := fun a => a.free [] = true) (motive_2 := fun l => AV.freeL [] l = true) ?_ ?_ ?_ ?_ ?_ ?_ ?_ ?_ ?_ ?_ ?_ a <;> intros <;> simp_all [AV.free, AV.freeL]
theorem AV.kill_nil (a : AV) : a.kill [] = a := AV.kill_free [] a (AV.free_nil a)
theorem AV.killL_map (Z : List Nat) : ∀ l : List AV, AV.killL Z l = l.map (AV.kill Z)
  | [] => rfl
  | x :: xs => by simp [AV.killL, AV.killL_map Z xs]
theorem AV.killL_nil (l : List AV) : AV.killL [] l = l := by
  rw [AV.killL_map]; induction l <;> simp_all [AV.kill_nil]
theorem AV.size_kill (Z : List Nat) (a : AV) : (a.kill Z).size = a.size := by
  refine AV.rec (motive_1 := fun a => (a.kill Z).size = a.size) (motive_2 := fun l => AV.sizeL (AV.killL Z l) = AV.sizeL l) ?_ ?_ ?_ ?_ ?_ ?_ ?_ ?_ ?_ ?_ ?_ a <;> intros <;> simp_all [AV.kill, AV.killL, AV.size, AV.sizeL] <;> split <;> rfl

def AV.single : AV → Bool
  | .g _ | .t _ => false
  | _ => true
theorem AV.single_kill (Z : List Nat) (a : AV) (h : a.single = true) : (a.kill Z).single = true := by
  cases a with
  | o i => simp only [AV.kill]; split <;> rfl
  | q i k j off => simp only [AV.kill]; split <;> rfl
  | g xs => cases h
  | t xs => cases h
  | _ => rfl

def noHv : Nat → Option Value := fun _ => none

def Readable (w : World) (T : Nat → Prop) (A : Option Addr) (ws : List Value) : Prop :=
  ∃ b off, A = some ⟨b, off, none⟩ ∧ b < w.heap.size ∧ ¬ T b ∧ ∀ j u, ws[j]? = some u → w.cell? ⟨b, off + j, none⟩ = some u

mutual
/-- what an abstract value says of the cells us of a value. -/
def R (w : World) (T : Nat → Prop) : (Nat → Option Value) → AV → List Value → Prop
  | _, .bot, us => ∃ u : Value, us = [u] ∧ u.oneCell' = true
  | _, .v x, us => us = [x] ∧ x.oneCell' = true
  | _, .s k xs, us => ∃ A c ws, us = [.slice A xs.length c] ∧ xs.length ≤ c ∧ c ≤ maxLen ∧ (∀ x ∈ xs, x.size = k) ∧ RL w T noHv xs ws ∧ (xs ≠ [] → Readable w T A ws)
  | hv, .g xs, us => RL w T hv xs us
  | _, .t _, _ => False
  | _, .p x off, us => ∃ b o ws, us = [.pointer (some ⟨b, o + off, none⟩)] ∧ R w T noHv x ws ∧ Readable w T (some ⟨b, o, none⟩) ws
  | hv, .o i, us => ∃ v, hv i = some v ∧ us = [v] ∧ v.oneCell' = true
  | hv, .q i k j off, us => ∃ b n c, hv i = some (.slice (some ⟨b, 0, none⟩) n c) ∧ us = [.pointer (some ⟨b, j * k + off, none⟩)]
  | hv, .f fn cap, us => ∃ cs : Array Value, us = [.func fn #[] cs] ∧ (∀ x ∈ cap, x.single = true) ∧ RL w T hv cap cs.toList
def RL (w : World) (T : Nat → Prop) : (Nat → Option Value) → List AV → List Value → Prop
  | _, [], us => us = []
  | hv, x :: xs, us => ∃ u1 u2, us = u1 ++ u2 ∧ R w T hv x u1 ∧ RL w T hv xs u2
end

mutual
/-- what an abstract value says of a value. -/
def RV (w : World) (T : Nat → Prop) (hv : Nat → Option Value) : AV → Value → Prop
  | .bot, _ => True
  | .v x, v => v = x
  | .g xs, v => ∃ cs, v = .agg cs ∧ RL w T hv xs cs.toList
  | .t xs, v => ∃ vs, v = .tuple vs ∧ RVL w T hv xs vs.toList
  | a, v => R w T hv a [v]
def RVL (w : World) (T : Nat → Prop) (hv : Nat → Option Value) : List AV → List Value → Prop
  | [], vs => vs = []
  | x :: xs, vs => ∃ u us, vs = u :: us ∧ RV w T hv x u ∧ RVL w T hv xs us
end

theorem R_size {w : World} {T : Nat → Prop} : ∀ (a : AV) (hv : Nat → Option Value) (us : List Value), R w T hv a us → us.length = a.size := by
  intro a
  refine AV.rec (motive_1 := fun a => ∀ hv us, R w T hv a us → us.length = a.size) (motive_2 := fun l => ∀ hv us, RL w T hv l us → us.length = AV.sizeL l)
    ?_ ?_ ?_ ?_ ?_ ?_ ?_ ?_ ?_ ?_ ?_ a
  · intro hv us h; simp only [R] at h; obtain ⟨u, rfl, _⟩ := h; rfl
  · intro x hv us h; simp only [R] at h; rw [h.1]; rfl
  · intro k xs _ hv us h; simp only [R] at h; obtain ⟨A, c, ws, rfl, _⟩ := h; rfl
  · intro xs ih hv us h; simp only [R] at h; simpa [AV.size] using ih _ _ h
  · intro xs _ hv us h; simp [R] at h
  · intro x off _ hv us h; simp only [R] at h; obtain ⟨b, o, ws, rfl, _⟩ := h; rfl
  · intro i hv us h; simp only [R] at h; obtain ⟨v, _, rfl, _⟩ := h; rfl
  · intro i k j off hv us h; simp only [R] at h; obtain ⟨b, n, c, _, rfl⟩ := h; rfl
  · intro fn cap _ hv us h; simp only [R] at h; obtain ⟨cs, rfl, _⟩ := h; rfl
  · intro hv us h; simp only [RL] at h; subst h; rfl
  · intro x xs ih1 ih2 hv us h; simp only [RL] at h; obtain ⟨u1, u2, rfl, h1, h2⟩ := h; simp [AV.sizeL, ih1 _ _ h1, ih2 _ _ h2]

/-- from (w, T) to (w', T'): old cells outside T are kept. -/
structure Keeps (w : World) (T : Nat → Prop) (w' : World) (T' : Nat → Prop) : Prop where
  size : w.heap.size ≤ w'.heap.size
  block : ∀ b, b < w.heap.size → ¬ T b → w'.heap[b]? = w.heap[b]?
  own : ∀ b, b < w.heap.size → T' b → T b

theorem Keeps.refl (w : World) (T : Nat → Prop) : Keeps w T w T := ⟨Nat.le_refl _, fun _ _ _ => rfl, fun _ _ h => h⟩
theorem Keeps.trans {w w1 w2 : World} {T T1 T2 : Nat → Prop} (h : Keeps w T w1 T1) (k : Keeps w1 T1 w2 T2) : Keeps w T w2 T2 :=
  ⟨Nat.le_trans h.size k.size, fun b hb hT => (k.block b (Nat.lt_of_lt_of_le hb h.size) (fun h1 => hT (h.own b hb h1))).trans (h.block b hb hT),
    fun b hb h2 => h.own b hb (k.own b (Nat.lt_of_lt_of_le hb h.size) h2)⟩

theorem Readable.keep {w w' : World} {T T' : Nat → Prop} (hk : Keeps w T w' T') {A : Option Addr} {ws : List Value} (h : Readable w T A ws) : Readable w' T' A ws := by
  obtain ⟨b, off, rfl, hb, hT, hc⟩ := h
  refine ⟨b, off, rfl, Nat.lt_of_lt_of_le hb hk.size, fun h' => hT (hk.own b hb h'), fun j u hu => ?_⟩
  rw [World.cell?_of_block (w := w) (hk.block b hb hT)]
  exact hc j u hu

theorem R_keep {w w' : World} {T T' : Nat → Prop} (hk : Keeps w T w' T') : ∀ (a : AV) (Z : List Nat) (hv hv' : Nat → Option Value) (us : List Value), (∀ i u, i ∉ Z → hv i = some u → hv' i = some u) →
    R w T hv a us → R w' T' hv' (a.kill Z) us := by
  intro a
  refine AV.rec (motive_1 := fun a => ∀ Z hv hv' us, (∀ i u, i ∉ Z → hv i = some u → hv' i = some u) → R w T hv a us → R w' T' hv' (a.kill Z) us)
    (motive_2 := fun l => ∀ Z hv hv' us, (∀ i u, i ∉ Z → hv i = some u → hv' i = some u) → RL w T hv l us → RL w' T' hv' (AV.killL Z l) us)
    ?_ ?_ ?_ ?_ ?_ ?_ ?_ ?_ ?_ ?_ ?_ a
  · intro Z hv hv' us hh h; simpa [R, AV.kill] using h
  · intro x Z hv hv' us hh h; simpa only [R, AV.kill] using h
  · intro k xs ih Z hv hv' us hh h
    simp only [R, AV.kill] at h ⊢
    obtain ⟨A, c, ws, hus, h1, h2, h3, h4, h5⟩ := h
    have := ih [] noHv noHv ws (fun i u _ h => h) h4
    rw [AV.killL_nil] at this
    exact ⟨A, c, ws, hus, h1, h2, h3, this, fun hne => (h5 hne).keep hk⟩
  · intro xs ih Z hv hv' us hh h
    simp only [R, AV.kill] at h ⊢
    exact ih Z hv hv' us hh h
  · intro xs ih Z hv hv' us hh h; simp [R] at h
  · intro x off ih Z hv hv' us hh h
    simp only [R, AV.kill] at h ⊢
    obtain ⟨b, o, ws, hus, h1, h2⟩ := h
    have := ih [] noHv noHv ws (fun i u _ h => h) h1
    rw [AV.kill_nil] at this
    exact ⟨b, o, ws, hus, this, h2.keep hk⟩
  · intro i Z hv hv' us hh h
    simp only [R] at h
    obtain ⟨v, h1, rfl, h2⟩ := h
    simp only [AV.kill]
    split
    · exact ⟨v, rfl, h2⟩
    · rename_i hc
      exact ⟨v, hh i v (by simpa using hc) h1, rfl, h2⟩
  · intro i k j off Z hv hv' us hh h
    simp only [R] at h
    obtain ⟨b, n, c, h1, rfl⟩ := h
    simp only [AV.kill]
    split
    · exact ⟨_, rfl, rfl⟩
    · rename_i hc
      exact ⟨b, n, c, hh i _ (by simpa using hc) h1, rfl⟩
  · intro fn cap ih Z hv hv' us hh h
    simp only [R, AV.kill] at h ⊢
    obtain ⟨cs, h1, h2, h3⟩ := h
    exact ⟨cs, h1, fun x hx => by rw [AV.killL_map] at hx; obtain ⟨y, hy, rfl⟩ := List.mem_map.1 hx; exact AV.single_kill Z y (h2 y hy), ih Z hv hv' _ hh h3⟩
  · intro Z hv hv' us hh h; simpa only [RL, AV.killL] using h
  · intro x xs ih1 ih2 Z hv hv' us hh h
    simp only [RL, AV.killL] at h ⊢
    obtain ⟨u1, u2, rfl, h1, h2⟩ := h
    exact ⟨u1, u2, rfl, ih1 Z hv hv' u1 hh h1, ih2 Z hv hv' u2 hh h2⟩

theorem RL_keep {w w' : World} {T T' : Nat → Prop} (hk : Keeps w T w' T') {Z : List Nat} {hv hv' : Nat → Option Value} (hh : ∀ i u, i ∉ Z → hv i = some u → hv' i = some u) :
    ∀ (l : List AV) (us : List Value), RL w T hv l us → RL w' T' hv' (AV.killL Z l) us
  | [], us, h => by simpa only [RL, AV.killL] using h
  | x :: xs, us, h => by
    simp only [RL, AV.killL] at h ⊢
    obtain ⟨u1, u2, rfl, h1, h2⟩ := h
    exact ⟨u1, u2, rfl, R_keep hk x Z hv hv' u1 hh h1, RL_keep hk hh xs u2 h2⟩

theorem RV_keep {w w' : World} {T T' : Nat → Prop} (hk : Keeps w T w' T') : ∀ (a : AV) (Z : List Nat) (hv hv' : Nat → Option Value) (v : Value), (∀ i u, i ∉ Z → hv i = some u → hv' i = some u) →
    RV w T hv a v → RV w' T' hv' (a.kill Z) v := by
  intro a
  refine AV.rec (motive_1 := fun a => ∀ Z hv hv' v, (∀ i u, i ∉ Z → hv i = some u → hv' i = some u) → RV w T hv a v → RV w' T' hv' (a.kill Z) v)
    (motive_2 := fun l => ∀ Z hv hv' vs, (∀ i u, i ∉ Z → hv i = some u → hv' i = some u) → RVL w T hv l vs → RVL w' T' hv' (AV.killL Z l) vs)
    ?_ ?_ ?_ ?_ ?_ ?_ ?_ ?_ ?_ ?_ ?_ a
  case refine_1 => intro Z hv hv' v hh h; simp [RV, AV.kill]
  case refine_2 => intro x Z hv hv' v hh h; simpa only [RV, AV.kill] using h
  case refine_3 => intro k xs _ Z hv hv' v hh h; exact R_keep hk (.s k xs) Z hv hv' [v] hh h
  case refine_4 =>
    intro xs _ Z hv hv' v hh h
    simp only [RV, AV.kill] at h ⊢
    obtain ⟨cs, rfl, h⟩ := h
    exact ⟨cs, rfl, RL_keep hk hh xs _ h⟩
  case refine_5 =>
    intro xs ih Z hv hv' v hh h
    simp only [RV, AV.kill] at h ⊢
    obtain ⟨vs, rfl, h⟩ := h
    exact ⟨vs, rfl, ih Z hv hv' _ hh h⟩
  case refine_6 => intro x off _ Z hv hv' v hh h; exact R_keep hk (.p x off) Z hv hv' [v] hh h
  case refine_7 =>
    intro i Z hv hv' v hh h
    have := R_keep hk (.o i) Z hv hv' [v] hh h
    simp only [AV.kill] at this ⊢
    split at this
    · rw [if_pos (by assumption)]; simp [RV]
    · rw [if_neg (by assumption)]; exact this
  case refine_8 =>
    intro i k j off Z hv hv' v hh h
    have := R_keep hk (.q i k j off) Z hv hv' [v] hh h
    simp only [AV.kill] at this ⊢
    split at this
    · rw [if_pos (by assumption)]; simp [RV]
    · rw [if_neg (by assumption)]; exact this
  case refine_9 => intro fn cap _ Z hv hv' v hh h; exact R_keep hk (.f fn cap) Z hv hv' [v] hh h
  case refine_10 => intro Z hv hv' vs hh h; simpa only [RVL, AV.killL] using h
  case refine_11 =>
    intro x xs ih1 ih2 Z hv hv' vs hh h
    simp only [RVL, AV.killL] at h ⊢
    obtain ⟨u, us, rfl, h1, h2⟩ := h
    exact ⟨u, us, rfl, ih1 Z hv hv' u hh h1, ih2 Z hv hv' us hh h2⟩

/-- an object: a row of elements of k cells each; or a map (its keys in 'mp', its values in 'xs'). -/
structure Ob where
  mp : Option (List Value)
  ty : TypeId
  k : Nat
  xs : List AV

abbrev Mem := List (Option Ob)


/-- the block that a header names. -/
def blk : Value → Option Nat
  | .map b => b
  | v => v.ownBlock

theorem blk_row {w : World} {base e k n : Nat} {v : Value} {us : List Value} (h : w.ownsRow base e k v n us) : blk v = v.ownBlock := by
  rcases h.2 with ⟨rfl, _⟩ | ⟨g, cap, cur, rfl, _⟩ <;> rfl

def Own (hv : Nat → Option Value) (b : Nat) : Prop := ∃ i v, hv i = some v ∧ blk v = some b

/-- own, or one of the blocks that are to be kept away from. -/
def OwnA (A : Nat → Prop) (hv : Nat → Option Value) (b : Nat) : Prop := A b ∨ Own hv b

def RowR (w : World) (T : Nat → Prop) (hv : Nat → Option Value) (ob : Ob) (v : Value) : Prop :=
  ∃ us, w.ownsRow 0 ob.ty ob.k v ob.xs.length us ∧ (∀ x ∈ ob.xs, x.size = ob.k) ∧ RL w T hv ob.xs us

/-- each entry is older than the map's clock, and no two are of one age. -/
def Stamps (es : Array MapEntry) (clock : Nat) : Prop := (∀ e ∈ es.toList, e.born < clock) ∧ (es.toList.map (·.born)).Nodup

/-- a map (k = 0); or values that are only remembered. -/
def MapB (w : World) (k : Nat) (ks : List Value) (v : Value) (vals : List Value) : Prop :=
  (k = 0 ∧ ∃ (b : Nat) (es : Array MapEntry) (clock : Nat), v = .map (some b) ∧ w.heap[b]? = some (.map es clock) ∧ es.toList.map (·.key) = ks ∧ es.toList.map (·.val) = vals ∧ Stamps es clock) ∨ (k ≠ 0 ∧ v = .map none ∧ vals = ks)

def MapR (w : World) (T : Nat → Prop) (hv : Nat → Option Value) (k : Nat) (ks : List Value) (xs : List AV) (v : Value) : Prop :=
  ∃ vals, MapB w k ks v vals ∧ RVL w T hv xs vals

theorem MapB.block {w w' : World} {k : Nat} {ks : List Value} {v : Value} {vals : List Value} (h : MapB w k ks v vals) (hb : ∀ b, blk v = some b → w'.heap[b]? = w.heap[b]?) : MapB w' k ks v vals := by
  rcases h with ⟨hk, b, es, clock, rfl, h1, h2, h3⟩ | h
  · exact .inl ⟨hk, b, es, clock, rfl, (hb b rfl).trans h1, h2, h3⟩
  · exact .inr h

def ObR (w : World) (T : Nat → Prop) (hv : Nat → Option Value) (ob : Ob) (v : Value) : Prop :=
  match ob.mp with
  | none => RowR w T hv ob v
  | some ks => MapR w T hv ob.k ks ob.xs v

theorem ObR.row {w : World} {T : Nat → Prop} {hv : Nat → Option Value} {ob : Ob} {v : Value} (h : ObR w T hv ob v) (hm : ob.mp = none) : RowR w T hv ob v := by
  unfold ObR at h; rw [hm] at h; exact h
theorem ObR.map {w : World} {T : Nat → Prop} {hv : Nat → Option Value} {ob : Ob} {v : Value} {ks : List Value} (h : ObR w T hv ob v) (hm : ob.mp = some ks) : MapR w T hv ob.k ks ob.xs v := by
  unfold ObR at h; rw [hm] at h; exact h
theorem ObR.of_row {w : World} {T : Nat → Prop} {hv : Nat → Option Value} {ob : Ob} {v : Value} (hm : ob.mp = none) (h : RowR w T hv ob v) : ObR w T hv ob v := by
  unfold ObR; rw [hm]; exact h
theorem ObR.of_map {w : World} {T : Nat → Prop} {hv : Nat → Option Value} {ob : Ob} {v : Value} {ks : List Value} (hm : ob.mp = some ks) (h : MapR w T hv ob.k ks ob.xs v) : ObR w T hv ob v := by
  unfold ObR; rw [hm]; exact h
theorem ObR.slice {w : World} {T : Nat → Prop} {hv : Nat → Option Value} {ob : Ob} {A : Option Addr} {n c : Nat} (h : ObR w T hv ob (.slice A n c)) : ob.mp = none := by
  unfold ObR at h
  cases hm : ob.mp with
  | none => rfl
  | some ks => rw [hm] at h; obtain ⟨vals, ⟨_, b, es, clock, e, _⟩ | ⟨_, e, _⟩, _⟩ := h <;> cases e

theorem RVL_keep {w w' : World} {T T' : Nat → Prop} (hk : Keeps w T w' T') {Z : List Nat} {hv hv' : Nat → Option Value} (hh : ∀ i u, i ∉ Z → hv i = some u → hv' i = some u) :
    ∀ (l : List AV) (us : List Value), RVL w T hv l us → RVL w' T' hv' (AV.killL Z l) us
  | [], us, h => by simpa only [RVL, AV.killL] using h
  | x :: xs, us, h => by
    simp only [RVL, AV.killL] at h ⊢
    obtain ⟨u, u2, rfl, h1, h2⟩ := h
    exact ⟨u, u2, rfl, RV_keep hk x Z hv hv' u hh h1, RVL_keep hk hh xs u2 h2⟩

theorem ObR.lt {w : World} {T : Nat → Prop} {hv : Nat → Option Value} {ob : Ob} {v : Value} (h : ObR w T hv ob v) {b : Nat} (hb : blk v = some b) : b < w.heap.size := by
  cases hm : ob.mp with
  | none =>
    obtain ⟨us, hrow, _⟩ := h.row hm
    rw [blk_row hrow] at hb
    exact (hrow.lt b hb).2
  | some ks =>
    obtain ⟨vals, ⟨_, b', es, clock, rfl, hh, _⟩ | ⟨_, rfl, _⟩, _⟩ := h.map hm
    · simp only [blk, Option.some.injEq] at hb
      subst hb
      exact (Array.getElem?_eq_some_iff.1 hh).1
    · simp [blk] at hb
theorem ObR.one {w : World} {T : Nat → Prop} {hv : Nat → Option Value} {ob : Ob} {v : Value} (h : ObR w T hv ob v) : v.oneCell' = true := by
  cases hm : ob.mp with
  | none =>
    obtain ⟨us, hrow, _⟩ := h.row hm
    rcases hrow.2 with ⟨rfl, _⟩ | ⟨g, cap, cur, rfl, _⟩ <;> rfl
  | some ks =>
    obtain ⟨vals, ⟨_, b', es, clock, rfl, hh, _⟩ | ⟨_, rfl, _⟩, _⟩ := h.map hm <;> rfl

structure MemR (A : Nat → Prop) (w : World) (hv : Nat → Option Value) (M : Mem) : Prop where
  live : ∀ i ob, M[i]? = some (some ob) → ∃ v, hv i = some v ∧ ObR w (OwnA A hv) hv ob v
  dom : ∀ i v, hv i = some v → ∃ ob, M[i]? = some (some ob)
  inj : ∀ i j vi vj b, hv i = some vi → hv j = some vj → blk vi = some b → blk vj = some b → i = j
  old : ∀ b, A b → b < w.heap.size
  gl : GOk w ∧ ∀ b, Own hv b → ¬ GB b

theorem viewStore_drawn {p : Program} {w w' : World} {at_ : Addr} {u : TypeId} {k : Addr} {v : Value} {b : Bool} {l : List Addr} (h : w.viewStore p at_ u k v b = .ok (w', l)) : w'.drawn = w.drawn := by
  unfold World.viewStore at h
  simp only [bind, Except.bind, pure, Except.pure] at h
  repeat' split at h
  all_goals first
    | cases h; done
    | (cases h; rfl)
    | skip
  all_goals trace_state
theorem ask_drawn {α : Type} : ∀ (x : Ask α) (w : World), w.drawn ≤ (w.ask x).2.drawn
  | .done a, w => Nat.le_refl _
  | .ask what range k, w => by
    unfold World.ask
    simp only
    split
    · exact ask_drawn _ w
    · have := ask_drawn (k ((Question.extern what range).cut (w.tape w.drawn (Question.extern what range)))) { w with drawn := w.drawn + 1 }
      exact Nat.le_trans (Nat.le_succ _) this
theorem sys_drawn (w : World) (c : Sys) : w.drawn ≤ (w.sys c).2.drawn := by
  have := ask_drawn (Kernel.perform c w.os) w
  unfold World.sys
  split
  · exact Nat.le_refl _
  · rename_i e
    rw [e] at this
    exact this
theorem run_drawn {α : Type} {P : Program} : ∀ (s : Sem α) {w w' : World} {v : α}, s.run P w = .ok v w' → w.drawn ≤ w'.drawn := by
  intro s
  induction s with
  | pure a => intro w w' v h; simp only [Sem.run] at h; cases h; exact Nat.le_refl _
  | load m a k ih =>
    intro w w' v h
    simp only [Sem.run] at h
    split at h
    · exact ih _ h
    · split at h
      · exact ih _ h
      · cases h
  | store m a x k ih =>
    intro w w' v h
    have key : (∃ u, w.cell? a = some u ∧ k.run P (w.setCell a x) = .ok v w') ∨ (∃ w1 l, w.farStore P a x (m == .atomic) = .ok (w1, l) ∧ k.run P w1 = .ok v w') := by
      cases x <;> simp only [Sem.run] at h <;> first
        | (cases h; done)
        | (split at h
           · rename_i u hu
             split at h
             · cases h
             · exact .inl ⟨u, hu, h⟩
           · split at h
             · rename_i w1 l hf
               exact .inr ⟨w1, l, hf, h⟩
             · cases h)
    rcases key with ⟨u, _, h⟩ | ⟨w1, l, hf, h⟩
    · have := ih h; exact this
    · have h1 := ih h
      unfold World.farStore at hf
      split at hf
      · split at hf
        · rename_i hv
          cases hf
          rw [viewStore_drawn hv] at h1
          exact h1
        · cases hf
      · cases hf
  | new o k ih => intro w w' v h; simp only [Sem.run] at h; have := ih _ h; exact this
  | shape r k ih => intro w w' v h; simp only [Sem.run] at h; exact ih _ h
  | freeze a n k ih =>
    intro w w' v h
    simp only [Sem.run] at h
    refine Nat.le_trans ?_ (ih h)
    unfold World.freeze
    split <;> exact Nat.le_refl _
  | frozen a k ih => intro w w' v h; simp only [Sem.run] at h; exact ih _ h
  | getObj r k ih =>
    intro w w' v h
    simp only [Sem.run] at h
    split at h
    · cases h
    · exact ih _ h
    · cases h
  | setObj r o k ih =>
    intro w w' v h
    simp only [Sem.run] at h
    split at h
    · cases h
    · have := ih h; exact this
    · cases h
  | choose q k ih =>
    intro w w' v h
    simp only [Sem.run] at h
    split at h
    · exact ih _ h
    · have := ih _ h; exact Nat.le_trans (Nat.le_succ _) this
  | sys c k ih => intro w w' v h; simp only [Sem.run] at h; exact Nat.le_trans (sys_drawn w c) (ih _ h)
  | program k ih => intro w w' v h; simp only [Sem.run] at h; exact ih _ h
  | mark m k ih => intro w w' v h; simp only [Sem.run] at h; exact ih h
  | halt x => intro w w' v h; simp only [Sem.run] at h; cases h

/-- one step: what is not own is kept; the objects of Z have new headers or are gone. -/
structure StepR (A : Nat → Prop) (w : World) (hv : Nat → Option Value) (Z : List Nat) (w' : World) (hv' : Nat → Option Value) : Prop where
  kp : Keeps w (Own hv) w' (Own hv')
  hv : ∀ i u, i ∉ Z → hv i = some u → hv' i = some u
  os : w'.os = w.os
  tape : w'.tape = w.tape
  output : w'.output = w.output
  drawn : dr w ≤ dr w'

/-- what lies there stays, and the draws only grow. -/
structure Bel (n : Nat) (w w' : World) : Prop extends Below n w w' where
  drawn : dr w ≤ dr w'
theorem Bel.refl (n : Nat) (w : World) : Bel n w w := ⟨Below.refl n w, Nat.le_refl _⟩

theorem StepR.keeps {A : Nat → Prop} {w w' : World} {hv hv' : Nat → Option Value} {Z : List Nat} (h : StepR A w hv Z w' hv') : Keeps w (OwnA A hv) w' (OwnA A hv') :=
  ⟨h.kp.size, fun b hb hn => h.kp.block b hb (fun ho => hn (.inr ho)), fun b hb ho => ho.elim .inl (fun ho => .inr (h.kp.own b hb ho))⟩

theorem StepR.gl {A : Nat → Prop} {w w' : World} {hv hv' : Nat → Option Value} {Z : List Nat} (h : StepR A w hv Z w' hv') (g : GOk w ∧ ∀ b, Own hv b → ¬ GB b) : GOk w' ∧ ∀ b, Own hv' b → ¬ GB b :=
  ⟨g.1.keep fun b hb => h.kp.block b (g.1.lt hb) (fun ho => g.2 b ho hb), fun b ho hb => g.2 b (h.kp.own b (g.1.lt hb) ho) hb⟩

theorem StepR.refl (A : Nat → Prop) (w : World) (hv : Nat → Option Value) : StepR A w hv [] w hv := ⟨Keeps.refl _ _, fun _ _ _ h => h, rfl, rfl, rfl, Nat.le_refl _⟩

theorem StepR.rv {A : Nat → Prop} {w w' : World} {hv hv' : Nat → Option Value} {Z : List Nat} (h : StepR A w hv Z w' hv') {a : AV} {v : Value} (hr : RV w (OwnA A hv) hv a v) : RV w' (OwnA A hv') hv' (a.kill Z) v :=
  RV_keep h.keeps a Z hv hv' v h.hv hr

def Mem.kill (Z : List Nat) (M : Mem) : Mem := M.map fun o => o.map fun ob => { ob with xs := AV.killL Z ob.xs }

theorem MemR.own_lt {A : Nat → Prop} {w : World} {hv : Nat → Option Value} {M : Mem} (h : MemR A w hv M) {b : Nat} (hb : Own hv b) : b < w.heap.size := by
  obtain ⟨i, v, hi, hv'⟩ := hb
  obtain ⟨ob, hob⟩ := h.dom i v hi
  obtain ⟨v', hi', hob'⟩ := h.live i ob hob
  rw [hi] at hi'
  injection hi' with hi'
  subst hi'
  exact hob'.lt hv'

theorem MemR.lt {A : Nat → Prop} {w : World} {hv : Nat → Option Value} {M : Mem} (h : MemR A w hv M) {b : Nat} (hb : OwnA A hv b) : b < w.heap.size :=
  hb.elim (h.old b) h.own_lt

end Aw
end Go.Proofs.YtndniceeibflcaaGreatDoor

namespace Go.Proofs.YtndniceeibflcaaGreatDoor
namespace Aw
open Go.RowKit

section
variable {A : Nat → Prop} {w : World} {T : Nat → Prop} {hv : Nat → Option Value}

theorem R_one : ∀ (a : AV) (hv : Nat → Option Value) (us : List Value), R w T hv a us → ∀ u ∈ us, u.oneCell' = true := by
  intro a
  refine AV.rec (motive_1 := fun a => ∀ hv us, R w T hv a us → ∀ u ∈ us, u.oneCell' = true) (motive_2 := fun l => ∀ hv us, RL w T hv l us → ∀ u ∈ us, u.oneCell' = true)
    ?_ ?_ ?_ ?_ ?_ ?_ ?_ ?_ ?_ ?_ ?_ a
  · intro hv us h; simp only [R] at h; obtain ⟨u, rfl, h1⟩ := h; simpa using h1
  · intro x hv us h; simp only [R] at h; obtain ⟨rfl, h⟩ := h; simpa using h
  · intro k xs _ hv us h; simp only [R] at h; obtain ⟨A, c, ws, rfl, _⟩ := h; simp [Value.oneCell']
  · intro xs ih hv us h; simp only [R] at h; exact ih _ _ h
  · intro xs _ hv us h; simp [R] at h
  · intro x off _ hv us h; simp only [R] at h; obtain ⟨b, o, ws, rfl, _⟩ := h; simp [Value.oneCell']
  · intro i hv us h; simp only [R] at h; obtain ⟨v, _, rfl, h1⟩ := h; simpa using h1
  · intro i k j off hv us h; simp only [R] at h; obtain ⟨b, n, c, _, rfl⟩ := h; simp [Value.oneCell']
  · intro fn cap _ hv us h; simp only [R] at h; obtain ⟨cs, rfl, _⟩ := h; simp [Value.oneCell']
  · intro hv us h; simp only [RL] at h; subst h; simp
  · intro x xs ih1 ih2 hv us h
    simp only [RL] at h
    obtain ⟨u1, u2, rfl, h1, h2⟩ := h
    intro u hu
    rcases List.mem_append.1 hu with hu | hu
    · exact ih1 _ _ h1 u hu
    · exact ih2 _ _ h2 u hu

theorem RL_one : ∀ (l : List AV) (us : List Value), RL w T hv l us → ∀ u ∈ us, u.oneCell' = true
  | [], us, h => by simp only [RL] at h; subst h; simp
  | x :: xs, us, h => by
    simp only [RL] at h
    obtain ⟨u1, u2, rfl, h1, h2⟩ := h
    intro u hu
    rcases List.mem_append.1 hu with hu | hu
    · exact R_one x hv _ h1 u hu
    · exact RL_one xs _ h2 u hu

theorem RL_app : ∀ (l l' : List AV) (us us' : List Value), RL w T hv l us → RL w T hv l' us' → RL w T hv (l ++ l') (us ++ us')
  | [], l', us, us', h, h' => by simp only [RL] at h; subst h; simpa using h'
  | x :: xs, l', us, us', h, h' => by
    simp only [RL, List.cons_append] at h ⊢
    obtain ⟨u1, u2, rfl, h1, h2⟩ := h
    exact ⟨u1, u2 ++ us', by simp, h1, RL_app xs l' u2 us' h2 h'⟩

theorem RL_split : ∀ (l l' : List AV) (us : List Value), RL w T hv (l ++ l') us → ∃ u1 u2, us = u1 ++ u2 ∧ RL w T hv l u1 ∧ RL w T hv l' u2
  | [], l', us, h => ⟨[], us, rfl, by simp [RL], by simpa using h⟩
  | x :: xs, l', us, h => by
    simp only [RL, List.cons_append] at h ⊢
    obtain ⟨u1, u2, rfl, h1, h2⟩ := h
    obtain ⟨v1, v2, rfl, h3, h4⟩ := RL_split xs l' u2 h2
    exact ⟨u1 ++ v1, v2, by simp, ⟨u1, v1, rfl, h1, h3⟩, h4⟩

theorem RL_len {k : Nat} : ∀ (l : List AV) (us : List Value), (∀ x ∈ l, x.size = k) → RL w T hv l us → us.length = l.length * k
  | [], us, _, h => by simp only [RL] at h; subst h; simp
  | x :: xs, us, hk, h => by
    simp only [RL] at h
    obtain ⟨u1, u2, rfl, h1, h2⟩ := h
    have e1 := R_size x hv u1 h1
    have e2 := RL_len xs u2 (fun y hy => hk y (List.mem_cons_of_mem _ hy)) h2
    rw [hk x List.mem_cons_self] at e1
    simp only [List.length_append, List.length_cons, e1, e2, Nat.add_mul, Nat.one_mul, Nat.add_comm]

/-- an element of a list of abstract values, and its cells. -/
theorem RL_at {k : Nat} {l : List AV} {us : List Value} (hk : ∀ x ∈ l, x.size = k) (h : RL w T hv l us) {i : Nat} {x : AV} (hx : l[i]? = some x) :
    ∃ u1 u2 u3, us = u1 ++ u2 ++ u3 ∧ u1.length = i * k ∧ R w T hv x u2 ∧ u2.length = k ∧ RL w T hv (l.take i) u1 ∧ RL w T hv (l.drop (i + 1)) u3 := by
  have hi : i < l.length := (List.getElem?_eq_some_iff.1 hx).1
  have hl : l = l.take i ++ (x :: l.drop (i + 1)) := by
    have e : l[i] = x := (List.getElem?_eq_some_iff.1 hx).2
    rw [← e, ← List.drop_eq_getElem_cons hi, List.take_append_drop]
  rw [hl] at h
  obtain ⟨u1, u2, rfl, h1, h2⟩ := RL_split _ _ _ h
  simp only [RL] at h2
  obtain ⟨v1, v2, rfl, h3, h4⟩ := h2
  refine ⟨u1, v1, v2, by simp, ?_, h3, ?_, h1, h4⟩
  · have := RL_len (l.take i) u1 (fun y hy => hk y (List.mem_of_mem_take hy)) h1
    rw [List.length_take, Nat.min_eq_left (by omega)] at this
    exact this
  · rw [R_size x hv v1 h3, hk x (List.mem_of_getElem? hx)]

theorem RL_take {k : Nat} {l : List AV} {us : List Value} (hk : ∀ x ∈ l, x.size = k) (h : RL w T hv l us) (n : Nat) : RL w T hv (l.take n) (us.take (n * k)) := by
  by_cases hn : n ≤ l.length
  · have hl : l = l.take n ++ l.drop n := by simp
    rw [hl] at h
    obtain ⟨u1, u2, rfl, h1, h2⟩ := RL_split _ _ _ h
    have := RL_len (l.take n) u1 (fun y hy => hk y (List.mem_of_mem_take hy)) h1
    rw [List.length_take, Nat.min_eq_left hn] at this
    rw [← this, List.take_left]
    exact h1
  · rw [List.take_of_length_le (by omega), List.take_of_length_le]
    · exact h
    · rw [RL_len l us hk h]; exact Nat.mul_le_mul_right k (by omega)

theorem RL_drop {k : Nat} {l : List AV} {us : List Value} (hk : ∀ x ∈ l, x.size = k) (h : RL w T hv l us) (n : Nat) : RL w T hv (l.drop n) (us.drop (n * k)) := by
  by_cases hn : n ≤ l.length
  · have hl : l = l.take n ++ l.drop n := by simp
    rw [hl] at h
    obtain ⟨u1, u2, rfl, h1, h2⟩ := RL_split _ _ _ h
    have := RL_len (l.take n) u1 (fun y hy => hk y (List.mem_of_mem_take hy)) h1
    rw [List.length_take, Nat.min_eq_left hn] at this
    rw [← this, List.drop_left]
    exact h2
  · rw [List.drop_of_length_le (by omega), List.drop_of_length_le]
    · simp [RL]
    · rw [RL_len l us hk h]; exact Nat.mul_le_mul_right k (by omega)

end

/-- the cells of a value. -/
def AV.cells : AV → List AV
  | .g xs => xs
  | a => [a]

def AV.cellular : AV → Bool
  | .bot | .t _ => false
  | .v x => x.oneCell'
  | _ => true

/-- all cells of one size. -/
def AV.flat (a : AV) : Bool := a.cells.all fun x => x.single

theorem AV.size_single {a : AV} (h : a.single = true) : a.size = 1 := by cases a <;> simp_all [AV.single, AV.size]

section
variable {A : Nat → Prop} {w : World} {T : Nat → Prop} {hv : Nat → Option Value}

theorem RV_R {a : AV} {v : Value} (hc : a.cellular = true) (h : RV w T hv a v) : R w T hv a v.cells.toList := by
  cases a with
  | bot => simp [AV.cellular] at hc
  | t xs => simp [AV.cellular] at hc
  | g xs => simp only [RV] at h; obtain ⟨cs, rfl, h⟩ := h; simpa [R, Value.cells] using h
  | v x => simp only [RV] at h; subst h; simp only [AV.cellular] at hc; refine ⟨?_, hc⟩; cases v <;> first | rfl | cases hc
  | s k xs => simp only [RV] at h; have := R_one _ _ _ h v (by simp); cases v <;> first | exact h | cases this
  | p x off => simp only [RV] at h; have := R_one _ _ _ h v (by simp); cases v <;> first | exact h | cases this
  | o i => simp only [RV] at h; have := R_one _ _ _ h v (by simp); cases v <;> first | exact h | cases this
  | q i k j off => simp only [RV] at h; have := R_one _ _ _ h v (by simp); cases v <;> first | exact h | cases this
  | f fn cap => simp only [RV] at h; have := R_one _ _ _ h v (by simp); cases v <;> first | exact h | cases this

theorem RV_R1 {a : AV} {v : Value} (hs : a.single = true) (hc : a.cellular = true) (h : RV w T hv a v) : R w T hv a [v] := by
  cases a with
  | g xs => simp [AV.single] at hs
  | t xs => simp [AV.single] at hs
  | bot => simp [AV.cellular] at hc
  | v x => simp only [RV] at h; subst h; exact ⟨rfl, hc⟩
  | s k xs => simpa only [RV] using h
  | p x off => simpa only [RV] using h
  | o i => simpa only [RV] using h
  | q i k j off => simpa only [RV] using h
  | f fn cap => simpa only [RV] using h

theorem R_RV {a : AV} {v : Value} (hs : a.single = true) (h : R w T hv a [v]) : RV w T hv a v := by
  cases a with
  | g xs => simp [AV.single] at hs
  | t xs => simp [AV.single] at hs
  | bot => simp [RV]
  | v x => simp only [R, List.cons.injEq, and_true] at h; simpa only [RV] using h.1
  | s k xs => simpa only [RV] using h
  | p x off => simpa only [RV] using h
  | o i => simpa only [RV] using h
  | q i k j off => simpa only [RV] using h
  | f fn cap => simpa only [RV] using h

theorem R_cells {a : AV} (hf : a.flat = true) {us : List Value} : R w T hv a us ↔ RL w T hv a.cells us := by
  cases a with
  | g xs => simp [R, AV.cells]
  | t xs => simp [AV.flat, AV.cells, AV.single] at hf
  | bot => simp [AV.cells, RL]
  | v x => simp [AV.cells, RL]
  | s k xs => simp [AV.cells, RL]
  | p x off => simp [AV.cells, RL]
  | o i => simp [AV.cells, RL]
  | q i k j off => simp [AV.cells, RL]
  | f fn cap => simp [AV.cells, RL]

theorem flat_size {a : AV} (hf : a.flat = true) : ∀ x ∈ a.cells, x.size = 1 := fun x hx => AV.size_single (by simp only [AV.flat, List.all_eq_true] at hf; exact hf x hx)

/-- one cell of a flat value. -/
theorem cell_at {l : List AV} {us : List Value} (hf : ∀ x ∈ l, x.size = 1) (h : RL w T hv l us) {i : Nat} {x : AV} (hx : l[i]? = some x) : ∃ u, us[i]? = some u ∧ R w T hv x [u] := by
  obtain ⟨u1, u2, u3, rfl, h1, h2, h3, _⟩ := RL_at hf h hx
  match u2, h3 with
  | [u], _ => exact ⟨u, by simp at h1; simp [← h1], h2⟩

theorem RL_set {l : List AV} {us : List Value} (hf : ∀ x ∈ l, x.size = 1) (h : RL w T hv l us) {i : Nat} (hi : i < l.length) {x : AV} {u : Value} (hx : R w T hv x [u]) :
    RL w T hv (l.set i x) (us.set i u) := by
  obtain ⟨u1, u2, u3, rfl, h1, _, h3, h4, h5⟩ := RL_at hf h (List.getElem?_eq_getElem hi)
  match u2, h3 with
  | [v], _ =>
    have e1 : l.set i x = l.take i ++ (x :: l.drop (i + 1)) := by rw [List.set_eq_take_append_cons_drop, if_pos hi]
    have e2 : (u1 ++ [v] ++ u3).set i u = u1 ++ (u :: u3) := by simp at h1; subst h1; simp
    rw [e1, e2]
    refine RL_app _ _ _ _ h4 ?_
    simp only [RL]
    exact ⟨[u], u3, rfl, hx, h5⟩

/-- an element of a row is changed. -/
theorem RL_setAt {k : Nat} {l : List AV} {us : List Value} (hk : ∀ x ∈ l, x.size = k) (h : RL w T hv l us) {i : Nat} (hi : i < l.length) {x : AV} {u : List Value} (hx : R w T hv x u) :
    RL w T hv (l.set i x) (us.take (i * k) ++ u ++ us.drop (i * k + k)) := by
  obtain ⟨u1, u2, u3, rfl, h1, _, h3, h4, h5⟩ := RL_at hk h (List.getElem?_eq_getElem hi)
  have e1 : l.set i x = l.take i ++ (x :: l.drop (i + 1)) := by rw [List.set_eq_take_append_cons_drop, if_pos hi]
  have e2 : (u1 ++ u2 ++ u3).take (i * k) ++ u ++ (u1 ++ u2 ++ u3).drop (i * k + k) = u1 ++ (u ++ u3) := by
    rw [← h1]
    have : u1.length + k = (u1 ++ u2).length := by simp [h3]
    rw [this, List.drop_left, List.append_assoc u1 u2 u3, List.take_left]
    simp
  rw [e1, e2]
  refine RL_app _ _ _ _ h4 ?_
  simp only [RL]
  exact ⟨u, u3, rfl, hx, h5⟩
end

end Aw
end Go.Proofs.YtndniceeibflcaaGreatDoor

namespace Go.Proofs.YtndniceeibflcaaGreatDoor
namespace Aw
open Go.RowKit

/-- what the calculus asks of a type. -/
structure TI where
  agg : Bool
  size : Nat
  bytes : Nat
  zero : List Value
  elem : Option TypeId
  arr : Option (Nat × TypeId)
  flds : List (Nat × Nat)
  ftys : List TypeId
  bool : Bool
  eqn : Bool
  str : Bool
  deriving Inhabited

/-- a struct whose fields are single integers, one behind the other. -/
def eqnOf (P : Program) (t : TypeId) : Bool :=
  P.stoodInHeld t == false && P.eqGuardType P.depth t == false &&
  (match P.underlying t with
   | some (.struct fs) => (fs.toList.zipIdx.all fun fi => fi.1.name != "_" && fi.1.offset == fi.2 && (match P.underlying fi.1.type with | some (.int _) => true | _ => false))
   | _ => false)

def fldsKnown (P : Program) : TypeDesc → Bool
  | .struct fs => fs.toList.all fun f => (P.info? f.type).isSome
  | _ => true

def tiOf (P : Program) (t : TypeId) : Option TI :=
  match P.info? t, P.underlying t with
  | some i, some d => match i.zero with
    | some z => if z.cells.size = i.size && z.cells.toList.all (·.oneCell') && fldsKnown P d then
        some { agg := (match d with | .struct _ | .array _ _ => true | _ => false), size := i.size, bytes := i.bytes, zero := z.cells.toList,
               elem := (match d with | .slice e => some e | _ => none), arr := (match d with | .array n e => some (n, e) | _ => none),
               flds := (match d with | .struct fs => fs.toList.map fun f => (f.offset, P.cellsOf f.type) | _ => []),
               ftys := (match d with | .struct fs => fs.toList.map fun f => f.type | _ => []),
               bool := (match d with | .bool => true | _ => false), eqn := eqnOf P t,
               str := (match d with | .string => true | _ => false) }
      else none
    | none => none
  | _, _ => none

def mkA (agg : Bool) (l : List AV) : AV := if agg then .g l else match l with | [x] => x | _ => .bot

/-- the cells l at off are written over. -/
def putsA : List AV → Nat → List AV → List AV
  | cs, _, [] => cs
  | cs, off, c :: r => putsA (cs.set off c) (off + 1) r

def fillA (place : Nat → Option (Nat × Nat)) (cells : List AV) : List (Nat × AV) → Option (List AV)
  | [] => some cells
  | (i, x) :: rest => match place i with
    | none => none
    | some (off, size) => if x.cellular && x.flat && x.cells.length == size && decide (off + size ≤ cells.length) then fillA place (putsA cells off x.cells) rest else none

/-- the load of a type at a place in a value. -/
def loadA (ti : TI) (x : AV) (off : Nat) : Option AV :=
  if !x.flat then none else
  if ti.agg then
    (match x with
     | .g xs => if off == 0 && xs.length == ti.size then some x else if decide (off + ti.size ≤ xs.length) then some (.g ((xs.drop off).take ti.size)) else none
     | _ => none)
  else x.cells[off]?

/-- the store of a value at a place in a value. -/
def storeA (ti : TI) (x : AV) (off : Nat) (y : AV) : Option AV :=
  if x.flat && y.flat && y.cellular && y.cells.length == ti.size && decide (off + ti.size ≤ x.cells.length) then
    (match x with
     | .g xs => some (.g (putsA xs off y.cells))
     | _ => (putsA x.cells off y.cells).head?)
  else none

/-- what comes next, out of simp's sight. -/
class HK (α : Type) where
  k : α

def ACond (b : Bool) [x : HK Prop] [y : HK Prop] : Prop := (b = true → x.k) ∧ (b = false → y.k)
theorem ACond_true (x y : HK Prop) : @ACond true x y = x.k := by simp [ACond]
theorem ACond_false (x y : HK Prop) : @ACond false x y = y.k := by simp [ACond]

def AGet (xs : List AV) (j : Nat) [K : HK (AV → Prop)] : Prop := ∃ x, xs[j]? = some x ∧ K.k x
theorem AGet_zero (x : AV) (xs : List AV) (K : HK (AV → Prop)) : @AGet (x :: xs) 0 K = K.k x := by simp [AGet]
def okFn (P : Program) (f : FuncId) : Bool :=
  match P.funcs[f]? with
  | some fn => !(fn.name == "runtime.NumGoroutine") && fn.body.isSome
  | none => false

/-- A function's contract: over persistent arguments that lie in no block of A; the result lies in none, too; the new objects that it brings are in new memory. -/
def ASpec (P : Program) (f : FuncId) (aS : List AV) (post : AV → List Ob → Prop) : Prop :=
  okFn P f = true ∧ ∀ (w : World) (vs : List Value) (A : Nat → Prop), GOk w → (∀ b, A b → b < w.heap.size) → RVL w A noHv aS vs → Calls P f vs.toArray w fun e w' =>
    ∃ r Ms v hv, e = .returned v ∧ post r Ms ∧ MemR A w' hv (Ms.map some) ∧ RV w' (OwnA A hv) hv r v ∧ (∀ b, Own hv b → w.heap.size ≤ b) ∧ Bel w.heap.size w w'

mutual
/-- an abstract value of which all that lies in memory is its own. -/
def AV.tfree : AV → Bool
  | .s _ xs => xs.isEmpty
  | .p _ _ => false
  | .g xs => AV.tfreeL xs
  | .t xs => AV.tfreeL xs
  | .f _ xs => AV.tfreeL xs
  | _ => true
def AV.tfreeL : List AV → Bool
  | [] => true
  | x :: xs => x.tfree && AV.tfreeL xs
end

mutual
/-- the abstract value with other names of its objects. -/
def AV.sub (F : Nat → AV) (G : Nat → Nat → Nat → Nat → AV) : AV → AV
  | .o i => F i
  | .q i k j off => G i k j off
  | .g xs => .g (AV.subL F G xs)
  | .t xs => .t (AV.subL F G xs)
  | .f fn xs => .f fn (AV.subL F G xs)
  | a => a
def AV.subL (F : Nat → AV) (G : Nat → Nat → Nat → Nat → AV) : List AV → List AV
  | [] => []
  | x :: xs => x.sub F G :: AV.subL F G xs
end

/-- the objects' numbers are moved up. -/
def AV.up (m : Nat) : AV → AV := AV.sub (fun i => .o (i + m)) (fun i k j off => .q (i + m) k j off)
def Ob.up (m : Nat) (ob : Ob) : Ob := { ob with xs := ob.xs.map (AV.up m) }

/-- an argument may be taken for another abstract value: a persistent one (own = false), or an object that is lent (own = true). -/
def Coe (lend : Bool) (M : Mem) (a b : AV) : Prop := ∀ A w hv v, MemR A w hv M → RV w (OwnA A hv) hv a v → RV w (if lend then fun _ => False else OwnA A hv) noHv b v
def CoeL (lend : Bool) (M : Mem) : List AV → List AV → Prop
  | [], [] => True
  | a :: aS, b :: bs => Coe lend M a b ∧ CoeL lend M aS bs
  | _, _ => False

def ACall (P : Program) (f : FuncId) (aS : List AV) (M : Mem) [K : HK (AV → Mem → Prop)] : Prop :=
  ∃ lend bs post, CoeL lend M aS bs ∧ ASpec P f bs post ∧ ∀ r Ms, post r Ms → (lend = true → r.tfree = true ∧ ∀ ob ∈ Ms, AV.tfreeL ob.xs = true) ∧ K.k (r.up M.length) (M ++ Ms.map fun ob => some (ob.up M.length))

def lim (n : Int) : Prop := -9223372036854775808 ≤ n ∧ n ≤ 9223372036854775807

def ints : List AV → Option (List Int)
  | [] => some []
  | .v (.int .i64 n) :: r => (ints r).map (n :: ·)
  | _ => none

/-- the kind of a number's type. -/
def intOf (P : Program) (t : TypeId) : Option IntKind := match P.underlying t with | some (.int k) => some k | _ => none

/-- '==' and '!='. -/
def eqC (op : BinOp) (r : Bool) : Option Bool := match op with | .eql => some r | .neq => some (!r) | _ => none
/-- a text. -/
abbrev S (l : List UInt8) : AV := .v (.string ⟨l.toArray⟩)
def asStr : AV → Option (List UInt8) | .v (.string b) => some b.toList | _ => none
/-- whether a pointer is nil. -/
def ptrN : AV → Option Bool | .q _ _ _ _ => some false | .p _ _ => some false | .v (.pointer none) => some true | .v (.pointer (some _)) => some false | _ => none
/-- whether an interface's value is nil. -/
def ifcN : AV → Option Bool | .v .nilIface => some true | .v (.iface _ _) => some false | _ => none
/-- a pointer's type, or an interface's. -/
def nilT (P : Program) (t : TypeId) : Option Bool := match P.underlying t with | some (.pointer _) => some true | some (.interface _) => some false | _ => none
/-- a type that is no interface. -/
def conc (P : Program) (t : TypeId) : Bool := match P.underlying t with | some (.interface _) => false | some _ => true | none => false
def isC : Operand → Bool | .const _ => true | _ => false
def bytesA (l : List UInt8) : List AV := l.map fun c => .v (.int .u8 c.toNat)
def strA (op : BinOp) (a b : List UInt8) [K : HK (AV → Prop)] : Prop :=
  match eqC op (decide (a = b)) with
  | some r => K.k (B r)
  | none => (op = .add ∧ a.length + b.length ≤ 9223372036854775807) ∧ K.k (S (a ++ b))

def binA (P : Program) (op : BinOp) (ty : TypeId) (x y : AV) (c : Bool) [K : HK (AV → Prop)] : Prop :=
  match op, x, y with
  | .add, .v (.int .i64 a), .v (.int .i64 b) => lim (a + b) ∧ K.k (I (a + b))
  | .sub, .v (.int .i64 a), .v (.int .i64 b) => lim (a - b) ∧ K.k (I (a - b))
  | .mul, .v (.int .i64 a), .v (.int .i64 b) => lim (a * b) ∧ K.k (I (a * b))
  | .quo, .v (.int .i64 a), .v (.int .i64 b) => (b ≠ 0 ∧ lim (a.tdiv b)) ∧ K.k (I (a.tdiv b))
  | .rem, .v (.int .i64 a), .v (.int .i64 b) => b ≠ 0 ∧ K.k (I (a.tmod b))
  | .shl, .v (.int .i64 a), .v (.int _ b) => (0 ≤ b ∧ b ≤ 62 ∧ lim (a * 2 ^ b.toNat)) ∧ K.k (I (a * 2 ^ b.toNat))
  | .shr, .v (.int .i64 a), .v (.int _ b) => (0 ≤ b ∧ b ≤ 62) ∧ K.k (I (a / 2 ^ b.toNat))
  | .and, .v (.int .i64 a), .v (.int .i64 b) => (0 ≤ a ∧ 0 ≤ b ∧ lim a ∧ lim b) ∧ K.k (I ((a.toNat &&& b.toNat : Nat) : Int))
  | .or, .v (.int .i64 a), .v (.int .i64 b) => (0 ≤ a ∧ 0 ≤ b ∧ lim a ∧ lim b) ∧ K.k (I ((a.toNat ||| b.toNat : Nat) : Int))
  | .lss, .v (.int k a), .v (.int k' b) => k = k' ∧ K.k (B (decide (a < b)))
  | .leq, .v (.int k a), .v (.int k' b) => k = k' ∧ K.k (B (decide (a ≤ b)))
  | .gtr, .v (.int k a), .v (.int k' b) => k = k' ∧ K.k (B (decide (b < a)))
  | .geq, .v (.int k a), .v (.int k' b) => k = k' ∧ K.k (B (decide (b ≤ a)))
  | .eql, .v (.int k a), .v (.int k' b) => k = k' ∧ K.k (B (decide (a = b)))
  | .neq, .v (.int k a), .v (.int k' b) => k = k' ∧ K.k (B (!decide (a = b)))
  | .eql, .v (.bool a), .v (.bool b) => (match tiOf P ty with | some ti => ti.bool = true | none => False) ∧ K.k (B (a == b))
  | .neq, .v (.bool a), .v (.bool b) => (match tiOf P ty with | some ti => ti.bool = true | none => False) ∧ K.k (B (!(a == b)))
  | .eql, .g xs, .g ys => (match tiOf P ty, ints xs, ints ys with | some ti, some aS, some bs => (ti.eqn = true ∧ aS.length = ti.flds.length ∧ bs.length = ti.flds.length) ∧ K.k (B (decide (aS = bs))) | _, _, _ => False)
  | .neq, .g xs, .g ys => (match tiOf P ty, ints xs, ints ys with | some ti, some aS, some bs => (ti.eqn = true ∧ aS.length = ti.flds.length ∧ bs.length = ti.flds.length) ∧ K.k (B (!decide (aS = bs))) | _, _, _ => False)
  | .eql, .s _ xs, .v (.slice none _ _) => (match tiOf P ty with | some ti => ti.elem.isSome = true | none => False) ∧ ∀ b : Bool, (b = true → xs = []) → K.k (B b)
  | .rem, .v (.int .u64 a), .v (.int .u64 b) => b ≠ 0 ∧ K.k (.v (.int .u64 (a.tmod b)))
  | .add, .v (.int .u64 a), .v (.int .u64 b) => K.k (.v (.int .u64 (IntKind.u64.wrap (a + b))))
  | .sub, .v (.int .u8 a), .v (.int .u8 b) => K.k (.v (.int .u8 (IntKind.u8.wrap (a - b))))
  | op, .v (.string a), .v (.string b) => strA op a.toList b.toList (K := K)
  | op, x, .v (.pointer none) => (match ptrN x with | some b => (match eqC op b with | some r => nilT P ty = some true ∧ K.k (B r) | none => False) | none => False)
  | op, x, .v .nilIface => (match ifcN x with | some b => (match eqC op b with | some r => (c = true ∧ nilT P ty = some false) ∧ K.k (B r) | none => False) | none => False)
  | _, _, _ => False

def mapOf (P : Program) (t : TypeId) : Option (TypeId × TypeId) := match P.underlying t with | some (.map k e) => some (k, e) | _ => none

/-- the zero value of a type, as it lies there. -/
def zeroA (P : Program) (t : TypeId) : Option AV :=
  match (P.info? t).bind (·.zero) with
  | some (.agg cs) => if (cs.toList.all fun u => u.oneCell') = true then some (.g (cs.toList.map AV.v)) else none
  | some z => if z.oneCell' = true then some (.v z) else none
  | none => none

def valsOf : List AV → Option (List Value)
  | [] => some []
  | .v x :: r => (valsOf r).map (x :: ·)
  | _ => none

/-- a value that is known whole. -/
def valOf : AV → Option Value
  | .v x => some x
  | .g xs => (valsOf xs).map fun l => .agg l.toArray
  | _ => none

/-- where a key lies. -/
def Find (ks : List Value) (v : Value) : Option Nat → Prop
  | none => ∀ u ∈ ks, u ≠ v
  | some j => ks[j]? = some v ∧ ∀ i, ks[i]? = some v → i = j

def AFind (P : Program) (kt : TypeId) (ks : List Value) (v : Value) [K : HK (Nat → Prop)] [L : HK Prop] : Prop :=
  (Maps.Keyed P kt ∧ (∃ l, keyOf P kt v = some l) ∧ ∀ u ∈ ks, ∃ l, keyOf P kt u = some l) ∧ ((∃ j, Find ks v (some j) ∧ K.k j) ∨ (Find ks v none ∧ L.k))

def lenM (M : Mem) : AV → Option Int
  | .o i => match M[i]? with | some (some ob) => (match ob.mp with | some _ => if ob.k = 0 then some ob.xs.length else none | none => none) | _ => none
  | _ => none

/-- whether a type's values have the length that is told. -/
def lenK (ti : TI) : AV → Bool | .v (.string _) => ti.str | _ => ti.elem.isSome
def lenA (M : Mem) : AV → Option Int
  | .s _ xs => some xs.length
  | .v (.slice none 0 0) => some 0
  | .v (.string b) => some b.toList.length
  | .o i => match M[i]? with | some (some ob) => (match ob.mp with | none => some ob.xs.length | some _ => none) | _ => none
  | _ => none

def minmaxA (isMax : Bool) : AV → AV → Option AV
  | .v (.int .i64 a), .v (.int .i64 b) => some (I (if isMax then max a b else min a b))
  | _, _ => none

def callA (P : Program) (c : Call) (ρ : Operand → AV) (M : Mem) [K : HK (AV → List Nat → Mem → Prop)] : Prop :=
  match c.callee with
  | .value (.func f) => ACall P f (c.args.toList.map ρ) M (K := ⟨fun r M' => K.k r [] M'⟩)
  | .value x => (match ρ x with
    | .f (.func f) cap => ACall P f (c.args.toList.map ρ ++ cap) M (K := ⟨fun r M' => K.k r [] M'⟩)
    | _ => False)
  | .builtin .len => (match c.args.toList, c.argTypes.toList with
    | [x], [t] => (match tiOf P t, lenA M (ρ x) with | some ti, some n => lenK ti (ρ x) = true ∧ K.k (I n) [] M | some _, none => (match mapOf P t, lenM M (ρ x) with | some _, some n => K.k (I n) [] M | _, _ => False) | _, _ => False)
    | _, _ => False)
  | .builtin .min => (match c.args.toList with
    | [x, y] => (match minmaxA false (ρ x) (ρ y) with | some r => K.k r [] M | none => False)
    | _ => False)
  | .builtin .max => (match c.args.toList with
    | [x, y] => (match minmaxA true (ρ x) (ρ y) with | some r => K.k r [] M | none => False)
    | _ => False)
  | .builtin .append => (match c.args.toList, c.argTypes.toList with
    | [x, y], [t, t'] => (match tiOf P t with
      | some ti => (match ti.elem with
        | some e => (match tiOf P e with
          | some te => (match ρ x, ρ y with
            | .o i, .s k ys => (match M[i]? with
              | some (some ob) => (t = t' ∧ ob.mp = none ∧ ob.ty = e ∧ ob.k = te.size ∧ k = te.size ∧ 0 < te.size ∧ ob.xs.length + ys.length ≤ 1000000 ∧ te.bytes ≤ 1000) ∧
                  K.k (.o i) [i] ((M.kill [i]).set i (some { ob with xs := AV.killL [i] ob.xs ++ ys }))
              | _ => False)
            | .o i, .v (.slice none 0 0) => (match M[i]? with | some (some ob) => (t = t' ∧ ob.mp = none) ∧ K.k (.o i) [] M | _ => False)
            | .o i, .o j => (match M[i]?, M[j]? with
              | some (some ob), some (some ob') => (i ≠ j ∧ t = t' ∧ ob.mp = none ∧ ob'.mp = none ∧ ob.ty = e ∧ ob.k = te.size ∧ ob'.k = te.size ∧ 0 < te.size ∧ ob.xs.length + ob'.xs.length ≤ 1000000 ∧ te.bytes ≤ 1000) ∧
                  K.k (.o i) [i] ((M.kill [i]).set i (some { ob with xs := AV.killL [i] ob.xs ++ AV.killL [i] ob'.xs }))
              | _, _ => False)
            | _, _ => False)
          | none => False)
        | none => False)
      | none => False)
    | _, _ => False)
  | _ => False

mutual
/-- an abstract value that names no object. -/
def AV.pure : AV → Bool
  | .o _ | .q _ _ _ _ => false
  | .g xs => AV.pureL xs
  | .t xs => AV.pureL xs
  | .f _ xs => AV.pureL xs
  | _ => true
def AV.pureL : List AV → Bool
  | [] => true
  | x :: xs => x.pure && AV.pureL xs
end

abbrev Kont := AV → List Nat → Mem → Prop

def newRow (M : Mem) (ty : TypeId) (k : Nat) (xs : List AV) : Mem := M ++ [some ⟨none, ty, k, xs⟩]

def idxA (P : Program) (t : TypeId) (M : Mem) (x : AV) (i : Int) [K : HK (AV → Prop)] : Prop :=
  match tiOf P t with
  | none => False
  | some ti => match ti.elem with
    | some e => (match tiOf P e, x with
      | some te, .s k xs => (k = te.size ∧ 0 ≤ i) ∧ AGet xs i.toNat (K := ⟨fun x => K.k (.p x 0)⟩)
      | some te, .o id => (match M[id]? with
        | some (some ob) => (ob.mp = none ∧ ob.k = te.size ∧ 0 ≤ i ∧ i < ob.xs.length) ∧ K.k (.q id ob.k i.toNat 0)
        | _ => False)
      | _, _ => False)
    | none => match ti.arr with
      | some (n, e) => (match tiOf P e, x with
        | some te, .p y off => (0 ≤ i ∧ i < n) ∧ K.k (.p y (off + i.toNat * te.size))
        | some te, .q id k j off => (0 ≤ i ∧ i < n) ∧ K.k (.q id k j (off + i.toNat * te.size))
        | _, _ => False)
      | none => False

def sliceA (P : Program) (t : TypeId) (M : Mem) (x : AV) (lo hi : Option (Option Int)) [K : HK Kont] : Prop :=
  match tiOf P t, x, lo, hi with
  | some ti, .s k xs, some lo, some hi => (match ti.elem with
    | some e => (match tiOf P e with
      | some te => (k = te.size ∧ 0 ≤ lo.getD 0 ∧ lo.getD 0 ≤ hi.getD xs.length ∧ hi.getD xs.length ≤ xs.length) ∧
          K.k (.s k ((xs.take (hi.getD xs.length).toNat).drop (lo.getD 0).toNat)) [] M
      | none => False)
    | none => False)
  | some ti, .v (.string b), some lo, some hi => (ti.str = true ∧ 0 ≤ lo.getD 0 ∧ lo.getD 0 ≤ hi.getD b.toList.length ∧ hi.getD b.toList.length ≤ b.toList.length) ∧
      K.k (S ((b.toList.take (hi.getD b.toList.length).toNat).drop (lo.getD 0).toNat)) [] M
  | _, _, _, _ => False

/-- the value of a bound: none: it is not known; some none: none is given. -/
def bndA (ρ : Operand → AV) : Option Operand → Option (Option Int)
  | none => some none
  | some x => match ρ x with | .v (.int _ n) => some (some n) | _ => none

def mapPut (P : Program) (t : TypeId) (m x y : AV) (M : Mem) [K : HK Kont] : Prop :=
  ∃ ke id kv ob ks, mapOf P t = some ke ∧ m = .o id ∧ valOf x = some kv ∧ M[id]? = some (some ob) ∧ ob.mp = some ks ∧ ob.k = 0 ∧
    AFind P ke.1 ks kv (K := ⟨fun j => K.k .bot [] (M.set id (some { ob with xs := ob.xs.set j y }))⟩) (L := ⟨K.k .bot [] (M.set id (some { ob with mp := some (ks ++ [kv]), xs := ob.xs ++ [y] }))⟩)

def core (P : Program) (own : List Nat) (o : Oper) (ρ : Operand → AV) (M : Mem) [K : HK Kont] : Prop :=
  match o.op with
  | .move x => K.k (ρ x) [] M
  | .assign x => (match ρ x, own.contains (o.dst.getD 0) with
    | .v (.slice none 0 0), true => (match tiOf P o.type with
      | some ti => (match ti.elem with
        | some e => (match tiOf P e with | some te => K.k (.o M.length) [] (newRow M e te.size []) | none => False)
        | none => False)
      | none => False)
    | r, _ => K.k r [] M)
  | .pick c a b => (match ρ c with | .v (.bool c) => @ACond c ⟨K.k (ρ a) [] M⟩ ⟨K.k (ρ b) [] M⟩ | _ => False)
  | .box t x => (ρ x).cellular = true ∧ (if own.contains (o.dst.getD 0) then K.k (.q M.length (ρ x).size 0 0) [] (newRow M t (ρ x).size [ρ x]) else (ρ x).pure = true ∧ K.k (.p (ρ x) 0) [] M)
  | .alloc t => (match tiOf P t with | some ti => (ti.agg || ti.zero.length == 1) = true ∧ K.k (.q M.length ti.size 0 0) [] (newRow M t ti.size [mkA ti.agg (ti.zero.map .v)]) | none => False)
  | .load t x => (match tiOf P t, ρ x with
    | some ti, .p y off => (match loadA ti y off with | some r => K.k r [] M | none => False)
    | some ti, .q id k j off => (match M[id]? with
      | some (some ob) => ob.k = k ∧ AGet ob.xs j (K := ⟨fun y => match loadA ti y off with | some r => K.k r [] M | none => False⟩)
      | _ => False)
    | _, _ => False)
  | .store t x y => (match tiOf P t, ρ x with
    | some ti, .q id k j off => (match M[id]? with
      | some (some ob) => ob.k = k ∧ AGet ob.xs j (K := ⟨fun z => match storeA ti z off (ρ y) with | some r => K.k .bot [] (M.set id (some { ob with xs := ob.xs.set j r })) | none => False⟩)
      | _ => False)
    | _, _ => False)
  | .fieldAddr t x f => (match tiOf P t, ρ x with
    | some ti, .p y off => (match ti.flds[f]? with | some (fo, fs) => fs ≠ 0 ∧ K.k (.p y (off + fo)) [] M | none => False)
    | some ti, .q id k j off => (match ti.flds[f]? with | some (fo, fs) => fs ≠ 0 ∧ K.k (.q id k j (off + fo)) [] M | none => False)
    | _, _ => False)
  | .indexAddr t x i => (match ρ i with | .v (.int _ n) => idxA P t M (ρ x) n (K := ⟨fun r => K.k r [] M⟩) | _ => False)
  | .binOp op ty x y _ => binA P op ty (ρ x) (ρ y) (isC y) (K := ⟨fun r => K.k r [] M⟩)
  | .convert s d x => (match ρ x with
    | .v (.int _ n) => (match intOf P s, intOf P d with | some _, some k => K.k (.v (.int k (k.wrap n))) [] M | _, _ => False)
    | .v (.string b) => (match tiOf P d with
      | some ti => (match ti.elem with
        | some e => (intOf P e = some .u8 ∧ (P.underlying s).isSome = true ∧ b.toList.length ≤ 1000000) ∧ K.k (.s 1 (bytesA b.toList)) [] M
        | none => False)
      | none => False)
    | _ => False)
  | .index t x i => (match tiOf P t, ρ x, ρ i with
    | some ti, .v (.string b), .v (.int _ n) => (ti.str = true ∧ 0 ≤ n ∧ n < b.toList.length) ∧ K.k (.v (.int .u8 (b.toList.getD n.toNat 0).toNat)) [] M
    | some ti, .g xs, .v (.int _ n) => (match ti.arr with
      | some (m, e) => (match tiOf P e with
        | some te => (0 ≤ n ∧ n < m ∧ te.size = 1 ∧ te.agg = false ∧ (xs.all AV.single) = true) ∧ AGet xs n.toNat (K := ⟨fun x => K.k x [] M⟩)
        | none => False)
      | none => False)
    | _, _, _ => False)
  | .makeInterface t x => (match valOf (ρ x) with | some v => conc P t = true ∧ K.k (.v (.iface t v)) [] M | none => False)
  | .unOp .not _ x => (match ρ x with | .v (.bool b) => K.k (B (!b)) [] M | _ => False)
  | .unOp .neg _ x => (match ρ x with | .v (.int .i64 n) => lim (-n) ∧ K.k (I (-n)) [] M | _ => False)
  | .build t parts => (match tiOf P t with
    | some ti => (match fillA (fun i => ti.flds[i]?) (ti.zero.map .v) (parts.toList.map fun ix => (ix.1, ρ ix.2)) with
      | some cells => (ti.agg = true ∧ ti.arr = none) ∧ K.k (.g cells) [] M
      | none => False)
    | none => False)
  | .buildSlice t n parts => (match tiOf P t with
    | some ti => (match ti.elem with
      | some e => (match tiOf P e with
        | some te => (0 < te.size ∧ n * te.size ≤ 16777216 ∧ parts.toList.map (·.1) = List.range n ∧ parts.toList.all (fun ix => (ρ ix.2).cellular && (ρ ix.2).flat && (ρ ix.2).size == te.size) = true) ∧
            (if own.contains (o.dst.getD 0) then K.k (.o M.length) [] (newRow M e te.size (parts.toList.map fun ix => ρ ix.2))
             else AV.pureL (parts.toList.map fun ix => ρ ix.2) = true ∧ K.k (.s te.size (parts.toList.map fun ix => ρ ix.2)) [] M)
        | none => False)
      | none => False)
    | none => False)
  | .extract x i => (match ρ x with | .t xs => (match xs[i]? with | some r => K.k r [] M | none => False) | _ => False)
  | .field t x f => (match tiOf P t, ρ x with
    | some ti, .g xs => (match ti.flds[f]?, ti.ftys[f]? with
      | some (fo, _), some ft => (match tiOf P ft with
        | some tf => (match loadA tf (.g xs) fo with | some r => K.k r [] M | none => False)
        | none => False)
      | _, _ => False)
    | _, _ => False)
  | .slice t x lo hi none => sliceA P t M (ρ x) (bndA ρ lo) (bndA ρ hi) (K := K)
  | .makeFunc fn first cap => (first.size = 0 ∧ (cap.toList.all fun x => (ρ x).cellular && (ρ x).single) = true) ∧ K.k (.f fn (cap.toList.map ρ)) [] M
  | .nilCheck x => (match ρ x with
    | .p y off => K.k (.p y off) [] M
    | .q id k j off => K.k (.q id k j off) [] M
    | _ => False)
  | .makeMap t none => (mapOf P t).isSome = true ∧ K.k (.o M.length) [] (M ++ [some ⟨some [], t, 0, []⟩])
  | .lookup t m x ok => ∃ ke id kv ob ks z, mapOf P t = some ke ∧ ρ m = .o id ∧ valOf (ρ x) = some kv ∧ M[id]? = some (some ob) ∧ ob.mp = some ks ∧ zeroA P ke.2 = some z ∧ ob.k = 0 ∧
      AFind P ke.1 ks kv (K := ⟨fun j => AGet ob.xs j (K := ⟨fun y => K.k (if ok then .t [y, B true] else y) [] M⟩)⟩) (L := ⟨K.k (if ok then .t [z, B false] else z) [] M⟩)
  | .mapUpdate t m x y => mapPut P t (ρ m) (ρ x) (ρ y) M (K := K)
  | .insert t m x y => mapPut P t (ρ m) (ρ x) (ρ y) M (K := K)
  | .makeSlice t l c => ∃ ti e te z k k' n, tiOf P t = some ti ∧ ti.elem = some e ∧ tiOf P e = some te ∧ te.zero = [z] ∧ te.agg = false ∧ ρ l = .v (.int k n) ∧ ρ c = .v (.int k' n) ∧ (0 ≤ n ∧ n ≤ 1000000 ∧ te.size = 1 ∧ te.bytes ≤ 1000) ∧
      K.k (.o M.length) [] (newRow M e 1 (List.replicate n.toNat (.v z)))
  | .call c => callA P c ρ M (K := K)
  | _ => False

end Aw
end Go.Proofs.YtndniceeibflcaaGreatDoor

namespace Go.Proofs.YtndniceeibflcaaGreatDoor
namespace Aw
open Go.RowKit

def Ob.kill (Z : List Nat) (ob : Ob) : Ob := { ob with xs := AV.killL Z ob.xs }

theorem Mem.kill_get (Z : List Nat) (M : Mem) (i : Nat) : (Mem.kill Z M)[i]? = (M[i]?).map fun o => o.map (Ob.kill Z) := by
  simp only [Mem.kill, List.getElem?_map]; rfl
theorem Ob.kill_nil (ob : Ob) : ob.kill [] = ob := by cases ob; simp [Ob.kill, AV.killL_nil]
theorem Mem.kill_nil (M : Mem) : Mem.kill [] M = M := by
  apply List.ext_getElem?
  intro i
  rw [Mem.kill_get]
  cases M[i]? with
  | none => rfl
  | some o => cases o with
    | none => rfl
    | some ob => simp [Ob.kill_nil]

section
variable {A : Nat → Prop} {w w' : World} {hv hv' : Nat → Option Value} {M : Mem} {Z : List Nat}

theorem ownsRow_of_block {e : TypeId} {k n : Nat} {v : Value} {xs : List Value} (h : w.ownsRow 0 e k v n xs) (hb : ∀ b, v.ownBlock = some b → w'.heap[b]? = w.heap[b]?) : w'.ownsRow 0 e k v n xs := by
  refine ⟨h.1, ?_⟩
  rcases h.2 with h | ⟨g, cap, cur, rfl, h1, h2, h3⟩
  · exact .inl h
  · exact .inr ⟨g, cap, cur, rfl, h1, (hb g rfl).trans h2, h3⟩

theorem live_step (hM : MemR A w hv M) (hs : StepR A w hv Z w' hv') {i : Nat} {ob : Ob} (hrow : ∀ v b, hv i = some v → blk v = some b → w'.heap[b]? = w.heap[b]?)
    (hi : i ∉ Z) (h : M[i]? = some (some ob)) : ∃ v, hv i = some v ∧ hv' i = some v ∧ ObR w' (OwnA A hv') hv' (ob.kill Z) v := by
  obtain ⟨v, hv1, hob⟩ := hM.live i ob h
  cases hm : ob.mp with
  | some ks =>
    obtain ⟨vals, h1, h3⟩ := hob.map hm
    exact ⟨_, hv1, hs.hv i _ hi hv1, ObR.of_map (ob := ob.kill Z) (ks := ks) hm ⟨vals, h1.block fun b hb => hrow _ b hv1 hb, RVL_keep hs.keeps hs.hv _ _ h3⟩⟩
  | none =>
  obtain ⟨us, hr, hsz, hl⟩ := hob.row hm
  refine ⟨v, hv1, hs.hv i v hi hv1, ObR.of_row hm ⟨us, ?_, ?_, RL_keep hs.keeps hs.hv _ _ hl⟩⟩
  · simp only [Ob.kill, AV.killL_map, List.length_map]
    exact ownsRow_of_block hr fun b hb => hrow v b hv1 (by rw [blk_row hr]; exact hb)
  · intro x hx
    simp only [Ob.kill, AV.killL_map, List.mem_map] at hx
    obtain ⟨y, hy, rfl⟩ := hx
    rw [AV.size_kill]
    exact hsz y hy

/-- all own rows are kept. -/
theorem mem_keep (hM : MemR A w hv M) (hb : Bel w.heap.size w w') : MemR A w' hv M ∧ StepR A w hv [] w' hv := by
  have hs : StepR A w hv [] w' hv := ⟨⟨hb.size, fun b h _ => hb.block b h, fun _ _ h => h⟩, fun _ _ _ h => h, hb.os, hb.tape, hb.output, hb.drawn⟩
  refine ⟨⟨fun i ob h => ?_, hM.dom, hM.inj, fun b h => Nat.lt_of_lt_of_le (hM.old b h) hb.size, hs.gl hM.gl⟩, hs⟩
  obtain ⟨v, h1, h2, h3⟩ := live_step hM hs (fun v b h1 h2 => hb.block b (hM.own_lt ⟨i, v, h1, h2⟩)) (by simp) h
  rw [Ob.kill_nil] at h3
  exact ⟨v, h1, h3⟩

def hvAdd (hv : Nat → Option Value) (m : Nat) (v : Value) : Nat → Option Value := fun i => if i = m then some v else hv i

theorem hvAdd_self (m : Nat) (v : Value) : hvAdd hv m v m = some v := by simp [hvAdd]
theorem hvAdd_ne {m i : Nat} (v : Value) (h : i ≠ m) : hvAdd hv m v i = hv i := by simp [hvAdd, h]

theorem mem_none (hM : MemR A w hv M) {i : Nat} (h : M.length ≤ i) : hv i = none := by
  cases hh : hv i with
  | none => rfl
  | some v =>
    obtain ⟨ob, hob⟩ := hM.dom i v hh
    rw [List.getElem?_eq_none h] at hob
    cases hob

theorem own_add {m : Nat} {v : Value} {b : Nat} (hn : hv m = none) : Own (hvAdd hv m v) b ↔ Own hv b ∨ blk v = some b := by
  constructor
  · rintro ⟨i, u, hi, hu⟩
    by_cases h : i = m
    · subst h; rw [hvAdd_self] at hi; injection hi with hi; subst hi; exact .inr hu
    · rw [hvAdd_ne v h] at hi; exact .inl ⟨i, u, hi, hu⟩
  · rintro (⟨i, u, hi, hu⟩ | h)
    · exact ⟨i, u, by rw [hvAdd_ne v (by rintro rfl; rw [hn] at hi; cases hi)]; exact hi, hu⟩
    · exact ⟨m, v, hvAdd_self m v, h⟩

/-- a new object, in a new block (or none yet). -/
theorem mem_add (hM : MemR A w hv M) (hb : Bel w.heap.size w w') {ob : Ob} {v : Value} (hnew : ∀ b, blk v = some b → w.heap.size ≤ b)
    (hob : StepR A w hv [] w' (hvAdd hv M.length v) → ObR w' (OwnA A (hvAdd hv M.length v)) (hvAdd hv M.length v) ob v) :
    MemR A w' (hvAdd hv M.length v) (M ++ [some ob]) ∧ StepR A w hv [] w' (hvAdd hv M.length v) := by
  have hn := mem_none hM (Nat.le_refl M.length)
  have hs : StepR A w hv [] w' (hvAdd hv M.length v) := by
    refine ⟨⟨hb.size, fun b h _ => hb.block b h, fun b hlt h => ?_⟩, fun i u _ h => ?_, hb.os, hb.tape, hb.output, hb.drawn⟩
    · rcases (own_add hn).1 h with h | h
      · exact h
      · have := hnew b h; omega
    · rw [hvAdd_ne v (by rintro rfl; rw [hn] at h; cases h)]; exact h
  refine ⟨⟨fun i o h => ?_, fun i u h => ?_, fun i j vi vj b hi hj hbi hbj => ?_, fun b h => Nat.lt_of_lt_of_le (hM.old b h) hb.size, hs.gl hM.gl⟩, hs⟩
  · by_cases hi : i = M.length
    · subst hi
      simp at h
      subst h
      exact ⟨v, hvAdd_self _ _, hob hs⟩
    · have hlt : i < M.length := by
        rcases Nat.lt_or_ge i M.length with h' | h'
        · exact h'
        · rw [List.getElem?_eq_none (by simp; omega)] at h; cases h
      rw [List.getElem?_append_left hlt] at h
      obtain ⟨v, h1, h2, h3⟩ := live_step hM hs (fun v b h1 h2 => hb.block b (hM.own_lt ⟨i, v, h1, h2⟩)) (by simp) h
      rw [Ob.kill_nil] at h3
      exact ⟨v, h2, h3⟩
  · by_cases hi : i = M.length
    · subst hi; exact ⟨ob, by simp⟩
    · rw [hvAdd_ne v hi] at h
      obtain ⟨o, ho⟩ := hM.dom i u h
      exact ⟨o, by rw [List.getElem?_append_left (List.getElem?_eq_some_iff.1 ho).1]; exact ho⟩
  · by_cases h1 : i = M.length <;> by_cases h2 : j = M.length
    · omega
    · subst h1
      rw [hvAdd_self] at hi
      rw [hvAdd_ne v h2] at hj
      injection hi with hi
      subst hi
      have := hM.own_lt ⟨j, vj, hj, hbj⟩
      have := hnew b hbi
      omega
    · subst h2
      rw [hvAdd_self] at hj
      rw [hvAdd_ne v h1] at hi
      injection hj with hj
      subst hj
      have := hM.own_lt ⟨i, vi, hi, hbi⟩
      have := hnew b hbj
      omega
    · rw [hvAdd_ne v h1] at hi
      rw [hvAdd_ne v h2] at hj
      exact hM.inj i j vi vj b hi hj hbi hbj

/-- a pure value says the same of every naming of the objects. -/
theorem R_pure : ∀ (a : AV) {T : Nat → Prop} (hv hv' : Nat → Option Value) (us : List Value), a.pure = true → R w T hv a us → R w T hv' a us := by
  intro a T
  refine AV.rec (motive_1 := fun a => ∀ hv hv' us, a.pure = true → R w T hv a us → R w T hv' a us) (motive_2 := fun l => ∀ hv hv' us, AV.pureL l = true → RL w T hv l us → RL w T hv' l us)
    ?_ ?_ ?_ ?_ ?_ ?_ ?_ ?_ ?_ ?_ ?_ a
  · intro hv hv' us hp h; simpa only [R] using h
  · intro x hv hv' us hp h; simpa only [R] using h
  · intro k xs _ hv hv' us hp h; simpa only [R] using h
  · intro xs ih hv hv' us hp h; simp only [R, AV.pure] at *; exact ih _ _ _ hp h
  · intro xs _ hv hv' us hp h; simp [R] at h
  · intro x off _ hv hv' us hp h; simpa only [R] using h
  · intro i hv hv' us hp h; simp [AV.pure] at hp
  · intro i k j off hv hv' us hp h; simp [AV.pure] at hp
  · intro fn cap ih hv hv' us hp h
    simp only [R, AV.pure] at *
    obtain ⟨cs, h1, h2, h3⟩ := h
    exact ⟨cs, h1, h2, ih _ _ _ hp h3⟩
  · intro hv hv' us hp h; simpa only [RL] using h
  · intro x xs ih1 ih2 hv hv' us hp h
    simp only [RL, AV.pureL, Bool.and_eq_true] at *
    obtain ⟨u1, u2, rfl, h1, h2⟩ := h
    exact ⟨u1, u2, rfl, ih1 _ _ _ hp.1 h1, ih2 _ _ _ hp.2 h2⟩
theorem RV_pure {T : Nat → Prop} (a : AV) (hv hv' : Nat → Option Value) (v : Value) (hp : a.pure = true) (h : RV w T hv a v) : RV w T hv' a v := by
  revert hp h
  refine AV.rec (motive_1 := fun a => ∀ v, a.pure = true → RV w T hv a v → RV w T hv' a v) (motive_2 := fun l => ∀ vs, AV.pureL l = true → RVL w T hv l vs → RVL w T hv' l vs)
    ?_ ?_ ?_ ?_ ?_ ?_ ?_ ?_ ?_ ?_ ?_ a v
  · intro v _ _; simp [RV]
  · intro x v _ h; simpa only [RV] using h
  · intro k xs _ v hp h; have := R_pure (.s k xs) hv hv' [v] hp (by simpa only [RV] using h); simpa only [RV] using this
  · intro xs _ v hp h
    simp only [RV, AV.pure] at *
    obtain ⟨cs, rfl, h⟩ := h
    refine ⟨cs, rfl, ?_⟩
    have := R_pure (.g xs) hv hv' cs.toList (by simpa only [AV.pure] using hp) (by simpa only [R] using h)
    simpa only [R] using this
  · intro xs ih v hp h
    simp only [RV, AV.pure] at *
    obtain ⟨vs, rfl, h⟩ := h
    exact ⟨vs, rfl, ih _ hp h⟩
  · intro x off _ v hp h; have := R_pure (.p x off) hv hv' [v] hp (by simpa only [RV] using h); simpa only [RV] using this
  · intro i v hp h; simp [AV.pure] at hp
  · intro i k j off v hp h; simp [AV.pure] at hp
  · intro fn cap _ v hp h; have := R_pure (.f fn cap) hv hv' [v] hp (by simpa only [RV] using h); simpa only [RV] using this
  · intro vs _ h; simpa only [RVL] using h
  · intro x xs ih1 ih2 vs hp h
    simp only [RVL, AV.pureL, Bool.and_eq_true] at *
    obtain ⟨u, us, rfl, h1, h2⟩ := h
    exact ⟨u, us, rfl, ih1 u hp.1 h1, ih2 us hp.2 h2⟩
theorem RVL_pure {T : Nat → Prop} : ∀ (l : List AV) (hv hv' : Nat → Option Value) (us : List Value), AV.pureL l = true → RVL w T hv l us → RVL w T hv' l us
  | [], hv, hv', us, hp, h => by simpa only [RVL] using h
  | x :: xs, hv, hv', us, hp, h => by
    simp only [RVL, AV.pureL, Bool.and_eq_true] at *
    obtain ⟨u, u2, rfl, h1, h2⟩ := h
    exact ⟨u, u2, rfl, RV_pure x _ _ _ hp.1 h1, RVL_pure xs _ _ _ hp.2 h2⟩
theorem RL_pure {T : Nat → Prop} : ∀ (l : List AV) (hv hv' : Nat → Option Value) (us : List Value), AV.pureL l = true → RL w T hv l us → RL w T hv' l us
  | [], hv, hv', us, hp, h => by simpa only [RL] using h
  | x :: xs, hv, hv', us, hp, h => by
    simp only [RL, AV.pureL, Bool.and_eq_true] at *
    obtain ⟨u1, u2, rfl, h1, h2⟩ := h
    exact ⟨u1, u2, rfl, R_pure x _ _ _ hp.1 h1, RL_pure xs _ _ _ hp.2 h2⟩
end

/-- what holds behind an operation. -/
def After (A : Nat → Prop) (o : Oper) (a : Act) (w : World) (hv : Nat → Option Value) (K : Kont) : Act → World → Prop := fun a' w' =>
  ∃ r Z M' hv' v, K r Z M' ∧ a' = a.put o.dst v ∧ MemR A w' hv' M' ∧ RV w' (OwnA A hv') hv' r v ∧ StepR A w hv Z w' hv'

section
variable {A : Nat → Prop} {P : Program} {o : Oper} {a : Act} {w : World} {hv : Nat → Option Value} {M : Mem} {K : Kont} {Q : Exit → Act → World → Prop}

theorem wp_value {next : Act → World → Prop} {v : Value} {w' : World} (h : (execOp a.eval o).run P w = .ok (.value v) w') (hp : next (a.put o.dst v) w') : o.wp P a w next Q := by
  unfold Oper.wp; rw [h]; exact hp
theorem wp_skip' {next : Act → World → Prop} {w' : World} (h : (execOp a.eval o).run P w = .ok .skip w') (hp : next (a.put o.dst undef) w') : o.wp P a w next Q := by
  unfold Oper.wp; rw [h]; exact hp

/-- an operation that makes no memory. -/
theorem after_same {v : Value} {r : AV} (h : (execOp a.eval o).run P w = .ok (.value v) w) (hM : MemR A w hv M) (hr : RV w (OwnA A hv) hv r v) (hK : K r [] M) : o.wp P a w (After A o a w hv K) Q :=
  wp_value h ⟨r, [], M, hv, v, hK, rfl, hM, hr, StepR.refl A w hv⟩
end

end Aw
end Go.Proofs.YtndniceeibflcaaGreatDoor

namespace Go.Proofs.YtndniceeibflcaaGreatDoor
namespace Aw
open Go.RowKit

section
variable {A : Nat → Prop} {P : Program} {w : World} {T : Nat → Prop} {hv : Nat → Option Value}

theorem tiOf_spec {t : TypeId} {ti : TI} (h : tiOf P t = some ti) : ∃ i d z, P.info? t = some i ∧ P.underlying t = some d ∧ i.zero = some z ∧ z.cells.size = i.size ∧ (∀ u ∈ z.cells.toList, u.oneCell' = true) ∧
    ti.agg = (match d with | .struct _ | .array _ _ => true | _ => false) ∧ ti.size = i.size ∧ ti.bytes = i.bytes ∧ ti.zero = z.cells.toList ∧
    ti.elem = (match d with | .slice e => some e | _ => none) ∧ ti.arr = (match d with | .array n e => some (n, e) | _ => none) ∧
    ti.flds = (match d with | .struct fs => fs.toList.map fun f => (f.offset, P.cellsOf f.type) | _ => []) ∧
    ti.ftys = (match d with | .struct fs => fs.toList.map fun f => f.type | _ => []) ∧ ti.bool = (match d with | .bool => true | _ => false) ∧ ti.eqn = eqnOf P t ∧ fldsKnown P d = true := by
  unfold tiOf at h
  split at h
  · rename_i i d hi hd
    split at h
    · rename_i z hz
      split at h
      · rename_i hc
        injection h with h
        subst h
        simp only [Bool.and_eq_true, decide_eq_true_eq, List.all_eq_true] at hc
        exact ⟨i, d, z, hi, hd, hz, hc.1.1, hc.1.2, rfl, rfl, rfl, rfl, rfl, rfl, rfl, rfl, rfl, rfl, hc.2⟩
      · cases h
    · cases h
  · cases h

theorem ti_str {t : TypeId} {ti : TI} (h : tiOf P t = some ti) (hs : ti.str = true) : P.underlying t = some .string := by
  unfold tiOf at h
  split at h
  · rename_i i d hi hd
    split at h
    · split at h
      · injection h with h
        subst h
        simp only at hs
        cases d <;> simp at hs
        exact hd
      · cases h
    · cases h
  · cases h

theorem ti_elem {t e : TypeId} {ti : TI} (h : tiOf P t = some ti) (he : ti.elem = some e) : P.underlying t = some (.slice e) := by
  obtain ⟨i, d, z, _, hd, _, _, _, _, _, _, _, h1, _⟩ := tiOf_spec h
  rw [h1] at he
  cases d <;> simp at he
  subst he
  exact hd

theorem ti_size {t : TypeId} {ti : TI} (h : tiOf P t = some ti) (w : World) : (sizeOf t).run P w = .ok ti.size w := by
  obtain ⟨i, d, z, hi, _, _, _, _, _, h1, _⟩ := tiOf_spec h
  simp [sizeOf, typeInfo, hi, h1]

theorem ti_agg {t : TypeId} {ti : TI} (h : tiOf P t = some ti) (w : World) : (isAgg t).run P w = .ok ti.agg w := by
  obtain ⟨i, d, z, _, hd, _, _, _, h1, _⟩ := tiOf_spec h
  simp only [isAgg, Sem.run_bind, run_underlying hd, Result.andThen_ok, h1]
  cases d <;> rfl

theorem ti_arr {t e : TypeId} {n : Nat} {ti : TI} (h : tiOf P t = some ti) (he : ti.arr = some (n, e)) : P.underlying t = some (.array n e) := by
  obtain ⟨i, d, z, _, hd, _, _, _, _, _, _, _, _, h1, _⟩ := tiOf_spec h
  rw [h1] at he
  cases d <;> simp at he
  obtain ⟨rfl, rfl⟩ := he
  exact hd

theorem ti_fld {t : TypeId} {f fo fs : Nat} {ti : TI} (h : tiOf P t = some ti) (hf : ti.flds[f]? = some (fo, fs)) :
    ∃ Fs : Array Field, ∃ F : Field, P.underlying t = some (.struct Fs) ∧ Fs[f]? = some F ∧ F.offset = fo ∧ P.cellsOf F.type = fs := by
  obtain ⟨i, d, z, _, hd, _, _, _, _, _, _, _, _, _, h1, _⟩ := tiOf_spec h
  rw [h1] at hf
  cases d with
  | struct Fs =>
    simp only [List.getElem?_map, Array.getElem?_toList] at hf
    cases hF : Fs[f]? with
    | none => rw [hF] at hf; simp at hf
    | some F => rw [hF] at hf; simp at hf; exact ⟨Fs, F, hd, hF, hf.1, hf.2⟩
  | _ => simp at hf

theorem ti_fty {t ft : TypeId} {f fo fs : Nat} {ti : TI} (h : tiOf P t = some ti) (hf : ti.flds[f]? = some (fo, fs)) (hg : ti.ftys[f]? = some ft) :
    ∃ Fs : Array Field, ∃ F : Field, P.underlying t = some (.struct Fs) ∧ Fs[f]? = some F ∧ F.offset = fo ∧ F.type = ft := by
  obtain ⟨Fs, F, hu, hF, h1, _⟩ := ti_fld h hf
  obtain ⟨i, d, z, _, hd, _, _, _, _, _, _, _, _, _, _, h2, _⟩ := tiOf_spec h
  rw [hd] at hu
  injection hu with hu
  subst hu
  rw [h2] at hg
  simp only [List.getElem?_map, Array.getElem?_toList, hF, Option.map_some, Option.some.injEq] at hg
  exact ⟨Fs, F, hd, hF, h1, hg⟩

theorem part_ok {t : TypeId} {ti : TI} {xs : List AV} {r : AV} {off : Nat} {cs : Array Value} (ht : tiOf P t = some ti) (hy : RL w T hv xs cs.toList) (hl : loadA ti (.g xs) off = some r) :
    ∃ u, (part t cs off).run P w = .ok u w ∧ RV w T hv r u := by
  unfold loadA at hl
  split at hl
  · cases hl
  rename_i hflat
  have hf : (AV.g xs).flat = true := by simpa using hflat
  have hs : ∀ x ∈ xs, x.size = 1 := flat_size hf
  simp only [part, Sem.run_bind, ti_agg ht, Result.andThen_ok]
  have hwl : cs.size = xs.length := by have := RL_len xs _ hs hy; simpa using this
  split at hl
  · rename_i hag
    simp only [hag, if_true, Sem.run_bind, ti_size ht, Result.andThen_ok, Sem.run_pure]
    refine ⟨_, rfl, ?_⟩
    simp only at hl
    split at hl
    · rename_i hh
      simp only [Bool.and_eq_true, beq_iff_eq] at hh
      injection hl with hl
      subst hl
      simp only [RV]
      refine ⟨_, rfl, ?_⟩
      rw [hh.1, ← hh.2, Nat.zero_add, ← hwl]
      simpa using hy
    · split at hl
      · rename_i hh
        simp only [decide_eq_true_eq] at hh
        injection hl with hl
        subst hl
        have h1 := RL_take (n := ti.size) (fun x hx => hs x (List.mem_of_mem_drop hx)) (RL_drop hs hy off)
        simp only [Nat.mul_one] at h1
        simp only [RV]
        refine ⟨_, rfl, ?_⟩
        have : (cs.extract off (off + ti.size)).toList = (cs.toList.drop off).take ti.size := by simp [List.extract_eq_take_drop]
        rw [this]; exact h1
      · cases hl
  · rename_i hag
    simp only [hag]
    obtain ⟨u, hu, hR⟩ := cell_at hs hy hl
    have hu' : cs[off]? = some u := by simpa using hu
    refine ⟨u, by simp [hu'], R_RV ?_ hR⟩
    simp only [AV.flat, AV.cells, List.all_eq_true] at hf
    exact hf r (List.mem_of_getElem? hl)

theorem run_sizeOf' {t : TypeId} {n : Nat} (h : P.cellsOf t = n) (hn : n ≠ 0) (w : World) : (sizeOf t).run P w = .ok n w := by
  unfold Program.cellsOf at h
  cases hi : P.info? t with
  | none => rw [hi] at h; simp at h; omega
  | some i => rw [hi] at h; simp at h; simp [sizeOf, typeInfo, hi, h]

theorem load_ok {t : TypeId} {ti : TI} {y r : AV} {off b o : Nat} {ws : List Value} (ht : tiOf P t = some ti) (hy : R w T hv y ws) (hc : ∀ j u, ws[j]? = some u → w.cell? ⟨b, o + j, none⟩ = some u)
    (hl : loadA ti y off = some r) : ∃ u, (loadVar t ⟨b, o + off, none⟩).run P w = .ok u w ∧ RV w T hv r u := by
  unfold loadA at hl
  split at hl
  · cases hl
  rename_i hflat
  have hf : y.flat = true := by simpa using hflat
  have hL := (R_cells hf).1 hy
  have hs := flat_size hf
  simp only [loadVar, Sem.run_bind, ti_agg ht, Result.andThen_ok]
  split at hl
  · rename_i hag
    simp only [hag, if_true, Sem.run_bind, ti_size ht, Result.andThen_ok]
    have key : ∀ (zs : List AV) (n : Nat), zs = (y.cells.drop off).take n → n = ti.size → off + n ≤ y.cells.length → ∃ u, ((loadCells ⟨b, o + off, none⟩ ti.size).run P w).andThen (fun a w' => (pure (Value.agg a) : Sem Value).run P w') = .ok u w ∧ RV w T hv (.g zs) u := by
      intro zs n hz hn hlen
      have h1 := RL_take (n := n) (fun x hx => hs x (List.mem_of_mem_drop hx)) (RL_drop hs hL off)
      simp only [Nat.mul_one] at h1
      have hwl : ws.length = y.cells.length := by have := RL_len y.cells ws hs hL; omega
      have h2 := run_loadCells_list (P := P) w ⟨b, o + off, none⟩ ((ws.drop off).take n) (fun j v hj => by
        rw [Addr.add_lit]
        rw [List.getElem?_take] at hj
        split at hj
        · rw [List.getElem?_drop] at hj
          have := hc _ _ hj
          rw [← Nat.add_assoc] at this
          exact this
        · cases hj)
      have hlen2 : ((ws.drop off).take n).length = ti.size := by simp; omega
      rw [hlen2] at h2
      refine ⟨_, by rw [h2]; rfl, ?_⟩
      simp only [RV]
      exact ⟨_, rfl, by rw [hz]; exact h1⟩
    split at hl
    · rename_i xs
      split at hl
      · rename_i hh
        simp only [Bool.and_eq_true, beq_iff_eq] at hh
        injection hl with hl
        subst hl
        exact key xs ti.size (by simp only [AV.cells]; rw [hh.1, ← hh.2]; simp) rfl (by simp only [AV.cells]; omega)
      · split at hl
        · rename_i hh
          simp only [decide_eq_true_eq] at hh
          injection hl with hl
          subst hl
          exact key _ ti.size rfl rfl (by simp only [AV.cells]; exact hh)
        · cases hl
    · cases hl
  · rename_i hag
    simp only [hag]
    obtain ⟨u, hu, hR⟩ := cell_at hs hL hl
    have hcell := hc off u hu
    refine ⟨u, by simp [load, Sem.run, hcell], R_RV ?_ hR⟩
    simp only [AV.flat, List.all_eq_true] at hf
    exact hf r (List.mem_of_getElem? hl)

theorem putsA_len : ∀ (l cs : List AV) (off : Nat), (putsA cs off l).length = cs.length
  | [], cs, off => rfl
  | x :: l, cs, off => by simp [putsA, putsA_len l]

theorem putsA_RL : ∀ (l cs : List AV) (off : Nat) (us vs : List Value), (∀ x ∈ cs, x.size = 1) → (∀ x ∈ l, x.size = 1) → RL w T hv cs us → RL w T hv l vs → off + l.length ≤ cs.length →
    RL w T hv (putsA cs off l) (us.take off ++ vs ++ us.drop (off + vs.length)) ∧ ∀ x ∈ putsA cs off l, x.size = 1
  | [], cs, off, us, vs, h1, _, h3, h4, _ => by
    simp only [RL] at h4
    subst h4
    simp only [putsA, List.append_nil, List.length_nil, Nat.add_zero, List.take_append_drop]
    exact ⟨h3, h1⟩
  | x :: l, cs, off, us, vs, h1, h2, h3, h4, h5 => by
    simp only [RL] at h4
    obtain ⟨u1, u2, rfl, h6, h7⟩ := h4
    have hx1 := R_size x hv u1 h6
    rw [h2 x List.mem_cons_self] at hx1
    match u1, hx1 with
    | [u], _ =>
      simp only [List.length_cons] at h5
      have h8 := RL_set h1 h3 (i := off) (by omega) h6
      have hul : us.length = cs.length := by have := RL_len cs us h1 h3; omega
      have h9 := putsA_RL l (cs.set off x) (off + 1) (us.set off u) u2 (fun y hy => by
        rcases List.mem_or_eq_of_mem_set hy with hy | rfl
        · exact h1 y hy
        · exact h2 _ List.mem_cons_self) (fun y hy => h2 y (List.mem_cons_of_mem _ hy)) h8 h7 (by simp; omega)
      simp only [putsA]
      refine ⟨?_, h9.2⟩
      have e : (us.set off u).take (off + 1) ++ u2 ++ (us.set off u).drop (off + 1 + u2.length) = us.take off ++ ([u] ++ u2) ++ us.drop (off + ([u] ++ u2).length) := by
        have e1 : (us.set off u).take (off + 1) = us.take off ++ [u] := by
          have hl : (us.take off).length = off := by simp; omega
          rw [List.set_eq_take_append_cons_drop, if_pos (by omega), List.take_append, hl, List.take_of_length_le (by omega)]
          simp
        have e2 : (us.set off u).drop (off + 1 + u2.length) = us.drop (off + ([u] ++ u2).length) := by
          rw [List.drop_set_of_lt (by omega)]
          congr 1
          simp
          omega
        rw [e1, e2]
        simp
      rw [← e]
      exact h9.1
end

end Aw
end Go.Proofs.YtndniceeibflcaaGreatDoor

namespace Go.Proofs.YtndniceeibflcaaGreatDoor
namespace Aw
open Go.RowKit

section
variable {A : Nat → Prop} {P : Program} {w : World} {hv : Nat → Option Value} {M : Mem}

theorem obR_row {T : Nat → Prop} {ob : Ob} {v : Value} (h0 : ObR w T hv ob v) (hm : ob.mp = none) (hne : ob.xs ≠ []) : ∃ g cap cur us, v = .slice (some ⟨g, 0, none⟩) ob.xs.length cap ∧ w.heap[g]? = some (.cells cur ob.ty (0, 0)) ∧ ob.xs.length ≤ cap ∧ cap ≤ maxLen ∧
    cur.size = cap * ob.k ∧ cur.toList.take (ob.xs.length * ob.k) = us ∧ (∀ x ∈ ob.xs, x.size = ob.k) ∧ RL w T hv ob.xs us ∧ us.length = ob.xs.length * ob.k := by
  obtain ⟨us, hr, hs, hl⟩ := h0.row hm
  rcases hr.2 with ⟨_, h0⟩ | ⟨g, cap, cur, rfl, _, h1, h2, h3, h4, h5⟩
  · exact absurd (List.eq_nil_of_length_eq_zero h0) hne
  · exact ⟨g, cap, cur, us, rfl, h1, h2, h3, h4, h5, hs, hl, RL_len ob.xs us hs hl⟩

/-- the cells of an element of an object, as they lie. -/
theorem ob_cells {T : Nat → Prop} {ob : Ob} {v : Value} (h : ObR w T hv ob v) (hm : ob.mp = none) {j : Nat} (hj : j < ob.xs.length) : ∃ g cap ws, v = .slice (some ⟨g, 0, none⟩) ob.xs.length cap ∧ R w T hv (ob.xs.getD j .bot) ws ∧
    ∀ i u, ws[i]? = some u → w.cell? ⟨g, j * ob.k + i, none⟩ = some u := by
  obtain ⟨g, cap, cur, us, rfl, h1, h2, h3, h4, h5, h6, h7, h8⟩ := obR_row h hm (by intro e; rw [e] at hj; simp at hj)
  obtain ⟨u1, u2, u3, e, e1, e2, e3, _⟩ := RL_at h6 h7 (List.getElem?_eq_getElem hj)
  refine ⟨g, cap, u2, rfl, by rw [List.getD_eq_getElem?_getD, List.getElem?_eq_getElem hj]; exact e2, fun i u hu => ?_⟩
  rw [cell_of_row w g _ cur ob.ty (0, 0) h1]
  have hi : i < u2.length := (List.getElem?_eq_some_iff.1 hu).1
  have : us[j * ob.k + i]? = some u := by
    rw [e, List.append_assoc, List.getElem?_append_right (by omega), List.getElem?_append_left (by omega), e1]
    simpa using hu
  rw [← h5, List.getElem?_take] at this
  split at this
  · simpa using this
  · cases this

theorem storeA_ok {T : Nat → Prop} {ti : TI} {x y r : AV} {off : Nat} {us : List Value} {v : Value} (hx : R w T hv x us) (hy : RV w T hv y v) (h : storeA ti x off y = some r) :
    off + ti.size ≤ us.length ∧ v.cells.size = ti.size ∧ (∀ u ∈ v.cells.toList, u.oneCell' = true) ∧ R w T hv r (us.take off ++ v.cells.toList ++ us.drop (off + ti.size)) ∧ r.size = x.size := by
  unfold storeA at h
  split at h
  · rename_i hc
    simp only [Bool.and_eq_true, beq_iff_eq, decide_eq_true_eq] at hc
    obtain ⟨⟨⟨⟨h1, h2⟩, h3⟩, h5⟩, h6⟩ := hc
    have hyc := RV_R h3 hy
    have hyl := (R_cells h2).1 hyc
    have hxl := (R_cells h1).1 hx
    have l1 := RL_len _ _ (flat_size h2) hyl
    have l2 := RL_len _ _ (flat_size h1) hxl
    simp only [Nat.mul_one] at l1 l2
    have hp := putsA_RL y.cells x.cells off us v.cells.toList (flat_size h1) (flat_size h2) hxl hyl (by omega)
    have e : v.cells.toList.length = ti.size := by omega
    rw [e] at hp
    have hsz : v.cells.size = ti.size := by simpa using e
    have sizeL1 : ∀ l : List AV, (∀ z ∈ l, z.size = 1) → AV.sizeL l = l.length := by
      intro l
      induction l with
      | nil => intro _; rfl
      | cons z l ih => intro hz; simp [AV.sizeL, hz z List.mem_cons_self, ih fun q hq => hz q (List.mem_cons_of_mem _ hq)]; omega
    refine ⟨by omega, hsz, R_one _ _ _ hyc, ?_⟩
    have hpl := putsA_len y.cells x.cells off
    have hp0 := hp
    have hx0 := hx
    generalize hq : putsA x.cells off y.cells = q at hp hpl
    cases x with
    | g xs =>
      subst hq
      simp only [Option.some.injEq] at h
      subst h
      refine ⟨by simpa [R, AV.cells] using hp.1, ?_⟩
      have hp2 : ∀ x ∈ putsA xs off y.cells, x.size = 1 := hp.2
      have hx2 : ∀ x ∈ xs, x.size = 1 := flat_size h1
      simp only [AV.size]
      rw [sizeL1 _ hp2, putsA_len, sizeL1 _ hx2]
    | t xs => simp [AV.flat, AV.cells, AV.single] at h1
    | _ =>
      simp only at h
      rw [hq] at h
      match q, h, hp, hpl with
      | [z], h, hp, _ =>
        simp only [List.head?_cons, Option.some.injEq] at h
        subst h
        refine ⟨?_, by rw [hp.2 z (by simp)]; rfl⟩
        have := hp.1
        simp only [RL] at this
        obtain ⟨u1, u2, e, h7, rfl⟩ := this
        rw [List.append_nil] at e
        rw [e]; exact h7
  · cases h

theorem setOb_get (M : Mem) (id i : Nat) (o : Option Ob) (hid : id < M.length) : (M.set id o)[i]? = if i = id then some o else M[i]? := by
  rw [List.getElem?_set]
  by_cases h : i = id
  · subst h; simp [hid]
  · rw [if_neg (Ne.symm h), if_neg h]

/-- cells of an object are written over. -/
theorem cells_ok {id j off : Nat} {r : AV} {ob : Ob} {b n c : Nat} {cs : List Value} (hM : MemR A w hv M) (hid : M[id]? = some (some ob)) (hj : j < ob.xs.length) (hb : hv id = some (.slice (some ⟨b, 0, none⟩) n c))
    (hone : ∀ u ∈ cs, u.oneCell' = true)
    (hr : ∀ us, R w (OwnA A hv) hv (ob.xs.getD j .bot) us → off + cs.length ≤ us.length ∧ R w (OwnA A hv) hv r (us.take off ++ cs ++ us.drop (off + cs.length)) ∧ r.size = (ob.xs.getD j .bot).size) :
    ∃ w', (storeCells ⟨b, j * ob.k + off, none⟩ cs).run P w = .ok () w' ∧ MemR A w' hv (M.set id (some { ob with xs := ob.xs.set j r })) ∧ StepR A w hv [] w' hv := by
  obtain ⟨v0, hv0, hob⟩ := hM.live id ob hid
  rw [hb] at hv0
  injection hv0 with hv0
  subst hv0
  obtain ⟨g, cap, cur, us, e0, h1, h2, h3, h4, h5, h6, h7, h8⟩ := obR_row hob hob.slice (by intro e; rw [e] at hj; simp at hj)
  simp only [Value.slice.injEq, Option.some.injEq, Addr.mk.injEq, and_true] at e0
  obtain ⟨rfl, rfl, rfl⟩ := e0
  obtain ⟨u1, u2, u3, e, e1, e2, e3, _⟩ := RL_at h6 h7 (List.getElem?_eq_getElem hj)
  have hgd : ob.xs.getD j .bot = ob.xs[j] := by rw [List.getD_eq_getElem?_getD, List.getElem?_eq_getElem hj]; rfl
  rw [hgd] at hr
  obtain ⟨s1, s4, s5⟩ := hr u2 e2
  have hcl : us.length ≤ cur.size := by rw [h8, h4]; exact Nat.mul_le_mul_right _ h2
  have hul : us.length = u1.length + u2.length + u3.length := by rw [e]; simp; omega
  have hrun := run_storeCells_at P b (j * ob.k + off) ob.ty cs 0 cur w h1 (by simp; omega) hone
  simp only [Nat.add_zero] at hrun
  refine ⟨_, hrun, ?_⟩
  have hs : StepR A w hv [] (w.setRow b (cur.toList.take (j * ob.k + off) ++ cs ++ cur.toList.drop (j * ob.k + off + cs.length)).toArray) hv :=
    ⟨⟨by simp, fun b' _ hT => setRow_other _ _ _ _ (by rintro rfl; exact hT ⟨id, _, hb, rfl⟩), fun _ _ h => h⟩, fun _ _ _ h => h, rfl, rfl, rfl, Nat.le_refl _⟩
  refine ⟨⟨fun i ob' h => ?_, fun i u h => ?_, hM.inj, fun b h => by have := hM.old b h; simpa using this, hs.gl hM.gl⟩, hs⟩
  · rw [setOb_get _ _ _ _ (List.getElem?_eq_some_iff.1 hid).1] at h
    by_cases hi : i = id
    · subst hi
      rw [if_pos rfl] at h
      simp only [Option.some.injEq] at h
      subst h
      have us' : (cur.toList.take (j * ob.k + off) ++ cs ++ cur.toList.drop (j * ob.k + off + cs.length)).take (ob.xs.length * ob.k) = us.take (j * ob.k) ++ (u2.take off ++ cs ++ u2.drop (off + cs.length)) ++ us.drop (j * ob.k + ob.k) := by
        have hu2 : u2.length = ob.k := e3
        apply List.ext_getElem?
        intro m
        have hcur : ∀ m, m < us.length → cur.toList[m]? = us[m]? := fun m hm => by rw [← h5, List.getElem?_take, if_pos (by omega)]
        have husm : ∀ m, m < ob.k → us[j * ob.k + m]? = u2[m]? := fun m hm => by
          rw [e, List.append_assoc, List.getElem?_append_right (by omega), List.getElem?_append_left (by omega), e1]; congr 1; omega
        have hsz : cur.toList.length = cur.size := by simp
        have hmul : j * ob.k + ob.k ≤ ob.xs.length * ob.k := by rw [← Nat.succ_mul]; exact Nat.mul_le_mul_right _ hj
        rw [List.getElem?_take]
        by_cases hm : m < ob.xs.length * ob.k
        · rw [if_pos hm]
          by_cases c1 : m < j * ob.k
          · rw [List.append_assoc, List.getElem?_append_left (by simp; omega), List.append_assoc, List.getElem?_append_left (by simp; omega), List.getElem?_take, List.getElem?_take, if_pos (by omega), if_pos c1, hcur m (by omega)]
          · obtain ⟨d, rfl⟩ : ∃ d, m = j * ob.k + d := ⟨m - j * ob.k, by omega⟩
            by_cases c2 : d < off
            · rw [List.append_assoc, List.getElem?_append_left (by simp; omega), List.append_assoc, List.getElem?_append_right (by simp; omega), List.append_assoc, List.append_assoc, List.getElem?_append_left (by simp; omega), List.getElem?_take, if_pos (by omega), hcur _ (by omega), husm d (by omega), List.getElem?_take]
              simp only [List.length_take]
              rw [show j * ob.k + d - min (j * ob.k) us.length = d by omega, if_pos c2]
            · by_cases c3 : d < off + cs.length
              · rw [List.append_assoc, List.getElem?_append_right (by simp; omega), List.getElem?_append_left (by simp; omega), List.append_assoc, List.getElem?_append_right (by simp; omega), List.append_assoc, List.append_assoc, List.getElem?_append_right (by simp; omega), List.getElem?_append_left (by simp; omega)]
                simp only [List.length_take]
                congr 1
                omega
              · by_cases c4 : d < ob.k
                · rw [List.getElem?_append_right (by simp; omega), List.getElem?_drop, List.append_assoc, List.getElem?_append_right (by simp; omega), List.getElem?_append_left (by simp; omega), List.getElem?_append_right (by simp; omega), List.getElem?_drop]
                  simp only [List.length_take, List.length_append]
                  rw [show j * ob.k + off + cs.length + (j * ob.k + d - (min (j * ob.k + off) cur.toList.length + cs.length)) = j * ob.k + d by omega, hcur _ (by omega), husm d c4]
                  congr 1
                  omega
                · rw [List.getElem?_append_right (by simp; omega), List.getElem?_drop, List.getElem?_append_right (by simp; omega), List.getElem?_drop]
                  simp only [List.length_take, List.length_append, List.length_drop]
                  rw [show j * ob.k + off + cs.length + (j * ob.k + d - (min (j * ob.k + off) cur.toList.length + cs.length)) = j * ob.k + d by omega, hcur _ (by omega)]
                  congr 1
                  omega
        · rw [if_neg hm, List.getElem?_eq_none]
          simp
          omega
      refine ⟨_, hb, ObR.of_row (ob := { ob with xs := ob.xs.set j r }) hob.slice ⟨us.take (j * ob.k) ++ (u2.take off ++ cs ++ u2.drop (off + cs.length)) ++ us.drop (j * ob.k + ob.k), ⟨?_, .inr ⟨b, c, _, ?_, Nat.zero_le _, setRow_heap w b cur _ ob.ty _ h1, ?_, h3, ?_, ?_⟩⟩, ?_, ?_⟩⟩
      · have hmul : j * ob.k + ob.k ≤ ob.xs.length * ob.k := by rw [← Nat.succ_mul]; exact Nat.mul_le_mul_right _ hj
        simp
        omega
      · simp
      · simpa using h2
      · simp
        omega
      · simp only [List.length_set]
        exact us'
      · intro x hx
        rcases List.mem_or_eq_of_mem_set hx with hx | rfl
        · exact h6 x hx
        · rw [s5]; exact h6 _ (List.getElem_mem hj)
      · have hset := RL_setAt h6 h7 hj s4
        have := RL_keep hs.keeps hs.hv _ _ hset
        rw [AV.killL_nil] at this
        exact this
    · rw [if_neg hi] at h
      obtain ⟨v1, h9, h10, h11⟩ := live_step hM hs (fun v' b' hi' hb' => setRow_other _ _ _ _ (by rintro rfl; exact hi (hM.inj i id _ _ _ hi' hb hb' rfl))) (by simp) h
      rw [Ob.kill_nil] at h11
      exact ⟨v1, h9, h11⟩
  · obtain ⟨o, ho⟩ := hM.dom i u h
    rw [setOb_get _ _ _ _ (List.getElem?_eq_some_iff.1 hid).1]
    by_cases hi : i = id
    · exact ⟨_, by rw [if_pos hi]⟩
    · exact ⟨o, by rw [if_neg hi]; exact ho⟩

theorem store_ok {t : TypeId} {ti : TI} {id k j off : Nat} {y r : AV} {ob : Ob} {ad v : Value} (ht : tiOf P t = some ti) (hM : MemR A w hv M) (hid : M[id]? = some (some ob)) (hk : ob.k = k) (hj : j < ob.xs.length)
    (ha : RV w (OwnA A hv) hv (.q id k j off) ad) (hy : RV w (OwnA A hv) hv y v) (hst : storeA ti (ob.xs.getD j .bot) off y = some r) :
    ∃ w', (Instr.storeAt t ad v).run P w = .ok () w' ∧ MemR A w' hv (M.set id (some { ob with xs := ob.xs.set j r })) ∧ StepR A w hv [] w' hv := by
  simp only [RV, R] at ha
  obtain ⟨b, n, c, hb, he⟩ := ha
  injection he with he
  subst he
  subst hk
  have hall : ∀ us, R w (OwnA A hv) hv (ob.xs.getD j .bot) us → off + ti.size ≤ us.length ∧ v.cells.size = ti.size ∧ (∀ u ∈ v.cells.toList, u.oneCell' = true) ∧ R w (OwnA A hv) hv r (us.take off ++ v.cells.toList ++ us.drop (off + ti.size)) ∧ r.size = (ob.xs.getD j .bot).size :=
    fun us hus => storeA_ok hus hy hst
  obtain ⟨v0, hv0, hob⟩ := hM.live id ob hid
  rw [hb] at hv0
  injection hv0 with hv0
  subst hv0
  obtain ⟨g, cap, ws, e2, e3, _⟩ := ob_cells hob hob.slice hj
  obtain ⟨_, s2, s3, _⟩ := hall ws e3
  have hl : v.cells.toList.length = ti.size := by simpa using s2
  obtain ⟨w', h1, h2, h3⟩ := cells_ok (P := P) (off := off) (r := r) (cs := v.cells.toList) hM hid hj hb s3 (fun us hus => by
    obtain ⟨t1, _, _, t4, t5⟩ := hall us hus
    rw [hl]
    exact ⟨t1, t4, t5⟩)
  refine ⟨w', ?_, h2, h3⟩
  simp only [Instr.storeAt, Sem.run_bind, Instr.sureAddr, Sem.run_pure, Result.andThen_ok, storeVar, ti_size ht, s2, ne_eq, not_true_eq_false, if_false]
  exact h1

end

end Aw
end Go.Proofs.YtndniceeibflcaaGreatDoor

namespace Go.Proofs.YtndniceeibflcaaGreatDoor
namespace Aw
open Go.RowKit

section
variable {A : Nat → Prop} {P : Program} {w : World} {hv : Nat → Option Value} {M : Mem} {T : Nat → Prop}

theorem getD_at {l : List AV} {i : Nat} (h : i < l.length) : l.getD i .bot = l[i] := by rw [List.getD_eq_getElem?_getD, List.getElem?_eq_getElem h]; rfl

theorem readable_sub {b off n : Nat} {u1 u2 u3 : List Value} (h : Readable w T (some ⟨b, off, none⟩) (u1 ++ u2 ++ u3)) (hn : u1.length = n) : Readable w T (some ⟨b, off + n, none⟩) u2 := by
  obtain ⟨b', off', e, hb, hT, hc⟩ := h
  injection e with e
  injection e with e1 e2
  subst e1; subst e2
  refine ⟨b, off + n, rfl, hb, hT, fun j u hu => ?_⟩
  have := hc (n + j) u (by rw [List.append_assoc, List.getElem?_append_right (by omega), List.getElem?_append_left (by have := (List.getElem?_eq_some_iff.1 hu).1; omega)]; rw [← hu]; congr 1; omega)
  rw [← Nat.add_assoc] at this
  exact this

end

end Aw
end Go.Proofs.YtndniceeibflcaaGreatDoor
