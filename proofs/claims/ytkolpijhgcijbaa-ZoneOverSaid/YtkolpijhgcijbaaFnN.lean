/-
  The places that are reached: what the walk says of them.
-/
import Derived.Test.YtkolpijhgcijbaaFnM
namespace Go.Proofs.Ytkolpijhgcijbaa
open Aw Go.RowKit
set_option linter.unusedSimpArgs false

/-- a place that was reached: from which one (its key), by which move, after how many. -/
structure Nd where
  pl : List Int
  fr : List Int
  mv : Int × Int
  far : Int

def pls (L : List Nd) : List (List Int) := L.map Nd.pl
def addN (L : List Nd) (x : Nd) : List Nd := if x.pl ∈ pls L then L else L ++ [x]
def nxt (p : List Int) (m : Int × Int) : List Int := p.set m.1.toNat m.2
/-- a place is visited. -/
def visN (p : List Int) (d : Int) (L : List Nd) (ms : List (Int × Int)) : List Nd := ms.foldl (fun L m => addN L ⟨nxt p m, padL p, m, d + 1⟩) L

theorem visN_succ (p : List Int) (d : Int) (L : List Nd) (ms : List (Int × Int)) {k : Nat} (h : k < ms.length) : visN p d L (ms.take (k + 1)) = addN (visN p d L (ms.take k)) ⟨nxt p ms[k], padL p, ms[k], d + 1⟩ := by
  unfold visN; rw [List.take_succ_eq_append_getElem h, List.foldl_append]; rfl
theorem addN_ext (L : List Nd) (x : Nd) : ∃ E, addN L x = L ++ E := by
  unfold addN; split
  · exact ⟨[], by simp⟩
  · exact ⟨[x], rfl⟩
theorem visN_ext (p : List Int) (d : Int) : ∀ (ms : List (Int × Int)) (L : List Nd), ∃ E, visN p d L ms = L ++ E ∧ E.length ≤ ms.length
  | [], L => ⟨[], by simp [visN], by simp⟩
  | m :: ms, L => by
    obtain ⟨E, h1, h2⟩ := visN_ext p d ms (addN L ⟨nxt p m, padL p, m, d + 1⟩)
    have e : visN p d L (m :: ms) = visN p d (addN L ⟨nxt p m, padL p, m, d + 1⟩) ms := rfl
    rw [e, h1]
    unfold addN
    split
    · exact ⟨E, rfl, by simp; omega⟩
    · exact ⟨⟨nxt p m, padL p, m, d + 1⟩ :: E, by simp, by simp; omega⟩

def okPl (n : Int) (k : Nat) (p : List Int) : Prop := p.length = k ∧ ∀ x ∈ p, 0 ≤ x ∧ x < n

structure InvN (n : Int) (k : Nat) (L : List Nd) : Prop where
  pl : ∀ x ∈ L, okPl n k x.pl
  fr : ∀ x ∈ L, ∃ a b c d, x.fr = [a, b, c, d] ∧ lim a ∧ lim b ∧ lim c ∧ lim d
  far0 : ∀ x ∈ L, 0 ≤ x.far
  far : ∀ (i : Nat) (h : i < L.length), L[i].far ≤ i
  nd : (pls L).Nodup

theorem padL_at {l : List Int} (h : l.length ≤ 4) : (padL l).take l.length = l := by
  unfold padL
  rw [List.take_take, Nat.min_eq_left h, List.take_left']
  rfl
theorem padL_inj {l m : List Int} (hl : l.length = m.length) (h4 : l.length ≤ 4) (h : padL l = padL m) : l = m := by
  rw [← padL_at h4, h, hl, padL_at (by omega)]
theorem padL_lim {n : Int} (hn : n ≤ 6) {k : Nat} {p : List Int} (h : okPl n k p) : ∃ a b c d, padL p = [a, b, c, d] ∧ lim a ∧ lim b ∧ lim c ∧ lim d := by
  have hm : ∀ x ∈ padL p, lim x := fun x hx => by
    have := List.mem_of_mem_take hx
    rcases List.mem_append.1 this with h1 | h1
    · have := h.2 x h1; unfold lim; omega
    · simp at h1; subst h1; unfold lim; omega
  match hq : padL p, padL_len p with
  | [a, b, c, d], _ =>
    rw [hq] at hm
    exact ⟨a, b, c, d, rfl, hm a (by simp), hm b (by simp), hm c (by simp), hm d (by simp)⟩

theorem InvN.add {n : Int} (hn : n ≤ 6) {k : Nat} {L : List Nd} (h : InvN n k L) {p : List Int} {m : Int × Int} {d : Int} {i : Nat} (hi : i < L.length) (hd : L[i].far = d) (hp : okPl n k p) (hq : okPl n k (nxt p m)) : InvN n k (addN L ⟨nxt p m, padL p, m, d + 1⟩) := by
  unfold addN
  split
  · exact h
  · rename_i hno
    have hf := h.far i hi
    have hf0 := h.far0 L[i] (List.getElem_mem hi)
    refine ⟨fun x hx => ?_, fun x hx => ?_, fun x hx => ?_, fun j hj => ?_, ?_⟩
    · rcases List.mem_append.1 hx with hx | hx
      · exact h.pl x hx
      · simp at hx; subst hx; exact hq
    · rcases List.mem_append.1 hx with hx | hx
      · exact h.fr x hx
      · simp at hx; subst hx; exact padL_lim hn hp
    · rcases List.mem_append.1 hx with hx | hx
      · exact h.far0 x hx
      · simp at hx; subst hx; simp only; omega
    · rcases Nat.lt_or_ge j L.length with hlt | hge
      · rw [List.getElem_append_left hlt]; exact h.far j hlt
      · simp at hj
        obtain rfl : j = L.length := by omega
        simp only [List.getElem_append_right (Nat.le_refl _), Nat.sub_self, List.getElem_cons_zero]
        omega
    · simp only [pls, List.map_append, List.map_cons, List.map_nil]
      rw [List.nodup_append]
      refine ⟨h.nd, by simp, fun a ha b hb e => ?_⟩
      simp at hb
      subst hb; subst e
      exact hno ha

theorem visN_inv {n : Int} (hn : n ≤ 6) {k : Nat} {p : List Int} {d : Int} {i : Nat} (hp : okPl n k p) : ∀ (ms : List (Int × Int)) (L : List Nd), InvN n k L → (∃ h : i < L.length, L[i].far = d) → (∀ m ∈ ms, okPl n k (nxt p m)) → InvN n k (visN p d L ms)
  | [], L, h, _, _ => h
  | m :: ms, L, h, ⟨hi, hd⟩, hms => by
    have e : visN p d L (m :: ms) = visN p d (addN L ⟨nxt p m, padL p, m, d + 1⟩) ms := rfl
    rw [e]
    refine visN_inv (i := i) hn hp ms _ (h.add hn hi hd hp (hms m (by simp))) ?_ fun m' hm' => hms m' (by simp [hm'])
    obtain ⟨E, hE⟩ := addN_ext L ⟨nxt p m, padL p, m, d + 1⟩
    rw [hE]
    exact ⟨by simp; omega, by rw [List.getElem_append_left hi]; exact hd⟩

theorem mvK_ok {n : Int} {ls : List (Int × Int)} {l : List Int} {k : Nat} : ∀ m ∈ mvK n ls l k, 0 ≤ m.1 ∧ m.1 < k ∧ 0 ≤ m.2 ∧ m.2 < n ∧ m.2 ∉ l := by
  intro m hm
  simp only [mvK, List.mem_flatMap, List.mem_range, mvZ, List.mem_map, List.mem_filter, upL, memL] at hm
  obtain ⟨i, hi, z, ⟨⟨⟨j, hj, rfl⟩, _⟩, hz⟩, rfl⟩ := hm
  simp at hz
  refine ⟨by simp only; omega, by simp only; omega, by simp only; omega, by simp only; omega, hz⟩

theorem nxt_ok {n : Int} {k : Nat} {p : List Int} {m : Int × Int} (hp : okPl n k p) (h1 : 0 ≤ m.2) (h2 : m.2 < n) : okPl n k (nxt p m) := by
  refine ⟨by simp [nxt, hp.1], fun x hx => ?_⟩
  rcases List.mem_or_eq_of_mem_set hx with hx | rfl
  · exact hp.2 x hx
  · exact ⟨h1, h2⟩

/-- the number of a place. -/
def numL (l : List Int) : Int := l.foldl (fun a x => 6 * a + x) 0
theorem numL_foldl (l : List Int) : ∀ a : Int, l.foldl (fun a x => 6 * a + x) a = a * 6 ^ l.length + numL l := by
  induction l with
  | nil => intro a; simp [numL]
  | cons x l ih =>
    intro a
    have e : numL (x :: l) = (6 * 0 + x) * 6 ^ l.length + numL l := ih (6 * 0 + x)
    rw [List.foldl_cons, ih, e, List.length_cons, Int.pow_succ]
    simp only [Int.mul_zero, Int.zero_add, Int.add_mul]
    rw [Int.mul_comm 6 a, Int.mul_assoc, Int.mul_comm 6 (6 ^ l.length), Int.add_assoc]
theorem numL_cons (x : Int) (l : List Int) : numL (x :: l) = x * 6 ^ l.length + numL l := by
  have := numL_foldl l (6 * 0 + x)
  simp only [numL, List.foldl_cons] at this ⊢
  rw [this]
  simp
theorem numL_lt {n : Int} (hn : n ≤ 6) : ∀ (l : List Int), (∀ x ∈ l, 0 ≤ x ∧ x < n) → 0 ≤ numL l ∧ numL l < 6 ^ l.length
  | [], _ => by simp [numL]
  | x :: l, h => by
    obtain ⟨h1, h2⟩ := numL_lt hn l fun y hy => h y (by simp [hy])
    have hx := h x (by simp)
    rw [numL_cons, List.length_cons, Int.pow_succ]
    have hp : (0 : Int) < 6 ^ l.length := Int.pow_pos (by decide)
    generalize (6 : Int) ^ l.length = q at *
    have h3 : 0 ≤ x * q := Int.mul_nonneg hx.1 (by omega)
    have h4 : x * q ≤ 5 * q := Int.mul_le_mul_of_nonneg_right (by omega) (by omega)
    constructor
    · omega
    · omega
theorem numL_inj {n : Int} (hn : n ≤ 6) : ∀ (l m : List Int), l.length = m.length → (∀ x ∈ l, 0 ≤ x ∧ x < n) → (∀ x ∈ m, 0 ≤ x ∧ x < n) → numL l = numL m → l = m
  | [], [], _, _, _, _ => rfl
  | x :: l, y :: m, hl, h1, h2, h => by
    simp only [List.length_cons, Nat.succ.injEq] at hl
    obtain ⟨a1, a2⟩ := numL_lt hn l fun y hy => h1 y (by simp [hy])
    obtain ⟨b1, b2⟩ := numL_lt hn m fun y hy => h2 y (by simp [hy])
    rw [numL_cons, numL_cons, hl] at h
    rw [hl] at a2
    have hp : (0 : Int) < 6 ^ m.length := Int.pow_pos (by decide)
    have hxy : x = y := by
      generalize (6 : Int) ^ m.length = q at *
      rcases Int.lt_trichotomy x y with hlt | he | hgt
      · have h5 : (x + 1) * q ≤ y * q := Int.mul_le_mul_of_nonneg_right (by omega) (by omega)
        rw [Int.add_mul] at h5
        omega
      · exact he
      · have h5 : (y + 1) * q ≤ x * q := Int.mul_le_mul_of_nonneg_right (by omega) (by omega)
        rw [Int.add_mul] at h5
        omega
    subst hxy
    rw [numL_inj hn l m hl (fun y hy => h1 y (by simp [hy])) (fun y hy => h2 y (by simp [hy])) (by omega)]
  | [], _ :: _, hl, _, _, _ => by simp at hl
  | _ :: _, [], hl, _, _, _ => by simp at hl

theorem nodup_lt : ∀ (N : Nat) (l : List Nat), l.Nodup → (∀ x ∈ l, x < N) → l.length ≤ N
  | 0, l, _, h => by
    cases l with
    | nil => simp
    | cons x l => have := h x (by simp); omega
  | N + 1, l, hn, h => by
    by_cases hN : N ∈ l
    · have h1 := nodup_lt N (l.erase N) (hn.erase N) fun x hx => by
        have h2 := (hn.mem_erase_iff).1 hx
        have := h x h2.2
        have := h2.1
        omega
      rw [List.length_erase_of_mem hN] at h1
      omega
    · have := nodup_lt N l hn fun x hx => by
        have := h x hx
        have : x ≠ N := fun e => hN (e ▸ hx)
        omega
      omega

theorem pow_le {k : Nat} (hk : k ≤ 4) : (6 : Int) ^ k ≤ 1296 := by
  rcases (show k = 0 ∨ k = 1 ∨ k = 2 ∨ k = 3 ∨ k = 4 by omega) with rfl | rfl | rfl | rfl | rfl <;> decide

theorem InvN.le {n : Int} (hn : n ≤ 6) {k : Nat} (hk : k ≤ 4) {L : List Nd} (h : InvN n k L) : L.length ≤ 1296 := by
  have h1 := nodup_lt 1296 (L.map fun x => (numL x.pl).toNat) ?_ ?_
  · simpa using h1
  · have h2 := h.nd
    unfold pls at h2
    rw [List.Nodup, List.pairwise_map] at h2 ⊢
    refine h2.imp_of_mem fun {a b} ha hb hne e => hne ?_
    obtain ⟨a1, a2⟩ := h.pl a ha
    obtain ⟨b1, b2⟩ := h.pl b hb
    have c1 := numL_lt hn a.pl a2
    have c2 := numL_lt hn b.pl b2
    exact numL_inj hn _ _ (by omega) a2 b2 (by omega)
  · intro x hx
    simp only [List.mem_map] at hx
    obtain ⟨a, ha, rfl⟩ := hx
    obtain ⟨a1, a2⟩ := h.pl a ha
    have c1 := numL_lt hn a.pl a2
    have := pow_le (k := a.pl.length) (by omega)
    omega

/-! the map -/
def keysN (L : List Nd) : List Value := L.map fun x => kv (padL x.pl)
def valN (x : Nd) : AV := .g (intsA (x.fr ++ [x.mv.1, x.mv.2, x.far]))
def valsN (L : List Nd) : List AV := L.map valN
def rowN (L : List Nd) : List AV := L.map fun x => .s 1 (intsA x.pl)

theorem keysN_at {L : List Nd} {i : Nat} {n : Int} {k : Nat} (hk : k ≤ 4) (h : InvN n k L) {p : List Int} (hp : p.length = k) (hi : (keysN L)[i]? = some (kv (padL p))) : ∃ h : i < L.length, L[i].pl = p := by
  simp only [keysN, List.getElem?_map, Option.map_eq_some_iff] at hi
  obtain ⟨x, hx, he⟩ := hi
  have hlt := (List.getElem?_eq_some_iff.1 hx).1
  have hx' : L[i] = x := (List.getElem?_eq_some_iff.1 hx).2
  have hxl := (h.pl x (List.mem_of_getElem? hx)).1
  exact ⟨hlt, by rw [hx']; exact padL_inj (by omega) (by omega) (kv_inj he)⟩

theorem keysN_ok {n : Int} (hn : n ≤ 6) {k : Nat} {L : List Nd} (h : InvN n k L) : ∀ u ∈ keysN L, ∃ l, keyOf Try.prog 74 u = some l := by
  intro u hu
  simp only [keysN, List.mem_map] at hu
  obtain ⟨x, hx, rfl⟩ := hu
  obtain ⟨a, b, c, d, e, h1, h2, h3, h4⟩ := padL_lim hn (h.pl x hx)
  rw [e]
  exact key_ok a b c d h1 h2 h3 h4

theorem afind_in {n : Int} (hn : n ≤ 6) {k : Nat} (hk : k ≤ 4) {L : List Nd} (h : InvN n k L) {p : List Int} {a b c d : Int} (hp : padL p = [a, b, c, d]) (i : Nat) (hi : i < L.length) (hpi : L[i].pl = p) {K : HK (Nat → Prop)} {F : HK Prop} (hK : K.k i) : AFind Try.prog 74 (keysN L) (kv [a, b, c, d]) (K := K) (L := F) := by
  have hx := h.pl L[i] (List.getElem_mem hi)
  rw [hpi] at hx
  obtain ⟨a', b', c', d', e, h1, h2, h3, h4⟩ := padL_lim hn hx
  rw [hp] at e
  refine ⟨⟨key74, by rw [e]; exact key_ok a' b' c' d' h1 h2 h3 h4, keysN_ok hn h⟩, .inl ⟨i, ⟨?_, fun j hj => ?_⟩, hK⟩⟩
  · simp [keysN, hi, hpi, hp]
  · rw [← hp] at hj
    obtain ⟨h5, h6⟩ := keysN_at hk h hx.1 hj
    have hnd := h.nd
    unfold pls at hnd
    rw [List.Nodup, List.pairwise_iff_getElem] at hnd
    rcases Nat.lt_trichotomy i j with hlt | he | hgt
    · have := hnd i j (by simpa using hi) (by simpa using h5) hlt
      simp [hpi, h6] at this
    · exact he.symm
    · have := hnd j i (by simpa using h5) (by simpa using hi) hgt
      simp [hpi, h6] at this
theorem afind_out {n : Int} (hn : n ≤ 6) {k : Nat} (hk : k ≤ 4) {L : List Nd} (h : InvN n k L) {p : List Int} (hx : okPl n k p) {a b c d : Int} (hp : padL p = [a, b, c, d]) (hno : p ∉ pls L) {K : HK (Nat → Prop)} {F : HK Prop} (hF : F.k) : AFind Try.prog 74 (keysN L) (kv [a, b, c, d]) (K := K) (L := F) := by
  obtain ⟨a', b', c', d', e, h1, h2, h3, h4⟩ := padL_lim hn hx
  rw [hp] at e
  refine ⟨⟨key74, by rw [e]; exact key_ok a' b' c' d' h1 h2 h3 h4, keysN_ok hn h⟩, .inr ⟨fun u hu he => ?_, hF⟩⟩
  obtain ⟨i, hi, hu'⟩ := List.mem_iff_getElem.1 hu
  obtain ⟨h5, h6⟩ := keysN_at hk h hx.1 (i := i) (by rw [hp, ← he, ← hu', List.getElem?_eq_getElem hi])
  exact hno (by rw [← h6]; exact List.mem_map.2 ⟨L[i], List.getElem_mem h5, rfl⟩)

theorem pls_mem {L : List Nd} {p : List Int} (h : p ∈ pls L) : ∃ (i : Nat) (h : i < L.length), L[i].pl = p := by
  simp only [pls, List.mem_map] at h
  obtain ⟨x, hx, rfl⟩ := h
  obtain ⟨i, hi, rfl⟩ := List.mem_iff_getElem.1 hx
  exact ⟨i, hi, rfl⟩

theorem aget_valsN {L : List Nd} {j : Nat} (h : j < L.length) (K : HK (AV → Prop)) : @AGet (valsN L) j K = K.k (valN L[j]) := by simp [AGet, valsN, h]
theorem aget_rowN {L : List Nd} {j : Nat} (h : j < L.length) (K : HK (AV → Prop)) : @AGet (rowN L) j K = K.k (.s 1 (intsA L[j].pl)) := by simp [AGet, rowN, h]
theorem valN_pure (x : Nd) : (valN x).pure = true := by simp only [valN, AV.pure]; exact intsA_pure _
theorem valsN_pure (L : List Nd) : AV.pureL (valsN L) = true := pureL_map valN valN_pure L
theorem rowN_pure (L : List Nd) : AV.pureL (rowN L) = true := pureL_map _ (fun _ => rfl) L
theorem valsN_kill (Z : List Nat) (L : List Nd) : AV.killL Z (valsN L) = valsN L := killL_pure Z _ (valsN_pure L)
theorem rowN_kill (Z : List Nat) (L : List Nd) : AV.killL Z (rowN L) = rowN L := killL_pure Z _ (rowN_pure L)
theorem rowN_len (L : List Nd) : (rowN L).length = L.length := by simp [rowN]
theorem intsA_set (l : List Int) (i : Nat) (x : Int) : (intsA l).set i (I x) = intsA (l.set i x) := by simp [intsA, List.map_set]
end Go.Proofs.Ytkolpijhgcijbaa
