/-
  Several texts in one: FnAT, FnAU.
-/
import Derived.Test.YtkolpijhgcijbaaMr
set_option linter.unusedSimpArgs false
set_option linter.unusedVariables false
namespace Go.Proofs.Ytkolpijhgcijbaa
open Aw Go.RowKit
set_option linter.unusedSimpArgs false

/-! the word of a place: at each zone of an order the ion, or -1 -/
def wd (Z l : List Int) : List Int := Z.map fun z => idxL l z
theorem wd_len (Z l : List Int) : (wd Z l).length = Z.length := by simp [wd]
theorem wd_at {Z l : List Int} {i : Nat} (h : i < (wd Z l).length) (h' : i < Z.length) : (wd Z l)[i] = idxL l Z[i] := by simp [wd]
theorem idx_at {l : List Int} (hnd : l.Nodup) {k : Nat} (h : k < l.length) : idxL l l[k] = k := by
  rcases idxL_cases l l[k] with ⟨q, hq, e, hz⟩ | ⟨_, hz⟩
  · rw [e, nodup_at hnd hq h hz]
  · exact absurd (List.getElem_mem h) hz
theorem idx_no {l : List Int} {z : Int} (h : z ∉ l) : idxL l z = -1 := by
  rcases idxL_cases l z with ⟨q, hq, e, hz⟩ | ⟨e, _⟩
  · exact absurd (hz ▸ List.getElem_mem hq) h
  · exact e
theorem idx_ge {l : List Int} {z : Int} (h : 0 ≤ idxL l z) : ∃ (k : Nat) (hk : k < l.length), idxL l z = k ∧ l[k] = z := by
  rcases idxL_cases l z with h1 | ⟨e, _⟩
  · exact h1
  · omega
theorem idx_neg {l : List Int} {z : Int} (h : idxL l z = -1) : z ∉ l := by
  rcases idxL_cases l z with ⟨q, hq, e, hz⟩ | ⟨_, hz⟩
  · omega
  · exact hz
theorem wd_vals (Z l : List Int) : ∀ x ∈ wd Z l, x = -1 ∨ 0 ≤ x := by
  intro x hx
  obtain ⟨z, _, rfl⟩ := List.mem_map.1 hx
  rcases idxL_cases l z with ⟨q, hq, e, _⟩ | ⟨e, _⟩ <;> omega

/-- the ions of a word. -/
def wf (w : List Int) : List Int := w.filter fun x => decide (0 ≤ x)
theorem wf_app (u v : List Int) : wf (u ++ v) = wf u ++ wf v := by simp [wf]
theorem wf_pos (a : Int) (v : List Int) (h : 0 ≤ a) : wf (a :: v) = a :: wf v := by simp [wf, h]
theorem wf_neg (v : List Int) : wf (-1 :: v) = wf v := by simp [wf]
theorem seqL_wf {l : List Int} (hnd : l.Nodup) : ∀ Z : List Int, seqL l Z = wf (wd Z l)
  | [] => rfl
  | z :: Z => by
    have e : seqL l (z :: Z) = ionsAt l z ++ seqL l Z := by simp [seqL]
    have e2 : wd (z :: Z) l = idxL l z :: wd Z l := rfl
    rw [e, e2, seqL_wf hnd Z]
    rcases ions_idx hnd z with ⟨h, e3⟩ | ⟨h, e3⟩
    · rw [e3, wf_pos _ _ h]; rfl
    · rw [e3]
      have : idxL l z = -1 := by rcases idxL_cases l z with ⟨q, hq, e, _⟩ | ⟨e, _⟩ <;> omega
      rw [this, wf_neg]; rfl

/-- an ion goes to a zone: the word. -/
theorem wd_set {n : Int} {Z l : List Int} (hZ : Ord n Z) (hnd : l.Nodup) {i j a : Nat} (hi : i < Z.length) (hj : j < Z.length) (hij : i ≠ j) (ha : a < l.length) (h1 : l[a] = Z[j]) (h2 : Z[i] ∉ l) :
    wd Z (l.set a Z[i]) = ((wd Z l).set i (a : Int)).set j (-1) := by
  have hnd' : (l.set a Z[i]).Nodup := nodup_set hnd h2 a
  apply List.ext_getElem
  · simp [wd_len]
  · intro q h3 h4
    have hq : q < Z.length := by rwa [wd_len] at h3
    rw [wd_at h3 hq, List.getElem_set, List.getElem_set]
    by_cases hjq : j = q
    · subst hjq
      rw [if_pos rfl]
      refine idx_no fun hm => ?_
      obtain ⟨b, hb, e⟩ := List.mem_iff_getElem.1 hm
      have hb' : b < l.length := by simpa using hb
      rw [List.getElem_set] at e
      split at e
      · exact hij (hZ.inj hi hj e)
      · rename_i hab
        exact hab (nodup_at hnd ha hb' (by rw [h1, e]))
    · rw [if_neg hjq]
      by_cases hiq : i = q
      · subst hiq
        rw [if_pos rfl]
        have hal : a < (l.set a Z[i]).length := by simpa using ha
        have := idx_at hnd' hal
        rwa [List.getElem_set_self] at this
      · rw [if_neg hiq, wd_at (by rw [wd_len]; exact hq) hq]
        rcases idxL_cases l Z[q] with ⟨b, hb, e, hz⟩ | ⟨e, hz⟩
        · rw [e]
          have hab : a ≠ b := by rintro rfl; exact hjq (hZ.inj hj hq (by rw [← h1, hz]))
          have hbl : b < (l.set a Z[i]).length := by simpa using hb
          have := idx_at hnd' hbl
          rwa [List.getElem_set_ne hab, hz] at this
        · rw [e]
          refine idx_no fun hm => ?_
          rcases List.mem_or_eq_of_mem_set hm with hm | hm
          · exact hz hm
          · exact hiq (hZ.inj hi hq hm.symm)

/-- a move is a step of the word. -/
theorem move_wd {n : Int} {ls : List (Int × Int)} (hls : ∀ l ∈ ls, okLn n l) {Z l : List Int} {round : Bool} (hZ : Ord n Z) (hv : Vld ls Z round) (hvl : vTP n ls l = 0) {m : Int × Int} (h : refu n ls l m = 0) :
    ∃ (i j a : Nat) (hi : i < Z.length) (hj : j < Z.length), i ≠ j ∧ nbF Z.length round i j = true ∧ (wd Z l)[i]'(by rw [wd_len]; exact hi) = -1 ∧ (wd Z l)[j]'(by rw [wd_len]; exact hj) = a ∧ wd Z (nxt l m) = ((wd Z l).set i (a : Int)).set j (-1) := by
  obtain ⟨g1, g2, g3, g4, g5, g6⟩ := refu0 h
  have hnd := (vTP_iff.1 hvl).2.2.2
  have hr := (vTP_iff.1 hvl).2.2.1
  have ha : m.1.toNat < l.length := by omega
  rw [getD_at ha] at g5
  have hno : m.2 ∉ l := by rw [Bool.eq_false_iff, ne_eq, memL_eq] at g6; exact g6
  obtain ⟨i, hi, ei⟩ := List.mem_iff_getElem.1 (hZ.all (z := m.2) ⟨g3, g4⟩)
  obtain ⟨j, hj, ej⟩ := List.mem_iff_getElem.1 (hZ.all (z := l[m.1.toNat]) (hr _ (List.getElem_mem ha)))
  have hij : i ≠ j := by
    rintro rfl
    rw [ei] at ej
    exact hno (ej ▸ List.getElem_mem ha)
  refine ⟨i, j, m.1.toNat, hi, hj, hij, ?_, ?_, ?_, ?_⟩
  · rw [← hv i j hi hj hij, ei, ej, lnk_sym]; exact g5
  · rw [wd_at _ hi, ei]; exact idx_no hno
  · rw [wd_at _ hj, ej]; exact idx_at hnd ha
  · have := wd_set hZ hnd hi hj hij ha ej.symm (by rw [ei]; exact hno)
    rw [ei] at this
    exact this

/-- a step of the word is a move. -/
theorem wd_move {n : Int} {ls : List (Int × Int)} {Z l : List Int} {round : Bool} (hZ : Ord n Z) (hv : Vld ls Z round) (hvl : vTP n ls l = 0) {i j a : Nat} (hi : i < Z.length) (hj : j < Z.length) (hij : i ≠ j) (hnb : nbF Z.length round i j = true)
    (h1 : (wd Z l)[i]'(by rw [wd_len]; exact hi) = -1) (h2 : (wd Z l)[j]'(by rw [wd_len]; exact hj) = a) : ∃ m, refu n ls l m = 0 ∧ wd Z (nxt l m) = ((wd Z l).set i (a : Int)).set j (-1) := by
  have hnd := (vTP_iff.1 hvl).2.2.2
  rw [wd_at _ hi] at h1
  rw [wd_at _ hj] at h2
  have hno := idx_neg h1
  obtain ⟨k, hk, e, hz⟩ := idx_ge (l := l) (z := Z[j]) (by omega)
  have hka : k = a := by omega
  subst hka
  have hri := hZ.rng _ (List.getElem_mem hi)
  refine ⟨((k : Int), Z[i]), ?_, ?_⟩
  · rw [refu, if_neg (by simp only; omega), if_neg, if_neg]
    · simp only
      rw [Bool.not_eq_true, Bool.eq_false_iff, ne_eq, memL_eq]; exact hno
    · simp only [Int.toNat_natCast]
      rw [getD_at hk, hz, lnk_sym, hv i j hi hj hij, hnb]; simp
  · have := wd_set hZ hnd hi hj hij hk hz hno
    simpa [nxt] using this

/-- the place l' is reached. -/
def Rc (n : Int) (ls : List (Int × Int)) (l l' : List Int) : Prop := ∃ d, Way n ls d l l'
theorem Rc.refl (n : Int) (ls : List (Int × Int)) (l : List Int) : Rc n ls l l := ⟨0, rfl⟩
theorem Way.trans {n : Int} {ls : List (Int × Int)} {p q : List Int} {d : Nat} (h : Way n ls d p q) : ∀ (e : Nat) {r : List Int}, Way n ls e q r → Way n ls (d + e) p r
  | 0, r, hw => by
    have hw : q = r := hw
    subst hw; exact h
  | e + 1, r, ⟨y, m, h1, h2, h3⟩ => ⟨y, m, Way.trans h e h1, h2, h3⟩
theorem Rc.trans {n : Int} {ls : List (Int × Int)} {p q r : List Int} (h : Rc n ls p q) (k : Rc n ls q r) : Rc n ls p r := by
  obtain ⟨d, h⟩ := h
  obtain ⟨e, k⟩ := k
  exact ⟨d + e, h.trans e k⟩
theorem Rc.symm {n : Int} {ls : List (Int × Int)} {p q : List Int} (hv : vTP n ls p = 0) (h : Rc n ls p q) : Rc n ls q p := by
  obtain ⟨d, h⟩ := h
  exact ⟨d, Way.symm d hv h⟩
theorem Rc.one {n : Int} {ls : List (Int × Int)} {l : List Int} {m : Int × Int} (h : refu n ls l m = 0) : Rc n ls l (nxt l m) := ⟨1, l, m, rfl, h, rfl⟩
theorem Rc.V {n : Int} {ls : List (Int × Int)} {p q : List Int} (hv : vTP n ls p = 0) (h : Rc n ls p q) : vTP n ls q = 0 := by
  obtain ⟨d, h⟩ := h
  exact Way.V d hv h

/-! words whose ions are packed -/
def can (v : List Int) : List Int := wf v ++ List.replicate (v.length - (wf v).length) (-1)
theorem wf_le (v : List Int) : (wf v).length ≤ v.length := List.length_filter_le _ _
theorem can_len (v : List Int) : (can v).length = v.length := by
  have := wf_le v
  simp only [can, List.length_append, List.length_replicate]; omega

theorem set_mid {u v : List Int} {x y a b : Int} {i : Nat} (hi : i = u.length) : (((u ++ x :: y :: v).set i a).set (i + 1) b) = u ++ a :: b :: v := by
  subst hi
  rw [List.set_append_right _ _ (Nat.le_refl _), Nat.sub_self, List.set_cons_zero, List.set_append_right _ _ (by omega), show u.length + 1 - u.length = 1 by omega, List.set_cons_succ, List.set_cons_zero]

theorem bubble {n : Int} {ls : List (Int × Int)} {Z : List Int} {round : Bool} (hZ : Ord n Z) (hv : Vld ls Z round) : ∀ (s u r l : List Int), vTP n ls l = 0 → (∀ x ∈ s, 0 ≤ x) → wd Z l = u ++ -1 :: (s ++ r) → ∃ l', Rc n ls l l' ∧ wd Z l' = u ++ (s ++ -1 :: r)
  | [], u, r, l, _, _, h => ⟨l, Rc.refl _ _ _, h⟩
  | a :: s, u, r, l, hvl, hs, h => by
    have hlen : Z.length = u.length + (s.length + r.length + 2) := by
      rw [← wd_len Z l, h]; simp <;> omega
    have hi : u.length < Z.length := by omega
    have hj : u.length + 1 < Z.length := by omega
    have ha0 : 0 ≤ a := hs a (by simp)
    obtain ⟨k, rfl⟩ : ∃ k : Nat, a = k := ⟨a.toNat, by omega⟩
    have e1 : (wd Z l)[u.length]'(by rw [wd_len]; exact hi) = -1 := by simp only [h]; simp
    have e2 : (wd Z l)[u.length + 1]'(by rw [wd_len]; exact hj) = k := by simp only [h]; simp
    obtain ⟨m, hm, hw⟩ := wd_move hZ hv hvl hi hj (by omega) (by simp [nbF]) e1 e2
    rw [h, List.cons_append, set_mid rfl] at hw
    obtain ⟨l', h1, h2⟩ := bubble hZ hv s (u ++ [(k : Int)]) r (nxt l m) (refu_V hvl hm) (fun x hx => hs x (by simp [hx])) (by rw [hw]; simp)
    exact ⟨l', (Rc.one hm).trans h1, by rw [h2]; simp⟩

theorem pack {n : Int} {ls : List (Int × Int)} {Z : List Int} {round : Bool} (hZ : Ord n Z) (hv : Vld ls Z round) : ∀ (v u l : List Int), vTP n ls l = 0 → (∀ x ∈ v, x = -1 ∨ 0 ≤ x) → wd Z l = u ++ v → ∃ l', Rc n ls l l' ∧ wd Z l' = u ++ can v
  | [], u, l, _, _, h => ⟨l, Rc.refl _ _ _, by simpa [can, wf] using h⟩
  | x :: v, u, l, hvl, hx, h => by
    obtain ⟨l1, h1, h2⟩ := pack hZ hv v (u ++ [x]) l hvl (fun y hy => hx y (by simp [hy])) (by rw [h]; simp)
    have hle := wf_le v
    rcases hx x (by simp) with rfl | hx0
    · have h2' : wd Z l1 = u ++ -1 :: (wf v ++ List.replicate (v.length - (wf v).length) (-1)) := by rw [h2]; simp [can]
      obtain ⟨l2, h3, h4⟩ := bubble hZ hv (wf v) u _ l1 (h1.V hvl) (fun y hy => by have := (List.mem_filter.1 hy).2; simpa using this) h2'
      refine ⟨l2, h1.trans h3, ?_⟩
      rw [h4, can, wf_neg, List.length_cons, show v.length + 1 - (wf v).length = (v.length - (wf v).length) + 1 by omega, List.replicate_succ]
    · refine ⟨l1, h1, ?_⟩
      rw [h2, can, can, wf_pos _ _ hx0, List.length_cons, List.length_cons, show v.length + 1 - ((wf v).length + 1) = v.length - (wf v).length by omega]
      simp

theorem wd_inj {n : Int} {ls : List (Int × Int)} {Z l t : List Int} (hZ : Ord n Z) (hl : vTP n ls l = 0) (ht : vTP n ls t = 0) (hlt : l.length = t.length) (h : wd Z l = wd Z t) : l = t := by
  apply List.ext_getElem hlt
  intro a ha hb
  have hr := (vTP_iff.1 hl).2.2.1
  obtain ⟨j, hj, ej⟩ := List.mem_iff_getElem.1 (hZ.all (z := l[a]) (hr _ (List.getElem_mem ha)))
  have h1 : (wd Z l)[j]'(by rw [wd_len]; exact hj) = a := by rw [wd_at _ hj, ej]; exact idx_at (vTP_iff.1 hl).2.2.2 ha
  have h2 : (wd Z t)[j]'(by rw [wd_len]; exact hj) = a := by simp only [← h]; exact h1
  rw [wd_at _ hj] at h2
  obtain ⟨k, hk, e, hz⟩ := idx_ge (l := t) (z := Z[j]) (by omega)
  have : k = a := by omega
  subst this
  rw [hz, ej]

theorem Way.len {n : Int} {ls : List (Int × Int)} : ∀ (d : Nat) {p q : List Int}, Way n ls d p q → q.length = p.length
  | 0, p, q, h => by
    have h : p = q := h
    rw [h]
  | d + 1, p, q, ⟨y, m, h1, h2, h3⟩ => by rw [h3, nxt, List.length_set]; exact Way.len d h1
theorem Rc.len {n : Int} {ls : List (Int × Int)} {p q : List Int} (h : Rc n ls p q) : q.length = p.length := by
  obtain ⟨d, h⟩ := h
  exact Way.len d h

/-- places with the same word's end are reached from each other. -/
theorem meet_at {n : Int} {ls : List (Int × Int)} {Z l t c e : List Int} (hZ : Ord n Z) (hl : vTP n ls l = 0) (ht : vTP n ls t = 0) (hlt : l.length = t.length) (h1 : Rc n ls l c) (h2 : Rc n ls t e) (hw : wd Z c = wd Z e) : Rc n ls l t := by
  have : c = e := wd_inj hZ (h1.V hl) (h2.V ht) (by rw [h1.len, h2.len, hlt]) hw
  subst this
  exact h1.trans (h2.symm ht)

theorem line_reach {n : Int} {ls : List (Int × Int)} {Z l t : List Int} (hZ : Ord n Z) (hv : Vld ls Z false) (hl : vTP n ls l = 0) (ht : vTP n ls t = 0) (hlt : l.length = t.length) (hs : wf (wd Z l) = wf (wd Z t)) : Rc n ls l t := by
  obtain ⟨c, h1, h2⟩ := pack hZ hv (wd Z l) [] l hl (wd_vals Z l) rfl
  obtain ⟨e, h3, h4⟩ := pack hZ hv (wd Z t) [] t ht (wd_vals Z t) rfl
  refine meet_at hZ hl ht hlt h1 h3 ?_
  rw [h2, h4, can, can, hs, wd_len, wd_len]

/-- on a ring with a free zone the ions' sequence can be turned. -/
theorem ring_turn {n : Int} {ls : List (Int × Int)} {Z : List Int} (hZ : Ord n Z) (hv : Vld ls Z true) : ∀ (f : Nat) (s l : List Int) (m : Nat), vTP n ls l = 0 → f ≤ s.length → (∀ x ∈ s, 0 ≤ x) → wd Z l = s ++ List.replicate (m + 1) (-1) →
    ∃ l', Rc n ls l l' ∧ wd Z l' = (s.drop f ++ s.take f) ++ List.replicate (m + 1) (-1)
  | 0, s, l, m, _, _, _, h => ⟨l, Rc.refl _ _ _, by simpa using h⟩
  | f + 1, a :: s, l, m, hvl, hf, hs, h => by
    have hlen : Z.length = s.length + m + 2 := by
      rw [← wd_len Z l, h]; simp; omega
    have ha0 : 0 ≤ a := hs a (by simp)
    obtain ⟨k, rfl⟩ : ∃ k : Nat, a = k := ⟨a.toNat, by omega⟩
    have hi : Z.length - 1 < Z.length := by omega
    have hj : 0 < Z.length := by omega
    have hend : ∀ h' : Z.length - 1 < (wd Z l).length, (wd Z l)[Z.length - 1] = -1 := by
      intro h'
      simp only [h]
      rw [List.getElem_append_right (by simp; omega)]
      simp
    have h0 : ∀ h' : 0 < (wd Z l).length, (wd Z l)[0] = k := by
      intro h'
      simp only [h]
      rfl
    obtain ⟨m', hm, hw⟩ := wd_move (a := k) hZ hv hvl hi hj (by omega) (by simp [nbF]; omega) (hend _) (h0 _)
    have hw2 : wd Z (nxt l m') = [] ++ (-1 :: (s ++ List.replicate m (-1)) ++ [(k : Int)]) := by
      rw [hw, h]
      rw [List.replicate_succ', show (k : Int) :: s ++ (List.replicate m (-1) ++ [-1]) = ((k : Int) :: (s ++ List.replicate m (-1))) ++ [-1] by simp]
      rw [List.set_append_right _ _ (by simp; omega)]
      simp only [List.length_cons, List.length_append, List.length_replicate]
      rw [show Z.length - 1 - (s.length + m + 1) = 0 by omega]
      simp
    obtain ⟨l1, h1, h2⟩ := pack hZ hv _ [] (nxt l m') (refu_V hvl hm) (by rw [List.nil_append] at hw2; rw [← hw2]; exact wd_vals Z _) hw2
    have hwfs : wf s = s := List.filter_eq_self.2 fun x hx => by simpa using hs x (by simp [hx])
    have hwfr : wf (List.replicate m (-1)) = [] := List.filter_eq_nil_iff.2 fun x hx => by
      rw [List.mem_replicate] at hx
      rw [hx.2]; decide
    have hc : can (-1 :: (s ++ List.replicate m (-1)) ++ [(k : Int)]) = (s ++ [(k : Int)]) ++ List.replicate (m + 1) (-1) := by
      have e : wf (-1 :: (s ++ List.replicate m (-1)) ++ [(k : Int)]) = s ++ [(k : Int)] := by
        rw [List.cons_append, wf_neg, wf_app, wf_app, hwfs, hwfr, wf_pos _ _ ha0]; simp [wf]
      rw [can, e]
      congr 2
      simp <;> omega
    rw [List.nil_append, hc] at h2
    obtain ⟨l2, h3, h4⟩ := ring_turn hZ hv f (s ++ [(k : Int)]) l1 m (h1.V (refu_V hvl hm)) (by simp at hf ⊢; omega) (fun x hx => by
      rcases List.mem_append.1 hx with hx | hx
      · exact hs x (by simp [hx])
      · simp only [List.mem_singleton] at hx; subst hx; exact ha0) h2
    refine ⟨l2, ((Rc.one hm).trans h1).trans h3, ?_⟩
    rw [h4]
    have hfs : f ≤ s.length := by simp at hf; omega
    simp [List.drop_append_of_le_length hfs, List.take_append_of_le_length hfs]
  | f + 1, [], l, m, _, hf, _, _ => by simp at hf

theorem wf_nodup {n : Int} {Z : List Int} (hZ : Ord n Z) (l : List Int) : (wf (wd Z l)).Nodup := by
  rw [List.Nodup, wf, List.pairwise_filter, List.pairwise_iff_getElem]
  intro i j hi hj hij h1 h2 e
  rw [wd_len] at hi hj
  rw [wd_at _ hi] at h1 e
  rw [wd_at _ hj] at h2 e
  obtain ⟨p, hp, e1, z1⟩ := idx_ge (l := l) (z := Z[i]) (by simpa using h1)
  obtain ⟨q, hq, e2, z2⟩ := idx_ge (l := l) (z := Z[j]) (by simpa using h2)
  have : p = q := by omega
  subst this
  have := hZ.inj hi hj (by rw [← z1, ← z2])
  omega
theorem fst_le (s : List Int) : fstO s ≤ s.length := by have := idxL_lt s 0; unfold fstO; omega
theorem ring_reach {n : Int} {ls : List (Int × Int)} {Z l t : List Int} (hZ : Ord n Z) (hv : Vld ls Z true) (hl : vTP n ls l = 0) (ht : vTP n ls t = 0) (hlt : l.length = t.length) (hfree : l.length < Z.length) (hs : rotL (wf (wd Z l)) = rotL (wf (wd Z t))) : Rc n ls l t := by
  have one : ∀ l, vTP n ls l = 0 → l.length < Z.length → ∃ c, Rc n ls l c ∧ wd Z c = rotL (wf (wd Z l)) ++ List.replicate (Z.length - (wf (wd Z l)).length) (-1) := by
    intro l hl hfree
    obtain ⟨c, h1, h2⟩ := pack hZ hv (wd Z l) [] l hl (wd_vals Z l) rfl
    have hnd := (vTP_iff.1 hl).2.2.2
    have hwl : (wf (wd Z l)).length ≤ l.length := by
      refine Nat.le_trans (nodup_rng (n := (l.length : Int)) (wf (wd Z l)) ?_ fun x hx => ?_) (by simp)
      · exact wf_nodup hZ l
      · obtain ⟨h1, h2⟩ := List.mem_filter.1 hx
        obtain ⟨z, _, rfl⟩ := List.mem_map.1 h1
        obtain ⟨k, hk, e, _⟩ := idx_ge (l := l) (z := z) (by simpa using h2)
        omega
    rw [List.nil_append, can, wd_len, show Z.length - (wf (wd Z l)).length = (Z.length - (wf (wd Z l)).length - 1) + 1 by omega] at h2
    obtain ⟨c', h3, h4⟩ := ring_turn hZ hv (fstO (wf (wd Z l))) (wf (wd Z l)) c _ (h1.V hl) (fst_le _) (fun x hx => by have := (List.mem_filter.1 hx).2; simpa using this) h2
    refine ⟨c', h1.trans h3, ?_⟩
    rw [h4, rotL, show Z.length - (wf (wd Z l)).length - 1 + 1 = Z.length - (wf (wd Z l)).length by omega]
  obtain ⟨c, h1, h2⟩ := one l hl hfree
  obtain ⟨e, h3, h4⟩ := one t ht (by omega)
  refine meet_at hZ hl ht hlt h1 h3 ?_
  have hlen := congrArg List.length hs
  rw [rotL_len, rotL_len] at hlen
  rw [h2, h4, hs, hlen]

/-! a move keeps the sequence -/
theorem split2 {w : List Int} {i : Nat} (h : i + 1 < w.length) : w = w.take i ++ w[i] :: w[i + 1] :: w.drop (i + 2) := by
  have e1 : w.drop i = w[i] :: w.drop (i + 1) := List.drop_eq_getElem_cons (by omega)
  have e2 : w.drop (i + 1) = w[i + 1] :: w.drop (i + 2) := List.drop_eq_getElem_cons h
  rw [← e2, ← e1, List.take_append_drop]
theorem wf_adj {w : List Int} {i j : Nat} {a : Nat} (hi : i < w.length) (hj : j < w.length) (h1 : w[i] = -1) (h2 : w[j] = a) (hn : i + 1 = j ∨ j + 1 = i) : wf ((w.set i (a : Int)).set j (-1)) = wf w := by
  have ha : (0 : Int) ≤ a := by omega
  rcases hn with rfl | rfl
  · have e := split2 hj
    rw [h1, h2] at e
    have hl : (w.take i).length = i := by rw [List.length_take]; omega
    generalize w.take i = u at *
    generalize w.drop (i + 2) = v at *
    subst e
    rw [set_mid hl.symm, wf_app, wf_app, wf_pos _ _ ha, wf_neg, wf_neg, wf_pos _ _ ha]
  · have e := split2 hi
    rw [h1, h2] at e
    have hl : (w.take j).length = j := by rw [List.length_take]; omega
    generalize w.take j = u at *
    generalize w.drop (j + 2) = v at *
    subst e
    rw [List.set_comm _ _ (by omega), set_mid hl.symm, wf_app, wf_app, wf_neg, wf_pos _ _ ha, wf_pos _ _ ha, wf_neg]

theorem idxL_cons (a : Int) (s : List Int) (h : a ≠ 0) (hs : (0 : Int) ∈ s) : idxL (a :: s) 0 = idxL s 0 + 1 ∧ 0 ≤ idxL s 0 := by
  have h1 : idxL s 0 = (s.findIdx? fun y => decide (0 = y)).elim (-1) fun i => (i : Int) := by unfold idxL; cases List.findIdx? (fun y => decide (0 = y)) s <;> rfl
  have h2 : idxL (a :: s) 0 = ((a :: s).findIdx? fun y => decide (0 = y)).elim (-1) fun i => (i : Int) := by unfold idxL; cases List.findIdx? (fun y => decide (0 = y)) (a :: s) <;> rfl
  cases hf : s.findIdx? fun y => decide (0 = y) with
  | none =>
    rw [List.findIdx?_eq_none_iff] at hf
    have := hf 0 hs
    simp at this
  | some i =>
    rw [h1, h2, List.findIdx?_cons, hf]
    simp [Ne.symm h]
theorem idxL_snoc (a : Int) (s : List Int) (hs : (0 : Int) ∈ s) : idxL (s ++ [a]) 0 = idxL s 0 := by
  unfold idxL
  rw [List.findIdx?_append]
  cases hf : List.findIdx? (fun y => decide (0 = y)) s with
  | none =>
    rw [List.findIdx?_eq_none_iff] at hf
    have := hf 0 hs
    simp at this
  | some i => rfl
theorem rot_one {a : Int} {s : List Int} (hnd : (a :: s).Nodup) (h0 : (0 : Int) ∈ a :: s) : rotL (s ++ [a]) = rotL (a :: s) := by
  by_cases ha : a = 0
  · subst ha
    have hno : (0 : Int) ∉ s := (List.nodup_cons.1 hnd).1
    have e1 : fstO (s ++ [0]) = s.length := fstO_new hno
    have e2 : idxL (0 :: s) 0 = 0 := idxL_some (k := 0) (by simp) (fun j hj hj0 => by omega) rfl
    rw [rotL_id (o := 0 :: s) (by rw [e2]; exact Int.le_refl _), rotL, e1]
    simp
  · have hs : (0 : Int) ∈ s := by simpa [Ne.symm ha] using h0
    obtain ⟨e1, e0⟩ := idxL_cons a s ha hs
    have e2 := idxL_snoc a s hs
    have hlt := idxL_lt s 0
    have f1 : fstO (a :: s) = (idxL s 0).toNat + 1 := by unfold fstO; omega
    have f2 : fstO (s ++ [a]) = (idxL s 0).toNat := by unfold fstO; rw [e2]
    have hq : (idxL s 0).toNat ≤ s.length := by omega
    rw [rotL, rotL, f1, f2]
    simp [List.drop_append_of_le_length hq, List.take_append_of_le_length hq]

theorem wf_wrap {w : List Int} {i j : Nat} {a : Nat} (hi : i < w.length) (hj : j < w.length) (hij : i ≠ j) (h1 : w[i] = -1) (h2 : w[j] = a) (hn : (i = 0 ∧ j + 1 = w.length) ∨ (j = 0 ∧ i + 1 = w.length)) (hnd : (wf w).Nodup) (h0 : (0 : Int) ∈ wf w) : rotL (wf ((w.set i (a : Int)).set j (-1))) = rotL (wf w) := by
  have ha : (0 : Int) ≤ a := by omega
  have hw : ∃ x u y, w = x :: (u ++ [y]) := by
    match w, hi with
    | x :: w, _ =>
      have : w ≠ [] := by rintro rfl; simp at hn; omega
      exact ⟨x, w.dropLast, w.getLast this, by rw [List.dropLast_concat_getLast]⟩
  obtain ⟨x, u, y, rfl⟩ := hw
  rcases hn with ⟨rfl, hn⟩ | ⟨rfl, hn⟩
  · have hj' : j = u.length + 1 := by simp at hn; omega
    subst hj'
    simp only [List.getElem_cons_zero] at h1
    have hy : y = a := by simpa using h2
    subst hy; subst h1
    have e : (((-1) :: (u ++ [(a : Int)])).set 0 (a : Int)).set (u.length + 1) (-1) = (a : Int) :: (u ++ [-1]) := by simp
    rw [e]
    have e1 : wf ((a : Int) :: (u ++ [-1])) = (a : Int) :: wf u := by rw [wf_pos _ _ ha, wf_app]; simp [wf]
    have e2 : wf (-1 :: (u ++ [(a : Int)])) = wf u ++ [(a : Int)] := by rw [wf_neg, wf_app, wf_pos _ _ ha]; simp [wf]
    rw [e2] at hnd h0
    rw [e1, e2, rot_one]
    · exact (List.perm_append_singleton (a : Int) (wf u)).nodup_iff.1 hnd
    · exact (List.perm_append_singleton (a : Int) (wf u)).subset h0
  · have hi' : i = u.length + 1 := by simp at hn; omega
    subst hi'
    simp only [List.getElem_cons_zero] at h2
    have hy : y = -1 := by simpa using h1
    subst hy; subst h2
    have e : (((a : Int) :: (u ++ [-1])).set (u.length + 1) (a : Int)).set 0 (-1) = -1 :: (u ++ [(a : Int)]) := by simp
    rw [e]
    have e1 : wf ((a : Int) :: (u ++ [-1])) = (a : Int) :: wf u := by rw [wf_pos _ _ ha, wf_app]; simp [wf]
    have e2 : wf (-1 :: (u ++ [(a : Int)])) = wf u ++ [(a : Int)] := by rw [wf_neg, wf_app, wf_pos _ _ ha]; simp [wf]
    rw [e1] at hnd h0
    rw [e1, e2, rot_one hnd h0]

theorem way_line {n : Int} {ls : List (Int × Int)} (hls : ∀ l ∈ ls, okLn n l) {Z : List Int} (hZ : Ord n Z) (hv : Vld ls Z false) : ∀ (d : Nat) {l t : List Int}, vTP n ls l = 0 → Way n ls d l t → wf (wd Z t) = wf (wd Z l)
  | 0, l, t, _, h => by
    have h : l = t := h
    rw [h]
  | d + 1, l, t, hvl, ⟨y, m, h1, h2, h3⟩ => by
    have hy := Way.V d hvl h1
    obtain ⟨i, j, a, hi, hj, hij, hnb, g1, g2, g3⟩ := move_wd hls hZ hv hy h2
    have hnb' : i + 1 = j ∨ j + 1 = i := by simpa [nbF] using hnb
    rw [h3, g3, wf_adj (by rw [wd_len]; exact hi) (by rw [wd_len]; exact hj) g1 g2 hnb']
    exact way_line hls hZ hv d hvl h1
theorem way_ring {n : Int} {ls : List (Int × Int)} (hls : ∀ l ∈ ls, okLn n l) {Z : List Int} (hZ : Ord n Z) (hv : Vld ls Z true) : ∀ (d : Nat) {l t : List Int}, vTP n ls l = 0 → Way n ls d l t → rotL (wf (wd Z t)) = rotL (wf (wd Z l))
  | 0, l, t, _, h => by
    have h : l = t := h
    rw [h]
  | d + 1, l, t, hvl, ⟨y, m, h1, h2, h3⟩ => by
    have hy := Way.V d hvl h1
    obtain ⟨i, j, a, hi, hj, hij, hnb, g1, g2, g3⟩ := move_wd hls hZ hv hy h2
    have hi' : i < (wd Z y).length := by rw [wd_len]; exact hi
    have hj' : j < (wd Z y).length := by rw [wd_len]; exact hj
    simp only [nbF, Bool.true_and, Bool.or_eq_true, Bool.and_eq_true, decide_eq_true_eq] at hnb
    rw [h3, g3, ← way_ring hls hZ hv d hvl h1]
    rcases hnb with hnb | hnb
    · rw [wf_adj hi' hj' g1 g2 hnb]
    · refine wf_wrap hi' hj' hij g1 g2 (by rw [wd_len]; exact hnb) (wf_nodup hZ y) ?_
      -- the ion 0 is there
      have hr := (vTP_iff.1 hy).2.2.1
      have hpos : 0 < y.length := by
        obtain ⟨q1, q2, _⟩ := refu0 h2
        omega
      obtain ⟨q, hq, e⟩ := List.mem_iff_getElem.1 (hZ.all (z := y[0]) (hr _ (List.getElem_mem hpos)))
      have hq' : q < (wd Z y).length := by rw [wd_len]; exact hq
      have e2 : (wd Z y)[q] = 0 := by rw [wd_at hq' hq, e]; exact idx_at (vTP_iff.1 hy).2.2.2 hpos
      exact List.mem_filter.2 ⟨e2 ▸ List.getElem_mem hq', by simp⟩

theorem far_iff {n : Int} {ls : List (Int × Int)} {l t : List Int} (hp : pairE n ls l t = 0) : (farP n ls l t).2.1 = true ↔ Rc n ls l t := by
  obtain ⟨v1, v2, v3⟩ := pairE_ok hp
  constructor
  · intro h
    rcases hF : farP n ls l t with ⟨a, b, e⟩
    rw [hF] at h
    simp only at h
    subst h
    obtain ⟨d, _, hw⟩ := far_way hF
    exact ⟨d, hw⟩
  · rintro ⟨d, h⟩
    obtain ⟨a, ha, _⟩ := way_far v1 v3 h
    rw [ha]

theorem seqA_ok {n : Int} {ls : List (Int × Int)} {l : List Int} (h : vTP n ls l = 0) : seqA n ls l = if (lineP n ls).2 = true then (seqL l (lineP n ls).1, true, 0) else if (ringP n ls).2 = true then (rotL (seqL l (ringP n ls).1), true, 0) else ([], false, 0) := by
  rw [seqA, if_neg (by simpa using h)]

theorem keeps_fact {n : Int} {ls : List (Int × Int)} {l t : List Int} (hp : pairE n ls l t = 0) (h : (seqA n ls l).2.1 = true) :
    (seqA n ls t).2.1 = true ∧ ((farP n ls l t).2.1 = true → (seqA n ls l).1 = (seqA n ls t).1) ∧ ((lineP n ls).2 = true ∨ (l.length : Int) < n → (seqA n ls l).1 = (seqA n ls t).1 → (farP n ls l t).2.1 = true) := by
  obtain ⟨v1, v2, v3⟩ := pairE_ok hp
  have hvt := vTP_vT v1
  obtain ⟨hn1, hls, hnd⟩ := vT_parts hvt
  have n1 := (vTP_iff.1 v1).2.2.2
  have n2 := (vTP_iff.1 v2).2.2.2
  rw [far_iff hp]
  rw [seqA_ok v1] at h ⊢
  rw [seqA_ok v2]
  by_cases hL : (lineP n ls).2 = true
  · obtain ⟨g1, g2, _⟩ := lineP_ok hvt hL
    simp only [if_pos hL]
    rw [seqL_wf n1, seqL_wf n2]
    refine ⟨trivial, fun ⟨d, hw⟩ => (way_line hls g1 g2 d v1 hw).symm, fun _ hs => line_reach g1 g2 v1 v2 v3 hs⟩
  · simp only [if_neg hL] at h ⊢
    by_cases hR : (ringP n ls).2 = true
    · obtain ⟨g0, g1, g2, _⟩ := ringP_ok hvt hR
      simp only [if_pos hR]
      rw [seqL_wf n1, seqL_wf n2]
      refine ⟨trivial, fun ⟨d, hw⟩ => (way_ring hls g1 g2 d v1 hw).symm, fun hf hs => ring_reach g1 g2 v1 v2 v3 ?_ hs⟩
      rw [g1.len]
      rcases hf with hf | hf
      · exact absurd hf hL
      · omega
    · rw [if_neg hR] at h; cases h
end Go.Proofs.Ytkolpijhgcijbaa

namespace Go.Proofs.Ytkolpijhgcijbaa
open Aw Go.RowKit
set_option linter.unusedSimpArgs false

theorem farP_err (n : Int) (ls : List (Int × Int)) (l t : List Int) : (farP n ls l t).2.2 = pairE n ls l t := by
  by_cases h : pairE n ls l t = 0
  · rw [farP_ok h, h, farQ]
    cases farL (rch n ls l) t <;> rfl
  · rw [farP, if_pos h]
theorem seqA_V {n : Int} {ls : List (Int × Int)} {l : List Int} : (seqA n ls l).2.2 = vTP n ls l := by
  by_cases h : vTP n ls l = 0
  · rw [seqA_ok h, h]
    split
    · rfl
    · split <;> rfl
  · rw [seqA, if_pos h]

theorem ok14 : okFn Try.prog 14 = true := by kernel_rfl
set_option maxRecDepth 20000 in
set_option maxHeartbeats 1000000 in
theorem s14 (n : Int) (ls : List (Int × Int)) (l t : List Int) : ASpec Try.prog 14 [trapA n ls, .s 1 (intsA l), .s 1 (intsA t)] (fun r Ms => r = B true ∧ Ms = []) := by
  refine aspec_of (own := []) Try.func14 rfl ok14 ?_
  simp only [w_assign, w_box, w_load, w_callF, w_aop, w_some, w_asome, w_anone, w_nil, w_cons, awp, asP, asN, loadA, St.ev, St.step, setS, killS, AV.kill, AV.killL, Mem.kill, AV.cells, AV.flat, AV.single, AV.cellular, AV.pure, AV.pureL, ACond_false, List.getD_cons_succ, List.getD_cons_zero, List.set_cons_succ, List.set_cons_zero, List.getElem?_cons_zero, List.length_cons, List.length_nil, List.replicate_succ, List.replicate_zero, List.cons_append, List.nil_append, List.contains_nil, List.isEmpty_nil, Option.getD_some, Bool.false_eq_true, if_false, if_true, true_and, and_true, List.all_cons, List.all_nil, Bool.and_true, Bool.true_and, Bool.not_true, Nat.zero_add, Nat.add_zero, beq_self_eq_true, List.map_cons, List.map_nil, decide_true, Nat.reduceAdd, Nat.reduceSub, Nat.reduceLeDiff, Int.reduceAdd, Int.reduceSub, ti24, Try.ntmps14, trapA]
  have known : ∀ {M : Mem} {K : HK (AV → Mem → Prop)}, K.k (B true) M → ACall Try.prog 18 [] M (K := K) := fun h => acall_v s18 rfl rfl h
  refine acall_v (s16 n ls) rfl rfl ?_
  by_cases h1 : (60 : Int) < ls.length
  · simp only [w_move, w_pick, w_callF, w_aop, w_aopg, w_gdb, w_some, w_nil, w_cons, awp, asB, St.ev, St.step, setS, killS, AV.kill, AV.killL, Mem.kill, ACond_true, ACond_false, List.getD_cons_succ, List.getD_cons_zero, List.set_cons_succ, List.set_cons_zero, List.getElem?_cons_succ, List.getElem?_cons_zero, List.contains_nil, List.isEmpty_nil, if_true, Bool.not_true, List.map_nil, Nat.reduceAdd, Int.reduceAdd, Option.bind_some, w_bf, decide_eq_true h1]
    refine known ?_
    simp only [w_assign, w_aop, w_anone, w_nil, w_cons, awp, asN, St.ev, St.step, setS, killS, AV.kill, AV.killL, Mem.kill, List.getD_cons_succ, List.getD_cons_zero, List.set_cons_succ, List.set_cons_zero, List.contains_nil, List.isEmpty_nil, Option.getD_some, Bool.false_eq_true, if_false, if_true]
    exact aend_frz rfl ⟨rfl, rfl⟩
  simp only [w_move, w_callF, w_aop, w_aopg, w_gdb, w_some, w_cons, St.ev, St.step, setS, killS, AV.kill, AV.killL, Mem.kill, ACond_true, List.getD_cons_succ, List.getD_cons_zero, List.set_cons_succ, List.set_cons_zero, List.getElem?_cons_succ, List.getElem?_cons_zero, List.isEmpty_nil, if_true, beq_self_eq_true, List.map_cons, List.map_nil, Option.bind_some, decide_eq_false h1]
  refine acall_v (s17 l) rfl rfl ?_
  by_cases h2 : (40 : Int) < l.length
  · simp only [w_move, w_pick, w_callF, w_aop, w_aopg, w_gdb, w_some, w_nil, w_cons, awp, asB, St.ev, St.step, setS, killS, AV.kill, AV.killL, Mem.kill, ACond_true, ACond_false, List.getD_cons_succ, List.getD_cons_zero, List.set_cons_succ, List.set_cons_zero, List.getElem?_cons_succ, List.getElem?_cons_zero, List.contains_nil, List.isEmpty_nil, if_true, Bool.not_true, List.map_nil, Nat.reduceAdd, Int.reduceAdd, Option.bind_some, w_bf, decide_eq_true h2]
    refine known ?_
    simp only [w_assign, w_aop, w_anone, w_nil, w_cons, awp, asN, St.ev, St.step, setS, killS, AV.kill, AV.killL, Mem.kill, List.getD_cons_succ, List.getD_cons_zero, List.set_cons_succ, List.set_cons_zero, List.contains_nil, List.isEmpty_nil, Option.getD_some, Bool.false_eq_true, if_false, if_true]
    exact aend_frz rfl ⟨rfl, rfl⟩
  simp only [w_move, w_pick, w_callF, w_aop, w_aopg, w_gdb, w_some, w_cons, asB, St.ev, St.step, setS, killS, AV.kill, AV.killL, Mem.kill, ACond_true, ACond_false, List.getD_cons_succ, List.getD_cons_zero, List.set_cons_succ, List.set_cons_zero, List.getElem?_cons_succ, List.getElem?_cons_zero, List.isEmpty_nil, if_true, beq_self_eq_true, List.map_cons, List.map_nil, Option.bind_some, decide_eq_false h2]
  refine acall_v (s17 t) rfl rfl ?_
  by_cases h3 : (40 : Int) < t.length
  · simp only [w_pick, w_callF, w_aop, w_some, w_nil, w_cons, awp, asB, St.ev, St.step, setS, killS, AV.kill, AV.killL, Mem.kill, ACond_true, ACond_false, List.getD_cons_succ, List.getD_cons_zero, List.set_cons_succ, List.set_cons_zero, List.contains_nil, List.isEmpty_nil, if_true, List.map_nil, Nat.reduceAdd, Int.reduceAdd, decide_eq_true h3]
    refine known ?_
    simp only [w_assign, w_aop, w_anone, w_nil, w_cons, awp, asN, St.ev, St.step, setS, killS, AV.kill, AV.killL, Mem.kill, List.getD_cons_succ, List.getD_cons_zero, List.set_cons_succ, List.set_cons_zero, List.contains_nil, List.isEmpty_nil, Option.getD_some, Bool.false_eq_true, if_false, if_true]
    exact aend_frz rfl ⟨rfl, rfl⟩
  simp only [w_move, w_pick, w_load, w_callF, w_aop, w_some, w_asome, w_nil, w_cons, awp, asP, asB, loadA, St.ev, St.step, setS, killS, AV.kill, AV.killL, Mem.kill, AV.cells, AV.flat, AV.single, ACond_false, List.getD_cons_succ, List.getD_cons_zero, List.set_cons_succ, List.set_cons_zero, List.getElem?_cons_zero, List.length_cons, List.length_nil, List.contains_nil, List.isEmpty_nil, Bool.false_eq_true, if_false, if_true, and_true, List.all_cons, List.all_nil, Bool.and_true, Bool.not_true, Nat.zero_add, beq_self_eq_true, List.map_cons, List.map_nil, decide_true, Nat.reduceAdd, Nat.reduceLeDiff, Int.reduceAdd, ti24, decide_eq_false h3]
  have hls : ls.length ≤ 1000000 := by omega
  have hl : l.length ≤ 1000000 := by omega
  have ht : t.length ≤ 1000000 := by omega
  have a1 := s54 n ls l hls hl
  have a2 := s54 n ls t hls ht
  have a3 := s40 n ls l t hls hl ht
  have a4 := s48' n ls hls
  have L1 := seqA_len n ls l
  have L2 := seqA_len n ls t
  have E1 := seqA_V (n := n) (ls := ls) (l := l)
  have E3 := farP_err n ls l t
  have hk := keeps_fact (n := n) (ls := ls) (l := l) (t := t)
  have hline : vT n ls = 0 → (lineA n ls).2.2 = 0 ∧ (lineA n ls).2.1 = (lineP n ls).2 := fun hv => by
    rw [lineA, if_neg (by simpa using hv)]
    by_cases h : (lineP n ls).2 = true
    · rw [if_pos h, h]; exact ⟨rfl, rfl⟩
    · rw [if_neg h]; exact ⟨rfl, by simpa using h⟩
  rcases hA : seqA n ls l with ⟨a, is, e⟩
  rcases hB : seqA n ls t with ⟨b, was, f⟩
  rcases hF : farP n ls l t with ⟨d, far, g⟩
  rcases hLA : lineA n ls with ⟨c, line, q⟩
  rw [hA] at a1 L1 E1 hk
  rw [hB] at a2 L2 hk
  rw [hF] at a3 E3 hk
  rw [hLA] at a4 hline
  simp only at L1 L2 E1 E3 hk hline
  refine acall_v a1 rfl rfl ?_
  simp only [w_move, w_assign, w_load, w_extract, w_callF, w_aop, w_some, w_asome, w_anone, w_nil, w_cons, awp, asP, asT, asN, loadA, St.ev, St.step, setS, killS, AV.kill, AV.killL, Mem.kill, AV.cells, AV.flat, AV.single, ACond_false, List.getD_cons_succ, List.getD_cons_zero, List.set_cons_succ, List.set_cons_zero, List.getElem?_cons_succ, List.getElem?_cons_zero, List.length_cons, List.length_nil, List.contains_nil, List.isEmpty_nil, Option.getD_some, Bool.false_eq_true, if_false, if_true, and_true, List.all_cons, List.all_nil, Bool.and_true, Bool.not_true, Nat.zero_add, beq_self_eq_true, List.map_cons, List.map_nil, decide_true, Nat.reduceAdd, Nat.reduceLeDiff, Int.reduceAdd, ti24, t3A]
  refine acall_v a2 rfl rfl ?_
  simp only [w_move, w_assign, w_load, w_extract, w_callF, w_aop, w_some, w_asome, w_anone, w_nil, w_cons, awp, asP, asT, asN, loadA, St.ev, St.step, setS, killS, AV.kill, AV.killL, Mem.kill, AV.cells, AV.flat, AV.single, ACond_false, List.getD_cons_succ, List.getD_cons_zero, List.set_cons_succ, List.set_cons_zero, List.getElem?_cons_succ, List.getElem?_cons_zero, List.length_cons, List.length_nil, List.contains_nil, List.isEmpty_nil, Option.getD_some, Bool.false_eq_true, if_false, if_true, and_true, List.all_cons, List.all_nil, Bool.and_true, Bool.not_true, Nat.zero_add, beq_self_eq_true, List.map_cons, List.map_nil, decide_true, Nat.reduceAdd, Nat.reduceLeDiff, Int.reduceAdd, ti24, t3A]
  refine acall_v a3 rfl rfl ?_
  by_cases he : e = 0
  case neg =>
    simp only [w_move, w_assign, w_pick, w_binOp, w_extract, w_callF, w_aop, w_aopg, w_gdb, w_some, w_asome, w_anone, w_nil, w_cons, awp, binC, cmpC, asT, asB, asI, asN, St.ev, St.step, setS, killS, AV.kill, AV.killL, Mem.kill, ACond_true, ACond_false, List.getD_cons_succ, List.getD_cons_zero, List.set_cons_succ, List.set_cons_zero, List.getElem?_cons_succ, List.getElem?_cons_zero, List.contains_nil, List.isEmpty_nil, Option.getD_some, Bool.false_eq_true, if_false, if_true, true_and, Bool.true_and, Bool.not_true, Bool.not_false, List.map_nil, Nat.reduceAdd, Int.reduceAdd, Option.bind_some, w_bf, decide_eq_false he]
    refine known ?_
    simp only [w_assign, w_aop, w_anone, w_nil, w_cons, awp, asN, St.ev, St.step, setS, killS, AV.kill, AV.killL, Mem.kill, List.getD_cons_succ, List.getD_cons_zero, List.set_cons_succ, List.set_cons_zero, List.contains_nil, List.isEmpty_nil, Option.getD_some, Bool.false_eq_true, if_false, if_true]
    exact aend_frz rfl ⟨rfl, rfl⟩
  by_cases hf : f = 0
  case neg =>
    simp only [w_move, w_assign, w_pick, w_binOp, w_extract, w_callF, w_aop, w_aopg, w_gdb, w_some, w_asome, w_anone, w_nil, w_cons, awp, binC, cmpC, asT, asB, asI, asN, St.ev, St.step, setS, killS, AV.kill, AV.killL, Mem.kill, ACond_true, ACond_false, List.getD_cons_succ, List.getD_cons_zero, List.set_cons_succ, List.set_cons_zero, List.getElem?_cons_succ, List.getElem?_cons_zero, List.contains_nil, List.isEmpty_nil, Option.getD_some, Bool.false_eq_true, if_false, if_true, true_and, Bool.true_and, Bool.not_true, Bool.not_false, beq_self_eq_true, List.map_nil, Nat.reduceAdd, Int.reduceAdd, Option.bind_some, w_bf, decide_eq_true he, decide_eq_false hf]
    refine known ?_
    simp only [w_assign, w_aop, w_anone, w_nil, w_cons, awp, asN, St.ev, St.step, setS, killS, AV.kill, AV.killL, Mem.kill, List.getD_cons_succ, List.getD_cons_zero, List.set_cons_succ, List.set_cons_zero, List.contains_nil, List.isEmpty_nil, Option.getD_some, Bool.false_eq_true, if_false, if_true]
    exact aend_frz rfl ⟨rfl, rfl⟩
  by_cases hg : g = 0
  case neg =>
    simp only [w_move, w_assign, w_pick, w_binOp, w_extract, w_callF, w_aop, w_aopg, w_gdb, w_some, w_asome, w_anone, w_nil, w_cons, awp, binC, cmpC, asT, asB, asI, asN, St.ev, St.step, setS, killS, AV.kill, AV.killL, Mem.kill, ACond_true, ACond_false, List.getD_cons_succ, List.getD_cons_zero, List.set_cons_succ, List.set_cons_zero, List.getElem?_cons_succ, List.getElem?_cons_zero, List.contains_nil, List.isEmpty_nil, Option.getD_some, Bool.false_eq_true, if_false, if_true, true_and, Bool.true_and, Bool.not_true, Bool.not_false, beq_self_eq_true, List.map_nil, Nat.reduceAdd, Int.reduceAdd, Option.bind_some, w_bf, decide_eq_true he, decide_eq_true hf, decide_eq_false hg]
    refine known ?_
    simp only [w_assign, w_aop, w_anone, w_nil, w_cons, awp, asN, St.ev, St.step, setS, killS, AV.kill, AV.killL, Mem.kill, List.getD_cons_succ, List.getD_cons_zero, List.set_cons_succ, List.set_cons_zero, List.contains_nil, List.isEmpty_nil, Option.getD_some, Bool.false_eq_true, if_false, if_true]
    exact aend_frz rfl ⟨rfl, rfl⟩
  cases is with
  | false =>
    simp only [w_move, w_assign, w_pick, w_binOp, w_not, w_extract, w_callF, w_aop, w_aopg, w_gdb, w_some, w_asome, w_anone, w_nil, w_cons, awp, binC, cmpC, asT, asB, asI, asN, St.ev, St.step, setS, killS, AV.kill, AV.killL, Mem.kill, ACond_true, ACond_false, List.getD_cons_succ, List.getD_cons_zero, List.set_cons_succ, List.set_cons_zero, List.getElem?_cons_succ, List.getElem?_cons_zero, List.contains_nil, List.isEmpty_nil, Option.getD_some, Bool.false_eq_true, if_false, if_true, true_and, Bool.true_and, Bool.not_true, Bool.not_false, beq_self_eq_true, List.map_nil, Nat.reduceAdd, Int.reduceAdd, Option.bind_some, decide_eq_true he, decide_eq_true hf, decide_eq_true hg]
    refine known ?_
    simp only [w_assign, w_aop, w_anone, w_nil, w_cons, awp, asN, St.ev, St.step, setS, killS, AV.kill, AV.killL, Mem.kill, List.getD_cons_succ, List.getD_cons_zero, List.set_cons_succ, List.set_cons_zero, List.contains_nil, List.isEmpty_nil, Option.getD_some, Bool.false_eq_true, if_false, if_true]
    exact aend_frz rfl ⟨rfl, rfl⟩
  | true =>
    obtain ⟨k1, k2, k3⟩ := hk (by rw [← E3]; exact hg) rfl
    obtain ⟨q1, q2⟩ := hline (vTP_vT (by rw [← E1]; exact he))
    subst k1; subst q1
    simp only [w_move, w_assign, w_pick, w_binOp, w_not, w_extract, w_callF, w_aop, w_aopg, w_gdb, w_some, w_asome, w_anone, w_nil, w_cons, awp, binC, cmpC, eqC, asT, asB, asI, asN, St.ev, St.step, setS, killS, AV.kill, AV.killL, Mem.kill, ACond_true, ACond_false, List.getD_cons_succ, List.getD_cons_zero, List.set_cons_succ, List.set_cons_zero, List.getElem?_cons_succ, List.getElem?_cons_zero, List.contains_nil, List.isEmpty_nil, Option.getD_some, Bool.false_eq_true, if_false, if_true, true_and, Bool.true_and, Bool.not_true, beq_self_eq_true, List.map_cons, List.map_nil, Nat.reduceAdd, Int.reduceAdd, Option.bind_some, ti4, decide_eq_true he, decide_eq_true hf, decide_eq_true hg]
    refine acall_v (s27 a b L1 L2) rfl rfl ?_
    simp only [w_assign, w_load, w_callF, w_aop, w_some, w_asome, w_anone, w_nil, w_cons, awp, asP, asN, loadA, St.ev, St.step, setS, killS, AV.kill, AV.killL, Mem.kill, AV.cells, AV.flat, AV.single, ACond_false, List.getD_cons_succ, List.getD_cons_zero, List.set_cons_succ, List.set_cons_zero, List.getElem?_cons_zero, List.length_cons, List.length_nil, List.contains_nil, List.isEmpty_nil, Option.getD_some, Bool.false_eq_true, if_false, if_true, and_true, List.all_cons, List.all_nil, Bool.and_true, Bool.not_true, Nat.zero_add, beq_self_eq_true, List.map_cons, List.map_nil, decide_true, Nat.reduceAdd, Nat.reduceLeDiff, Int.reduceAdd, ti24]
    refine acall_v a4 rfl rfl ?_
    by_cases hab : a = b
    · cases far with
      | true =>
        cases line with
        | true =>
          simp only [w_move, w_assign, w_pick, w_binOp, w_extract, w_callF, w_aop, w_aopg, w_gdb, w_some, w_asome, w_anone, w_nil, w_cons, awp, binC, cmpC, eqC, asT, asB, asI, asN, St.ev, St.step, setS, killS, AV.kill, AV.killL, Mem.kill, ACond_true, ACond_false, List.getD_cons_succ, List.getD_cons_zero, List.set_cons_succ, List.set_cons_zero, List.getElem?_cons_succ, List.getElem?_cons_zero, List.contains_nil, List.isEmpty_nil, Option.getD_some, Bool.false_eq_true, if_false, if_true, true_and, Bool.true_and, Bool.not_true, beq_self_eq_true, List.map_nil, decide_true, Nat.reduceAdd, Int.reduceAdd, Option.bind_some, w_bf, ti4, t3A, decide_eq_true hab]
          refine known ?_
          simp only [w_assign, w_pick, w_aop, w_some, w_anone, w_nil, w_cons, awp, asB, asN, St.ev, St.step, setS, killS, AV.kill, AV.killL, Mem.kill, ACond_true, List.getD_cons_succ, List.getD_cons_zero, List.set_cons_succ, List.set_cons_zero, List.contains_nil, List.isEmpty_nil, Option.getD_some, Bool.false_eq_true, if_false, if_true]
          exact aend_frz rfl ⟨rfl, rfl⟩
        | false =>
          by_cases hfr : (l.length : Int) < n
          · simp only [w_move, w_assign, w_pick, w_load, w_fieldAddr, w_binOp, w_extract, w_callF, w_len, w_aop, w_aopg, w_gdb, w_some, w_asome, w_anone, w_nil, w_cons, awp, binC, cmpC, eqC, asP, asT, asB, asI, asN, lenA, loadA, St.ev, St.step, setS, killS, AV.kill, AV.killL, Mem.kill, AV.cells, AV.flat, AV.single, ACond_true, ACond_false, List.getD_cons_succ, List.getD_cons_zero, List.set_cons_succ, List.set_cons_zero, List.getElem?_cons_succ, List.getElem?_cons_zero, List.length_cons, List.length_nil, List.contains_nil, List.isEmpty_nil, Option.getD_some, Bool.false_eq_true, if_false, if_true, true_and, and_true, List.all_cons, List.all_nil, Bool.and_true, Bool.true_and, Bool.not_true, Option.isSome_some, Nat.zero_add, Nat.add_zero, beq_self_eq_true, List.map_nil, decide_true, nbeq, decide_false, Bool.and_false, Nat.reduceAdd, Nat.reduceEqDiff, Nat.reduceLeDiff, Int.reduceAdd, Option.bind_some, ne_eq, not_false_eq_true, ti3, ti4, ti24, ti25, t3A, decide_eq_true hab, intsA_len, decide_eq_true hfr]
            refine known ?_
            simp only [w_assign, w_pick, w_aop, w_some, w_anone, w_nil, w_cons, awp, asB, asN, St.ev, St.step, setS, killS, AV.kill, AV.killL, Mem.kill, ACond_true, List.getD_cons_succ, List.getD_cons_zero, List.set_cons_succ, List.set_cons_zero, List.contains_nil, List.isEmpty_nil, Option.getD_some, Bool.false_eq_true, if_false, if_true]
            exact aend_frz rfl ⟨rfl, rfl⟩
          · simp only [w_move, w_assign, w_pick, w_load, w_fieldAddr, w_binOp, w_not, w_extract, w_callF, w_len, w_aop, w_aopg, w_gdb, w_some, w_asome, w_anone, w_nil, w_cons, awp, binC, cmpC, asP, asT, asB, asI, asN, lenA, loadA, St.ev, St.step, setS, killS, AV.kill, AV.killL, Mem.kill, AV.cells, AV.flat, AV.single, ACond_true, ACond_false, List.getD_cons_succ, List.getD_cons_zero, List.set_cons_succ, List.set_cons_zero, List.getElem?_cons_succ, List.getElem?_cons_zero, List.length_cons, List.length_nil, List.contains_nil, List.isEmpty_nil, Option.getD_some, Bool.false_eq_true, if_false, if_true, true_and, and_true, List.all_cons, List.all_nil, Bool.and_true, Bool.true_and, Bool.not_true, Option.isSome_some, Nat.zero_add, Nat.add_zero, beq_self_eq_true, List.map_nil, decide_true, nbeq, decide_false, Bool.and_false, Nat.reduceAdd, Nat.reduceEqDiff, Nat.reduceLeDiff, Int.reduceAdd, Option.bind_some, ne_eq, not_false_eq_true, ti3, ti24, ti25, t3A, decide_eq_true hab, intsA_len, decide_eq_false hfr]
            refine known ?_
            simp only [w_assign, w_pick, w_aop, w_some, w_anone, w_nil, w_cons, awp, asB, asN, St.ev, St.step, setS, killS, AV.kill, AV.killL, Mem.kill, ACond_true, List.getD_cons_succ, List.getD_cons_zero, List.set_cons_succ, List.set_cons_zero, List.contains_nil, List.isEmpty_nil, Option.getD_some, Bool.false_eq_true, if_false, if_true]
            exact aend_frz rfl ⟨rfl, rfl⟩
      | false =>
        have hnl : ¬ (lineP n ls).2 = true := fun h => by have := k3 (.inl h) hab; cases this
        have hline0 : line = false := by rw [q2]; simpa using hnl
        have hfr : ¬ (l.length : Int) < n := fun h => by have := k3 (.inr h) hab; cases this
        subst hline0
        simp only [w_move, w_assign, w_pick, w_load, w_fieldAddr, w_binOp, w_not, w_extract, w_callF, w_len, w_aop, w_aopg, w_gdb, w_some, w_asome, w_anone, w_nil, w_cons, awp, binC, cmpC, asP, asT, asB, asI, asN, lenA, loadA, St.ev, St.step, setS, killS, AV.kill, AV.killL, Mem.kill, AV.cells, AV.flat, AV.single, ACond_true, ACond_false, List.getD_cons_succ, List.getD_cons_zero, List.set_cons_succ, List.set_cons_zero, List.getElem?_cons_succ, List.getElem?_cons_zero, List.length_cons, List.length_nil, List.contains_nil, List.isEmpty_nil, Option.getD_some, Bool.false_eq_true, if_false, if_true, true_and, and_true, List.all_cons, List.all_nil, Bool.and_true, Bool.true_and, Bool.not_true, Bool.not_false, Option.isSome_some, Nat.zero_add, Nat.add_zero, beq_self_eq_true, List.map_nil, decide_true, nbeq, decide_false, Bool.and_false, Nat.reduceAdd, Nat.reduceEqDiff, Nat.reduceLeDiff, Int.reduceAdd, Option.bind_some, ne_eq, not_false_eq_true, w_bf, ti3, ti24, ti25, t3A, decide_eq_true hab, intsA_len, decide_eq_false hfr]
        refine known ?_
        simp only [w_assign, w_pick, w_aop, w_some, w_anone, w_nil, w_cons, awp, asB, asN, St.ev, St.step, setS, killS, AV.kill, AV.killL, Mem.kill, ACond_true, List.getD_cons_succ, List.getD_cons_zero, List.set_cons_succ, List.set_cons_zero, List.contains_nil, List.isEmpty_nil, Option.getD_some, Bool.false_eq_true, if_false, if_true]
        exact aend_frz rfl ⟨rfl, rfl⟩
    · cases far with
      | true => exact absurd (k2 rfl) hab
      | false =>
        cases line with
        | true =>
          simp only [w_move, w_assign, w_pick, w_binOp, w_extract, w_callF, w_aop, w_aopg, w_gdb, w_some, w_asome, w_anone, w_nil, w_cons, awp, binC, cmpC, eqC, asT, asB, asI, asN, St.ev, St.step, setS, killS, AV.kill, AV.killL, Mem.kill, ACond_true, ACond_false, List.getD_cons_succ, List.getD_cons_zero, List.set_cons_succ, List.set_cons_zero, List.getElem?_cons_succ, List.getElem?_cons_zero, List.contains_nil, List.isEmpty_nil, Option.getD_some, Bool.false_eq_true, if_false, if_true, true_and, Bool.true_and, Bool.not_true, beq_self_eq_true, List.map_nil, decide_true, Nat.reduceAdd, Int.reduceAdd, Option.bind_some, w_bf, ti4, t3A, decide_eq_false hab]
          refine known ?_
          simp only [w_assign, w_pick, w_aop, w_some, w_anone, w_nil, w_cons, awp, asB, asN, St.ev, St.step, setS, killS, AV.kill, AV.killL, Mem.kill, ACond_true, List.getD_cons_succ, List.getD_cons_zero, List.set_cons_succ, List.set_cons_zero, List.contains_nil, List.isEmpty_nil, Option.getD_some, Bool.false_eq_true, if_false, if_true]
          exact aend_frz rfl ⟨rfl, rfl⟩
        | false =>
          by_cases hfr : (l.length : Int) < n
          · simp only [w_move, w_assign, w_pick, w_load, w_fieldAddr, w_binOp, w_extract, w_callF, w_len, w_aop, w_aopg, w_gdb, w_some, w_asome, w_anone, w_nil, w_cons, awp, binC, cmpC, eqC, asP, asT, asB, asI, asN, lenA, loadA, St.ev, St.step, setS, killS, AV.kill, AV.killL, Mem.kill, AV.cells, AV.flat, AV.single, ACond_true, ACond_false, List.getD_cons_succ, List.getD_cons_zero, List.set_cons_succ, List.set_cons_zero, List.getElem?_cons_succ, List.getElem?_cons_zero, List.length_cons, List.length_nil, List.contains_nil, List.isEmpty_nil, Option.getD_some, Bool.false_eq_true, if_false, if_true, true_and, and_true, List.all_cons, List.all_nil, Bool.and_true, Bool.true_and, Bool.not_true, Option.isSome_some, Nat.zero_add, Nat.add_zero, beq_self_eq_true, List.map_nil, decide_true, nbeq, decide_false, Bool.and_false, Nat.reduceAdd, Nat.reduceEqDiff, Nat.reduceLeDiff, Int.reduceAdd, Option.bind_some, ne_eq, not_false_eq_true, ti3, ti4, ti24, ti25, t3A, decide_eq_false hab, intsA_len, decide_eq_true hfr]
            refine known ?_
            simp only [w_assign, w_pick, w_aop, w_some, w_anone, w_nil, w_cons, awp, asB, asN, St.ev, St.step, setS, killS, AV.kill, AV.killL, Mem.kill, ACond_true, List.getD_cons_succ, List.getD_cons_zero, List.set_cons_succ, List.set_cons_zero, List.contains_nil, List.isEmpty_nil, Option.getD_some, Bool.false_eq_true, if_false, if_true]
            exact aend_frz rfl ⟨rfl, rfl⟩
          · simp only [w_move, w_assign, w_pick, w_load, w_fieldAddr, w_binOp, w_not, w_extract, w_callF, w_len, w_aop, w_aopg, w_gdb, w_some, w_asome, w_anone, w_nil, w_cons, awp, binC, cmpC, asP, asT, asB, asI, asN, lenA, loadA, St.ev, St.step, setS, killS, AV.kill, AV.killL, Mem.kill, AV.cells, AV.flat, AV.single, ACond_true, ACond_false, List.getD_cons_succ, List.getD_cons_zero, List.set_cons_succ, List.set_cons_zero, List.getElem?_cons_succ, List.getElem?_cons_zero, List.length_cons, List.length_nil, List.contains_nil, List.isEmpty_nil, Option.getD_some, Bool.false_eq_true, if_false, if_true, true_and, and_true, List.all_cons, List.all_nil, Bool.and_true, Bool.true_and, Bool.not_true, Bool.not_false, Option.isSome_some, Nat.zero_add, Nat.add_zero, beq_self_eq_true, List.map_nil, decide_true, nbeq, decide_false, Bool.and_false, Nat.reduceAdd, Nat.reduceEqDiff, Nat.reduceLeDiff, Int.reduceAdd, Option.bind_some, ne_eq, not_false_eq_true, w_bf, ti3, ti24, ti25, t3A, decide_eq_false hab, intsA_len, decide_eq_false hfr]
            refine known ?_
            simp only [w_assign, w_pick, w_aop, w_some, w_anone, w_nil, w_cons, awp, asB, asN, St.ev, St.step, setS, killS, AV.kill, AV.killL, Mem.kill, ACond_true, List.getD_cons_succ, List.getD_cons_zero, List.set_cons_succ, List.set_cons_zero, List.contains_nil, List.isEmpty_nil, Option.getD_some, Bool.false_eq_true, if_false, if_true]
            exact aend_frz rfl ⟨rfl, rfl⟩
end Go.Proofs.Ytkolpijhgcijbaa
