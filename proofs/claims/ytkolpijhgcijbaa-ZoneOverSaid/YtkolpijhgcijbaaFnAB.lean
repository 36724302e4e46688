/-
  Places, ways and distances: the plain law of the search.
-/
import Derived.Test.YtkolpijhgcijbaaFnW
import Derived.Test.YtkolpijhgcijbaaFnU
namespace Go.Proofs.Ytkolpijhgcijbaa
open Aw Go.RowKit
set_option linter.unusedSimpArgs false

theorem lnk_comm' (ls : List (Int × Int)) (a b : Int) : lnk ls a b = lnk ls b a := by unfold lnk; rw [Int.min_comm, Int.max_comm]

theorem back_one' {n : Int} {ls : List (Int × Int)} {now : List Int} {m : Int × Int} (hv : vTP n ls now = 0) (h : refu n ls now m = 0) : refu n ls (nxt now m) (m.1, now.getD m.1.toNat 0) = 0 ∧ nxt (nxt now m) (m.1, now.getD m.1.toNat 0) = now := by
  obtain ⟨g1, g2, g3, g4, g5, g6⟩ := refu0 h
  obtain ⟨v1, v2, v3, v4⟩ := vTP_iff.1 hv
  have hno : m.2 ∉ now := by simpa [memL] using g6
  have hi : m.1.toNat < now.length := by omega
  have hg : now.getD m.1.toNat 0 = now[m.1.toNat] := by rw [List.getD_eq_getElem?_getD, List.getElem?_eq_getElem hi]; rfl
  have hx := v3 now[m.1.toNat] (List.getElem_mem hi)
  rw [hg] at g5 ⊢
  have hat : (nxt now m).getD m.1.toNat 0 = m.2 := by
    rw [nxt, List.getD_eq_getElem?_getD, List.getElem?_set_self hi]; rfl
  have hlen : (nxt now m).length = now.length := by simp [nxt]
  refine ⟨?_, ?_⟩
  · have hnm : memL (nxt now m) now[m.1.toNat] = false := by
      rw [Bool.eq_false_iff, ne_eq, memL_eq]
      intro hm
      obtain ⟨q, hq, e⟩ := List.mem_iff_getElem.1 hm
      simp only [nxt] at e
      rw [List.getElem_set] at e
      split at e
      · exact hno (e ▸ List.getElem_mem hi)
      · rename_i hne
        have hq' : q < now.length := by rw [← hlen]; exact hq
        rw [List.Nodup, List.pairwise_iff_getElem] at v4
        rcases Nat.lt_or_ge q m.1.toNat with hlt | hge
        · exact v4 q m.1.toNat hq' hi hlt e
        · exact v4 m.1.toNat q hi hq' (by omega) e.symm
    rw [refu, if_neg (by simp only [hlen]; omega), if_neg (by simp only [hat]; rw [lnk_comm', g5]; decide), if_neg (by rw [hnm]; decide)]
  · simp only [nxt, List.set_set]
    apply List.ext_getElem?
    intro q
    rw [List.getElem?_set]
    split
    · rename_i e; subst e; rw [List.getElem?_eq_getElem hi]
    · rfl

theorem mvK_refu {n : Int} {ls : List (Int × Int)} {p : List Int} {m : Int × Int} : m ∈ mvK n ls p p.length ↔ refu n ls p m = 0 := by
  constructor
  · intro hm
    simp only [mvK, List.mem_flatMap, List.mem_range, mvZ, List.mem_map, List.mem_filter, upL] at hm
    obtain ⟨i, hi, z, ⟨⟨⟨j, hj, rfl⟩, hl⟩, hz⟩, rfl⟩ := hm
    rw [refu, if_neg (by simp only; omega), if_neg (by simp only [Int.toNat_natCast]; rw [hl]; decide), if_neg (by simpa using hz)]
  · intro h
    obtain ⟨g1, g2, g3, g4, g5, g6⟩ := refu0 h
    simp only [mvK, List.mem_flatMap, List.mem_range, mvZ, List.mem_map, List.mem_filter, upL]
    refine ⟨m.1.toNat, by omega, m.2, ⟨⟨⟨m.2.toNat, by omega, by omega⟩, g5⟩, by simpa using g6⟩, ?_⟩
    obtain ⟨a, b⟩ := m
    simp only at g1 ⊢
    rw [Int.toNat_of_nonneg g1]

theorem refu_V {n : Int} {ls : List (Int × Int)} {p : List Int} {m : Int × Int} (hv : vTP n ls p = 0) (h : refu n ls p m = 0) : vTP n ls (nxt p m) = 0 := vTP_nxt hv (mvK_refu.2 h)

/-- a way of d moves. -/
def Way (n : Int) (ls : List (Int × Int)) : Nat → List Int → List Int → Prop
  | 0, p, q => p = q
  | d + 1, p, r => ∃ q m, Way n ls d p q ∧ refu n ls q m = 0 ∧ r = nxt q m

theorem Way.V {n : Int} {ls : List (Int × Int)} : ∀ (d : Nat) {p q : List Int}, vTP n ls p = 0 → Way n ls d p q → vTP n ls q = 0
  | 0, p, q, hv, h => by rw [← h]; exact hv
  | d + 1, p, r, hv, ⟨q, m, h1, h2, h3⟩ => by rw [h3]; exact refu_V (Way.V d hv h1) h2
theorem Way.cons {n : Int} {ls : List (Int × Int)} : ∀ (d : Nat) {p q : List Int} {m : Int × Int}, refu n ls p m = 0 → Way n ls d (nxt p m) q → Way n ls (d + 1) p q
  | 0, p, q, m, h, hw => ⟨p, m, rfl, h, hw.symm⟩
  | d + 1, p, r, m, h, ⟨q, m', h1, h2, h3⟩ => ⟨q, m', Way.cons d h h1, h2, h3⟩
theorem Way.symm {n : Int} {ls : List (Int × Int)} : ∀ (d : Nat) {p q : List Int}, vTP n ls p = 0 → Way n ls d p q → Way n ls d q p
  | 0, p, q, _, h => Eq.symm h
  | d + 1, p, r, hv, ⟨q, m, h1, h2, h3⟩ => by
    have hq := Way.V d hv h1
    obtain ⟨b1, b2⟩ := back_one' hq h2
    rw [h3]
    refine Way.cons d b1 ?_
    rw [b2]
    exact Way.symm d hv h1

/-! the search -/
structure Bfs (n : Int) (ls : List (Int × Int)) (l : List Int) (i : Nat) (L : List Nd) : Prop where
  way : ∀ x ∈ L, ∃ d : Nat, x.far = d ∧ Way n ls d l x.pl
  mono : ∀ (a b : Nat) (ha : a < L.length) (hb : b < L.length), a ≤ b → L[a].far ≤ L[b].far
  bound : ∀ (b : Nat) (hb : b < L.length) (hi : i < L.length), L[b].far ≤ L[i].far + 1
  clos : ∀ (a : Nat) (ha : a < L.length), a < i → ∀ m, refu n ls L[a].pl m = 0 → ∃ x ∈ L, x.pl = nxt L[a].pl m ∧ x.far ≤ L[a].far + 1

theorem addN_mem (L : List Nd) (x : Nd) : ∃ y ∈ addN L x, y.pl = x.pl := by
  unfold addN
  split
  · rename_i h
    simp only [pls, List.mem_map] at h
    obtain ⟨y, hy, e⟩ := h
    exact ⟨y, hy, e⟩
  · exact ⟨x, by simp, rfl⟩
theorem addN_sub (L : List Nd) (x : Nd) : ∀ y ∈ L, y ∈ addN L x := by
  obtain ⟨E, hE⟩ := addN_ext L x
  intro y hy
  rw [hE]; exact List.mem_append_left _ hy
theorem visN_sub (p : List Int) (d : Int) (ms : List (Int × Int)) (L : List Nd) : ∀ y ∈ L, y ∈ visN p d L ms := by
  obtain ⟨E, hE, _⟩ := visN_ext p d ms L
  intro y hy
  rw [hE]; exact List.mem_append_left _ hy
theorem visN_mem (p : List Int) (d : Int) : ∀ (ms : List (Int × Int)) (L : List Nd), ∀ m ∈ ms, ∃ y ∈ visN p d L ms, y.pl = nxt p m
  | m' :: ms, L, m, hm => by
    show ∃ y ∈ visN p d (addN L ⟨nxt p m', padL p, m', d + 1⟩) ms, y.pl = nxt p m
    rcases List.mem_cons.1 hm with rfl | hm
    · obtain ⟨y, hy, e⟩ := addN_mem L ⟨nxt p m, padL p, m, d + 1⟩
      exact ⟨y, visN_sub _ _ _ _ y hy, e⟩
    · exact visN_mem p d ms _ m hm
/-- what is new is one move farther. -/
theorem visN_new (p : List Int) (d : Int) : ∀ (ms : List (Int × Int)) (L : List Nd), ∀ y ∈ visN p d L ms, y ∈ L ∨ (y.far = d + 1 ∧ ∃ m ∈ ms, y = ⟨nxt p m, padL p, m, d + 1⟩)
  | [], L, y, hy => .inl hy
  | m :: ms, L, y, hy => by
    have hy' : y ∈ visN p d (addN L ⟨nxt p m, padL p, m, d + 1⟩) ms := hy
    rcases visN_new p d ms _ y hy' with h | ⟨h1, m', hm', h2⟩
    · unfold addN at h
      split at h
      · exact .inl h
      · rcases List.mem_append.1 h with h | h
        · exact .inl h
        · simp at h; subst h; exact .inr ⟨rfl, m, by simp, rfl⟩
    · exact .inr ⟨h1, m', by simp [hm'], h2⟩

theorem bfs_step {n : Int} {ls : List (Int × Int)} {l : List Int} {i : Nat} {L : List Nd} (h : Bfs n ls l i L) : Bfs n ls l (i + 1) (stepN n ls L i) := by
  rcases Nat.lt_or_ge i L.length with hi | hi
  · rw [stepN_some hi]
    obtain ⟨E, hE, _⟩ := visN_ext L[i].pl L[i].far (mvK n ls L[i].pl L[i].pl.length) L
    have hnew := visN_new L[i].pl L[i].far (mvK n ls L[i].pl L[i].pl.length) L
    have hmem := visN_mem L[i].pl L[i].far (mvK n ls L[i].pl L[i].pl.length) L
    have hEf : ∀ (b : Nat) (hb : b < (L ++ E).length), L.length ≤ b → (L ++ E)[b].far = L[i].far + 1 := by
      intro b hb hge
      have := visN_far L[i].pl L[i].far (mvK n ls L[i].pl L[i].pl.length) L L.length (fun j hj hge => by omega) (Nat.le_refl _) b (by rw [hE]; exact hb) hge
      simpa only [hE] using this
    have hold : ∀ (b : Nat) (hb : b < L.length), (L ++ E)[b]'(by simp; omega) = L[b] := fun b hb => List.getElem_append_left hb
    rw [hE] at hnew hmem ⊢
    refine ⟨fun x hx => ?_, fun a b ha hb hab => ?_, fun b hb hi1 => ?_, fun a ha hai m hm => ?_⟩
    · rcases hnew x hx with hx | ⟨h1, m, hm, h2⟩
      · exact h.way x hx
      · obtain ⟨d, hd, hw⟩ := h.way L[i] (List.getElem_mem hi)
        refine ⟨d + 1, by rw [h1, hd]; simp, ?_⟩
        rw [h2]
        exact ⟨_, m, hw, mvK_refu.1 hm, rfl⟩
    · rcases Nat.lt_or_ge b L.length with hbl | hbl
      · rw [hold a (by omega), hold b hbl]; exact h.mono a b (by omega) hbl hab
      · rw [hEf b hb hbl]
        rcases Nat.lt_or_ge a L.length with hal | hal
        · rw [hold a hal]; exact h.bound a hal hi
        · rw [hEf a ha hal]; exact Int.le_refl _
    · have hb1 : (L ++ E)[b].far ≤ L[i].far + 1 := by
        rcases Nat.lt_or_ge b L.length with hbl | hbl
        · rw [hold b hbl]; exact h.bound b hbl hi
        · rw [hEf b hb hbl]; exact Int.le_refl _
      have hb2 : L[i].far ≤ (L ++ E)[i + 1].far := by
        rcases Nat.lt_or_ge (i + 1) L.length with hbl | hbl
        · rw [hold (i + 1) hbl]; exact h.mono i (i + 1) hi hbl (by omega)
        · rw [hEf (i + 1) hi1 hbl]; omega
      omega
    · have hal : a < L.length := by omega
      rw [hold a hal] at hm ⊢
      by_cases hai' : a < i
      · obtain ⟨x, hx, h1, h2⟩ := h.clos a hal hai' m hm
        exact ⟨x, List.mem_append_left _ hx, h1, h2⟩
      · obtain rfl : a = i := by omega
        obtain ⟨y, hy, e⟩ := hmem m (mvK_refu.2 hm)
        refine ⟨y, hy, e, ?_⟩
        rcases hnew y hy with hy' | ⟨h1, _⟩
        · obtain ⟨b, hb, rfl⟩ := List.mem_iff_getElem.1 hy'
          exact h.bound b hb hal
        · omega
  · rw [stepN_none hi]
    exact ⟨h.way, h.mono, fun b hb hi1 => by omega, fun a ha hai m hm => h.clos a ha (by omega) m hm⟩

theorem bfs_all {n : Int} {ls : List (Int × Int)} {l : List Int} : ∀ i, Bfs n ls l i (rchI n ls l i)
  | 0 => by
    refine ⟨fun x hx => ?_, fun a b ha hb hab => ?_, fun b hb hi => ?_, fun a ha hai => by omega⟩
    · simp [rchI, startN] at hx; subst hx; exact ⟨0, rfl, rfl⟩
    · simp only [rchI, List.length_cons, List.length_nil] at ha hb
      obtain rfl : a = 0 := by omega
      obtain rfl : b = 0 := by omega
      exact Int.le_refl _
    · simp only [rchI, List.length_cons, List.length_nil] at hb
      obtain rfl : b = 0 := by omega
      omega
  | i + 1 => bfs_step (bfs_all i)

theorem rchI_way {n : Int} {ls : List (Int × Int)} {l : List Int} (hv : vTP n ls l = 0) : ∀ (d : Nat) {q : List Int}, Way n ls d l q → ∃ x ∈ rchI n ls l 1297, x.pl = q ∧ x.far ≤ d
  | 0, q, h => by
    obtain ⟨E, hE⟩ := rchI_mono n ls l 0 1297
    rw [Nat.zero_add] at hE
    refine ⟨startN l, ?_, h, by simp [startN]⟩
    rw [hE]
    exact List.mem_append_left _ (by simp [rchI])
  | d + 1, r, ⟨q, m, h1, h2, h3⟩ => by
    obtain ⟨x, hx, e, hf⟩ := rchI_way hv d h1
    obtain ⟨hp, h4, h6⟩ := vTP_ok hv
    have hle := (rchI_inv (ls := ls) h6 hp 1297).le h6 h4
    have hb := bfs_all (n := n) (ls := ls) (l := l) 1297
    generalize rchI n ls l 1297 = R at *
    obtain ⟨a, ha, rfl⟩ := List.mem_iff_getElem.1 hx
    obtain ⟨y, hy, g1, g2⟩ := hb.clos a ha (by omega) m (by rw [e]; exact h2)
    refine ⟨y, hy, by rw [g1, h3, e], ?_⟩
    push_cast
    omega
/-- EACH PLACE THAT IS REACHED BY A WAY IS FOUND, as near as that. -/
theorem rch_way {n : Int} {ls : List (Int × Int)} {l : List Int} (hv : vTP n ls l = 0) (d : Nat) {q : List Int} (h : Way n ls d l q) : ∃ x ∈ rch n ls l, x.pl = q ∧ x.far ≤ d := rchI_way hv d h
theorem way_rch {n : Int} {ls : List (Int × Int)} {l : List Int} : ∀ x ∈ rch n ls l, ∃ d : Nat, x.far = d ∧ Way n ls d l x.pl := (bfs_all (n := n) (ls := ls) (l := l) 1297).way
end Go.Proofs.Ytkolpijhgcijbaa
