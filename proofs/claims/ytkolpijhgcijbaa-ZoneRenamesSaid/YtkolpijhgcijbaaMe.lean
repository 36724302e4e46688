/-
  Several texts in one: FnAB, FnAC, FnAD, FnX, FnZ, FnAE.
-/
import Derived.Test.YtkolpijhgcijbaaMd
set_option linter.unusedSimpArgs false
set_option linter.unusedVariables false
namespace Go.Proofs.Ytkolpijhgcijbaa
open Aw Go.RowKit
set_option linter.unusedSimpArgs false

theorem lnk_comm' (ls : List (Int × Int)) (a b : Int) : lnk ls a b = lnk ls b a := by unfold lnk; rw [Int.min_comm, Int.max_comm]

theorem back_one' {n : Int} {ls : List (Int × Int)} {now : List Int} {m : Int × Int} (hv : vTP n ls now = 0) (h : refu n ls now m = 0) : refu n ls (nxt now m) (m.1, now.getD m.1.toNat 0) = 0 ∧ nxt (nxt now m) (m.1, now.getD m.1.toNat 0) = now := by
  obtain ⟨g1, g2, g3, g4, g5, g6⟩ := refu0 h
  obtain ⟨v1, v2, v3, v4⟩ := vTP_iff.1 hv
  have hno : m.2 ∉ now := by simpa [memL] using g6
  have hi : m.1.toNat < now.length := by omega
  have hg : now.getD m.1.toNat 0 = now[m.1.toNat] := by rw [List.getD_eq_getElem?_getD, List.getElem?_eq_getElem hi]; rfl
  have hx := v3 now[m.1.toNat] (List.getElem_mem hi)
  rw [hg] at g5 ⊢
  have hat : (nxt now m).getD m.1.toNat 0 = m.2 := by
    rw [nxt, List.getD_eq_getElem?_getD, List.getElem?_set_self hi]; rfl
  have hlen : (nxt now m).length = now.length := by simp [nxt]
  refine ⟨?_, ?_⟩
  · have hnm : memL (nxt now m) now[m.1.toNat] = false := by
      rw [Bool.eq_false_iff, ne_eq, memL_eq]
      intro hm
      obtain ⟨q, hq, e⟩ := List.mem_iff_getElem.1 hm
      simp only [nxt] at e
      rw [List.getElem_set] at e
      split at e
      · exact hno (e ▸ List.getElem_mem hi)
      · rename_i hne
        have hq' : q < now.length := by rw [← hlen]; exact hq
        rw [List.Nodup, List.pairwise_iff_getElem] at v4
        rcases Nat.lt_or_ge q m.1.toNat with hlt | hge
        · exact v4 q m.1.toNat hq' hi hlt e
        · exact v4 m.1.toNat q hi hq' (by omega) e.symm
    rw [refu, if_neg (by simp only [hlen]; omega), if_neg (by simp only [hat]; rw [lnk_comm', g5]; decide), if_neg (by rw [hnm]; decide)]
  · simp only [nxt, List.set_set]
    apply List.ext_getElem?
    intro q
    rw [List.getElem?_set]
    split
    · rename_i e; subst e; rw [List.getElem?_eq_getElem hi]
    · rfl

theorem mvK_refu {n : Int} {ls : List (Int × Int)} {p : List Int} {m : Int × Int} : m ∈ mvK n ls p p.length ↔ refu n ls p m = 0 := by
  constructor
  · intro hm
    simp only [mvK, List.mem_flatMap, List.mem_range, mvZ, List.mem_map, List.mem_filter, upL] at hm
    obtain ⟨i, hi, z, ⟨⟨⟨j, hj, rfl⟩, hl⟩, hz⟩, rfl⟩ := hm
    rw [refu, if_neg (by simp only; omega), if_neg (by simp only [Int.toNat_natCast]; rw [hl]; decide), if_neg (by simpa using hz)]
  · intro h
    obtain ⟨g1, g2, g3, g4, g5, g6⟩ := refu0 h
    simp only [mvK, List.mem_flatMap, List.mem_range, mvZ, List.mem_map, List.mem_filter, upL]
    refine ⟨m.1.toNat, by omega, m.2, ⟨⟨⟨m.2.toNat, by omega, by omega⟩, g5⟩, by simpa using g6⟩, ?_⟩
    obtain ⟨a, b⟩ := m
    simp only at g1 ⊢
    rw [Int.toNat_of_nonneg g1]

theorem refu_V {n : Int} {ls : List (Int × Int)} {p : List Int} {m : Int × Int} (hv : vTP n ls p = 0) (h : refu n ls p m = 0) : vTP n ls (nxt p m) = 0 := vTP_nxt hv (mvK_refu.2 h)

/-- a way of d moves. -/
def Way (n : Int) (ls : List (Int × Int)) : Nat → List Int → List Int → Prop
  | 0, p, q => p = q
  | d + 1, p, r => ∃ q m, Way n ls d p q ∧ refu n ls q m = 0 ∧ r = nxt q m

theorem Way.V {n : Int} {ls : List (Int × Int)} : ∀ (d : Nat) {p q : List Int}, vTP n ls p = 0 → Way n ls d p q → vTP n ls q = 0
  | 0, p, q, hv, h => by rw [← h]; exact hv
  | d + 1, p, r, hv, ⟨q, m, h1, h2, h3⟩ => by rw [h3]; exact refu_V (Way.V d hv h1) h2
theorem Way.cons {n : Int} {ls : List (Int × Int)} : ∀ (d : Nat) {p q : List Int} {m : Int × Int}, refu n ls p m = 0 → Way n ls d (nxt p m) q → Way n ls (d + 1) p q
  | 0, p, q, m, h, hw => ⟨p, m, rfl, h, hw.symm⟩
  | d + 1, p, r, m, h, ⟨q, m', h1, h2, h3⟩ => ⟨q, m', Way.cons d h h1, h2, h3⟩
theorem Way.symm {n : Int} {ls : List (Int × Int)} : ∀ (d : Nat) {p q : List Int}, vTP n ls p = 0 → Way n ls d p q → Way n ls d q p
  | 0, p, q, _, h => Eq.symm h
  | d + 1, p, r, hv, ⟨q, m, h1, h2, h3⟩ => by
    have hq := Way.V d hv h1
    obtain ⟨b1, b2⟩ := back_one' hq h2
    rw [h3]
    refine Way.cons d b1 ?_
    rw [b2]
    exact Way.symm d hv h1

/-! the search -/
structure Bfs (n : Int) (ls : List (Int × Int)) (l : List Int) (i : Nat) (L : List Nd) : Prop where
  way : ∀ x ∈ L, ∃ d : Nat, x.far = d ∧ Way n ls d l x.pl
  mono : ∀ (a b : Nat) (ha : a < L.length) (hb : b < L.length), a ≤ b → L[a].far ≤ L[b].far
  bound : ∀ (b : Nat) (hb : b < L.length) (hi : i < L.length), L[b].far ≤ L[i].far + 1
  clos : ∀ (a : Nat) (ha : a < L.length), a < i → ∀ m, refu n ls L[a].pl m = 0 → ∃ x ∈ L, x.pl = nxt L[a].pl m ∧ x.far ≤ L[a].far + 1

theorem addN_mem (L : List Nd) (x : Nd) : ∃ y ∈ addN L x, y.pl = x.pl := by
  unfold addN
  split
  · rename_i h
    simp only [pls, List.mem_map] at h
    obtain ⟨y, hy, e⟩ := h
    exact ⟨y, hy, e⟩
  · exact ⟨x, by simp, rfl⟩
theorem addN_sub (L : List Nd) (x : Nd) : ∀ y ∈ L, y ∈ addN L x := by
  obtain ⟨E, hE⟩ := addN_ext L x
  intro y hy
  rw [hE]; exact List.mem_append_left _ hy
theorem visN_sub (p : List Int) (d : Int) (ms : List (Int × Int)) (L : List Nd) : ∀ y ∈ L, y ∈ visN p d L ms := by
  obtain ⟨E, hE, _⟩ := visN_ext p d ms L
  intro y hy
  rw [hE]; exact List.mem_append_left _ hy
theorem visN_mem (p : List Int) (d : Int) : ∀ (ms : List (Int × Int)) (L : List Nd), ∀ m ∈ ms, ∃ y ∈ visN p d L ms, y.pl = nxt p m
  | m' :: ms, L, m, hm => by
    show ∃ y ∈ visN p d (addN L ⟨nxt p m', padL p, m', d + 1⟩) ms, y.pl = nxt p m
    rcases List.mem_cons.1 hm with rfl | hm
    · obtain ⟨y, hy, e⟩ := addN_mem L ⟨nxt p m, padL p, m, d + 1⟩
      exact ⟨y, visN_sub _ _ _ _ y hy, e⟩
    · exact visN_mem p d ms _ m hm
/-- what is new is one move farther. -/
theorem visN_new (p : List Int) (d : Int) : ∀ (ms : List (Int × Int)) (L : List Nd), ∀ y ∈ visN p d L ms, y ∈ L ∨ (y.far = d + 1 ∧ ∃ m ∈ ms, y = ⟨nxt p m, padL p, m, d + 1⟩)
  | [], L, y, hy => .inl hy
  | m :: ms, L, y, hy => by
    have hy' : y ∈ visN p d (addN L ⟨nxt p m, padL p, m, d + 1⟩) ms := hy
    rcases visN_new p d ms _ y hy' with h | ⟨h1, m', hm', h2⟩
    · unfold addN at h
      split at h
      · exact .inl h
      · rcases List.mem_append.1 h with h | h
        · exact .inl h
        · simp at h; subst h; exact .inr ⟨rfl, m, by simp, rfl⟩
    · exact .inr ⟨h1, m', by simp [hm'], h2⟩

theorem bfs_step {n : Int} {ls : List (Int × Int)} {l : List Int} {i : Nat} {L : List Nd} (h : Bfs n ls l i L) : Bfs n ls l (i + 1) (stepN n ls L i) := by
  rcases Nat.lt_or_ge i L.length with hi | hi
  · rw [stepN_some hi]
    obtain ⟨E, hE, _⟩ := visN_ext L[i].pl L[i].far (mvK n ls L[i].pl L[i].pl.length) L
    have hnew := visN_new L[i].pl L[i].far (mvK n ls L[i].pl L[i].pl.length) L
    have hmem := visN_mem L[i].pl L[i].far (mvK n ls L[i].pl L[i].pl.length) L
    have hEf : ∀ (b : Nat) (hb : b < (L ++ E).length), L.length ≤ b → (L ++ E)[b].far = L[i].far + 1 := by
      intro b hb hge
      have := visN_far L[i].pl L[i].far (mvK n ls L[i].pl L[i].pl.length) L L.length (fun j hj hge => by omega) (Nat.le_refl _) b (by rw [hE]; exact hb) hge
      simpa only [hE] using this
    have hold : ∀ (b : Nat) (hb : b < L.length), (L ++ E)[b]'(by simp; omega) = L[b] := fun b hb => List.getElem_append_left hb
    rw [hE] at hnew hmem ⊢
    refine ⟨fun x hx => ?_, fun a b ha hb hab => ?_, fun b hb hi1 => ?_, fun a ha hai m hm => ?_⟩
    · rcases hnew x hx with hx | ⟨h1, m, hm, h2⟩
      · exact h.way x hx
      · obtain ⟨d, hd, hw⟩ := h.way L[i] (List.getElem_mem hi)
        refine ⟨d + 1, by rw [h1, hd]; simp, ?_⟩
        rw [h2]
        exact ⟨_, m, hw, mvK_refu.1 hm, rfl⟩
    · rcases Nat.lt_or_ge b L.length with hbl | hbl
      · rw [hold a (by omega), hold b hbl]; exact h.mono a b (by omega) hbl hab
      · rw [hEf b hb hbl]
        rcases Nat.lt_or_ge a L.length with hal | hal
        · rw [hold a hal]; exact h.bound a hal hi
        · rw [hEf a ha hal]; exact Int.le_refl _
    · have hb1 : (L ++ E)[b].far ≤ L[i].far + 1 := by
        rcases Nat.lt_or_ge b L.length with hbl | hbl
        · rw [hold b hbl]; exact h.bound b hbl hi
        · rw [hEf b hb hbl]; exact Int.le_refl _
      have hb2 : L[i].far ≤ (L ++ E)[i + 1].far := by
        rcases Nat.lt_or_ge (i + 1) L.length with hbl | hbl
        · rw [hold (i + 1) hbl]; exact h.mono i (i + 1) hi hbl (by omega)
        · rw [hEf (i + 1) hi1 hbl]; omega
      omega
    · have hal : a < L.length := by omega
      rw [hold a hal] at hm ⊢
      by_cases hai' : a < i
      · obtain ⟨x, hx, h1, h2⟩ := h.clos a hal hai' m hm
        exact ⟨x, List.mem_append_left _ hx, h1, h2⟩
      · obtain rfl : a = i := by omega
        obtain ⟨y, hy, e⟩ := hmem m (mvK_refu.2 hm)
        refine ⟨y, hy, e, ?_⟩
        rcases hnew y hy with hy' | ⟨h1, _⟩
        · obtain ⟨b, hb, rfl⟩ := List.mem_iff_getElem.1 hy'
          exact h.bound b hb hal
        · omega
  · rw [stepN_none hi]
    exact ⟨h.way, h.mono, fun b hb hi1 => by omega, fun a ha hai m hm => h.clos a ha (by omega) m hm⟩

theorem bfs_all {n : Int} {ls : List (Int × Int)} {l : List Int} : ∀ i, Bfs n ls l i (rchI n ls l i)
  | 0 => by
    refine ⟨fun x hx => ?_, fun a b ha hb hab => ?_, fun b hb hi => ?_, fun a ha hai => by omega⟩
    · simp [rchI, startN] at hx; subst hx; exact ⟨0, rfl, rfl⟩
    · simp only [rchI, List.length_cons, List.length_nil] at ha hb
      obtain rfl : a = 0 := by omega
      obtain rfl : b = 0 := by omega
      exact Int.le_refl _
    · simp only [rchI, List.length_cons, List.length_nil] at hb
      obtain rfl : b = 0 := by omega
      omega
  | i + 1 => bfs_step (bfs_all i)

theorem rchI_way {n : Int} {ls : List (Int × Int)} {l : List Int} (hv : vTP n ls l = 0) : ∀ (d : Nat) {q : List Int}, Way n ls d l q → ∃ x ∈ rchI n ls l 1297, x.pl = q ∧ x.far ≤ d
  | 0, q, h => by
    obtain ⟨E, hE⟩ := rchI_mono n ls l 0 1297
    rw [Nat.zero_add] at hE
    refine ⟨startN l, ?_, h, by simp [startN]⟩
    rw [hE]
    exact List.mem_append_left _ (by simp [rchI])
  | d + 1, r, ⟨q, m, h1, h2, h3⟩ => by
    obtain ⟨x, hx, e, hf⟩ := rchI_way hv d h1
    obtain ⟨hp, h4, h6⟩ := vTP_ok hv
    have hle := (rchI_inv (ls := ls) h6 hp 1297).le h6 h4
    have hb := bfs_all (n := n) (ls := ls) (l := l) 1297
    generalize rchI n ls l 1297 = R at *
    obtain ⟨a, ha, rfl⟩ := List.mem_iff_getElem.1 hx
    obtain ⟨y, hy, g1, g2⟩ := hb.clos a ha (by omega) m (by rw [e]; exact h2)
    refine ⟨y, hy, by rw [g1, h3, e], ?_⟩
    push_cast
    omega
/-- EACH PLACE THAT IS REACHED BY A WAY IS FOUND, as near as that. -/
theorem rch_way {n : Int} {ls : List (Int × Int)} {l : List Int} (hv : vTP n ls l = 0) (d : Nat) {q : List Int} (h : Way n ls d l q) : ∃ x ∈ rch n ls l, x.pl = q ∧ x.far ≤ d := rchI_way hv d h
theorem way_rch {n : Int} {ls : List (Int × Int)} {l : List Int} : ∀ x ∈ rch n ls l, ∃ d : Nat, x.far = d ∧ Way n ls d l x.pl := (bfs_all (n := n) (ls := ls) (l := l) 1297).way
end Go.Proofs.Ytkolpijhgcijbaa

namespace Go.Proofs.Ytkolpijhgcijbaa
open Aw Go.RowKit
set_option linter.unusedSimpArgs false

/-- the error of two places. -/
def pairE (n : Int) (ls : List (Int × Int)) (l t : List Int) : Int := if vTP n ls l ≠ 0 then vTP n ls l else if vP n t ≠ 0 then vP n t else if (l.length : Int) ≠ t.length then 5 else 0

theorem ok76 : okFn Try.prog 76 = true := by kernel_rfl
theorem s76 (n : Int) (ls : List (Int × Int)) (l t : List Int) (hls : ls.length ≤ 1000000) (hl : l.length ≤ 1000000) (ht : t.length ≤ 1000000) : ASpec Try.prog 76 [trapA n ls, .s 1 (intsA l), .s 1 (intsA t)] (fun r Ms => r = I (pairE n ls l t) ∧ Ms = []) := by
  refine aspec_of (own := []) Try.func76 rfl ok76 ?_
  simp only [w_move, w_assign, w_box, w_load, w_callF, w_aop, w_some, w_asome, w_anone, w_nil, w_cons, awp, asP, asN, loadA, St.ev, St.step, setS, killS, AV.kill, AV.killL, Mem.kill, AV.cells, AV.flat, AV.single, AV.cellular, AV.pure, AV.pureL, ACond_false, List.getD_cons_succ, List.getD_cons_zero, List.set_cons_succ, List.set_cons_zero, List.getElem?_cons_zero, List.length_cons, List.length_nil, List.replicate_succ, List.replicate_zero, List.cons_append, List.nil_append, List.contains_nil, List.isEmpty_nil, Option.getD_some, Bool.false_eq_true, if_false, if_true, true_and, and_true, List.all_cons, List.all_nil, Bool.and_true, Bool.true_and, Bool.not_true, Nat.zero_add, Nat.add_zero, beq_self_eq_true, List.map_cons, List.map_nil, decide_true, Nat.reduceAdd, Nat.reduceSub, Nat.reduceLeDiff, Int.reduceAdd, Int.reduceSub, ti24, Try.ntmps76, trapA]
  refine acall_v (s25 n ls l hls hl) rfl rfl ?_
  by_cases h : ¬ vTP n ls l = 0
  · simp only [w_move, w_assign, w_binOp, w_aop, w_some, w_asome, w_anone, w_nil, w_cons, awp, binC, cmpC, asB, asI, asN, St.ev, St.step, setS, killS, AV.kill, AV.killL, Mem.kill, ACond_true, ACond_false, List.getD_cons_succ, List.getD_cons_zero, List.set_cons_succ, List.set_cons_zero, List.contains_nil, List.isEmpty_nil, Option.getD_some, Bool.false_eq_true, if_false, if_true, true_and, Bool.true_and, Bool.not_false, Nat.reduceAdd, Int.reduceAdd, decide_eq_true h, decide_eq_false h]
    exact aend_frz rfl ⟨by rw [pairE, if_pos h]; rfl, rfl⟩
  simp only [w_move, w_assign, w_load, w_binOp, w_callF, w_aop, w_some, w_asome, w_anone, w_nil, w_cons, awp, binC, cmpC, asP, asB, asI, asN, loadA, St.ev, St.step, setS, killS, AV.kill, AV.killL, Mem.kill, AV.cells, AV.flat, AV.single, ACond_false, List.getD_cons_succ, List.getD_cons_zero, List.set_cons_succ, List.set_cons_zero, List.getElem?_cons_zero, List.length_cons, List.length_nil, List.contains_nil, List.isEmpty_nil, Option.getD_some, Bool.false_eq_true, if_false, if_true, true_and, and_true, List.all_cons, List.all_nil, Bool.and_true, Bool.true_and, Bool.not_true, Nat.zero_add, beq_self_eq_true, List.map_cons, List.map_nil, decide_true, Nat.reduceAdd, Nat.reduceLeDiff, Int.reduceAdd, ti24, decide_eq_true (Decidable.not_not.1 h)]
  refine acall_v (s69 n ls t ht) rfl rfl ?_
  by_cases h2 : ¬ vP n t = 0
  · simp only [w_move, w_assign, w_binOp, w_aop, w_some, w_asome, w_anone, w_nil, w_cons, awp, binC, cmpC, asB, asI, asN, St.ev, St.step, setS, killS, AV.kill, AV.killL, Mem.kill, ACond_true, ACond_false, List.getD_cons_succ, List.getD_cons_zero, List.set_cons_succ, List.set_cons_zero, List.contains_nil, List.isEmpty_nil, Option.getD_some, Bool.false_eq_true, if_false, if_true, true_and, Bool.true_and, Bool.not_false, Nat.reduceAdd, Int.reduceAdd, decide_eq_true h2, decide_eq_false h2]
    exact aend_frz rfl ⟨by rw [pairE, if_neg h, if_pos h2]; rfl, rfl⟩
  simp only [w_move, w_assign, w_binOp, w_len, w_aop, w_some, w_asome, w_anone, w_nil, w_cons, awp, binC, cmpC, asB, asI, asN, lenA, St.ev, St.step, setS, killS, AV.kill, AV.killL, Mem.kill, ACond_false, List.getD_cons_succ, List.getD_cons_zero, List.set_cons_succ, List.set_cons_zero, List.contains_nil, List.isEmpty_nil, Option.getD_some, Bool.false_eq_true, if_false, if_true, true_and, Bool.true_and, Bool.not_true, Option.isSome_some, Nat.reduceAdd, Int.reduceAdd, ti25, decide_eq_true (Decidable.not_not.1 h2), intsA_len]
  by_cases h3 : (l.length : Int) = t.length
  · simp only [w_assign, w_aop, w_anone, w_nil, w_cons, awp, asN, St.ev, St.step, setS, killS, AV.kill, AV.killL, Mem.kill, ACond_false, List.set_cons_succ, List.set_cons_zero, List.contains_nil, List.isEmpty_nil, Option.getD_some, Bool.false_eq_true, if_false, if_true, Bool.not_true, Nat.reduceAdd, Int.reduceAdd, decide_eq_true h3]
    exact aend_frz rfl ⟨by rw [pairE, if_neg h, if_neg h2, if_neg (by simpa using h3)]; rfl, rfl⟩
  · simp only [w_assign, w_aop, w_anone, w_nil, w_cons, awp, asN, St.ev, St.step, setS, killS, AV.kill, AV.killL, Mem.kill, ACond_true, ACond_false, List.set_cons_succ, List.set_cons_zero, List.contains_nil, List.isEmpty_nil, Option.getD_some, Bool.false_eq_true, if_false, if_true, Bool.not_false, Nat.reduceAdd, Int.reduceAdd, decide_eq_false h3]
    exact aend_frz rfl ⟨by rw [pairE, if_neg h, if_neg h2, if_pos h3]; rfl, rfl⟩

theorem pairE_ok {n : Int} {ls : List (Int × Int)} {l t : List Int} (h : pairE n ls l t = 0) : vTP n ls l = 0 ∧ vTP n ls t = 0 ∧ l.length = t.length := by
  unfold pairE at h
  split at h
  · rename_i hv; exact absurd h hv
  · rename_i hv
    split at h
    · rename_i h2; exact absurd h h2
    · rename_i h2
      split at h
      · omega
      · rename_i h3
        have hv' := Decidable.not_not.1 hv
        refine ⟨hv', ?_, by omega⟩
        rw [vTP, if_pos (vTP_vT hv')]
        exact Decidable.not_not.1 h2

/-- how far a place is, among those that are reached. -/
def farL (R : List Nd) (t : List Int) : Option Int := (R.find? fun x => decide (x.pl = t)).map Nd.far
def farQ (R : List Nd) (t : List Int) : Int × Bool × Int := match farL R t with | some d => (d, true, 0) | none => (0, false, 0)
def farP (n : Int) (ls : List (Int × Int)) (l t : List Int) : Int × Bool × Int :=
  if pairE n ls l t ≠ 0 then (0, false, pairE n ls l t) else farQ (rch n ls l) t
theorem farP_ok {n : Int} {ls : List (Int × Int)} {l t : List Int} (h : pairE n ls l t = 0) : farP n ls l t = farQ (rch n ls l) t := by rw [farP, if_neg (by rw [h]; decide)]
theorem rch_inv {n : Int} {ls : List (Int × Int)} {k : Nat} {l : List Int} (hn : n ≤ 6) (h : okPl n k l) : InvN n k (rch n ls l) := rchI_inv hn h 1297

theorem farL_none {R : List Nd} {t : List Int} (h : t ∉ pls R) : farL R t = none := by
  rw [farL, List.find?_eq_none.2]
  · rfl
  · intro x hx
    simp only [decide_eq_true_eq]
    intro e
    exact h (by rw [← e]; exact List.mem_map.2 ⟨x, hx, rfl⟩)
theorem farL_some {n : Int} {k : Nat} {R : List Nd} (hR : InvN n k R) {q : Nat} (hq : q < R.length) : farL R R[q].pl = some R[q].far := by
  have hnd := hR.nd
  unfold pls at hnd
  rw [List.Nodup, List.pairwise_iff_getElem] at hnd
  have : R.find? (fun x => decide (x.pl = R[q].pl)) = some R[q] := by
    rw [List.find?_eq_some_iff_getElem]
    refine ⟨by simp, q, hq, rfl, fun j hj => ?_⟩
    have := hnd j q (by simp; omega) (by simpa using hq) hj
    simpa using this
  rw [farL, this]
  rfl

theorem farQ_some {n : Int} {k : Nat} {R : List Nd} (hR : InvN n k R) {t : List Int} {q : Nat} (hq : q < R.length) (hx : R[q].pl = t) : farQ R t = (R[q].far, true, 0) := by
  rw [farQ, ← hx, farL_some hR hq]
theorem farQ_none {R : List Nd} {t : List Int} (h : t ∉ pls R) : farQ R t = (0, false, 0) := by
  rw [farQ, farL_none h]

theorem frz_far {R : List Nd} {t : List Int} {z e : Int} {b : Bool} (h : farQ R t = (z, b, e)) (M : List (Option Ob)) : frz M (.t [I z, B b, I e]) = .t [I (farQ R t).1, B (farQ R t).2.1, I (farQ R t).2.2] := by rw [h]; simp [frz, AV.sub, AV.subL]

theorem ok40 : okFn Try.prog 40 = true := by kernel_rfl
theorem s40 (n : Int) (ls : List (Int × Int)) (l t : List Int) (hls : ls.length ≤ 1000000) (hl : l.length ≤ 1000000) (ht : t.length ≤ 1000000) : ASpec Try.prog 40 [trapA n ls, .s 1 (intsA l), .s 1 (intsA t)] (fun r Ms => r = .t [I (farP n ls l t).1, B (farP n ls l t).2.1, I (farP n ls l t).2.2] ∧ Ms = []) := by
  refine aspec_of (own := []) Try.func40 rfl ok40 ?_
  simp only [w_move, w_assign, w_box, w_load, w_callF, w_aop, w_some, w_asome, w_anone, w_nil, w_cons, awp, asP, asN, loadA, St.ev, St.step, setS, killS, AV.kill, AV.killL, Mem.kill, AV.cells, AV.flat, AV.single, AV.cellular, AV.pure, AV.pureL, ACond_false, List.getD_cons_succ, List.getD_cons_zero, List.set_cons_succ, List.set_cons_zero, List.getElem?_cons_zero, List.length_cons, List.length_nil, List.replicate_succ, List.replicate_zero, List.cons_append, List.nil_append, List.contains_nil, List.isEmpty_nil, Option.getD_some, Bool.false_eq_true, if_false, if_true, true_and, and_true, List.all_cons, List.all_nil, Bool.and_true, Bool.true_and, Bool.not_true, Nat.zero_add, Nat.add_zero, beq_self_eq_true, List.map_cons, List.map_nil, decide_true, Nat.reduceAdd, Nat.reduceSub, Nat.reduceLeDiff, Int.reduceAdd, Int.reduceSub, ti24, Try.ntmps40, trapA]
  refine acall_v (s76 n ls l t hls hl ht) rfl rfl ?_
  by_cases h : ¬ pairE n ls l t = 0
  · simp only [w_move, w_assign, w_binOp, w_aop, w_some, w_asome, w_anone, w_nil, w_cons, awp, binC, cmpC, asB, asI, asN, St.ev, St.step, setS, killS, AV.kill, AV.killL, Mem.kill, ACond_true, ACond_false, List.getD_cons_succ, List.getD_cons_zero, List.set_cons_succ, List.set_cons_zero, List.contains_nil, List.isEmpty_nil, Option.getD_some, Bool.false_eq_true, if_false, if_true, true_and, Bool.true_and, Bool.not_false, Nat.reduceAdd, Int.reduceAdd, decide_eq_true h, decide_eq_false h]
    exact aend_frz rfl ⟨by rw [farP, if_pos h]; rfl, rfl⟩
  have hv := Decidable.not_not.1 h
  obtain ⟨v1, v2, v3⟩ := pairE_ok hv
  obtain ⟨hp, h4, h6⟩ := vTP_ok v1
  obtain ⟨hp2, h42, _⟩ := vTP_ok v2
  have hpt : okPl n l.length t := ⟨v3.symm, hp2.2⟩
  simp only [w_move, w_assign, w_load, w_binOp, w_callF, w_aop, w_some, w_asome, w_anone, w_nil, w_cons, awp, binC, cmpC, asP, asB, asI, asN, loadA, St.ev, St.step, setS, killS, AV.kill, AV.killL, Mem.kill, AV.cells, AV.flat, AV.single, ACond_false, List.getD_cons_succ, List.getD_cons_zero, List.set_cons_succ, List.set_cons_zero, List.getElem?_cons_zero, List.length_cons, List.length_nil, List.contains_nil, List.isEmpty_nil, Option.getD_some, Bool.false_eq_true, if_false, if_true, true_and, and_true, List.all_cons, List.all_nil, Bool.and_true, Bool.true_and, Bool.not_true, Nat.zero_add, beq_self_eq_true, List.map_cons, List.map_nil, decide_true, Nat.reduceAdd, Nat.reduceLeDiff, Int.reduceAdd, ti24, decide_eq_true hv]
  have sr := s60 n ls l h6 hls h4 hp
  have hinv := rch_inv (ls := ls) h6 hp
  rw [farP_ok hv]
  generalize rch n ls l = R at sr hinv ⊢
  refine acall_o (x := .o 0) sr rfl (valsN_pure _) ?_
  simp only [w_move, w_callF, w_aop, w_cons, St.ev, St.step, setS, killS, AV.kill, AV.killL, Mem.kill, List.getD_cons_succ, List.getD_cons_zero, List.set_cons_succ, List.set_cons_zero, List.length_nil, List.nil_append, List.contains_nil, List.isEmpty_nil, Bool.false_eq_true, if_false, if_true, Nat.add_zero, List.map_cons, List.map_nil, AV.up, AV.sub]
  obtain ⟨a, b, c, d, hpad, ha, hb, hc', hd⟩ := padL_lim h6 hpt
  have ss := s61 t h42
  rw [hpad] at ss
  refine acall_v (x := .g [I a, I b, I c, I d]) ss rfl rfl ?_
  simp only [w_lookup, w_aop, w_some, w_cons, asO, obA, St.ev, St.step, setS, killS, AV.kill, AV.killL, Mem.kill, List.getD_cons_succ, List.getD_cons_zero, List.set_cons_succ, List.set_cons_zero, List.getElem?_cons_zero, List.contains_nil, List.isEmpty_nil, Bool.false_eq_true, if_false, if_true, true_and, Bool.true_and, mp78, za76, valOf_4]
  by_cases hx : t ∈ pls R
  · obtain ⟨q, hq', hqx⟩ := pls_mem hx
    obtain ⟨fa, fb, fc, fd, hfr, _⟩ := hinv.fr R[q] (List.getElem_mem hq')
    refine afind_in h6 h4 hinv hpad q hq' hqx ?_
    simp only [w_move, w_assign, w_alloc, w_load, w_store, w_fieldAddr, w_extract, w_aop, w_some, w_anone, w_nil, w_cons, awp, asP, asQ, asT, asN, obA, AGet_zero, loadA, storeA, putsA, mkA, Aw.newRow, St.ev, St.step, setS, killS, AV.kill, AV.killL, Mem.kill, AV.cells, AV.flat, AV.single, AV.cellular, ACond_false, List.getD_cons_succ, List.getD_cons_zero, List.set_cons_succ, List.set_cons_zero, List.getElem?_cons_succ, List.getElem?_cons_zero, List.length_cons, List.length_nil, List.cons_append, List.nil_append, List.contains_nil, List.isEmpty_nil, Option.getD_some, Bool.false_eq_true, if_false, if_true, true_and, and_true, List.all_cons, List.all_nil, Bool.and_true, Bool.true_and, Bool.not_true, Nat.zero_add, beq_self_eq_true, List.map_cons, List.map_nil, decide_true, nbeq, decide_false, Bool.or_false, Bool.and_false, Nat.reduceAdd, Nat.reduceEqDiff, Nat.reduceLeDiff, Int.reduceAdd, ne_eq, not_false_eq_true, ti3, ti76, aget_valsN hq', valN_eq hfr]
    have e := farQ_some hinv hq' hqx
    exact aend_frz (x := .t [I R[q].far, B true, I 0]) rfl ⟨frz_far e _, rfl⟩
  · refine afind_out h6 h4 hinv hpt hpad hx ?_
    simp only [w_move, w_assign, w_alloc, w_load, w_store, w_fieldAddr, w_extract, w_aop, w_some, w_anone, w_nil, w_cons, awp, asP, asQ, asT, asN, obA, AGet_zero, loadA, storeA, putsA, mkA, Aw.newRow, St.ev, St.step, setS, killS, AV.kill, AV.killL, Mem.kill, AV.cells, AV.flat, AV.single, AV.cellular, ACond_false, List.getD_cons_succ, List.getD_cons_zero, List.set_cons_succ, List.set_cons_zero, List.getElem?_cons_succ, List.getElem?_cons_zero, List.length_cons, List.length_nil, List.cons_append, List.nil_append, List.contains_nil, List.isEmpty_nil, Option.getD_some, Bool.false_eq_true, if_false, if_true, true_and, and_true, List.all_cons, List.all_nil, Bool.and_true, Bool.true_and, Bool.not_true, Nat.zero_add, beq_self_eq_true, List.map_cons, List.map_nil, decide_true, nbeq, decide_false, Bool.or_false, Bool.and_false, Nat.reduceAdd, Nat.reduceEqDiff, Nat.reduceLeDiff, Int.reduceAdd, ne_eq, not_false_eq_true, ti3, ti76]
    have e := farQ_none hx
    exact aend_frz (x := .t [I 0, B false, I 0]) rfl ⟨frz_far e _, rfl⟩
end Go.Proofs.Ytkolpijhgcijbaa

namespace Go.Proofs.Ytkolpijhgcijbaa
open Aw Go.RowKit
set_option linter.unusedSimpArgs false

theorem farP_some {n : Int} {ls : List (Int × Int)} {l t : List Int} {a : Int} {e : Int} (h : farP n ls l t = (a, true, e)) : pairE n ls l t = 0 ∧ e = 0 ∧ ∃ (q : Nat) (hq : q < (rch n ls l).length), (rch n ls l)[q].pl = t ∧ (rch n ls l)[q].far = a := by
  unfold farP at h
  split at h
  · simp at h
  · rename_i hp
    have hp := Decidable.not_not.1 hp
    obtain ⟨v1, v2, v3⟩ := pairE_ok hp
    obtain ⟨g1, g2, g3⟩ := vTP_ok v1
    have hinv := rch_inv (ls := ls) g3 g1
    generalize rch n ls l = R at *
    by_cases hx : t ∈ pls R
    · obtain ⟨q, hq, e⟩ := pls_mem hx
      rw [farQ_some hinv hq e] at h
      simp only [Prod.mk.injEq] at h
      exact ⟨hp, h.2.2.symm, q, hq, e, h.1⟩
    · rw [farQ_none hx] at h; simp at h

theorem farP_mem {n : Int} {ls : List (Int × Int)} {l t : List Int} (hp : pairE n ls l t = 0) {x : Nd} (hx : x ∈ rch n ls l) (hxp : x.pl = t) : farP n ls l t = (x.far, true, 0) := by
  obtain ⟨v1, v2, v3⟩ := pairE_ok hp
  obtain ⟨g1, g2, g3⟩ := vTP_ok v1
  have hinv := rch_inv (ls := ls) g3 g1
  rw [farP_ok hp]
  generalize rch n ls l = R at *
  obtain ⟨q, hq, rfl⟩ := List.mem_iff_getElem.1 hx
  exact farQ_some hinv hq hxp

theorem pairE_of {n : Int} {ls : List (Int × Int)} {l t : List Int} (h1 : vTP n ls l = 0) (h2 : vTP n ls t = 0) (h3 : l.length = t.length) : pairE n ls l t = 0 := by
  rw [pairE, if_neg (by rw [h1]; decide)]
  have : vP n t = 0 := by rw [vTP, if_pos (vTP_vT h1)] at h2; exact h2
  rw [if_neg (by rw [this]; decide), if_neg (by rw [h3]; simp)]

theorem far_lim {n : Int} {ls : List (Int × Int)} {l t : List Int} {a : Int} {e : Int} (h : farP n ls l t = (a, true, e)) : 0 ≤ a ∧ a ≤ 1296 := by
  obtain ⟨hp, _, q, hq, e1, e2⟩ := farP_some h
  obtain ⟨v1, v2, v3⟩ := pairE_ok hp
  obtain ⟨g1, g2, g3⟩ := vTP_ok v1
  have hinv := rch_inv (ls := ls) g3 g1
  generalize rch n ls l = R at *
  have := hinv.le g3 g2
  have h1 := hinv.far q hq
  have h2 := hinv.far0 R[q] (List.getElem_mem hq)
  omega

/-- a way of d moves is at most as short as the distance. -/
theorem far_way {n : Int} {ls : List (Int × Int)} {l t : List Int} {a : Int} {e : Int} (h : farP n ls l t = (a, true, e)) : ∃ d : Nat, a = d ∧ Way n ls d l t := by
  obtain ⟨hp, _, q, hq, e1, e2⟩ := farP_some h
  obtain ⟨d, h1, h2⟩ := way_rch _ (List.getElem_mem hq)
  exact ⟨d, by rw [← e2, h1], by rw [← e1]; exact h2⟩
theorem way_far {n : Int} {ls : List (Int × Int)} {l t : List Int} {d : Nat} (hv : vTP n ls l = 0) (hlen : l.length = t.length) (h : Way n ls d l t) : ∃ a : Int, farP n ls l t = (a, true, 0) ∧ a ≤ d := by
  obtain ⟨x, hx, e, hf⟩ := rch_way hv d h
  exact ⟨x.far, farP_mem (pairE_of hv (Way.V d hv h) hlen) hx e, hf⟩

theorem over_one {n : Int} {ls : List (Int × Int)} {l t : List Int} {a : Int} {e : Int} (h : farP n ls l t = (a, true, e)) {m : Int × Int} (hm : refu n ls t m = 0) : ∃ b, farP n ls l (nxt t m) = (b, true, 0) ∧ b ≤ a + 1 ∧ a ≤ b + 1 := by
  obtain ⟨hp, _⟩ := farP_some h
  obtain ⟨v1, v2, v3⟩ := pairE_ok hp
  obtain ⟨d, hd, hw⟩ := far_way h
  obtain ⟨b, hb, hbd⟩ := way_far (t := nxt t m) (d := d + 1) v1 (by simp [nxt, v3]) ⟨t, m, hw, hm, rfl⟩
  obtain ⟨b1, b2⟩ := back_one' v2 hm
  obtain ⟨d', hd', hw'⟩ := far_way hb
  obtain ⟨c, hc, hcd⟩ := way_far (t := t) (d := d' + 1) v1 v3 ⟨_, _, hw', b1, b2.symm⟩
  rw [h] at hc
  simp only [Prod.mk.injEq] at hc
  refine ⟨b, hb, by omega, by omega⟩

theorem ckP_one {n : Int} {ls : List (Int × Int)} {t : List Int} {m : Int × Int} (hv : vTP n ls t = 0) (hm : refu n ls t m = 0) : ckP n ls t [m] = (nxt t m, 1, 0) := by
  rw [ckP, if_neg (by rw [hv]; decide), if_neg (by simp), ckL, if_neg (by rw [hm]; decide), ckL]
  simp

theorem prsA_one (a b : Int) : [AV.g [I a, I b]] = prsA [(a, b)] := rfl

theorem ok11 : okFn Try.prog 11 = true := by kernel_rfl
set_option maxRecDepth 20000 in
theorem s11 (n : Int) (ls : List (Int × Int)) (l t : List Int) : ASpec Try.prog 11 [trapA n ls, .s 1 (intsA l), .s 1 (intsA t)] (fun r Ms => r = B true ∧ Ms = []) := by
  refine aspec_of (own := []) Try.func11 rfl ok11 ?_
  simp only [w_assign, w_box, w_load, w_callF, w_aop, w_some, w_asome, w_anone, w_nil, w_cons, awp, asP, asN, loadA, St.ev, St.step, setS, killS, AV.kill, AV.killL, Mem.kill, AV.cells, AV.flat, AV.single, AV.cellular, AV.pure, AV.pureL, ACond_false, List.getD_cons_succ, List.getD_cons_zero, List.set_cons_succ, List.set_cons_zero, List.getElem?_cons_zero, List.length_cons, List.length_nil, List.replicate_succ, List.replicate_zero, List.cons_append, List.nil_append, List.contains_nil, List.isEmpty_nil, Option.getD_some, Bool.false_eq_true, if_false, if_true, true_and, and_true, List.all_cons, List.all_nil, Bool.and_true, Bool.true_and, Bool.not_true, Nat.zero_add, Nat.add_zero, beq_self_eq_true, List.map_cons, List.map_nil, decide_true, Nat.reduceAdd, Nat.reduceSub, Nat.reduceLeDiff, Int.reduceAdd, Int.reduceSub, ti24, Try.ntmps11, trapA]
  have known : ∀ {M : Mem} {K : HK (AV → Mem → Prop)}, K.k (B true) M → ACall Try.prog 18 [] M (K := K) := fun h => acall_v s18 rfl rfl h
  refine acall_v (s16 n ls) rfl rfl ?_
  by_cases h1 : (60 : Int) < ls.length
  · simp only [w_move, w_pick, w_callF, w_aop, w_aopg, w_gdb, w_some, w_nil, w_cons, awp, asB, St.ev, St.step, setS, killS, AV.kill, AV.killL, Mem.kill, ACond_true, ACond_false, List.getD_cons_succ, List.getD_cons_zero, List.set_cons_succ, List.set_cons_zero, List.getElem?_cons_succ, List.getElem?_cons_zero, List.contains_nil, List.isEmpty_nil, if_true, Bool.not_true, List.map_nil, Nat.reduceAdd, Int.reduceAdd, Option.bind_some, w_bf, decide_eq_true h1]
    refine known ?_
    simp only [w_assign, w_aop, w_anone, w_nil, w_cons, awp, asN, St.ev, St.step, setS, killS, AV.kill, AV.killL, Mem.kill, List.getD_cons_succ, List.getD_cons_zero, List.set_cons_succ, List.set_cons_zero, List.contains_nil, List.isEmpty_nil, Option.getD_some, Bool.false_eq_true, if_false, if_true]
    exact aend_frz rfl ⟨rfl, rfl⟩
  simp only [w_move, w_callF, w_aop, w_aopg, w_gdb, w_some, w_cons, St.ev, St.step, setS, killS, AV.kill, AV.killL, Mem.kill, ACond_true, List.getD_cons_succ, List.getD_cons_zero, List.set_cons_succ, List.set_cons_zero, List.getElem?_cons_succ, List.getElem?_cons_zero, List.isEmpty_nil, if_true, beq_self_eq_true, List.map_cons, List.map_nil, Option.bind_some, decide_eq_false h1]
  refine acall_v (s17 l) rfl rfl ?_
  by_cases h2 : (40 : Int) < l.length
  · simp only [w_move, w_pick, w_callF, w_aop, w_aopg, w_gdb, w_some, w_nil, w_cons, awp, asB, St.ev, St.step, setS, killS, AV.kill, AV.killL, Mem.kill, ACond_true, ACond_false, List.getD_cons_succ, List.getD_cons_zero, List.set_cons_succ, List.set_cons_zero, List.getElem?_cons_succ, List.getElem?_cons_zero, List.contains_nil, List.isEmpty_nil, if_true, Bool.not_true, List.map_nil, Nat.reduceAdd, Int.reduceAdd, Option.bind_some, w_bf, decide_eq_true h2]
    refine known ?_
    simp only [w_assign, w_aop, w_anone, w_nil, w_cons, awp, asN, St.ev, St.step, setS, killS, AV.kill, AV.killL, Mem.kill, List.getD_cons_succ, List.getD_cons_zero, List.set_cons_succ, List.set_cons_zero, List.contains_nil, List.isEmpty_nil, Option.getD_some, Bool.false_eq_true, if_false, if_true]
    exact aend_frz rfl ⟨rfl, rfl⟩
  simp only [w_move, w_pick, w_callF, w_aop, w_aopg, w_gdb, w_some, w_cons, asB, St.ev, St.step, setS, killS, AV.kill, AV.killL, Mem.kill, ACond_true, ACond_false, List.getD_cons_succ, List.getD_cons_zero, List.set_cons_succ, List.set_cons_zero, List.getElem?_cons_succ, List.getElem?_cons_zero, List.isEmpty_nil, if_true, beq_self_eq_true, List.map_cons, List.map_nil, Option.bind_some, decide_eq_false h2]
  refine acall_v (s17 t) rfl rfl ?_
  by_cases h3 : (40 : Int) < t.length
  · simp only [w_pick, w_callF, w_aop, w_some, w_nil, w_cons, awp, asB, St.ev, St.step, setS, killS, AV.kill, AV.killL, Mem.kill, ACond_true, ACond_false, List.getD_cons_succ, List.getD_cons_zero, List.set_cons_succ, List.set_cons_zero, List.contains_nil, List.isEmpty_nil, if_true, List.map_nil, Nat.reduceAdd, Int.reduceAdd, decide_eq_true h3]
    refine known ?_
    simp only [w_assign, w_aop, w_anone, w_nil, w_cons, awp, asN, St.ev, St.step, setS, killS, AV.kill, AV.killL, Mem.kill, List.getD_cons_succ, List.getD_cons_zero, List.set_cons_succ, List.set_cons_zero, List.contains_nil, List.isEmpty_nil, Option.getD_some, Bool.false_eq_true, if_false, if_true]
    exact aend_frz rfl ⟨rfl, rfl⟩
  simp only [w_move, w_pick, w_load, w_callF, w_aop, w_some, w_asome, w_nil, w_cons, awp, asP, asB, loadA, St.ev, St.step, setS, killS, AV.kill, AV.killL, Mem.kill, AV.cells, AV.flat, AV.single, ACond_false, List.getD_cons_succ, List.getD_cons_zero, List.set_cons_succ, List.set_cons_zero, List.getElem?_cons_zero, List.length_cons, List.length_nil, List.contains_nil, List.isEmpty_nil, Bool.false_eq_true, if_false, if_true, and_true, List.all_cons, List.all_nil, Bool.and_true, Bool.not_true, Nat.zero_add, beq_self_eq_true, List.map_cons, List.map_nil, decide_true, Nat.reduceAdd, Nat.reduceLeDiff, Int.reduceAdd, ti24, decide_eq_false h3]
  have hls : ls.length ≤ 1000000 := by omega
  have hl : l.length ≤ 1000000 := by omega
  have ht : t.length ≤ 1000000 := by omega
  have a1 := s40 n ls l t hls hl ht
  rcases hF : farP n ls l t with ⟨a, is, e⟩
  rw [hF] at a1
  refine acall_v a1 rfl rfl ?_
  by_cases he : ¬ e = 0
  · simp only [w_move, w_assign, w_pick, w_binOp, w_extract, w_callF, w_aop, w_aopg, w_gdb, w_some, w_asome, w_anone, w_nil, w_cons, awp, binC, cmpC, asT, asB, asI, asN, St.ev, St.step, setS, killS, AV.kill, AV.killL, Mem.kill, ACond_true, ACond_false, List.getD_cons_succ, List.getD_cons_zero, List.set_cons_succ, List.set_cons_zero, List.getElem?_cons_succ, List.getElem?_cons_zero, List.contains_nil, List.isEmpty_nil, Option.getD_some, Bool.false_eq_true, if_false, if_true, true_and, Bool.true_and, Bool.not_true, Bool.not_false, List.map_nil, Nat.reduceAdd, Int.reduceAdd, Option.bind_some, w_bf, decide_eq_true he, decide_eq_false he]
    refine known ?_
    simp only [w_assign, w_aop, w_anone, w_nil, w_cons, awp, asN, St.ev, St.step, setS, killS, AV.kill, AV.killL, Mem.kill, List.getD_cons_succ, List.getD_cons_zero, List.set_cons_succ, List.set_cons_zero, List.contains_nil, List.isEmpty_nil, Option.getD_some, Bool.false_eq_true, if_false, if_true]
    exact aend_frz rfl ⟨rfl, rfl⟩
  have he0 := Decidable.not_not.1 he
  subst he0
  simp only [w_move, w_assign, w_pick, w_binOp, w_not, w_extract, w_aop, w_aopg, w_gdb, w_some, w_asome, w_anone, w_nil, w_cons, awp, binC, cmpC, asT, asB, asI, asN, St.ev, St.step, setS, killS, AV.kill, AV.killL, Mem.kill, ACond_true, ACond_false, List.getD_cons_succ, List.getD_cons_zero, List.set_cons_succ, List.set_cons_zero, List.getElem?_cons_succ, List.getElem?_cons_zero, List.contains_nil, List.isEmpty_nil, Option.getD_some, Bool.false_eq_true, if_false, if_true, true_and, Bool.true_and, Bool.not_true, beq_self_eq_true, decide_true, Nat.reduceAdd, Int.reduceAdd, Option.bind_some]
  cases is with
  | false =>
    simp only [w_callF, w_aop, w_cons, awp, ACond_true, ACond_false, List.contains_nil, Bool.not_false, List.map_nil, Nat.reduceAdd, Int.reduceAdd]
    refine known ?_
    simp only [w_assign, w_aop, w_anone, w_nil, w_cons, awp, asN, St.ev, St.step, setS, killS, AV.kill, AV.killL, Mem.kill, List.getD_cons_succ, List.getD_cons_zero, List.set_cons_succ, List.set_cons_zero, List.contains_nil, List.isEmpty_nil, Option.getD_some, Bool.false_eq_true, if_false, if_true]
    exact aend_frz rfl ⟨rfl, rfl⟩
  | true =>
    obtain ⟨v1, v2, v3⟩ := pairE_ok (farP_some hF).1
    have al := far_lim hF
    have a2 := s30 n ls t hls ht
    rw [if_neg (by rw [v2]; decide)] at a2
    have hmem : ∀ m ∈ mvK n ls t t.length, refu n ls t m = 0 := fun m hm => mvK_refu.1 hm
    generalize mvK n ls t t.length = ms at *
    simp only [w_move, w_load, w_callF, w_aop, w_some, w_asome, w_cons, awp, asP, loadA, St.ev, St.step, setS, killS, AV.kill, AV.killL, Mem.kill, AV.cells, AV.flat, AV.single, ACond_false, List.getD_cons_succ, List.getD_cons_zero, List.set_cons_succ, List.set_cons_zero, List.getElem?_cons_zero, List.length_cons, List.length_nil, List.contains_nil, List.isEmpty_nil, Bool.false_eq_true, if_false, if_true, and_true, List.all_cons, List.all_nil, Bool.and_true, Bool.not_true, Nat.zero_add, beq_self_eq_true, List.map_cons, List.map_nil, decide_true, Nat.reduceAdd, Nat.reduceLeDiff, Int.reduceAdd, ti24]
    refine acall_v a2 rfl rfl ?_
    simp only [w_move, w_assign, w_extract, w_aop, w_some, w_anone, w_nil, w_cons, awp, asT, asN, St.ev, St.step, setS, killS, AV.kill, AV.killL, Mem.kill, ACond_false, List.getD_cons_succ, List.getD_cons_zero, List.set_cons_succ, List.set_cons_zero, List.getElem?_cons_succ, List.getElem?_cons_zero, List.contains_nil, List.isEmpty_nil, Option.getD_some, Bool.false_eq_true, if_false, if_true, Nat.reduceAdd, Int.reduceAdd]
    refine swp_loop' (fun k : Nat => ⟨[.bot, .s 1 (intsA l), .s 1 (intsA t), .p (.g [I n, .s 2 (prsA ls)]) 0, .bot, .bot, .bot, I a, .bot, .bot, .s 2 (prsA ms), I 0, I k, .bot, .bot, .bot, .bot, .bot, .bot, .bot, .bot, .bot, .bot, .bot, .bot, .bot, .bot, .bot, .bot, .bot, .bot, .bot, .bot, .bot, .bot, .bot, .bot, .bot, .bot, .bot, .bot, .bot, .bot, .bot, .bot, .bot, .bot, .bot, .bot, .bot, .bot, .bot, .bot, .bot, .bot, .bot, .bot, .bot, .bot, .bot, .bot, .bot, .bot, .bot, .bot, .bot, .bot, .bot, .bot, .bot, .bot, .bot, .bot, .bot, .bot, .bot, .bot, .bot, .bot, .bot, .bot, .bot, .bot, .bot, .bot, .bot, .bot, .bot, .bot, .bot, .bot, .bot, .bot, .bot, .bot, .bot, .bot, .bot, .bot, .bot, .bot, .bot, .bot, .bot, .bot, .bot, .bot, .bot], []⟩) (fun k => k ≤ ms.length ∧ k ≤ 4) (fun k => 4 - k) 0 (le_sl (by simp [leSl])) ⟨Nat.zero_le _, Nat.zero_le _⟩ ?_
    intro k hk
    refine awp_sound (own := []) _ _ _ _ _ ?_
    simp only [w_move, w_binOp, w_len, w_aop, w_aopg, w_gdb, w_some, w_asome, w_cons, awp, binC, cmpC, asI, lenA, St.ev, St.step, setS, killS, AV.kill, AV.killL, Mem.kill, ACond_false, List.getD_cons_succ, List.getD_cons_zero, List.set_cons_succ, List.set_cons_zero, List.getElem?_cons_succ, List.getElem?_cons_zero, List.contains_nil, List.isEmpty_nil, if_true, true_and, Bool.true_and, Option.isSome_some, Nat.reduceAdd, Int.reduceAdd, Option.bind_some, w_bt, ti42, prsA_len]
    have fin : k = k := rfl
    by_cases hkl : (k : Int) < (ms.length : Int)
    case neg =>
      simp only [w_move, w_pick, w_binOp, w_callF, w_aop, w_aopg, w_gdb, w_some, w_asome, w_nil, w_cons, awp, binC, cmpC, asB, asI, St.ev, St.step, setS, killS, AV.kill, AV.killL, Mem.kill, ACond_true, ACond_false, List.getD_cons_succ, List.getD_cons_zero, List.set_cons_succ, List.set_cons_zero, List.getElem?_cons_succ, List.getElem?_cons_zero, List.contains_nil, List.isEmpty_nil, if_true, true_and, Bool.true_and, beq_self_eq_true, List.map_nil, decide_true, Nat.reduceAdd, Int.reduceAdd, Option.bind_some, w_bt, decide_eq_false hkl]
      refine known ?_
      simp only [w_assign, w_pick, w_aop, w_some, w_anone, w_nil, w_cons, awp, asB, asN, St.ev, St.step, setS, killS, AV.kill, AV.killL, Mem.kill, ACond_true, List.getD_cons_succ, List.getD_cons_zero, List.set_cons_succ, List.set_cons_zero, List.contains_nil, List.isEmpty_nil, Option.getD_some, Bool.false_eq_true, if_false, if_true]
      exact aend_frz rfl ⟨rfl, rfl⟩
    simp only [w_move, w_pick, w_binOp, w_aop, w_aopg, w_gdb, w_some, w_asome, w_nil, w_cons, awp, binC, cmpC, asB, asI, St.ev, St.step, setS, killS, AV.kill, AV.killL, Mem.kill, ACond_true, List.getD_cons_succ, List.getD_cons_zero, List.set_cons_succ, List.set_cons_zero, List.getElem?_cons_succ, List.getElem?_cons_zero, List.isEmpty_nil, if_true, true_and, Bool.true_and, beq_self_eq_true, Option.bind_some, decide_eq_true hkl]
    by_cases hk4 : (k : Int) < 4
    case neg =>
      simp only [w_move, w_binOp, w_callF, w_aop, w_aopg, w_gdb, w_some, w_asome, w_cons, awp, binC, cmpC, asI, St.ev, St.step, setS, killS, AV.kill, AV.killL, Mem.kill, ACond_true, ACond_false, List.getD_cons_succ, List.getD_cons_zero, List.set_cons_succ, List.set_cons_zero, List.getElem?_cons_succ, List.getElem?_cons_zero, List.contains_nil, List.isEmpty_nil, if_true, true_and, Bool.true_and, beq_self_eq_true, List.map_nil, decide_true, Nat.reduceAdd, Int.reduceAdd, Option.bind_some, decide_eq_false hk4]
      refine known ?_
      simp only [w_assign, w_pick, w_aop, w_some, w_anone, w_nil, w_cons, awp, asB, asN, St.ev, St.step, setS, killS, AV.kill, AV.killL, Mem.kill, ACond_true, List.getD_cons_succ, List.getD_cons_zero, List.set_cons_succ, List.set_cons_zero, List.contains_nil, List.isEmpty_nil, Option.getD_some, Bool.false_eq_true, if_false, if_true]
      exact aend_frz rfl ⟨rfl, rfl⟩
    simp only [awp, ACond_true, decide_eq_true hk4]
    have hkn : k < ms.length := by omega
    have hm := hmem ms[k] (List.getElem_mem hkn)
    have a3 := s33 n ls t [ms[k]] hls ht
    rw [ckP_one v2 hm] at a3
    obtain ⟨b, hb, b1, b2⟩ := over_one hF hm
    have bl := far_lim hb
    have a4 := s40 n ls l (nxt t ms[k]) hls hl (by simpa [nxt] using ht)
    rw [hb] at a4
    refine swp_draw (own := []) (.take 0 .reads [] (.take 1 .plain [] (.take 2 .plain [] (.take 3 .plain [] (.take 4 .reads [] (.take 5 .reads [] (.take 6 .plain [] (.alt 7 (.take 8 .plain [] (.take 9 .plain [] (.take 10 .plain [] (.take 11 .plain [] (.take 12 .plain [] (.take 13 .plain [] (.take 14 .plain [] (.done)))))))) (.nil))))))))) [⟨63, 8, 0, 0, true⟩, ⟨64, 4, 0, 0, true⟩, ⟨65, 1024, 0, 0, true⟩, ⟨66, 4096, 0, 0, true⟩, ⟨67, 55340232221128654848, 12, 0, true⟩, ⟨68, 73786976294838206464, 16, 0, true⟩, ⟨69, 147573952589676412928, 32, 0, true⟩, ⟨70, 308982963234634989568, 67, 0, false⟩, ⟨62, 590295810358705651712, 128, 0, true⟩, ⟨71, 2305843009213693952, 256, 0, true⟩, ⟨72, 2305843009213693952, 256, 0, true⟩, ⟨73, 2305843009213693952, 256, 0, true⟩, ⟨14, 1180591620717411303424, 1023, 0, true⟩, ⟨15, 2361183241434822606848, 6143, 0, true⟩, ⟨16, 4722366482869645213696, 16383, 0, true⟩] mo (by kernel_rfl) ?_
    simp only [w_move, w_load, w_indexAddr, w_buildSlice, w_callF, w_aop, w_take, w_some, w_asome, idxC, asP, asS, asI, loadA, St.ev, setS, AV.cells, AV.flat, AV.single, AV.cellular, AV.size, AV.sizeL, AV.pure, AV.pureL, ACond_false, Value.oneCell', List.getD_cons_succ, List.getD_cons_zero, List.set_cons_succ, List.set_cons_zero, List.getElem?_cons_succ, List.getElem?_cons_zero, List.length_cons, List.length_nil, List.contains_nil, Option.getD_some, Bool.false_eq_true, if_false, if_true, true_and, and_true, List.all_cons, List.all_nil, Bool.and_true, Bool.true_and, Bool.not_true, Nat.zero_add, Nat.add_zero, beq_self_eq_true, List.map_cons, List.map_nil, decide_true, nbeq, Nat.reduceAdd, Nat.reduceMul, Nat.reduceLeDiff, Int.reduceAdd, Int.reduceMul, ASch, St.put, Md.mem, Md.need, ti24, ti42, ti64, aget_prs hkn, Int.toNat_natCast]
    refine ⟨by omega, ⟨by decide, rfl⟩, ?_⟩
    refine acall_o (x := .t [.o 0, I 1, I 0]) a3 (by simp [trapA, AV.pureL, AV.pure, intsA_pure, prsA_pure]) (intsA_pure _) ?_
    simp only [w_move, w_assign, w_load, w_extract, w_callF, w_aop, w_take, w_some, w_asome, w_anone, w_cons, awp, asP, asT, asN, loadA, St.ev, St.step, setS, killS, AV.kill, AV.killL, Mem.kill, AV.cells, AV.flat, AV.single, ACond_false, List.getD_cons_succ, List.getD_cons_zero, List.set_cons_succ, List.set_cons_zero, List.getElem?_cons_succ, List.getElem?_cons_zero, List.length_cons, List.length_nil, List.nil_append, List.contains_nil, List.isEmpty_nil, Option.getD_some, Bool.false_eq_true, if_false, if_true, true_and, and_true, List.all_cons, List.all_nil, Bool.and_true, Bool.true_and, Bool.not_true, Nat.zero_add, Nat.add_zero, beq_self_eq_true, List.map_cons, List.map_nil, decide_true, Nat.reduceAdd, Nat.reduceLeDiff, Int.reduceAdd, ASch, St.put, Md.mem, Md.need, ti24, AV.up, AV.sub, AV.subL]
    refine acall_l a4 (by simp [frz, AV.sub, AV.subL, trapA, intsA_pure, prsA_pure]) rfl rfl ?_
    have c1 : ¬ a + 1 < b := by omega
    have c2 : ¬ b + 1 < a := by omega
    simp only [w_move, w_assign, w_pick, w_binOp, w_not, w_extract, w_aop, w_aopg, w_gdb, w_some, w_asome, w_anone, w_nil, w_cons, awp, binC, arithC, cmpC, asT, asB, asI, asN, St.ev, St.step, setS, killS, AV.kill, AV.killL, Mem.kill, ACond_true, ACond_false, List.getD_cons_succ, List.getD_cons_zero, List.set_cons_succ, List.set_cons_zero, List.getElem?_cons_succ, List.getElem?_cons_zero, List.contains_nil, List.isEmpty_nil, Option.getD_some, Bool.false_eq_true, if_false, if_true, true_and, and_true, Bool.and_true, Bool.true_and, Bool.not_true, beq_self_eq_true, decide_true, Nat.reduceAdd, Int.reduceAdd, Option.bind_some, decide_eq_false c1, decide_eq_false c2]
    refine ⟨by unfold lim; omega, by unfold lim; omega, by unfold lim; omega, k + 1, ?_, ⟨by omega, by omega⟩, by omega⟩
    exact le_cut (Mx := [_]) (by simp [leSl]) rfl rfl (by simp [freeM, AV.freeL, freeL_pure, intsA_pure])
end Go.Proofs.Ytkolpijhgcijbaa

namespace Go.Proofs.Ytkolpijhgcijbaa
open Aw Go.RowKit
set_option linter.unusedSimpArgs false

theorem rep_ints (m : Nat) (x : Int) : List.replicate m (AV.v (.int .i64 x)) = intsA (List.replicate m x) := by simp [intsA]
theorem fill_set {m k : Nat} (h : k < m) (a b : Int) : (List.replicate k a ++ List.replicate (m - k) b).set k a = List.replicate (k + 1) a ++ List.replicate (m - (k + 1)) b := by
  rw [List.set_append_right _ _ (by simp)]
  simp only [List.length_replicate, Nat.sub_self]
  rw [show m - k = (m - (k + 1)) + 1 by omega, List.replicate_succ, List.set_cons_zero, List.replicate_succ', List.append_assoc]
  rfl
theorem powN (k : Nat) : ((6 : Int) ^ k).toNat = 6 ^ k := by
  have e : ((6 ^ k : Nat) : Int) = (6 : Int) ^ k := by simp
  rw [← e]; exact Int.toNat_natCast _

theorem ok62 : okFn Try.prog 62 = true := by kernel_rfl
set_option maxRecDepth 20000 in
theorem s62 (n : Int) (ls : List (Int × Int)) (l : List Int) (hls : ls.length ≤ 1000000) (hv : vTP n ls l = 0) : ASpec Try.prog 62 [trapA n ls, .s 1 (intsA l)] (fun r Ms => r = .s 1 (intsA (tabN l.length (rch n ls l))) ∧ Ms = []) := by
  obtain ⟨hp, h4, h6⟩ := vTP_ok hv
  refine aspec_of (own := [11, 39, 42, 69, 100]) Try.func62 rfl ok62 ?_
  simp only [w_assign, w_box, w_aop, w_anone, w_nil, w_cons, awp, asN, St.ev, St.step, setS, killS, AV.kill, AV.killL, Mem.kill, AV.cellular, AV.pure, AV.pureL, ACond_false, List.getD_cons_zero, List.set_cons_succ, List.set_cons_zero, List.length_cons, List.length_nil, List.replicate_succ, List.replicate_zero, List.cons_append, List.nil_append, List.contains_nil, List.contains_cons, List.isEmpty_nil, Option.getD_some, Bool.false_eq_true, if_false, if_true, true_and, and_true, Bool.and_true, Bool.true_and, Nat.zero_add, Nat.add_zero, nbeq, decide_false, Bool.or_false, Nat.reduceAdd, Nat.reduceEqDiff, Nat.reduceSub, Int.reduceAdd, Int.reduceSub, Try.ntmps62, trapA]
  refine swp_loop' (fun i : Nat => ⟨[.bot, .s 1 (intsA l), .p (.g [I n, .s 2 (prsA ls)]) 0, .bot, .bot, I (6 ^ i), I i, .bot, .bot, .bot, .bot, .bot, .bot, .bot, .bot, .bot, .bot, .bot, .bot, .bot, .bot, .bot, .bot, .bot, .bot, .bot, .bot, .bot, .bot, .bot, .bot, .bot, .bot, .bot, .bot, .bot, .bot, .bot, .bot, .bot, .bot, .bot, .bot, .bot, .bot, .bot, .bot, .bot, .bot, .bot, .bot, .bot, .bot, .bot, .bot, .bot, .bot, .bot, .bot, .bot, .bot, .bot, .bot, .bot, .bot, .bot, .bot, .bot, .bot, .bot, .bot, .bot, .bot, .bot, .bot, .bot, .bot, .bot, .bot, .bot, .bot, .bot, .bot, .bot, .bot, .bot, .bot, .bot, .bot, .bot, .bot, .bot, .bot, .bot, .bot, .bot, .bot, .bot, .bot, .bot, .bot, .bot, .bot, .bot], []⟩) (fun i => i ≤ l.length) (fun i => l.length - i) 0 (le_sl (by simp [leSl])) (Nat.zero_le _) ?_
  intro i hi
  refine awp_sound (own := [11, 39, 42, 69, 100]) _ _ _ _ _ ?_
  simp only [w_move, w_binOp, w_len, w_aop, w_some, w_asome, w_nil, w_cons, awp, binC, cmpC, asB, asI, lenA, St.ev, St.step, setS, killS, AV.kill, AV.killL, Mem.kill, ACond_false, List.getD_cons_succ, List.getD_cons_zero, List.set_cons_succ, List.set_cons_zero, List.contains_nil, List.contains_cons, List.isEmpty_nil, if_true, true_and, Bool.true_and, Option.isSome_some, nbeq, decide_false, Bool.or_false, Nat.reduceAdd, Nat.reduceEqDiff, Int.reduceAdd, ti25, intsA_len]
  by_cases h : i < l.length
  · have h' : (i : Int) < (l.length : Int) := by omega
    have hpw := pow_le (k := i) (by omega)
    have hpp : (0 : Int) < 6 ^ i := Int.pow_pos (by decide)
    simp only [w_move, w_assign, w_binOp, w_aop, w_some, w_asome, w_anone, w_nil, w_cons, awp, binC, arithC, cmpC, asI, asN, St.ev, St.step, setS, killS, AV.kill, AV.killL, Mem.kill, ACond_true, ACond_false, List.getD_cons_succ, List.getD_cons_zero, List.set_cons_succ, List.set_cons_zero, List.contains_nil, List.contains_cons, List.isEmpty_nil, Option.getD_some, Bool.false_eq_true, if_false, if_true, true_and, and_true, Bool.and_true, Bool.true_and, nbeq, decide_false, Bool.or_false, Nat.reduceAdd, Nat.reduceEqDiff, Int.reduceAdd, decide_eq_true h']
    rw [← Int.pow_succ]
    have hpw' := pow_le (k := i + 1) (by omega)
    have hpp' : (0 : Int) < 6 ^ (i + 1) := Int.pow_pos (by decide)
    exact ⟨by unfold lim; omega, by unfold lim; omega, i + 1, le_sl (by simp [leSl]), by omega, by omega⟩
  have h' : ¬ (i : Int) < (l.length : Int) := by omega
  obtain rfl : i = l.length := by omega
  have hpw := pow_le (k := l.length) h4
  have hpp : (0 : Int) < 6 ^ l.length := Int.pow_pos (by decide)
  simp only [w_move, w_assign, w_makeSlice, oneOf, w_aop, w_some, w_anone, w_nil, w_cons, awp, asI, asN, Aw.newRow, St.ev, St.step, setS, killS, AV.kill, AV.killL, Mem.kill, ACond_false, List.getD_cons_succ, List.getD_cons_zero, List.set_cons_succ, List.set_cons_zero, List.length_nil, List.nil_append, List.contains_nil, List.contains_cons, List.isEmpty_nil, Option.getD_some, Bool.false_eq_true, if_false, if_true, true_and, and_true, Bool.and_true, Bool.true_and, nbeq, decide_false, Bool.or_false, Nat.reduceAdd, Nat.reduceEqDiff, Nat.reduceLeDiff, Int.reduceAdd, ti3, ti25, decide_eq_false h', powN, rep_ints]
  refine ⟨by omega, ?_⟩
  obtain ⟨S, hS⟩ : ∃ S : Nat, S = 6 ^ l.length := ⟨_, rfl⟩
  have hSI : (6 : Int) ^ l.length = (S : Int) := by rw [hS]; simp
  rw [hSI] at hpw hpp
  have ht0 : tabN l.length [] = List.replicate S 1000000 := by rw [hS]; rfl
  have htl : ∀ L, (tabN l.length L).length = S := fun L => by rw [tabN_len, hS]
  simp only [hSI, ← hS]
  refine swp_loop' (fun k : Nat => ⟨[.bot, .s 1 (intsA l), .p (.g [I n, .s 2 (prsA ls)]) 0, .bot, .bot, I S, .bot, .o 0, I k, .bot, .bot, .bot, .bot, .bot, .bot, .bot, .bot, .bot, .bot, .bot, .bot, .bot, .bot, .bot, .bot, .bot, .bot, .bot, .bot, .bot, .bot, .bot, .bot, .bot, .bot, .bot, .bot, .bot, .bot, .bot, .bot, .bot, .bot, .bot, .bot, .bot, .bot, .bot, .bot, .bot, .bot, .bot, .bot, .bot, .bot, .bot, .bot, .bot, .bot, .bot, .bot, .bot, .bot, .bot, .bot, .bot, .bot, .bot, .bot, .bot, .bot, .bot, .bot, .bot, .bot, .bot, .bot, .bot, .bot, .bot, .bot, .bot, .bot, .bot, .bot, .bot, .bot, .bot, .bot, .bot, .bot, .bot, .bot, .bot, .bot, .bot, .bot, .bot, .bot, .bot, .bot, .bot, .bot, .bot], [some ⟨none, 3, 1, intsA (List.replicate k 1000000 ++ List.replicate (S - k) 0)⟩]⟩) (fun k => k ≤ S) (fun k => S - k) 0 (le_sl (by simp [leSl])) (Nat.zero_le _) ?_
  intro k hk
  refine awp_sound (own := [11, 39, 42, 69, 100]) _ _ _ _ _ ?_
  have hfl : (List.replicate k (1000000 : Int) ++ List.replicate (S - k) 0).length = S := by simp; omega
  simp only [w_move, w_binOp, w_aop, w_some, w_asome, w_nil, w_cons, awp, binC, cmpC, asB, asI, St.ev, St.step, setS, killS, AV.kill, AV.killL, Mem.kill, ACond_false, List.getD_cons_succ, List.getD_cons_zero, List.set_cons_succ, List.set_cons_zero, List.contains_nil, List.contains_cons, List.isEmpty_nil, Bool.false_eq_true, if_false, if_true, true_and, Bool.true_and, nbeq, decide_false, Bool.or_false, Nat.reduceAdd, Nat.reduceEqDiff, Int.reduceAdd]
  by_cases h : k < S
  · have h' : (k : Int) < (S : Int) := by omega
    simp only [w_move, w_assign, w_store, w_indexAddr, w_binOp, w_aop, w_some, w_asome, w_anone, w_nil, w_cons, awp, binC, idxC, arithC, cmpC, asQ, asO, asS, asI, asN, obA, storeA, putsA, St.ev, St.step, setS, killS, AV.kill, AV.killL, Mem.kill, AV.cells, AV.flat, AV.single, AV.cellular, ACond_true, ACond_false, Value.oneCell', List.getD_cons_succ, List.getD_cons_zero, List.set_cons_succ, List.set_cons_zero, List.getElem?_cons_zero, List.length_cons, List.head?_cons, List.length_nil, List.replicate_succ, List.cons_append, List.contains_nil, List.contains_cons, List.isEmpty_nil, Option.getD_some, Bool.false_eq_true, if_false, if_true, true_and, and_true, List.all_cons, List.all_nil, Bool.and_true, Bool.true_and, Nat.zero_add, beq_self_eq_true, decide_true, nbeq, decide_false, Bool.or_false, Nat.reduceAdd, Nat.reduceEqDiff, Nat.reduceLeDiff, Int.reduceAdd, ti3, ti25, decide_eq_true h', intsA_len, hfl, Int.toNat_natCast, aget_ints (show k < (List.replicate k (1000000 : Int) ++ List.replicate (S - k) 0).length by rw [hfl]; exact h), intsA_set, fill_set h]
    exact ⟨by omega, by unfold lim; omega, k + 1, le_sl (by simp [leSl]), by omega, by omega⟩
  have h'' : ¬ (k : Int) < (S : Int) := by omega
  obtain rfl : k = S := by omega
  have hni := numL_idx h6 hp
  rw [← hS] at hni
  have hrep : List.replicate k (1000000 : Int) ++ List.replicate (k - k) 0 = tabN l.length [] := by rw [ht0]; simp
  have hts : (tabN l.length []).set (numL l).toNat 0 = tabN l.length [startN l] := rfl
  rw [hrep]
  simp only [w_move, w_callF, w_aop, w_cons, awp, St.ev, St.step, setS, killS, AV.kill, AV.killL, Mem.kill, ACond_false, List.getD_cons_succ, List.getD_cons_zero, List.set_cons_succ, List.set_cons_zero, List.contains_nil, List.contains_cons, List.isEmpty_nil, Bool.false_eq_true, if_false, if_true, List.map_cons, List.map_nil, nbeq, decide_false, Bool.or_false, Nat.reduceAdd, Nat.reduceEqDiff, Int.reduceAdd, decide_eq_false h'']
  refine acall_v (s63 n l h6 h4 hp) rfl rfl ?_
  simp only [w_move, w_assign, w_store, w_indexAddr, w_buildSlice, w_append, w_aop, w_some, w_asome, w_anone, w_nil, w_cons, awp, idxC, asQ, asO, asS, asI, asN, obA, storeA, putsA, Aw.newRow, St.ev, St.step, setS, killS, AV.kill, AV.killL, Mem.kill, AV.cells, AV.flat, AV.single, AV.cellular, AV.size, ACond_true, ACond_false, Value.oneCell', List.getD_cons_succ, List.getD_cons_zero, List.set_cons_succ, List.set_cons_zero, List.getElem?_cons_succ, List.getElem?_cons_zero, List.length_cons, List.head?_cons, List.length_nil, List.cons_append, List.nil_append, List.contains_nil, List.contains_cons, List.isEmpty_nil, List.isEmpty_cons, Option.getD_some, Bool.false_eq_true, if_false, if_true, true_and, and_true, List.all_cons, List.all_nil, Bool.and_true, Bool.true_and, Nat.zero_add, beq_self_eq_true, List.map_cons, List.map_nil, decide_true, nbeq, decide_false, Bool.or_false, Bool.or_true, Nat.reduceAdd, Nat.reduceEqDiff, Nat.reduceMul, Nat.reduceLeDiff, Int.reduceAdd, Int.reduceMul, Option.map_some, ti3, ti25, ti96, intsA_len, htl, aget_ints (show (numL l).toNat < (tabN l.length []).length by rw [htl]; exact hni.2), intsA_set, hts]
  refine ⟨by omega, ⟨by decide, rfl⟩, ⟨by decide, by omega⟩, ⟨by decide, rfl⟩, ?_⟩
  rw [intsA_kill]
  have hle : ∀ i, (rchI n ls l i).length ≤ 1296 := fun i => (rchI_inv (ls := ls) h6 hp i).le h6 h4
  refine swp_loop' (fun i : Nat × Nat => ⟨[.bot, .bot, .p (.g [I n, .s 2 (prsA ls)]) 0, .bot, .bot, .bot, .bot, .o 0, .bot, .s 1 (rowN ((rchI n ls l i.1).drop i.1)), I i.2, .bot, .bot, .bot, .bot, .bot, .bot, .bot, .bot, .bot, .bot, .bot, .bot, .bot, .bot, .bot, .bot, .bot, .bot, .bot, .bot, .bot, .bot, .bot, .bot, .bot, .bot, .bot, .bot, .bot, .bot, .bot, .bot, .bot, .bot, .bot, .bot, .bot, .bot, .bot, .bot, .bot, .bot, .bot, .bot, .bot, .bot, .bot, .bot, .bot, .bot, .bot, .bot, .bot, .bot, .bot, .bot, .bot, .bot, .bot, .bot, .bot, .bot, .bot, .bot, .bot, .bot, .bot, .bot, .bot, .bot, .bot, .bot, .bot, .bot, .bot, .bot, .bot, .bot, .bot, .bot, .bot, .bot, .bot, .bot, .bot, .bot, .bot, .bot, .bot, .bot, .bot, .bot, .bot], [some ⟨none, 3, 1, intsA (tabN l.length (rchI n ls l i.1))⟩]⟩) (fun i => i.1 ≤ (rchI n ls l i.1).length ∧ i.2 ≤ i.1 + 1 ∧ ∀ (j : Nat) (h : j < (rchI n ls l i.1).length), i.1 ≤ j → (rchI n ls l i.1)[j].far + 1 = i.2) (fun i => 1300 - i.1) (0, 1) ?_ ⟨by simp [rchI], by simp, ?_⟩ ?_
  · refine Le.trans (le_frz 1 (ty := 3) (k := 1) (xs := intsA l) rfl (intsA_pure _)) ?_
    have e1 : frzM 1 1 (intsA l) [some ⟨none, 3, 1, intsA (tabN l.length [startN l])⟩, some ⟨none, 3, 1, intsA l⟩, some ⟨none, 25, 1, [.o 1]⟩] = [some ⟨none, 3, 1, intsA (tabN l.length [startN l])⟩, none, some ⟨none, 25, 1, [.s 1 (intsA l)]⟩] := by
      simp [frzM, AV.subL, AV.sub, subL_pure, intsA_pure]
    rw [e1]
    refine Le.trans (le_frz 2 (ty := 25) (k := 1) (xs := [.s 1 (intsA l)]) rfl rfl) ?_
    refine le_cut (Mx := [none, none]) ?_ ?_ rfl ?_
    · simp [leSl, frz1, AV.sub, AV.subL, rchI, rowN, startN]
    · simp [frzM, AV.subL, AV.sub, subL_pure, intsA_pure, rchI]
    · simp [freeM, freeL_pure, intsA_pure]
  · intro j hj _
    simp only [rchI, List.length_cons, List.length_nil] at hj
    obtain rfl : j = 0 := by omega
    simp [rchI, startN]
  rintro ⟨s, r⟩ ⟨hs, hr, hfar⟩
  simp only at hs hr hfar
  refine awp_sound (own := [11, 39, 42, 69, 100]) _ _ _ _ _ ?_
  have hls1 := hle s
  simp only [w_move, w_binOp, w_len, w_aop, w_some, w_asome, w_nil, w_cons, awp, binC, cmpC, asB, asI, lenA, St.ev, St.step, setS, killS, AV.kill, AV.killL, Mem.kill, ACond_false, List.getD_cons_succ, List.getD_cons_zero, List.set_cons_succ, List.set_cons_zero, List.contains_nil, List.contains_cons, List.isEmpty_nil, Bool.false_eq_true, if_false, if_true, true_and, Bool.true_and, Option.isSome_some, nbeq, decide_false, Bool.or_false, Nat.reduceAdd, Nat.reduceEqDiff, Int.reduceAdd, ti96, rowN_len, List.length_drop]
  by_cases hse : s < (rchI n ls l s).length
  case neg =>
    have h0 : ¬ (0 : Int) < (((rchI n ls l s).length - s : Nat) : Int) := by omega
    simp only [w_move, w_assign, w_aop, w_anone, w_nil, w_cons, awp, asN, St.ev, St.step, setS, killS, AV.kill, AV.killL, Mem.kill, ACond_false, List.getD_cons_succ, List.getD_cons_zero, List.set_cons_succ, List.set_cons_zero, List.contains_nil, List.contains_cons, List.isEmpty_nil, Option.getD_some, Bool.false_eq_true, if_false, if_true, nbeq, decide_false, Bool.or_false, Nat.reduceAdd, Nat.reduceEqDiff, Int.reduceAdd, decide_eq_false h0]
    rw [rchI_end h6 h4 hp (by omega)]
    generalize rch n ls l = R
    exact aend_frz rfl ⟨by simp [frz, AV.sub, intsA_pure], rfl⟩
  have h0 : (0 : Int) < (((rchI n ls l s).length - s : Nat) : Int) := by omega
  simp only [w_assign, w_aop, w_some, w_asome, w_anone, w_nil, w_cons, awp, asN, Aw.newRow, St.ev, St.step, setS, killS, AV.kill, AV.killL, Mem.kill, ACond_true, ACond_false, List.set_cons_succ, List.set_cons_zero, List.length_cons, List.length_nil, List.cons_append, List.nil_append, List.contains_nil, List.contains_cons, List.isEmpty_nil, Option.getD_some, Bool.false_eq_true, if_false, if_true, Nat.zero_add, beq_self_eq_true, nbeq, decide_false, Bool.or_false, Nat.reduceAdd, Nat.reduceEqDiff, Int.reduceAdd, ti25, ti96, decide_eq_true h0]
  obtain ⟨e, he⟩ : ∃ e, e = (rchI n ls l s).length := ⟨_, rfl⟩
  refine swp_loop' (fun q : Nat => ⟨[.bot, .bot, .p (.g [I n, .s 2 (prsA ls)]) 0, .bot, .bot, .bot, .bot, .o 0, .bot, .s 1 (rowN ((rchI n ls l s).drop s)), I r, .o 1, I q, .bot, .bot, .bot, .bot, .bot, .bot, .bot, .bot, .bot, .bot, .bot, .bot, .bot, .bot, .bot, .bot, .bot, .bot, .bot, .bot, .bot, .bot, .bot, .bot, .bot, .bot, .bot, .bot, .bot, .bot, .bot, .bot, .bot, .bot, .bot, .bot, .bot, .bot, .bot, .bot, .bot, .bot, .bot, .bot, .bot, .bot, .bot, .bot, .bot, .bot, .bot, .bot, .bot, .bot, .bot, .bot, .bot, .bot, .bot, .bot, .bot, .bot, .bot, .bot, .bot, .bot, .bot, .bot, .bot, .bot, .bot, .bot, .bot, .bot, .bot, .bot, .bot, .bot, .bot, .bot, .bot, .bot, .bot, .bot, .bot, .bot, .bot, .bot, .bot, .bot, .bot], [some ⟨none, 3, 1, intsA (tabN l.length (rchI n ls l (s + q)))⟩, some ⟨none, 25, 1, rowN ((rchI n ls l (s + q)).drop e)⟩]⟩) (fun q => q ≤ e - s ∧ ∀ (j : Nat) (h : j < (rchI n ls l (s + q)).length), e ≤ j → (rchI n ls l (s + q))[j].far = r) (fun q => e - s - q) 0 ?_ ⟨Nat.zero_le _, ?_⟩ ?_
  · rw [Nat.add_zero, he, List.drop_length]
    exact le_sl (by simp [leSl])
  · intro j hj hej
    rw [Nat.add_zero] at hj
    omega
  rintro q ⟨hq, hqf⟩
  refine awp_sound (own := [11, 39, 42, 69, 100]) _ _ _ _ _ ?_
  obtain ⟨E, hE⟩ := rchI_mono n ls l s q
  have hLV := rchI_V (ls := ls) hv (s + q)
  have hLI := rchI_inv (ls := ls) h6 hp (s + q)
  have hLl := hle (s + q)
  simp only [w_move, w_binOp, w_len, w_aop, w_some, w_asome, w_nil, w_cons, awp, binC, cmpC, asB, asI, lenA, St.ev, St.step, setS, killS, AV.kill, AV.killL, Mem.kill, ACond_false, List.getD_cons_succ, List.getD_cons_zero, List.set_cons_succ, List.set_cons_zero, List.contains_nil, List.contains_cons, List.isEmpty_nil, Bool.false_eq_true, if_false, if_true, true_and, Bool.true_and, Option.isSome_some, nbeq, decide_false, Bool.or_false, Nat.reduceAdd, Nat.reduceEqDiff, Int.reduceAdd, ti96, rowN_len, List.length_drop, ← he]
  by_cases hqe : q < e - s
  case neg =>
    have h1 : ¬ (q : Int) < ((e - s : Nat) : Int) := by omega
    simp only [w_move, w_assign, w_binOp, w_aop, w_some, w_asome, w_anone, w_nil, w_cons, awp, binC, arithC, cmpC, asI, asN, St.ev, St.step, setS, killS, AV.kill, AV.killL, Mem.kill, ACond_false, List.getD_cons_succ, List.getD_cons_zero, List.set_cons_succ, List.set_cons_zero, List.contains_nil, List.contains_cons, List.isEmpty_nil, Option.getD_some, Bool.false_eq_true, if_false, if_true, true_and, and_true, Bool.and_true, Bool.true_and, nbeq, decide_false, Bool.or_false, Nat.reduceAdd, Nat.reduceEqDiff, Int.reduceAdd, decide_eq_false h1]
    have hqs : s + q = e := by omega
    rw [hqs] at hqf hE ⊢
    have hel : e ≤ (rchI n ls l e).length := by rw [hE, List.length_append, ← he]; omega
    refine ⟨by unfold lim; omega, (e, r + 1), ?_, ⟨hel, by simp only; omega, fun j hj hej => by simp only; rw [hqf j hj hej]; simp⟩, by simp only; omega⟩
    refine Le.trans (le_frz 1 (ty := 25) (k := 1) (xs := rowN ((rchI n ls l e).drop e)) rfl (rowN_pure _)) ?_
    refine le_cut (Mx := [none]) ?_ ?_ rfl ?_
    · simp [leSl, frz1, AV.sub, AV.subL]
    · simp [frzM, AV.subL, AV.sub, subL_pure, intsA_pure]
    · simp [freeM, freeL_pure, intsA_pure]
  have h1 : (q : Int) < ((e - s : Nat) : Int) := by omega
  simp only [awp, ACond_true, decide_eq_true h1]
  have hsq : s + q < (rchI n ls l s).length := by omega
  have hsq' : s + q < (rchI n ls l (s + q)).length := by rw [hE, List.length_append]; omega
  have hsame : (rchI n ls l (s + q))[s + q] = (rchI n ls l s)[s + q] := by simp only [hE]; exact List.getElem_append_left hsq
  have hdr : q < ((rchI n ls l s).drop s).length := by rw [List.length_drop]; omega
  have hdre : ((rchI n ls l s).drop s)[q].pl = (rchI n ls l (s + q))[s + q].pl := by rw [List.getElem_drop, hsame]
  have hpV := hLV _ (List.getElem_mem hsq')
  have hfr : (rchI n ls l (s + q))[s + q].far + 1 = r := by rw [hsame]; exact hfar _ hsq (by omega)
  have hstep : rchI n ls l (s + q + 1) = visN (rchI n ls l (s + q))[s + q].pl (rchI n ls l (s + q))[s + q].far (rchI n ls l (s + q)) (mvK n ls (rchI n ls l (s + q))[s + q].pl (rchI n ls l (s + q))[s + q].pl.length) := stepN_some hsq'
  have hpO := hLI.pl _ (List.getElem_mem hsq')
  have hel : e ≤ (rchI n ls l (s + q)).length := by rw [hE, List.length_append]; omega
  generalize hP : (rchI n ls l (s + q))[s + q].pl = P at *
  generalize hD : (rchI n ls l (s + q))[s + q].far = D at *
  generalize hLL : rchI n ls l (s + q) = LL at *
  have hPl : P.length ≤ 4 := by rw [hpO.1]; exact h4
  have sm := s31 n ls P hls (by omega)
  rw [if_neg (by rw [hpV]; decide)] at sm
  have hmok := mvK_ok (n := n) (ls := ls) (l := P) (k := P.length)
  have hml := mvK_len n ls P P.length
  have hmm : ∀ m ∈ mvK n ls P P.length, m ∈ mvK n ls P P.length := fun m hm => hm
  generalize hms : mvK n ls P P.length = ms at sm hmok hml hstep hmm
  have hml' : ms.length ≤ 24 := Nat.le_trans hml (Nat.le_trans (Nat.mul_le_mul hPl (show n.toNat ≤ 6 by omega)) (by decide))
  refine swp_draw (own := [11, 39, 42, 69, 100]) (.take 0 .reads [] (.take 1 .plain [] (.take 2 .plain [] (.take 3 .reads [] (.take 4 .reads [] (.alt 5 (.take 6 .plain [] (.take 7 .plain [] (.take 8 .plain [] (.take 9 .plain [] (.take 10 .plain [] (.done)))))) (.nil))))))) [⟨56, 4, 0, 0, true⟩, ⟨57, 512, 0, 0, true⟩, ⟨58, 4096, 0, 0, true⟩, ⟨59, 216172782113783808, 6, 0, true⟩, ⟨60, 288230376151711744, 8, 0, true⟩, ⟨61, 612489549322387456, 17, 0, false⟩, ⟨55, 1152921504606846976, 32, 0, true⟩, ⟨62, 18014398509481984, 64, 0, true⟩, ⟨63, 18014398509481984, 64, 0, true⟩, ⟨14, 2305843009213693952, 255, 0, true⟩, ⟨15, 4611686018427387904, 1023, 0, true⟩] mo (by kernel_rfl) ?_
  simp only [w_move, w_load, w_indexAddr, w_callF, w_aop, w_take, w_some, w_asome, idxC, asP, asS, asI, loadA, St.ev, setS, AV.cells, AV.flat, AV.single, List.getD_cons_succ, List.getD_cons_zero, List.set_cons_succ, List.set_cons_zero, List.getElem?_cons_succ, List.getElem?_cons_zero, List.length_cons, List.length_nil, Bool.false_eq_true, if_false, if_true, true_and, and_true, List.all_cons, List.all_nil, Bool.and_true, Bool.true_and, Bool.not_true, Nat.zero_add, beq_self_eq_true, List.map_cons, List.map_nil, decide_true, Nat.reduceAdd, Nat.reduceLeDiff, Int.reduceAdd, ASch, St.put, Md.mem, Md.need, ti24, ti25, ti96, aget_rowN hdr, Int.toNat_natCast, hdre]
  refine ⟨by omega, acall_v sm rfl rfl ?_⟩
  simp only [w_move, w_assign, w_extract, w_aop, w_take, w_some, w_anone, w_nil, w_cons, awp, asT, asN, St.ev, St.step, setS, killS, AV.kill, AV.killL, Mem.kill, ACond_false, List.getD_cons_succ, List.getD_cons_zero, List.set_cons_succ, List.set_cons_zero, List.getElem?_cons_succ, List.getElem?_cons_zero, List.contains_nil, List.contains_cons, List.isEmpty_nil, Option.getD_some, Bool.false_eq_true, if_false, if_true, true_and, Bool.true_and, nbeq, decide_false, Bool.or_false, Nat.reduceAdd, Nat.reduceEqDiff, Int.reduceAdd, ASch, St.put, Md.mem, Md.need]
  have hPO : okPl n l.length P := hpO
  have hPP : okPl n P.length P := ⟨rfl, hPO.2⟩
  have hPll : P.length = l.length := hPO.1
  have hokm : ∀ m ∈ ms, okPl n l.length (nxt P m) := fun m hm => nxt_ok hPO (hmok m hm).2.2.1 (hmok m hm).2.2.2.1
  refine swp_loop' (fun i : Nat => ⟨[.bot, .bot, .p (.g [I n, .s 2 (prsA ls)]) 0, .bot, .bot, .bot, .bot, .o 0, .bot, .s 1 (rowN ((rchI n ls l s).drop s)), I r, .o 1, I q, .s 2 (prsA ms), .bot, I i, .bot, .bot, .bot, .bot, .bot, .bot, .bot, .bot, .bot, .bot, .bot, .bot, .bot, .bot, .bot, .bot, .bot, .bot, .bot, .bot, .bot, .bot, .bot, .bot, .bot, .bot, .bot, .bot, .bot, .bot, .bot, .bot, .bot, .bot, .bot, .bot, .bot, .bot, .bot, .bot, .bot, .bot, .bot, .bot, .bot, .bot, .bot, .bot, .bot, .bot, .bot, .bot, .bot, .bot, .bot, .bot, .bot, .bot, .bot, .bot, .bot, .bot, .bot, .bot, .bot, .bot, .bot, .bot, .bot, .bot, .bot, .bot, .bot, .bot, .bot, .bot, .bot, .bot, .bot, .bot, .bot, .bot, .bot, .bot, .bot, .bot, .bot, .bot], [some ⟨none, 3, 1, intsA (tabN l.length (visN P D LL (ms.take i)))⟩, some ⟨none, 25, 1, rowN ((visN P D LL (ms.take i)).drop e)⟩]⟩) (fun i => i ≤ ms.length) (fun i => ms.length - i) 0 (le_sl (by simp [leSl])) (Nat.zero_le _) ?_
  intro i hi
  refine awp_sound (own := [11, 39, 42, 69, 100]) _ _ _ _ _ ?_
  have hNI : InvN n l.length (visN P D LL (ms.take i)) := visN_inv (i := s + q) h6 hPO _ _ hLI ⟨hsq', hD⟩ fun m hm => hokm m (List.mem_of_mem_take hm)
  obtain ⟨F, hF, _⟩ := visN_ext P D (ms.take i) LL
  have hNle := hNI.le h6 h4
  simp only [w_move, w_binOp, w_len, w_aop, w_some, w_asome, w_nil, w_cons, awp, binC, cmpC, asB, asI, lenA, St.ev, St.step, setS, killS, AV.kill, AV.killL, Mem.kill, ACond_false, List.getD_cons_succ, List.getD_cons_zero, List.set_cons_succ, List.set_cons_zero, List.contains_nil, List.contains_cons, List.isEmpty_nil, Bool.false_eq_true, if_false, if_true, true_and, Bool.true_and, Option.isSome_some, nbeq, decide_false, Bool.or_false, Nat.reduceAdd, Nat.reduceEqDiff, Int.reduceAdd, ti42, prsA_len]
  by_cases h2 : i < ms.length
  case neg =>
    have h2' : ¬ (i : Int) < (ms.length : Int) := by omega
    obtain rfl : i = ms.length := by omega
    simp only [w_move, w_assign, w_binOp, w_aop, w_some, w_asome, w_anone, w_nil, w_cons, awp, binC, arithC, cmpC, asI, asN, St.ev, St.step, setS, killS, AV.kill, AV.killL, Mem.kill, ACond_false, List.getD_cons_succ, List.getD_cons_zero, List.set_cons_succ, List.set_cons_zero, List.contains_nil, List.contains_cons, List.isEmpty_nil, Option.getD_some, Bool.false_eq_true, if_false, if_true, true_and, and_true, Bool.and_true, Bool.true_and, nbeq, decide_false, Bool.or_false, Nat.reduceAdd, Nat.reduceEqDiff, Int.reduceAdd, decide_eq_false h2']
    refine ⟨by unfold lim; omega, q + 1, ?_, ⟨by omega, ?_⟩, by omega⟩
    · rw [show s + (q + 1) = s + q + 1 by omega, hstep, List.take_length]
      exact le_sl (by simp [leSl])
    · rw [show s + (q + 1) = s + q + 1 by omega, hstep]
      intro j hj hej
      have := visN_far P D ms LL e (fun j hj hej => by rw [hqf j hj hej, ← hfr]) hel j hj hej
      rw [this, hfr]
  have h2' : (i : Int) < (ms.length : Int) := by omega
  have hmi := hmok ms[i] (List.getElem_mem h2)
  have hoki := hokm ms[i] (List.getElem_mem h2)
  have hvs := visN_succ P D LL ms h2
  have hNe : e ≤ (visN P D LL (ms.take i)).length := by rw [hF, List.length_append]; omega
  generalize hN : visN P D LL (ms.take i) = N at *
  have hai : ms[i].1.toNat < P.length := by omega
  simp only [w_move, w_assign, w_load, w_indexAddr, w_buildSlice, w_append, w_aop, w_some, w_asome, w_anone, w_nil, w_cons, awp, idxC, asP, asO, asS, asI, asN, obA, loadA, Aw.newRow, St.ev, St.step, setS, killS, AV.kill, AV.killL, Mem.kill, AV.cells, AV.flat, AV.single, AV.cellular, ACond_true, ACond_false, Value.oneCell', List.getD_cons_succ, List.getD_cons_zero, List.set_cons_succ, List.set_cons_zero, List.getElem?_cons_succ, List.getElem?_cons_zero, List.length_cons, List.length_nil, List.cons_append, List.nil_append, List.contains_nil, List.contains_cons, List.isEmpty_nil, List.isEmpty_cons, Option.getD_some, Bool.false_eq_true, if_false, if_true, true_and, and_true, List.all_cons, List.all_nil, Bool.and_true, Bool.true_and, Bool.not_true, Nat.zero_add, beq_self_eq_true, List.map_cons, List.map_nil, nbeq, decide_false, Bool.or_false, Bool.or_true, Nat.reduceAdd, Nat.reduceEqDiff, Nat.reduceMul, Nat.reduceLeDiff, Int.reduceAdd, Int.reduceMul, Option.map_some, ti3, ti25, ti96, decide_eq_true h2', aget_rowN hdr, Int.toNat_natCast, hdre, intsA_len]
  refine ⟨⟨by decide, rfl⟩, by omega, ⟨by decide, by omega⟩, ?_⟩
  simp only [intsA_kill, rowN_kill]
  refine swp_draw (own := [11, 39, 42, 69, 100]) (.take 0 .plain [] (.take 1 .plain [] (.take 2 .plain [] (.take 3 .reads [] (.take 4 .plain [] (.take 5 .reads [] (.take 6 .plain [] (.take 7 .plain [] (.take 8 .reads [] (.take 9 .plain [] (.take 10 .reads [] (.take 11 .reads [] (.alt 12 (.done) (.nil)))))))))))))) [⟨76, 65536, 0, 0, true⟩, ⟨77, 8192, 0, 0, true⟩, ⟨78, 32768, 0, 0, true⟩, ⟨79, 226673591177742970257408, 6, 0, true⟩, ⟨80, 302231454903657293676544, 8, 0, true⟩, ⟨81, 604462909807314587353088, 16, 0, true⟩, ⟨82, 8192, 0, 0, true⟩, ⟨83, 32768, 0, 0, true⟩, ⟨84, 7253554917687775048237056, 192, 0, true⟩, ⟨85, 9671406556917033397649408, 256, 0, true⟩, ⟨86, 19342813113834066795298816, 512, 0, true⟩, ⟨87, 1246704751477586336415744, 2047, 0, true⟩, ⟨0, 116056878683004400771792896, 4095, 1, false⟩] mo (by kernel_rfl) ?_
  simp only [w_move, w_load, w_store, w_fieldAddr, w_indexAddr, w_callF, w_aop, w_take, w_some, w_asome, w_anone, w_cons, awp, idxC, asP, asQ, asO, asS, asI, obA, loadA, storeA, putsA, St.ev, St.step, setS, killS, AV.kill, AV.killL, Mem.kill, AV.cells, AV.flat, AV.single, AV.cellular, ACond_false, Value.oneCell', List.getD_cons_succ, List.getD_cons_zero, List.set_cons_succ, List.set_cons_zero, List.getElem?_cons_succ, List.getElem?_cons_zero, List.length_cons, List.head?_cons, List.length_nil, List.contains_nil, List.contains_cons, List.isEmpty_nil, Bool.false_eq_true, if_false, if_true, true_and, and_true, List.all_cons, List.all_nil, Bool.and_true, Bool.true_and, Bool.not_true, Nat.zero_add, Nat.add_zero, beq_self_eq_true, List.map_cons, List.map_nil, decide_true, nbeq, decide_false, Bool.or_false, Bool.and_false, Nat.reduceAdd, Nat.reduceEqDiff, Nat.reduceLeDiff, Int.reduceAdd, ASch, St.put, Md.mem, Md.need, ne_eq, not_false_eq_true, ti3, ti25, ti42, ti64, aget_prs h2, Int.toNat_natCast, intsA_len, aget_ints hai, intsA_set]
  have hnx : P.set ms[i].1.toNat ms[i].2 = nxt P ms[i] := rfl
  rw [hnx]
  have hoki' : okPl n (nxt P ms[i]).length (nxt P ms[i]) := ⟨rfl, hoki.2⟩
  have sn := s63 n (nxt P ms[i]) h6 (by rw [hoki.1]; exact h4) hoki'
  have hix := numL_idx h6 hoki
  rw [← hS] at hix
  have hixl : (numL (nxt P ms[i])).toNat < (tabN l.length N).length := by rw [htl]; exact hix.2
  refine ⟨by omega, by omega, by omega, acall_l sn (by simp [frz, AV.sub, intsA_pure]) rfl rfl ?_⟩
  simp only [w_load, w_indexAddr, w_binOp, w_aop, w_some, w_asome, w_anone, w_nil, w_cons, awp, binC, idxC, cmpC, asP, asQ, asO, asS, asB, asI, obA, loadA, St.ev, St.step, setS, killS, AV.kill, AV.killL, Mem.kill, AV.cells, AV.flat, AV.single, List.getD_cons_succ, List.getD_cons_zero, List.set_cons_succ, List.set_cons_zero, List.getElem?_cons_zero, List.contains_nil, List.isEmpty_nil, Bool.false_eq_true, if_false, if_true, true_and, and_true, List.all_cons, List.all_nil, Bool.and_true, Bool.true_and, Bool.not_true, ti3, ti25, intsA_len, htl, aget_ints hixl]
  refine ⟨by omega, ?_⟩
  by_cases hx : nxt P ms[i] ∈ pls N
  · obtain ⟨j, hj, hjx⟩ := pls_mem hx
    have hv1 := tabN_in h6 hNI hj (j := (numL (nxt P ms[i])).toNat) (by rw [hjx]) hixl
    have hfj := hNI.far j hj
    have hne : ¬ (tabN l.length N)[(numL (nxt P ms[i])).toNat] = 1000000 := by rw [hv1]; omega
    simp only [w_move, w_assign, w_binOp, w_aop, w_some, w_asome, w_anone, w_nil, w_cons, awp, binC, arithC, cmpC, asI, asN, St.ev, St.step, setS, killS, AV.kill, AV.killL, Mem.kill, ACond_false, List.getD_cons_succ, List.getD_cons_zero, List.set_cons_succ, List.set_cons_zero, List.contains_nil, List.contains_cons, List.isEmpty_nil, Option.getD_some, Bool.false_eq_true, if_false, if_true, true_and, and_true, Bool.and_true, Bool.true_and, nbeq, decide_false, Bool.or_false, Nat.reduceAdd, Nat.reduceEqDiff, Int.reduceAdd, decide_eq_false hne]
    refine ⟨by unfold lim; omega, i + 1, ?_, by omega, by omega⟩
    rw [hvs, show addN N ⟨nxt P ms[i], padL P, ms[i], D + 1⟩ = N by simp [addN, hx]]
    exact le_cut (Mx := [_]) (by simp [leSl]) rfl rfl (by simp [freeM, freeL_pure, intsA_pure, rowN_pure])
  · have hv1 := tabN_out h6 hNI hoki hx hixl
    simp only [w_move, w_callF, w_aop, w_cons, awp, St.ev, St.step, setS, killS, AV.kill, AV.killL, Mem.kill, ACond_true, ACond_false, List.getD_cons_succ, List.getD_cons_zero, List.set_cons_succ, List.set_cons_zero, List.contains_nil, List.contains_cons, List.isEmpty_nil, Bool.false_eq_true, if_false, if_true, List.map_cons, List.map_nil, nbeq, decide_false, Bool.or_false, Nat.reduceAdd, Nat.reduceEqDiff, Int.reduceAdd, decide_eq_true hv1]
    refine acall_l sn (by simp [frz, AV.sub, intsA_pure]) rfl rfl ?_
    have hset : (tabN l.length N).set (numL (nxt P ms[i])).toNat (r : Int) = tabN l.length (N ++ [(⟨nxt P ms[i], padL P, ms[i], D + 1⟩ : Nd)]) := by
      rw [tabN_snoc]
      show _ = (tabN l.length N).set (numL (nxt P ms[i])).toNat (D + 1)
      rw [hfr]
    simp only [w_move, w_assign, w_store, w_indexAddr, w_binOp, w_buildSlice, w_append, w_aop, w_some, w_asome, w_anone, w_nil, w_cons, awp, binC, idxC, arithC, cmpC, asQ, asO, asS, asI, asN, obA, storeA, putsA, Aw.newRow, St.ev, St.step, setS, killS, AV.kill, AV.killL, Mem.kill, AV.cells, AV.flat, AV.single, AV.cellular, AV.size, ACond_true, ACond_false, Value.oneCell', List.getD_cons_succ, List.getD_cons_zero, List.set_cons_succ, List.set_cons_zero, List.getElem?_cons_succ, List.getElem?_cons_zero, List.length_cons, List.head?_cons, List.length_nil, List.cons_append, List.nil_append, List.contains_nil, List.contains_cons, List.isEmpty_nil, List.isEmpty_cons, Option.getD_some, Bool.false_eq_true, if_false, if_true, true_and, and_true, List.all_cons, List.all_nil, Bool.and_true, Bool.true_and, Nat.zero_add, beq_self_eq_true, List.map_cons, List.map_nil, decide_true, nbeq, decide_false, Bool.or_false, Bool.or_true, Nat.reduceAdd, Nat.reduceEqDiff, Nat.reduceMul, Nat.reduceLeDiff, Int.reduceAdd, Int.reduceMul, ne_eq, not_false_eq_true, Option.map_some, ti3, ti25, ti96, intsA_len, htl, aget_ints hixl, intsA_set, hset, rowN_len, List.length_drop]
    refine ⟨by omega, ⟨by decide, rfl⟩, ⟨by decide, by omega⟩, by unfold lim; omega, i + 1, ?_, by omega, by omega⟩
    rw [hvs, show addN N ⟨nxt P ms[i], padL P, ms[i], D + 1⟩ = N ++ [⟨nxt P ms[i], padL P, ms[i], D + 1⟩] by simp [addN, hx]]
    have hrow : rowN ((N ++ [(⟨nxt P ms[i], padL P, ms[i], D + 1⟩ : Nd)]).drop e) = rowN (N.drop e) ++ [.s 1 (intsA (nxt P ms[i]))] := by
      rw [List.drop_append_of_le_length hNe]; simp [rowN]
    rw [hrow]
    simp only [rowN_kill, intsA_kill]
    refine Le.trans (le_frz 2 (ty := 3) (k := 1) (xs := intsA (nxt P ms[i])) rfl (intsA_pure _)) ?_
    refine le_cut (Mx := [none, some ⟨none, 25, 1, [.s 1 (intsA (nxt P ms[i]))]⟩]) ?_ ?_ rfl ?_
    · simp [leSl, frz1, AV.sub, AV.subL]
    · simp [frzM, AV.subL, AV.sub, subL_app, subL_pure, intsA_pure, rowN_pure]
    · simp [freeM, AV.freeL, AV.free, freeL_app, freeL_pure, intsA_pure, rowN_pure]
end Go.Proofs.Ytkolpijhgcijbaa

namespace Go.Proofs.Ytkolpijhgcijbaa
open Aw Go.RowKit
set_option linter.unusedSimpArgs false

/-- the first and the last k are exchanged. -/
def revK (xs : List (Int × Int)) (k : Nat) : List (Int × Int) := (List.range xs.length).map fun q => if q < k ∨ xs.length - k ≤ q then xs.getD (xs.length - 1 - q) (0, 0) else xs.getD q (0, 0)
theorem revK_len (xs : List (Int × Int)) (k : Nat) : (revK xs k).length = xs.length := by simp [revK]
theorem revK_at (xs : List (Int × Int)) (k : Nat) {q : Nat} (h : q < xs.length) : (revK xs k)[q]? = some (if q < k ∨ xs.length - k ≤ q then xs.getD (xs.length - 1 - q) (0, 0) else xs.getD q (0, 0)) := by simp [revK, h]
theorem revK_zero (xs : List (Int × Int)) : revK xs 0 = xs := by
  apply List.ext_getElem?
  intro q
  rcases Nat.lt_or_ge q xs.length with h | h
  · rw [revK_at xs 0 h, if_neg (by omega), List.getD_eq_getElem?_getD, List.getElem?_eq_getElem h]; rfl
  · rw [List.getElem?_eq_none (by rw [revK_len]; exact h), List.getElem?_eq_none h]
theorem revK_end {xs : List (Int × Int)} {k : Nat} (h : xs.length ≤ 2 * k + 1) (hk : 2 * k ≤ xs.length + 1) : revK xs k = xs.reverse := by
  apply List.ext_getElem?
  intro q
  rcases Nat.lt_or_ge q xs.length with hq | hq
  · rw [revK_at xs k hq, List.getElem?_reverse hq]
    have hl : xs.length - 1 - q < xs.length := by omega
    rw [List.getElem?_eq_getElem hl]
    split
    · rw [List.getD_eq_getElem?_getD, List.getElem?_eq_getElem hl]; rfl
    · have : q = xs.length - 1 - q := by omega
      rw [List.getD_eq_getElem?_getD, List.getElem?_eq_getElem hq]
      congr 1
      simp only [Option.getD_some]
      congr 1
  · rw [List.getElem?_eq_none (by rw [revK_len]; exact hq), List.getElem?_eq_none (by simpa using hq)]
theorem revK_succ {xs : List (Int × Int)} {k : Nat} (h : 2 * k + 1 < xs.length) (h1 : k < (revK xs k).length) (h2 : xs.length - 1 - k < (revK xs k).length) :
    ((revK xs k).set k (revK xs k)[xs.length - 1 - k]).set (xs.length - 1 - k) (revK xs k)[k] = revK xs (k + 1) := by
  have e1 : (revK xs k)[k] = xs.getD k (0, 0) := by
    have := revK_at xs k (q := k) (by omega)
    rw [List.getElem?_eq_getElem h1, if_neg (by omega)] at this
    exact Option.some.inj this
  have e2 : (revK xs k)[xs.length - 1 - k] = xs.getD (xs.length - 1 - k) (0, 0) := by
    have := revK_at xs k (q := xs.length - 1 - k) (by omega)
    rw [List.getElem?_eq_getElem h2, if_neg (by omega)] at this
    exact Option.some.inj this
  rw [e1, e2]
  apply List.ext_getElem?
  intro q
  rcases Nat.lt_or_ge q xs.length with hq | hq
  · rw [revK_at xs (k + 1) hq]
    by_cases c1 : xs.length - 1 - k = q
    · subst c1
      rw [List.getElem?_set_self (by simpa using h2), if_pos (by omega)]
      congr 2
      omega
    · rw [List.getElem?_set_ne c1]
      by_cases c2 : k = q
      · subst c2
        rw [List.getElem?_set_self h1, if_pos (by omega)]
      · rw [List.getElem?_set_ne c2, revK_at xs k hq]
        congr 1
        by_cases c3 : q < k ∨ xs.length - k ≤ q
        · rw [if_pos c3, if_pos (by omega)]
        · rw [if_neg c3, if_neg (by omega)]
  · rw [List.getElem?_eq_none (by simp [revK_len]; exact hq), List.getElem?_eq_none (by rw [revK_len]; exact hq)]

theorem prsA_set (l : List (Int × Int)) (i : Nat) (x : Int × Int) : (prsA l).set i (.g [I x.1, I x.2]) = prsA (l.set i x) := by simp [prsA, prA, List.map_set]

def Mr (a b c : Ob) (xs : List (Int × Int)) : Mem := [some a, some b, some c, some ⟨none, 64, 2, prsA xs⟩]
theorem ok77 : okFn Try.prog 77 = true := by kernel_rfl
theorem s77 (a b c : Ob) (xs : List (Int × Int)) (ha : AV.pureL a.xs = true) (hb : AV.pureL b.xs = true) (hc : AV.pureL c.xs = true) (hx : xs.length ≤ 1000000) :
    MSpec Try.prog 77 [.o 3] (Mr a b c xs) (fun r M' => r = .t [] ∧ M' = Mr a b c xs.reverse) := by
  refine mspec_of (own := []) Try.func77 rfl ok77 fun vs => ?_
  simp only [w_move, w_assign, w_binOp, w_len, w_aop, w_some, w_asome, w_anone, w_nil, w_cons, awp, binC, arithC, cmpC, asI, asN, lenA, St.ev, St.step, setS, killS, AV.kill, AV.killL, Mem.kill, ACond_false, List.getD_cons_succ, List.getD_cons_zero, List.set_cons_succ, List.set_cons_zero, List.getElem?_cons_succ, List.getElem?_cons_zero, List.length_cons, List.length_nil, List.replicate_succ, List.replicate_zero, List.cons_append, List.nil_append, List.contains_nil, List.isEmpty_nil, Option.getD_some, Bool.false_eq_true, if_false, if_true, true_and, and_true, Bool.and_true, Bool.true_and, Option.isSome_some, Nat.zero_add, Nat.add_zero, Nat.reduceSub, Int.reduceSub, ti42, Try.ntmps77, Mr, ghost, prsA_len]
  refine ⟨by unfold lim; omega, ?_⟩
  refine swp_loop' (fun k : Nat => ⟨[.o 3, .bot, I k, I ((xs.length : Int) - 1 - k), .bot, .bot, .bot, .bot, .bot, .bot, .bot, .bot, .bot, .bot, .bot, .bot, .bot, .bot, .bot, .bot, .bot, .bot, .bot, .bot, .bot, .bot, .bot, .bot], Mr a b c (revK xs k) ++ [some (ghost vs [.o 3])]⟩) (fun k => 2 * k ≤ xs.length + 1) (fun k => xs.length - k) 0 ?_ (by omega) ?_
  · rw [revK_zero]
    exact le_sl (by simp [leSl])
  intro k hk
  refine awp_sound (own := []) _ _ _ _ _ ?_
  simp only [w_move, w_binOp, w_aop, w_some, w_asome, w_nil, w_cons, awp, binC, cmpC, asB, asI, St.ev, St.step, setS, killS, AV.kill, AV.killL, Mem.kill, ACond_false, List.getD_cons_succ, List.getD_cons_zero, List.set_cons_succ, List.set_cons_zero, List.cons_append, List.nil_append, List.contains_nil, List.isEmpty_nil, Bool.false_eq_true, if_false, if_true, true_and, Bool.true_and, Nat.reduceAdd, Int.reduceAdd, Mr, ghost]
  by_cases h : 2 * k + 1 < xs.length
  · have h' : (k : Int) < (xs.length : Int) - 1 - k := by omega
    simp only [awp, ACond_true, decide_eq_true h']
    have h1 : k < (revK xs k).length := by rw [revK_len]; omega
    have h2 : xs.length - 1 - k < (revK xs k).length := by rw [revK_len]; omega
    have hj : ((xs.length : Int) - 1 - k).toNat = xs.length - 1 - k := by omega
    refine swp_draw (own := []) (.take 0 .plain [] (.take 1 .plain [] (.take 2 .plain [] (.take 3 .plain [] (.take 4 .plain [] (.take 5 .plain [] (.take 6 .reads [] (.take 7 .reads [] (.take 8 .plain [] (.take 9 .plain [] (.take 10 .reads [] (.take 11 .reads [] (.take 12 .reads [] (.alt 13 (.take 14 .reads [] (.alt 15 (.done) (.nil))) (.nil))))))))))))))) [⟨15, 1, 0, 0, true⟩, ⟨16, 4, 0, 0, true⟩, ⟨17, 1, 0, 0, true⟩, ⟨18, 8, 0, 0, true⟩, ⟨19, 1, 0, 0, true⟩, ⟨20, 8, 0, 0, true⟩, ⟨21, 786432, 48, 0, true⟩, ⟨22, 1048576, 64, 0, true⟩, ⟨23, 1, 0, 0, true⟩, ⟨24, 4, 0, 0, true⟩, ⟨25, 12582912, 768, 0, true⟩, ⟨26, 16777216, 1024, 0, true⟩, ⟨27, 49152, 2291, 0, true⟩, ⟨0, 69206016, 6387, 1, false⟩, ⟨28, 196608, 16383, 0, true⟩, ⟨0, 167772160, 32767, 1, false⟩] mo (by kernel_rfl) ?_
    simp only [w_move, w_load, w_store, w_indexAddr, w_aop, w_take, w_some, w_asome, w_anone, idxC, asP, asQ, asO, asS, asI, obA, loadA, storeA, putsA, St.ev, St.step, setS, killS, AV.kill, AV.killL, Mem.kill, AV.cells, AV.flat, AV.single, AV.cellular, List.getD_cons_succ, List.getD_cons_zero, List.set_cons_succ, List.set_cons_zero, List.getElem?_cons_succ, List.getElem?_cons_zero, List.length_cons, List.length_nil, List.contains_nil, List.isEmpty_nil, Bool.false_eq_true, if_false, if_true, true_and, and_true, List.all_cons, List.all_nil, Bool.and_true, Bool.true_and, Bool.not_true, Nat.zero_add, beq_self_eq_true, decide_true, Nat.reduceAdd, Nat.reduceLeDiff, Int.reduceAdd, ASch, St.put, Md.mem, Md.need, ti42, ti64, prsA_len, revK_len, hj, Int.toNat_natCast, aget_prs h1, aget_prs h2]
    have h2' : xs.length - 1 - k < ((revK xs k).set k (revK xs k)[xs.length - 1 - k]).length := by simpa using h2
    simp only [prsA_set, prsA_len, List.length_set, revK_len]
    refine ⟨by omega, by omega, by omega, by omega, ?_⟩
    rw [aget_prs h2']
    simp only [w_move, w_assign, w_binOp, w_aop, w_some, w_asome, w_anone, w_nil, w_cons, awp, binC, arithC, cmpC, asI, asN, storeA, putsA, St.ev, St.step, setS, killS, AV.kill, AV.killL, Mem.kill, AV.cells, AV.flat, AV.single, AV.cellular, ACond_false, List.getD_cons_succ, List.getD_cons_zero, List.set_cons_succ, List.set_cons_zero, List.length_cons, List.length_nil, List.contains_nil, List.isEmpty_nil, Option.getD_some, Bool.false_eq_true, if_false, if_true, true_and, and_true, List.all_cons, List.all_nil, Bool.and_true, Bool.true_and, Nat.zero_add, beq_self_eq_true, decide_true, Nat.reduceAdd, Nat.reduceLeDiff, Int.reduceAdd, ASch, prsA_set, revK_succ h h1 h2]
    refine ⟨by unfold lim; omega, by unfold lim; omega, k + 1, ?_, by omega, by omega⟩
    rw [show (xs.length : Int) - 1 - (k + 1 : Nat) = (xs.length : Int) - 1 - k - 1 by omega]
    exact le_sl (by simp [leSl])
  · have h' : ¬ (k : Int) < (xs.length : Int) - 1 - k := by omega
    simp only [awp, ACond_false, if_true, decide_eq_false h']
    rw [revK_end (by omega) hk]
    exact ⟨⟨[.o 3, .bot, .bot, .bot, .bot, .bot, .bot, .bot, .bot, .bot, .bot, .bot, .bot, .bot, .bot, .bot, .bot, .bot, .bot, .bot, .bot, .bot, .bot, .bot, .bot, .bot, .bot, .bot], Mr a b c xs.reverse ++ [some (ghost vs [.o 3])]⟩, .t [], Mr a b c xs.reverse, le_sl (by simp [leSl]), rfl, rfl, rfl, rfl, by simp [freeM, Mr, AV.freeL, AV.free, freeL_pure, ha, hb, hc, prsA_pure], rfl, rfl⟩

/-- the moves back, in the order of the plan. -/
def bkF : List Int → List (Int × Int) → List (Int × Int)
  | _, [] => []
  | now, m :: r => (m.1, now.getD m.1.toNat 0) :: bkF (nxt now m) r
theorem bkF_len : ∀ (pl : List (Int × Int)) (now : List Int), (bkF now pl).length = pl.length
  | [], _ => rfl
  | m :: r, now => by simp [bkF, bkF_len r]
theorem bkF_drop {now : List Int} {pl : List (Int × Int)} {k : Nat} (h : k < pl.length) : bkF now (pl.drop k) = (pl[k].1, now.getD pl[k].1.toNat 0) :: bkF (nxt now pl[k]) (pl.drop (k + 1)) := by
  rw [List.drop_eq_getElem_cons h, bkF]
/-- what 'Back' answers. -/
def bkP (n : Int) (ls : List (Int × Int)) (l : List Int) (pl : List (Int × Int)) : List (Int × Int) × Int := if (ckP n ls l pl).2.2 ≠ 0 then ([], (ckP n ls l pl).2.2) else ((bkF l pl).reverse, 0)

theorem ckP_ok {n : Int} {ls : List (Int × Int)} {l : List Int} {pl : List (Int × Int)} (h : (ckP n ls l pl).2.2 = 0) : vTP n ls l = 0 ∧ pl.length ≤ 400 ∧ ckP n ls l pl = ckL n ls l pl 0 := by
  unfold ckP at h ⊢
  split at h
  · rename_i hv; exact absurd h hv
  · rename_i hv
    split at h
    · simp at h
    · rename_i h4
      exact ⟨Decidable.not_not.1 hv, by omega, by rw [if_neg hv, if_neg h4]⟩

theorem ok46 : okFn Try.prog 46 = true := by kernel_rfl
set_option maxRecDepth 20000 in
theorem s46 (n : Int) (ls : List (Int × Int)) (l : List Int) (pl : List (Int × Int)) (hls : ls.length ≤ 1000000) (hl : l.length ≤ 1000000) (hpl : pl.length ≤ 1000000) : ASpec Try.prog 46 [trapA n ls, .s 1 (intsA l), .s 2 (prsA pl)] (fun r Ms => r = .t [.s 2 (prsA (bkP n ls l pl).1), I (bkP n ls l pl).2] ∧ Ms = []) := by
  refine aspec_of (own := [6, 12, 43, 1012]) Try.func46 rfl ok46 ?_
  simp only [w_move, w_assign, w_box, w_load, w_callF, w_aop, w_some, w_asome, w_anone, w_nil, w_cons, awp, asP, asN, loadA, Aw.newRow, St.ev, St.step, setS, killS, AV.kill, AV.killL, Mem.kill, AV.cells, AV.flat, AV.single, AV.cellular, AV.pure, AV.pureL, ACond_false, List.getD_cons_succ, List.getD_cons_zero, List.set_cons_succ, List.set_cons_zero, List.getElem?_cons_zero, List.length_cons, List.length_nil, List.replicate_succ, List.replicate_zero, List.cons_append, List.nil_append, List.contains_nil, List.contains_cons, List.isEmpty_nil, Option.getD_some, Bool.false_eq_true, if_false, if_true, true_and, and_true, List.all_cons, List.all_nil, Bool.and_true, Bool.true_and, Bool.not_true, Nat.zero_add, Nat.add_zero, beq_self_eq_true, List.map_cons, List.map_nil, decide_true, nbeq, decide_false, Bool.or_false, Nat.reduceAdd, Nat.reduceEqDiff, Nat.reduceSub, Nat.reduceLeDiff, Int.reduceAdd, Int.reduceSub, ti24, ti42, ti64, Try.ntmps46, trapA]
  have hq := s33 n ls l pl hls hl
  refine acall_o (x := .t [.o 0, I (ckP n ls l pl).2.1, I (ckP n ls l pl).2.2]) hq (by simp [AV.pureL, AV.pure, intsA_pure, prsA_pure]) (intsA_pure _) ?_
  simp only [w_move, w_assign, w_binOp, w_extract, w_aop, w_some, w_asome, w_anone, w_nil, w_cons, awp, binC, cmpC, asT, asB, asI, asN, St.ev, St.step, setS, killS, AV.kill, AV.killL, Mem.kill, ACond_false, List.getD_cons_succ, List.getD_cons_zero, List.set_cons_succ, List.set_cons_zero, List.getElem?_cons_succ, List.getElem?_cons_zero, List.length_cons, List.length_nil, List.cons_append, List.nil_append, List.contains_nil, List.contains_cons, List.isEmpty_nil, Option.getD_some, Bool.false_eq_true, if_false, if_true, true_and, Bool.true_and, Nat.zero_add, nbeq, decide_false, Bool.or_false, Nat.reduceAdd, Nat.reduceEqDiff, Int.reduceAdd, AV.up, AV.sub, AV.subL]
  by_cases h : ¬ (ckP n ls l pl).2.2 = 0
  · simp only [w_move, w_assign, w_aop, w_some, w_asome, w_anone, w_nil, w_cons, awp, asN, Aw.newRow, St.ev, St.step, setS, killS, AV.kill, AV.killL, Mem.kill, ACond_true, ACond_false, List.getD_cons_succ, List.getD_cons_zero, List.set_cons_succ, List.set_cons_zero, List.length_cons, List.length_nil, List.cons_append, List.nil_append, List.contains_nil, List.contains_cons, List.isEmpty_nil, Option.getD_some, Bool.false_eq_true, if_false, if_true, Bool.not_false, Nat.zero_add, beq_self_eq_true, nbeq, decide_false, Bool.or_false, Nat.reduceAdd, Nat.reduceEqDiff, Int.reduceAdd, ti42, ti64, decide_eq_true h, decide_eq_false h]
    rw [bkP, if_pos h]
    exact aend_frz rfl ⟨by simp [frz, AV.sub, AV.subL, AV.pureL, prsA], rfl⟩
  have h0 : (ckP n ls l pl).2.2 = 0 := Decidable.not_not.1 h
  obtain ⟨hv, h400, hck⟩ := ckP_ok h0
  rw [bkP, if_neg h]
  have hc0 : (ckL n ls l pl 0).2.2 = 0 := by rw [← hck]; exact h0
  have hp1 := intsA_pure (ckP n ls l pl).1
  simp only [w_move, w_callF, w_aop, w_cons, awp, St.ev, St.step, setS, killS, AV.kill, AV.killL, Mem.kill, ACond_false, List.getD_cons_succ, List.getD_cons_zero, List.set_cons_succ, List.set_cons_zero, List.contains_nil, List.contains_cons, List.isEmpty_nil, Bool.false_eq_true, if_false, if_true, Bool.not_true, List.map_cons, List.map_nil, nbeq, decide_false, Bool.or_false, Nat.reduceAdd, Nat.reduceEqDiff, Int.reduceAdd, decide_eq_true h0]
  generalize intsA (ckP n ls l pl).1 = Q at hp1 ⊢
  refine acall_o (x := .o 0) (s59 l hl) rfl (intsA_pure l) ?_
  simp only [w_move, w_assign, w_len, w_aop, w_some, w_asome, w_anone, w_nil, w_cons, awp, asN, lenA, Aw.newRow, St.ev, St.step, setS, killS, AV.kill, AV.killL, Mem.kill, ACond_false, List.getD_cons_succ, List.getD_cons_zero, List.set_cons_succ, List.set_cons_zero, List.length_cons, List.length_nil, List.cons_append, List.nil_append, List.contains_nil, List.contains_cons, List.isEmpty_nil, Option.getD_some, Bool.false_eq_true, if_false, if_true, true_and, Bool.true_and, Option.isSome_some, Nat.zero_add, beq_self_eq_true, nbeq, decide_false, Bool.or_false, Bool.or_true, Nat.reduceAdd, Nat.reduceEqDiff, Int.reduceAdd, ti42, ti64, AV.up, AV.sub, prsA_len]
  refine swp_loop' (fun i : Nat × List Int × List (Int × Int) => ⟨[.bot, .bot, .bot, .bot, .bot, .bot, .bot, .bot, .bot, .bot, .bot, .o 2, .o 3, .bot, .bot, .bot, .bot, .bot, .bot, .bot, .bot, .bot, .bot, .bot, .bot, .bot, .bot, .bot, .s 2 (prsA pl), I pl.length, I i.1, .bot, .bot, .bot, .bot, .bot, .bot, .bot, .bot, .bot, .bot, .bot, .bot, .bot, .bot, .bot, .bot, .bot, .bot, .bot, .bot, .bot, .bot, .bot, .bot], Mr ⟨none, 64, 2, []⟩ ⟨none, 3, 1, Q⟩ ⟨none, 3, 1, intsA i.2.1⟩ i.2.2⟩)
    (fun i => i.1 ≤ pl.length ∧ (ckL n ls i.2.1 (pl.drop i.1) i.1).2.2 = 0 ∧ bkF l pl = i.2.2 ++ bkF i.2.1 (pl.drop i.1) ∧ i.2.1.length ≤ 1000000 ∧ i.2.2.length = i.1) (fun i => pl.length - i.1) (0, l, []) (le_sl (by simp [leSl, prsA_len])) ⟨Nat.zero_le _, hc0, by simp, hl, rfl⟩ ?_
  rintro ⟨k, now, out⟩ ⟨hk, hc, hb, hnl, hol⟩
  simp only at hk hc hb hnl hol
  refine awp_sound (own := [6, 12, 43, 1012]) _ _ _ _ _ ?_
  simp only [w_binOp, w_aop, w_some, w_asome, w_nil, w_cons, awp, binC, cmpC, asB, asI, St.ev, St.step, setS, killS, AV.kill, AV.killL, Mem.kill, ACond_false, List.getD_cons_succ, List.getD_cons_zero, List.set_cons_succ, List.set_cons_zero, List.contains_nil, List.contains_cons, List.isEmpty_nil, Bool.false_eq_true, if_false, if_true, true_and, Bool.true_and, nbeq, decide_false, Bool.or_false, Nat.reduceAdd, Nat.reduceEqDiff, Int.reduceAdd, Mr]
  by_cases hkl : k < pl.length
  · have h' : (k : Int) < (pl.length : Int) := by omega
    rw [ckL_drop hkl] at hc
    by_cases hr : refu n ls now pl[k] ≠ 0
    · rw [if_pos hr] at hc; exact absurd hc hr
    rw [if_neg hr] at hc
    obtain ⟨g1, g2, _⟩ := refu0 (Decidable.not_not.1 hr)
    have hai : pl[k].1.toNat < now.length := by omega
    simp only [w_alloc, w_load, w_store, w_indexAddr, w_aop, w_some, w_asome, w_nil, w_cons, awp, idxC, asP, asQ, asS, asI, obA, AGet_zero, loadA, storeA, putsA, mkA, Aw.newRow, St.ev, St.step, setS, killS, AV.kill, AV.killL, Mem.kill, AV.cells, AV.flat, AV.single, AV.cellular, ACond_true, ACond_false, List.getD_cons_succ, List.getD_cons_zero, List.set_cons_succ, List.set_cons_zero, List.getElem?_cons_succ, List.getElem?_cons_zero, List.length_cons, List.length_nil, List.cons_append, List.nil_append, List.contains_nil, List.contains_cons, List.isEmpty_nil, Bool.false_eq_true, if_false, if_true, true_and, and_true, List.all_cons, List.all_nil, Bool.and_true, Bool.true_and, Bool.not_true, Nat.zero_add, beq_self_eq_true, List.map_cons, List.map_nil, decide_true, nbeq, decide_false, Bool.or_false, Nat.reduceAdd, Nat.reduceEqDiff, Nat.reduceLeDiff, Int.reduceAdd, ti42, ti64, decide_eq_true h', aget_prs hkl, Int.toNat_natCast]
    refine ⟨by omega, ?_⟩
    refine swp_draw (own := [6, 12, 43, 1012]) (.take 0 .plain [] (.take 1 .plain [] (.take 2 .reads [] (.take 3 .plain [] (.take 4 .plain [] (.take 5 .reads [] (.take 6 .reads [] (.take 7 .reads [] (.take 8 .plain [] (.alt 9 (.alt 10 (.alt 11 (.done) (.nil)) (.nil)) (.nil))))))))))) [⟨35, 4096, 0, 0, true⟩, ⟨36, 16384, 0, 0, true⟩, ⟨37, 34359738368, 2, 0, true⟩, ⟨38, 2048, 0, 0, true⟩, ⟨39, 16384, 0, 0, true⟩, ⟨40, 274877906944, 16, 0, true⟩, ⟨41, 687194767360, 40, 0, true⟩, ⟨42, 1099511627776, 64, 0, true⟩, ⟨43, 2267742732288, 132, 0, true⟩, ⟨44, 4398046511104, 256, 0, false⟩, ⟨45, 8813272891392, 513, 2, false⟩, ⟨13, 17592186044416, 2047, 0, false⟩] mo (by kernel_rfl) ?_
    simp only [w_move, w_assign, w_load, w_store, w_fieldAddr, w_indexAddr, w_binOp, w_build, w_buildSlice, w_append, w_aop, w_take, w_some, w_asome, w_anone, w_nil, w_cons, awp, binC, idxC, arithC, cmpC, asP, asQ, asO, asS, asI, asN, obA, AGet_zero, loadA, storeA, fillA, putsA, Aw.newRow, St.ev, St.step, setS, killS, AV.kill, AV.killL, Mem.kill, AV.cells, AV.flat, AV.single, AV.cellular, AV.size, AV.sizeL, ACond_true, ACond_false, Value.oneCell', List.getD_cons_succ, List.getD_cons_zero, List.set_cons_succ, List.set_cons_zero, List.getElem?_cons_succ, List.getElem?_cons_zero, List.length_cons, List.head?_cons, List.length_nil, List.cons_append, List.nil_append, List.contains_nil, List.contains_cons, List.isEmpty_nil, List.isEmpty_cons, Option.getD_some, Bool.false_eq_true, if_false, if_true, true_and, and_true, List.all_cons, List.all_nil, Bool.and_true, Bool.true_and, Bool.not_true, Nat.zero_add, Nat.add_zero, beq_self_eq_true, List.map_cons, List.map_nil, decide_true, nbeq, decide_false, Bool.or_false, Bool.or_true, Bool.and_false, Nat.reduceAdd, Nat.reduceEqDiff, Nat.reduceMul, Nat.reduceLeDiff, Int.reduceAdd, Int.reduceMul, ASch, St.put, Md.mem, Md.need, ne_eq, not_false_eq_true, Option.map_some, ti3, ti25, ti42, ti64, intsA_len, aget_ints hai, prsA_len, prsA_kill, intsA_kill]
    have hg : now.getD pl[k].1.toNat 0 = now[pl[k].1.toNat] := by rw [List.getD_eq_getElem?_getD, List.getElem?_eq_getElem hai]; rfl
    simp only [killL_pure [3] Q hp1, prsA_app, intsA_set]
    refine ⟨by omega, ⟨by decide, rfl⟩, ⟨by decide, by omega⟩, by omega, by unfold lim; omega, (k + 1, nxt now pl[k], out ++ [(pl[k].1, now[pl[k].1.toNat])]), ?_, ⟨by simp only; omega, hc, ?_, by simpa [nxt] using hnl, by simp [hol]⟩, by simp only; omega⟩
    · exact le_cut (Mx := [_, _]) (by simp [leSl]) rfl rfl (by simp [freeM, Mr, AV.freeL, AV.free, freeL_pure, intsA_pure, prsA_pure, hp1])
    · rw [hb, bkF_drop hkl, hg]
      simp
  · have h' : ¬ (k : Int) < (pl.length : Int) := by omega
    have : k = pl.length := by omega
    subst this
    rw [List.drop_length] at hb
    simp only [bkF, List.append_nil] at hb
    simp only [awp, ACond_true, ACond_false, List.contains_nil, List.contains_cons, if_true, beq_self_eq_true, nbeq, decide_false, Bool.or_false, Bool.or_true, Nat.reduceAdd, Nat.reduceEqDiff, Int.reduceAdd, decide_eq_false h']
    rw [hb]
    refine swp_m (own := [6, 12, 43, 1012]) 1 ?_
    simp only [w_move, w_aop, St.ev, St.step, setS, killS, AV.kill, AV.killL, Mem.kill, ACond_true, ACond_false, List.getD_cons_succ, List.getD_cons_zero, List.set_cons_succ, List.set_cons_zero, List.contains_nil, List.isEmpty_nil, Bool.false_eq_true, if_false, if_true, Nat.zero_add, beq_self_eq_true, List.map_cons, List.map_nil, nbeq, decide_false, Nat.reduceEqDiff, AOpsM, amc]
    refine acall_m (s77 _ _ _ out rfl hp1 (intsA_pure now) (by omega)) ?_
    simp only [w_move, w_assign, w_aop, w_anone, w_nil, w_cons, awp, asN, St.ev, St.step, setS, killS, AV.kill, AV.killL, Mem.kill, ACond_false, List.getD_cons_succ, List.getD_cons_zero, List.set_cons_succ, List.set_cons_zero, List.contains_nil, List.contains_cons, List.isEmpty_nil, Option.getD_some, Bool.false_eq_true, if_false, if_true, beq_self_eq_true, List.map_cons, List.map_nil, nbeq, decide_false, Bool.or_false, decide_eq_true_eq, Nat.reduceAdd, Nat.reduceEqDiff, Int.reduceAdd, AOpsM, Mr, keepQ, AV.sub, AV.isO, AV.isQ, List.any_cons, List.any_nil]
    exact aend_frz rfl ⟨by simp [frz, AV.sub, AV.subL, prsA_pure], rfl⟩
end Go.Proofs.Ytkolpijhgcijbaa

namespace Go.Proofs.Ytkolpijhgcijbaa
open Aw Go.RowKit
set_option linter.unusedSimpArgs false

theorem t_far {R : List Nd} {t : List Int} {z e : Int} {b : Bool} (h : farQ R t = (z, b, e)) : AV.t [I z, B b, I e] = .t [I (farQ R t).1, B (farQ R t).2.1, I (farQ R t).2.2] := by rw [h]

theorem ok41 : okFn Try.prog 41 = true := by kernel_rfl
theorem s41 (n : Int) (ls : List (Int × Int)) (l t : List Int) (hls : ls.length ≤ 1000000) (hl : l.length ≤ 1000000) (ht : t.length ≤ 1000000) : ASpec Try.prog 41 [trapA n ls, .s 1 (intsA l), .s 1 (intsA t)] (fun r Ms => r = .t [I (farP n ls l t).1, B (farP n ls l t).2.1, I (farP n ls l t).2.2] ∧ Ms = []) := by
  refine aspec_of (own := []) Try.func41 rfl ok41 ?_
  simp only [w_move, w_assign, w_box, w_load, w_callF, w_aop, w_some, w_asome, w_anone, w_nil, w_cons, awp, asP, asN, loadA, St.ev, St.step, setS, killS, AV.kill, AV.killL, Mem.kill, AV.cells, AV.flat, AV.single, AV.cellular, AV.pure, AV.pureL, ACond_false, List.getD_cons_succ, List.getD_cons_zero, List.set_cons_succ, List.set_cons_zero, List.getElem?_cons_zero, List.length_cons, List.length_nil, List.replicate_succ, List.replicate_zero, List.cons_append, List.nil_append, List.contains_nil, List.isEmpty_nil, Option.getD_some, Bool.false_eq_true, if_false, if_true, true_and, and_true, List.all_cons, List.all_nil, Bool.and_true, Bool.true_and, Bool.not_true, Nat.zero_add, Nat.add_zero, beq_self_eq_true, List.map_cons, List.map_nil, decide_true, Nat.reduceAdd, Nat.reduceSub, Nat.reduceLeDiff, Int.reduceAdd, Int.reduceSub, ti24, Try.ntmps41, trapA]
  refine acall_v (s26 n ls l hls hl) rfl rfl ?_
  by_cases h : ¬ vTP n ls l = 0
  · simp only [w_move, w_assign, w_binOp, w_aop, w_some, w_asome, w_anone, w_nil, w_cons, awp, binC, cmpC, asB, asI, asN, St.ev, St.step, setS, killS, AV.kill, AV.killL, Mem.kill, ACond_true, ACond_false, List.getD_cons_succ, List.getD_cons_zero, List.set_cons_succ, List.set_cons_zero, List.contains_nil, List.isEmpty_nil, Option.getD_some, Bool.false_eq_true, if_false, if_true, true_and, Bool.true_and, Bool.not_false, Nat.reduceAdd, Int.reduceAdd, decide_eq_true h, decide_eq_false h]
    have hpe : pairE n ls l t = vTP n ls l := by rw [pairE, if_pos h]
    exact aend_frz rfl ⟨by rw [farP, if_pos (by rw [hpe]; exact h), hpe]; rfl, rfl⟩
  have hv := Decidable.not_not.1 h
  have hvt : vTP n ls t = vP n t := by rw [vTP, if_pos (vTP_vT hv)]
  simp only [w_move, w_assign, w_load, w_binOp, w_callF, w_aop, w_some, w_asome, w_anone, w_nil, w_cons, awp, binC, cmpC, asP, asB, asI, asN, loadA, St.ev, St.step, setS, killS, AV.kill, AV.killL, Mem.kill, AV.cells, AV.flat, AV.single, ACond_false, List.getD_cons_succ, List.getD_cons_zero, List.set_cons_succ, List.set_cons_zero, List.getElem?_cons_zero, List.length_cons, List.length_nil, List.contains_nil, List.isEmpty_nil, Option.getD_some, Bool.false_eq_true, if_false, if_true, true_and, and_true, List.all_cons, List.all_nil, Bool.and_true, Bool.true_and, Bool.not_true, Nat.zero_add, beq_self_eq_true, List.map_cons, List.map_nil, decide_true, Nat.reduceAdd, Nat.reduceLeDiff, Int.reduceAdd, ti24, decide_eq_true hv]
  refine acall_v (s26 n ls t hls ht) rfl rfl ?_
  by_cases h2 : ¬ vTP n ls t = 0
  · simp only [w_move, w_assign, w_binOp, w_aop, w_some, w_asome, w_anone, w_nil, w_cons, awp, binC, cmpC, asB, asI, asN, St.ev, St.step, setS, killS, AV.kill, AV.killL, Mem.kill, ACond_true, ACond_false, List.getD_cons_succ, List.getD_cons_zero, List.set_cons_succ, List.set_cons_zero, List.contains_nil, List.isEmpty_nil, Option.getD_some, Bool.false_eq_true, if_false, if_true, true_and, Bool.true_and, Bool.not_false, Nat.reduceAdd, Int.reduceAdd, decide_eq_true h2, decide_eq_false h2]
    have hpe : pairE n ls l t = vTP n ls t := by rw [pairE, if_neg h, ← hvt, if_pos h2]
    exact aend_frz rfl ⟨by rw [farP, if_pos (by rw [hpe]; exact h2), hpe]; rfl, rfl⟩
  have hv2 := Decidable.not_not.1 h2
  simp only [w_move, w_assign, w_binOp, w_len, w_aop, w_some, w_asome, w_anone, w_nil, w_cons, awp, binC, cmpC, asB, asI, asN, lenA, St.ev, St.step, setS, killS, AV.kill, AV.killL, Mem.kill, ACond_false, List.getD_cons_succ, List.getD_cons_zero, List.set_cons_succ, List.set_cons_zero, List.contains_nil, List.isEmpty_nil, Option.getD_some, Bool.false_eq_true, if_false, if_true, true_and, Bool.true_and, Bool.not_true, Option.isSome_some, Nat.reduceAdd, Int.reduceAdd, ti25, decide_eq_true hv2, intsA_len]
  by_cases h3 : (l.length : Int) = t.length
  case neg =>
    simp only [w_assign, w_aop, w_anone, w_nil, w_cons, awp, asN, St.ev, St.step, setS, killS, AV.kill, AV.killL, Mem.kill, ACond_true, ACond_false, List.set_cons_succ, List.set_cons_zero, List.contains_nil, List.isEmpty_nil, Option.getD_some, Bool.false_eq_true, if_false, if_true, Bool.not_false, Nat.reduceAdd, Int.reduceAdd, decide_eq_false h3]
    have hpe : pairE n ls l t = 5 := by rw [pairE, if_neg h, ← hvt, if_neg h2, if_pos h3]
    exact aend_frz rfl ⟨by rw [farP, if_pos (by rw [hpe]; decide), hpe]; rfl, rfl⟩
  simp only [w_move, w_load, w_callF, w_aop, w_some, w_asome, w_cons, awp, asP, loadA, St.ev, St.step, setS, killS, AV.kill, AV.killL, Mem.kill, AV.cells, AV.flat, AV.single, ACond_false, List.getD_cons_succ, List.getD_cons_zero, List.set_cons_succ, List.set_cons_zero, List.getElem?_cons_zero, List.length_cons, List.length_nil, List.contains_nil, List.isEmpty_nil, Bool.false_eq_true, if_false, if_true, and_true, List.all_cons, List.all_nil, Bool.and_true, Bool.not_true, Nat.zero_add, beq_self_eq_true, List.map_cons, List.map_nil, decide_true, Nat.reduceAdd, Nat.reduceLeDiff, Int.reduceAdd, ti24, decide_eq_true h3]
  have hpe := pairE_of hv hv2 (show l.length = t.length by omega)
  obtain ⟨hp, h4, h6⟩ := vTP_ok hv
  obtain ⟨hp2, h42, _⟩ := vTP_ok hv2
  have hpt : okPl n l.length t := ⟨by omega, hp2.2⟩
  have sr := s62 n ls l hls hv
  have hinv := rch_inv (ls := ls) h6 hp
  rw [farP_ok hpe]
  generalize rch n ls l = R at sr hinv ⊢
  refine acall_v sr (by simp [AV.pureL, AV.pure, intsA_pure, prsA_pure]) rfl ?_
  simp only [w_move, w_callF, w_aop, w_cons, St.ev, St.step, setS, killS, AV.kill, AV.killL, Mem.kill, List.getD_cons_succ, List.getD_cons_zero, List.set_cons_succ, List.set_cons_zero, List.isEmpty_nil, if_true, List.map_cons, List.map_nil]
  refine acall_v (s63 n t h6 h42 hp2) (by simp [AV.pureL, AV.pure, intsA_pure]) rfl ?_
  have hix := numL_idx h6 hpt
  have hixl : (numL t).toNat < (tabN l.length R).length := by rw [tabN_len]; exact hix.2
  simp only [w_move, w_assign, w_load, w_indexAddr, w_binOp, w_aop, w_some, w_asome, w_anone, w_nil, w_cons, awp, binC, idxC, cmpC, asP, asS, asB, asI, asN, loadA, St.ev, St.step, setS, killS, AV.kill, AV.killL, Mem.kill, AV.cells, AV.flat, AV.single, ACond_false, List.getD_cons_succ, List.getD_cons_zero, List.set_cons_succ, List.set_cons_zero, List.getElem?_cons_zero, List.contains_nil, List.isEmpty_nil, Option.getD_some, Bool.false_eq_true, if_false, if_true, true_and, and_true, List.all_cons, List.all_nil, Bool.and_true, Bool.true_and, Bool.not_true, Nat.reduceAdd, Int.reduceAdd, ti3, ti25, aget_ints hixl]
  refine ⟨hix.1, ?_⟩
  by_cases hx : t ∈ pls R
  · obtain ⟨q, hq1, hqx⟩ := pls_mem hx
    have hv1 := tabN_in h6 hinv hq1 (j := (numL t).toNat) (by rw [hqx]) hixl
    have hfj := hinv.far q hq1
    have hle := hinv.le h6 h4
    have hlt : ¬ (tabN l.length R)[(numL t).toNat] = 1000000 := by rw [hv1]; omega
    have e := t_far (farQ_some hinv hq1 hqx)
    rw [← hv1] at e
    simp only [w_move, w_assign, w_aop, w_anone, w_nil, w_cons, awp, asN, St.ev, St.step, setS, killS, AV.kill, AV.killL, Mem.kill, ACond_false, List.getD_cons_succ, List.getD_cons_zero, List.set_cons_succ, List.set_cons_zero, List.contains_nil, List.isEmpty_nil, Option.getD_some, Bool.false_eq_true, if_false, if_true, Nat.reduceAdd, Int.reduceAdd, decide_eq_false hlt]
    exact aend_frz (x := .t [I (tabN l.length R)[(numL t).toNat], B true, I 0]) rfl ⟨e, rfl⟩
  · have hv1 := tabN_out h6 hinv hpt hx hixl
    have e := t_far (farQ_none hx)
    simp only [w_assign, w_aop, w_anone, w_nil, w_cons, awp, asN, St.ev, St.step, setS, killS, AV.kill, AV.killL, Mem.kill, ACond_true, ACond_false, List.set_cons_succ, List.set_cons_zero, List.contains_nil, List.isEmpty_nil, Option.getD_some, Bool.false_eq_true, if_false, if_true, Nat.reduceAdd, Int.reduceAdd, decide_eq_true hv1]
    exact aend_frz (x := .t [I 0, B false, I 0]) rfl ⟨e, rfl⟩

/-! the way back to the start -/
def Par (n : Int) (ls : List (Int × Int)) (l : List Int) (L : List Nd) : Prop :=
  ∀ x ∈ L, x = startN l ∨ ∃ y ∈ L, x.fr = padL y.pl ∧ x.far = y.far + 1 ∧ refu n ls y.pl x.mv = 0 ∧ x.pl = nxt y.pl x.mv
theorem par_all {n : Int} {ls : List (Int × Int)} {l : List Int} : ∀ i, Par n ls l (rchI n ls l i)
  | 0 => by intro x hx; simp [rchI] at hx; exact .inl hx
  | i + 1 => by
    have ih := par_all (n := n) (ls := ls) (l := l) i
    show Par n ls l (stepN n ls (rchI n ls l i) i)
    generalize rchI n ls l i = L at ih ⊢
    rcases Nat.lt_or_ge i L.length with hi | hi
    · rw [stepN_some hi]
      intro x hx
      rcases visN_new _ _ _ _ x hx with hx | ⟨h1, m, hm, h2⟩
      · rcases ih x hx with h | ⟨y, hy, h⟩
        · exact .inl h
        · exact .inr ⟨y, visN_sub _ _ _ _ y hy, h⟩
      · refine .inr ⟨L[i], visN_sub _ _ _ _ _ (List.getElem_mem hi), ?_⟩
        rw [h2]
        exact ⟨rfl, rfl, mvK_refu.1 hm, rfl⟩
    · rw [stepN_none hi]; exact ih

theorem ckL_cons {n : Int} {ls : List (Int × Int)} {y : List Int} {m : Int × Int} {pl : List (Int × Int)} {t : List Int} (hm : refu n ls y m = 0) (h : ∀ k, ckL n ls (nxt y m) pl k = (t, ((k + pl.length : Nat) : Int), 0)) : ∀ k, ckL n ls y (m :: pl) k = (t, ((k + (m :: pl).length : Nat) : Int), 0) := by
  intro k
  rw [ckL, if_neg (by rw [hm]; decide), h]
  simp
  omega

/-- a call whose result is a value that is not known but for a law. -/
theorem acall_e {P : Program} {f : FuncId} {args : List AV} {M : Mem} {K : HK (AV → Mem → Prop)} {Q : AV → Prop} (spec : ASpec P f args (fun r Ms => Q r ∧ Ms = [])) (ha : AV.pureL args = true) (hx : ∀ x, Q x → x.pure = true ∧ K.k x M) : ACall P f args M (K := K) := by
  refine ⟨false, args, _, coel_pure ha, spec, ?_⟩
  rintro r Ms ⟨hq, rfl⟩
  obtain ⟨hp, hk⟩ := hx r hq
  refine ⟨fun e => (by cases e), ?_⟩
  rw [AV.up, AV.sub_pure _ _ _ hp]
  simpa using hk

/-- what 'Plan' answers. -/
def PlanQ (n : Int) (ls : List (Int × Int)) (l t : List Int) (Q : Int × Bool × Int) (r : AV) : Prop :=
  ∃ pl : List (Int × Int), r = .t [.s 2 (prsA pl), B Q.2.1, I Q.2.2] ∧ Q.1 = (pl.length : Int) ∧ (∀ k, Q.2.1 = true → ckL n ls l pl k = (t, ((k + pl.length : Nat) : Int), 0))
theorem planQ_no (n : Int) (ls : List (Int × Int)) (l t : List Int) {Q : Int × Bool × Int} {e : Int} (h : Q = (0, false, e)) : PlanQ n ls l t Q (.t [.s 2 [], B false, I e]) := by
  subst h
  exact ⟨[], rfl, rfl, fun k e => by simp at e⟩
theorem planQ_yes {n : Int} {ls : List (Int × Int)} {l t : List Int} {Q : Int × Bool × Int} {a : Int} (h : Q = (a, true, 0)) {pl : List (Int × Int)} (ha : a = pl.length) (hc : ∀ k, ckL n ls l pl k = (t, ((k + pl.length : Nat) : Int), 0)) : PlanQ n ls l t Q (.t [.s 2 (prsA pl), B true, I 0]) := by
  subst h
  exact ⟨pl, rfl, ha, fun k _ => hc k⟩

theorem ok42 : okFn Try.prog 42 = true := by kernel_rfl
set_option maxRecDepth 20000 in
theorem s42 (n : Int) (ls : List (Int × Int)) (l t : List Int) (hls : ls.length ≤ 1000000) (hl : l.length ≤ 1000000) (ht : t.length ≤ 1000000) : ASpec Try.prog 42 [trapA n ls, .s 1 (intsA l), .s 1 (intsA t)] (fun r Ms => PlanQ n ls l t (farP n ls l t) r ∧ Ms = []) := by
  refine aspec_of (own := [6, 13, 1010]) Try.func42 rfl ok42 ?_
  simp only [w_move, w_assign, w_box, w_load, w_callF, w_aop, w_some, w_asome, w_anone, w_nil, w_cons, awp, asP, asN, loadA, Aw.newRow, St.ev, St.step, setS, killS, AV.kill, AV.killL, Mem.kill, AV.cells, AV.flat, AV.single, AV.cellular, AV.pure, AV.pureL, ACond_false, List.getD_cons_succ, List.getD_cons_zero, List.set_cons_succ, List.set_cons_zero, List.getElem?_cons_zero, List.length_cons, List.length_nil, List.replicate_succ, List.replicate_zero, List.cons_append, List.nil_append, List.contains_nil, List.contains_cons, List.isEmpty_nil, Option.getD_some, Bool.false_eq_true, if_false, if_true, true_and, and_true, List.all_cons, List.all_nil, Bool.and_true, Bool.true_and, Bool.not_true, Nat.zero_add, Nat.add_zero, beq_self_eq_true, List.map_cons, List.map_nil, decide_true, nbeq, decide_false, Bool.or_false, Nat.reduceAdd, Nat.reduceEqDiff, Nat.reduceSub, Nat.reduceLeDiff, Int.reduceAdd, Int.reduceSub, ti24, ti42, ti64, Try.ntmps42, trapA]
  refine acall_v (s76 n ls l t hls hl ht) rfl rfl ?_
  by_cases h : ¬ pairE n ls l t = 0
  · simp only [w_move, w_assign, w_binOp, w_aop, w_some, w_asome, w_anone, w_nil, w_cons, awp, binC, cmpC, asB, asI, asN, Aw.newRow, St.ev, St.step, setS, killS, AV.kill, AV.killL, Mem.kill, ACond_true, ACond_false, List.getD_cons_succ, List.getD_cons_zero, List.set_cons_succ, List.set_cons_zero, List.length_cons, List.length_nil, List.cons_append, List.nil_append, List.contains_nil, List.contains_cons, List.isEmpty_nil, Option.getD_some, Bool.false_eq_true, if_false, if_true, true_and, Bool.true_and, Bool.not_false, Nat.zero_add, beq_self_eq_true, nbeq, decide_false, Bool.or_false, Nat.reduceAdd, Nat.reduceEqDiff, Int.reduceAdd, ti42, ti64, decide_eq_true h, decide_eq_false h]
    have hq : farP n ls l t = (0, false, pairE n ls l t) := by rw [farP, if_pos h]
    exact aend_frz rfl ⟨planQ_no n ls l t hq, rfl⟩
  have hv := Decidable.not_not.1 h
  obtain ⟨v1, v2, v3⟩ := pairE_ok hv
  obtain ⟨hp, h4, h6⟩ := vTP_ok v1
  obtain ⟨hp2, h42, _⟩ := vTP_ok v2
  have hpt : okPl n l.length t := ⟨v3.symm, hp2.2⟩
  simp only [w_move, w_assign, w_load, w_binOp, w_callF, w_aop, w_some, w_asome, w_anone, w_nil, w_cons, awp, binC, cmpC, asP, asB, asI, asN, loadA, St.ev, St.step, setS, killS, AV.kill, AV.killL, Mem.kill, AV.cells, AV.flat, AV.single, ACond_false, List.getD_cons_succ, List.getD_cons_zero, List.set_cons_succ, List.set_cons_zero, List.getElem?_cons_zero, List.length_cons, List.length_nil, List.contains_nil, List.contains_cons, List.isEmpty_nil, Option.getD_some, Bool.false_eq_true, if_false, if_true, true_and, and_true, List.all_cons, List.all_nil, Bool.and_true, Bool.true_and, Bool.not_true, Nat.zero_add, beq_self_eq_true, List.map_cons, List.map_nil, decide_true, nbeq, decide_false, Bool.or_false, Nat.reduceAdd, Nat.reduceEqDiff, Nat.reduceLeDiff, Int.reduceAdd, ti24, decide_eq_true hv]
  have sr := s60 n ls l h6 hls h4 hp
  have hinv := rch_inv (ls := ls) h6 hp
  have hpar : Par n ls l (rch n ls l) := par_all 1297
  rw [farP_ok hv]
  obtain ⟨R, hR⟩ : ∃ R, R = rch n ls l := ⟨_, rfl⟩
  rw [← hR] at sr hinv hpar ⊢
  clear hR
  refine acall_o (x := .o 0) sr rfl (valsN_pure _) ?_
  simp only [w_move, w_assign, w_callF, w_aop, w_anone, w_nil, w_cons, awp, asN, St.ev, St.step, setS, killS, AV.kill, AV.killL, Mem.kill, ACond_false, List.getD_cons_succ, List.getD_cons_zero, List.set_cons_succ, List.set_cons_zero, List.length_cons, List.length_nil, List.cons_append, List.nil_append, List.contains_nil, List.contains_cons, List.isEmpty_nil, Option.getD_some, Bool.false_eq_true, if_false, if_true, Nat.zero_add, List.map_cons, List.map_nil, nbeq, decide_false, Bool.or_false, Nat.reduceAdd, Nat.reduceEqDiff, Int.reduceAdd, AV.up, AV.sub]
  obtain ⟨a, b, c, d, hpad, ha, hb, hc', hd⟩ := padL_lim h6 hpt
  have ss := s61 t h42
  rw [hpad] at ss
  refine acall_v (x := .g [I a, I b, I c, I d]) ss rfl rfl ?_
  simp only [w_lookup, w_aop, w_some, w_cons, asO, obA, St.ev, St.step, setS, killS, AV.kill, AV.killL, Mem.kill, List.getD_cons_succ, List.getD_cons_zero, List.set_cons_succ, List.set_cons_zero, List.getElem?_cons_succ, List.getElem?_cons_zero, List.contains_nil, List.isEmpty_nil, Bool.false_eq_true, if_false, if_true, true_and, Bool.true_and, mp78, za76, valOf_4]
  by_cases hx : t ∈ pls R
  · obtain ⟨q, hq', hqx⟩ := pls_mem hx
    obtain ⟨fa, fb, fc, fd, hfr, _⟩ := hinv.fr R[q] (List.getElem_mem hq')
    refine afind_in h6 h4 hinv hpad q hq' hqx ?_
    simp only [w_move, w_assign, w_alloc, w_store, w_extract, w_aop, w_some, w_asome, w_anone, w_nil, w_cons, awp, asQ, asT, asN, obA, AGet_zero, storeA, putsA, mkA, Aw.newRow, St.ev, St.step, setS, killS, AV.kill, AV.killL, Mem.kill, AV.cells, AV.flat, AV.single, AV.cellular, ACond_false, List.getD_cons_succ, List.getD_cons_zero, List.set_cons_succ, List.set_cons_zero, List.getElem?_cons_succ, List.getElem?_cons_zero, List.length_cons, List.length_nil, List.cons_append, List.nil_append, List.contains_nil, List.contains_cons, List.isEmpty_nil, Option.getD_some, Bool.false_eq_true, if_false, if_true, true_and, and_true, List.all_cons, List.all_nil, Bool.and_true, Bool.true_and, Nat.zero_add, beq_self_eq_true, List.map_cons, List.map_nil, decide_true, nbeq, decide_false, Bool.or_false, Bool.or_true, Nat.reduceAdd, Nat.reduceEqDiff, Nat.reduceLeDiff, Int.reduceAdd, ti42, ti64, ti76, aget_valsN hq', valN_eq hfr]
    obtain ⟨A0, hA0⟩ : ∃ A0, A0 = R[q].far := ⟨_, rfl⟩
    have hfq1 := farQ_some hinv hq' hqx
    have hle := hinv.le h6 h4
    have hA1 := hinv.far q hq'
    rw [← hA0] at hfq1
    refine swp_loop' (fun i : Int × Int × Int × Int × (Int × Int) × Int × List (Int × Int) => ⟨[.bot, .bot, .bot, .bot, .bot, .bot, .o 0, .bot, .bot, .bot, .o 1, .q 2 7 0 0, B true, .o 3, .bot, .bot, .bot, .bot, .bot, .bot, .bot, .bot, .bot, .bot, .bot, .bot, .bot, .bot, .bot, .bot, .bot, .bot, .bot, .bot, .bot, .bot, .bot, .bot, .bot, .bot, .bot, .bot, .bot, .bot, .bot, .bot, .bot], Mr ⟨none, 64, 2, []⟩ ⟨some (keysN R), 78, 0, valsN R⟩ ⟨none, 76, 7, [.g [I i.1, I i.2.1, I i.2.2.1, I i.2.2.2.1, I i.2.2.2.2.1.1, I i.2.2.2.2.1.2, I i.2.2.2.2.2.1]]⟩ i.2.2.2.2.2.2⟩)
      (fun i => ∃ (q : Nat) (hq : q < R.length), R[q].fr = [i.1, i.2.1, i.2.2.1, i.2.2.2.1] ∧ R[q].mv = i.2.2.2.2.1 ∧ R[q].far = i.2.2.2.2.2.1 ∧ (∀ k, ckL n ls R[q].pl i.2.2.2.2.2.2.reverse k = (t, ((k + i.2.2.2.2.2.2.length : Nat) : Int), 0)) ∧ A0 = i.2.2.2.2.2.2.length + i.2.2.2.2.2.1)
      (fun i => i.2.2.2.2.2.1.toNat) (fa, fb, fc, fd, R[q].mv, R[q].far, []) (le_sl (by simp [leSl])) ⟨q, hq', hfr, rfl, rfl, fun k => by rw [← hqx]; simp [ckL], by simp [hA0]⟩ ?_
    rintro ⟨ga, gb, gc, gd, m, d0, out⟩ ⟨q1, hq1, e1, e2, e3, e4, e5⟩
    simp only at e1 e2 e3 e4 e5
    have hd0 := hinv.far0 R[q1] (List.getElem_mem hq1)
    refine awp_sound (own := [6, 13, 1010]) _ _ _ _ _ ?_
    simp only [w_load, w_fieldAddr, w_binOp, w_aop, w_some, w_asome, w_anone, w_nil, w_cons, awp, binC, cmpC, asP, asQ, asB, asI, obA, AGet_zero, loadA, St.ev, St.step, setS, killS, AV.kill, AV.killL, Mem.kill, AV.cells, AV.flat, AV.single, ACond_false, List.getD_cons_succ, List.getD_cons_zero, List.set_cons_succ, List.set_cons_zero, List.getElem?_cons_succ, List.getElem?_cons_zero, List.length_cons, List.length_nil, List.contains_nil, List.contains_cons, List.isEmpty_nil, Bool.false_eq_true, if_false, if_true, true_and, and_true, List.all_cons, List.all_nil, Bool.and_true, Bool.true_and, Bool.not_true, Nat.zero_add, decide_true, nbeq, decide_false, Bool.or_false, Bool.and_false, Nat.reduceAdd, Nat.reduceEqDiff, Nat.reduceLeDiff, Int.reduceAdd, ne_eq, not_false_eq_true, ti3, ti76, Mr]
    by_cases hd2 : 0 < d0
    · simp only [w_move, w_assign, w_load, w_fieldAddr, w_buildSlice, w_lookup, w_append, w_aop, w_some, w_asome, w_anone, w_nil, w_cons, awp, asP, asQ, asO, asS, asN, obA, AGet_zero, loadA, St.ev, St.step, setS, killS, AV.kill, AV.killL, Mem.kill, AV.cells, AV.flat, AV.single, AV.cellular, AV.size, AV.pure, AV.pureL, ACond_true, ACond_false, Value.oneCell', List.getD_cons_succ, List.getD_cons_zero, List.set_cons_succ, List.set_cons_zero, List.getElem?_cons_succ, List.getElem?_cons_zero, List.length_cons, List.length_nil, List.contains_nil, List.contains_cons, List.isEmpty_nil, List.isEmpty_cons, Option.getD_some, Bool.false_eq_true, if_false, if_true, true_and, and_true, List.all_cons, List.all_nil, Bool.and_true, Bool.true_and, Bool.not_true, Nat.zero_add, Nat.add_zero, beq_self_eq_true, List.map_cons, List.map_nil, decide_true, nbeq, decide_false, Bool.or_false, Bool.or_true, Bool.and_false, Nat.reduceAdd, Nat.reduceEqDiff, Nat.reduceMul, Nat.reduceLeDiff, Int.reduceAdd, Int.reduceMul, ne_eq, not_false_eq_true, Option.map_some, ti42, ti64, ti74, ti76, decide_eq_true hd2, prsA_len, prsA_kill]
      refine ⟨⟨by decide, rfl, by simp [AV.sizeL, AV.size]⟩, rfl, ⟨by decide, by omega⟩, ?_⟩
      obtain ⟨y, hy, p1, p2, p3, p4⟩ : ∃ y ∈ R, R[q1].fr = padL y.pl ∧ R[q1].far = y.far + 1 ∧ refu n ls y.pl R[q1].mv = 0 ∧ R[q1].pl = nxt y.pl R[q1].mv := by
        rcases hpar R[q1] (List.getElem_mem hq1) with h | h
        · rw [h] at e3; simp [startN] at e3; omega
        · exact h
      obtain ⟨q2, hq2, rfl⟩ := List.mem_iff_getElem.1 hy
      obtain ⟨ka, kb, kc, kd, hkr, _⟩ := hinv.fr R[q2] (List.getElem_mem hq2)
      rw [e1] at p1
      simp only [w_some, asO, obA, St.ev, AV.kill, AV.killL, Mem.kill, List.getD_cons_succ, List.getD_cons_zero, List.getElem?_cons_succ, List.getElem?_cons_zero, true_and, Bool.true_and, mp78, za76, valOf_4, List.take_succ_cons, List.take_zero, List.drop_zero, List.drop_succ_cons, prsA_app, valsN_kill]
      refine afind_in h6 h4 hinv p1.symm q2 hq2 rfl ?_
      simp only [w_store, w_aop, w_some, w_nil, w_cons, asQ, obA, AGet_zero, storeA, putsA, St.ev, St.step, setS, killS, AV.kill, AV.killL, Mem.kill, AV.cells, AV.flat, AV.single, AV.cellular, List.getD_cons_succ, List.getD_cons_zero, List.set_cons_succ, List.set_cons_zero, List.getElem?_cons_succ, List.getElem?_cons_zero, List.length_cons, List.length_nil, List.contains_nil, List.isEmpty_nil, Bool.false_eq_true, if_false, if_true, true_and, and_true, List.all_cons, List.all_nil, Bool.and_true, Bool.true_and, Nat.zero_add, beq_self_eq_true, decide_true, Nat.reduceAdd, Nat.reduceLeDiff, Int.reduceAdd, ti76, aget_valsN hq2, valN_eq hkr]
      refine ⟨(ka, kb, kc, kd, R[q2].mv, R[q2].far, out ++ [m]), ?_, ⟨q2, hq2, hkr, rfl, rfl, ?_, ?_⟩, ?_⟩
      · simp only [valsN_kill, List.take_succ_cons, List.take_zero, List.drop_zero, List.drop_succ_cons, prsA_app]
        exact le_sl (by simp [leSl])
      · rw [List.reverse_append]
        show ∀ k, ckL n ls R[q2].pl (m :: out.reverse) k = _
        rw [← e2, List.length_append]
        have := ckL_cons (pl := out.reverse) p3 (fun k => by rw [← p4, e4 k, List.length_reverse])
        simpa using this
      · simp only [List.length_append, List.length_cons, List.length_nil]
        omega
      · simp only
        omega
    · simp only [awp, ACond_true, ACond_false, List.contains_nil, List.contains_cons, if_true, beq_self_eq_true, nbeq, decide_false, Bool.or_false, Bool.or_true, Nat.reduceAdd, Nat.reduceEqDiff, Int.reduceAdd, decide_eq_false hd2]
      refine swp_m (own := [6, 13, 1010]) 1 ?_
      simp only [w_move, w_aop, St.ev, St.step, setS, killS, AV.kill, AV.killL, Mem.kill, ACond_true, ACond_false, List.getD_cons_succ, List.getD_cons_zero, List.set_cons_succ, List.set_cons_zero, List.contains_nil, List.isEmpty_nil, Bool.false_eq_true, if_false, if_true, Nat.zero_add, beq_self_eq_true, List.map_cons, List.map_nil, nbeq, decide_false, Nat.reduceEqDiff, AOpsM, amc]
      refine acall_m (s77 _ _ _ out rfl (valsN_pure R) rfl (by omega)) ?_
      simp only [w_move, w_assign, w_aop, w_anone, w_nil, w_cons, awp, asN, St.ev, St.step, setS, killS, AV.kill, AV.killL, Mem.kill, ACond_false, List.getD_cons_succ, List.getD_cons_zero, List.set_cons_succ, List.set_cons_zero, List.contains_nil, List.contains_cons, List.isEmpty_nil, Option.getD_some, Bool.false_eq_true, if_false, if_true, beq_self_eq_true, List.map_cons, List.map_nil, nbeq, decide_false, Bool.or_false, decide_eq_true_eq, Nat.reduceAdd, Nat.reduceEqDiff, Int.reduceAdd, AOpsM, Mr, keepQ, AV.sub, AV.isO, AV.isQ, List.any_cons, List.any_nil]
      have hz : d0 = 0 := by omega
      have hq0 : R[q1].pl = l := by
        rcases hpar R[q1] (List.getElem_mem hq1) with h | ⟨y, hy, _, p2, _⟩
        · rw [h]; rfl
        · have := hinv.far0 y hy; omega
      refine aend_frz rfl ⟨?_, rfl⟩
      have hf : frz (Mr ⟨none, 64, 2, []⟩ ⟨some (keysN R), 78, 0, valsN R⟩ ⟨none, 76, 7, [.g [I ga, I gb, I gc, I gd, I m.1, I m.2, I d0]]⟩ out.reverse) (.t [.o 3, B true, I 0]) = .t [.s 2 (prsA out.reverse), B true, I 0] := by simp [frz, Mr, AV.sub, AV.subL, prsA_pure]
      have := planQ_yes (n := n) (ls := ls) (l := l) hfq1 (pl := out.reverse) (by rw [List.length_reverse]; omega) (fun k => by rw [← hq0, e4 k, List.length_reverse])
      rw [← hf] at this
      exact this
  · refine afind_out h6 h4 hinv hpt hpad hx ?_
    simp only [w_move, w_assign, w_alloc, w_store, w_extract, w_aop, w_some, w_asome, w_anone, w_nil, w_cons, awp, asQ, asT, asN, obA, AGet_zero, storeA, putsA, mkA, Aw.newRow, St.ev, St.step, setS, killS, AV.kill, AV.killL, Mem.kill, AV.cells, AV.flat, AV.single, AV.cellular, ACond_false, List.getD_cons_succ, List.getD_cons_zero, List.set_cons_succ, List.set_cons_zero, List.getElem?_cons_succ, List.getElem?_cons_zero, List.length_cons, List.length_nil, List.cons_append, List.nil_append, List.contains_nil, List.contains_cons, List.isEmpty_nil, Option.getD_some, Bool.false_eq_true, if_false, if_true, true_and, and_true, List.all_cons, List.all_nil, Bool.and_true, Bool.true_and, Nat.zero_add, beq_self_eq_true, List.map_cons, List.map_nil, decide_true, nbeq, decide_false, Bool.or_false, Bool.or_true, Nat.reduceAdd, Nat.reduceEqDiff, Nat.reduceLeDiff, Int.reduceAdd, ti42, ti64, ti76]
    refine swp_loop' (fun i : Unit => ⟨[.bot, .bot, .bot, .bot, .bot, .bot, .o 0, .bot, .bot, .bot, .o 1, .q 2 7 0 0, B false, .o 3, .bot, .bot, .bot, .bot, .bot, .bot, .bot, .bot, .bot, .bot, .bot, .bot, .bot, .bot, .bot, .bot, .bot, .bot, .bot, .bot, .bot, .bot, .bot, .bot, .bot, .bot, .bot, .bot, .bot, .bot, .bot, .bot, .bot], Mr ⟨none, 64, 2, []⟩ ⟨some (keysN R), 78, 0, valsN R⟩ ⟨none, 76, 7, [.g [I 0, I 0, I 0, I 0, I 0, I 0, I 0]]⟩ []⟩)
      (fun i => True) (fun i => 0) () (le_sl (by simp [leSl])) trivial ?_
    rintro ⟨⟩ _
    refine awp_sound (own := [6, 13, 1010]) _ _ _ _ _ ?_
    simp only [w_load, w_fieldAddr, w_binOp, w_aop, w_some, w_asome, w_anone, w_nil, w_cons, awp, binC, cmpC, asP, asQ, asB, asI, obA, AGet_zero, loadA, St.ev, St.step, setS, killS, AV.kill, AV.killL, Mem.kill, AV.cells, AV.flat, AV.single, ACond_true, ACond_false, List.getD_cons_succ, List.getD_cons_zero, List.set_cons_succ, List.set_cons_zero, List.getElem?_cons_succ, List.getElem?_cons_zero, List.length_cons, List.length_nil, List.contains_nil, List.contains_cons, List.isEmpty_nil, Bool.false_eq_true, if_false, if_true, true_and, and_true, List.all_cons, List.all_nil, Bool.and_true, Bool.true_and, Bool.not_true, Nat.zero_add, beq_self_eq_true, decide_true, nbeq, decide_false, Bool.or_false, Bool.or_true, Bool.and_false, Nat.reduceAdd, Nat.reduceEqDiff, Nat.reduceLeDiff, Int.reduceAdd, Int.reduceLT, ne_eq, not_false_eq_true, ti3, ti76, Mr]
    refine swp_m (own := [6, 13, 1010]) 1 ?_
    simp only [w_move, w_aop, St.ev, St.step, setS, killS, AV.kill, AV.killL, Mem.kill, ACond_true, ACond_false, List.getD_cons_succ, List.getD_cons_zero, List.set_cons_succ, List.set_cons_zero, List.contains_nil, List.isEmpty_nil, Bool.false_eq_true, if_false, if_true, Nat.zero_add, beq_self_eq_true, List.map_cons, List.map_nil, nbeq, decide_false, Nat.reduceEqDiff, AOpsM, amc]
    refine acall_m (s77 _ _ _ [] rfl (valsN_pure R) rfl (by decide)) ?_
    simp only [w_move, w_assign, w_aop, w_anone, w_nil, w_cons, awp, asN, St.ev, St.step, setS, killS, AV.kill, AV.killL, Mem.kill, ACond_false, List.getD_cons_succ, List.getD_cons_zero, List.set_cons_succ, List.set_cons_zero, List.contains_nil, List.contains_cons, List.isEmpty_nil, Option.getD_some, Bool.false_eq_true, if_false, if_true, beq_self_eq_true, List.map_cons, List.map_nil, nbeq, decide_false, Bool.or_false, decide_eq_true_eq, Nat.reduceAdd, Nat.reduceEqDiff, Int.reduceAdd, AOpsM, Mr, keepQ, AV.sub, AV.isO, AV.isQ, List.any_cons, List.any_nil]
    exact aend_frz rfl ⟨planQ_no n ls l t (farQ_none hx), rfl⟩
end Go.Proofs.Ytkolpijhgcijbaa
