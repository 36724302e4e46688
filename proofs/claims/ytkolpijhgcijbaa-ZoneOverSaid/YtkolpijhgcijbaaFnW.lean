/-
  The table of the distances: what the walk says of it; number.
-/
import Derived.Test.YtkolpijhgcijbaaFnR
namespace Go.Proofs.Ytkolpijhgcijbaa
open Aw Go.RowKit
set_option linter.unusedSimpArgs false

theorem numL_take {l : List Int} {i : Nat} (h : i < l.length) : numL (l.take (i + 1)) = 6 * numL (l.take i) + l[i] := by
  unfold numL; rw [List.take_succ_eq_append_getElem h, List.foldl_append]; rfl

theorem ok63 : okFn Try.prog 63 = true := by kernel_rfl
theorem s63 (n : Int) (l : List Int) (hn : n ≤ 6) (hl4 : l.length ≤ 4) (hl : okPl n l.length l) : ASpec Try.prog 63 [.s 1 (intsA l)] (fun r Ms => r = I (numL l) ∧ Ms = []) := by
  refine aspec_of (own := []) Try.func63 rfl ok63 ?_
  simp only [w_move, w_assign, w_pick, w_box, w_alloc, w_load, w_store, w_fieldAddr, w_indexAddr, w_binOp, w_not, w_neg, w_build, w_buildSlice, w_extract, w_field, w_slice, w_makeFunc, w_nilCheck, w_callF, w_callT, w_len, w_makeMap, w_lookup, w_mapUpdate, w_insert, w_put, w_makeSlice, lenM, oneOf, w_min, w_max, w_append, w_aop, w_aopg, w_take, w_takeg, w_some, w_asome, w_anone, w_nil, w_cons, awp, binC, idxC, arithC, cmpC, eqC, asP, asQ, asO, asS, asT, asG, asF, asB, asI, asN, asE, obA, AGet_zero, bndA, lenA, minmaxA, loadA, storeA, fillA, putsA, mkA, Aw.newRow, St.ev, St.step, setS, killS, AV.kill, AV.killL, Mem.kill, AV.cells, AV.flat, AV.single, AV.cellular, AV.size, AV.sizeL, AV.pure, AV.pureL, ACond_true, ACond_false, Value.oneCell', ints, List.getD_cons_succ, List.getD_cons_zero, List.set_cons_succ, List.set_cons_zero, List.getElem?_cons_succ, List.getElem?_cons_zero, List.length_cons, List.head?_cons, List.length_nil, List.replicate_succ, List.replicate_zero, List.cons_append, List.nil_append, List.contains_nil, List.contains_cons, List.isEmpty_nil, List.isEmpty_cons, Option.getD_some, Option.getD_none, Bool.false_eq_true, if_false, if_true, true_and, and_true, List.all_cons, List.all_nil, Bool.and_true, Bool.true_and, Bool.not_true, Bool.not_false, Option.isSome_some, Nat.zero_add, Nat.add_zero, beq_self_eq_true, List.map_cons, List.map_nil, decide_true, nbeq, decide_false, Bool.or_false, Bool.or_true, Bool.false_or, Bool.true_or, eq_self, Bool.false_and, Bool.and_false, decide_eq_true_eq, List.getElem?_nil, List.length_append, Nat.reduceAdd, Nat.reduceEqDiff, Nat.reduceMul, Nat.reduceSub, Nat.reduceLeDiff, Nat.reduceBEq, Int.reduceAdd, Int.reduceSub, Int.reduceMul, Int.reduceNeg, Int.reduceToNat, Int.reduceLE, Int.reduceLT, Int.reduceEq, Int.toNat_zero, Int.toNat_one, Option.bind_some, Option.bind_none, ASch, St.put, Md.mem, Md.need, ne_eq, not_false_eq_true, Option.map_some, Option.map_none, w_bt, w_bf, ti2, ti3, ti4, ti5, ti7, ti9, ti12, ti13, ti15, ti16, ti17, ti18, ti21, ti22, ti23, ti24, ti25, ti26, ti27, ti31, ti42, ti56, ti57, ti63, ti64, ti73, ti74, ti75, ti76, ti78, ti96, ti110, ti115, ti118, ti126, ti128, ti129, ti133, ti135, ti139, ti141, ti142, ti148, ti151, ti153, Try.ntmps63]
  refine swp_loop' (fun i : Nat => ⟨[.s 1 (intsA l), .bot, .bot, I (numL (l.take i)), I i, .bot, .bot, .bot, .bot, .bot, .bot, .bot, .bot, .bot, .bot, .bot, .bot, .bot, .bot], []⟩) (fun i => i ≤ l.length) (fun i => l.length - i) 0 (le_sl (by simp [leSl, numL])) (Nat.zero_le _) ?_
  intro i hi
  refine awp_sound (own := []) _ _ _ _ _ ?_
  simp only [w_move, w_assign, w_pick, w_box, w_alloc, w_load, w_store, w_fieldAddr, w_indexAddr, w_binOp, w_not, w_neg, w_build, w_buildSlice, w_extract, w_field, w_slice, w_makeFunc, w_nilCheck, w_callF, w_callT, w_len, w_makeMap, w_lookup, w_mapUpdate, w_insert, w_put, w_makeSlice, lenM, oneOf, w_min, w_max, w_append, w_aop, w_aopg, w_take, w_takeg, w_some, w_asome, w_anone, w_nil, w_cons, awp, binC, idxC, arithC, cmpC, eqC, asP, asQ, asO, asS, asT, asG, asF, asB, asI, asN, asE, obA, AGet_zero, bndA, lenA, minmaxA, loadA, storeA, fillA, putsA, mkA, Aw.newRow, St.ev, St.step, setS, killS, AV.kill, AV.killL, Mem.kill, AV.cells, AV.flat, AV.single, AV.cellular, AV.size, AV.sizeL, AV.pure, AV.pureL, ACond_true, ACond_false, Value.oneCell', ints, List.getD_cons_succ, List.getD_cons_zero, List.set_cons_succ, List.set_cons_zero, List.getElem?_cons_succ, List.getElem?_cons_zero, List.length_cons, List.head?_cons, List.length_nil, List.replicate_succ, List.replicate_zero, List.cons_append, List.nil_append, List.contains_nil, List.contains_cons, List.isEmpty_nil, List.isEmpty_cons, Option.getD_some, Option.getD_none, Bool.false_eq_true, if_false, if_true, true_and, and_true, List.all_cons, List.all_nil, Bool.and_true, Bool.true_and, Bool.not_true, Bool.not_false, Option.isSome_some, Nat.zero_add, Nat.add_zero, beq_self_eq_true, List.map_cons, List.map_nil, decide_true, nbeq, decide_false, Bool.or_false, Bool.or_true, Bool.false_or, Bool.true_or, eq_self, Bool.false_and, Bool.and_false, decide_eq_true_eq, List.getElem?_nil, List.length_append, Nat.reduceAdd, Nat.reduceEqDiff, Nat.reduceMul, Nat.reduceSub, Nat.reduceLeDiff, Nat.reduceBEq, Int.reduceAdd, Int.reduceSub, Int.reduceMul, Int.reduceNeg, Int.reduceToNat, Int.reduceLE, Int.reduceLT, Int.reduceEq, Int.toNat_zero, Int.toNat_one, Option.bind_some, Option.bind_none, ASch, St.put, Md.mem, Md.need, ne_eq, not_false_eq_true, Option.map_some, Option.map_none, w_bt, w_bf, ti2, ti3, ti4, ti5, ti7, ti9, ti12, ti13, ti15, ti16, ti17, ti18, ti21, ti22, ti23, ti24, ti25, ti26, ti27, ti31, ti42, ti56, ti57, ti63, ti64, ti73, ti74, ti75, ti76, ti78, ti96, ti110, ti115, ti118, ti126, ti128, ti129, ti133, ti135, ti139, ti141, ti142, ti148, ti151, ti153, Try.ntmps63, intsA_len]
  have hb := numL_lt hn (l.take i) (fun x hx => hl.2 x (List.mem_of_mem_take hx))
  have hp := pow_le (k := (l.take i).length) (by simp; omega)
  by_cases h : i < l.length
  · have h' : (i : Int) < (l.length : Int) := by omega
    have hx := hl.2 l[i] (List.getElem_mem h)
    simp only [w_move, w_assign, w_pick, w_box, w_alloc, w_load, w_store, w_fieldAddr, w_indexAddr, w_binOp, w_not, w_neg, w_build, w_buildSlice, w_extract, w_field, w_slice, w_makeFunc, w_nilCheck, w_callF, w_callT, w_len, w_makeMap, w_lookup, w_mapUpdate, w_insert, w_put, w_makeSlice, lenM, oneOf, w_min, w_max, w_append, w_aop, w_aopg, w_take, w_takeg, w_some, w_asome, w_anone, w_nil, w_cons, awp, binC, idxC, arithC, cmpC, eqC, asP, asQ, asO, asS, asT, asG, asF, asB, asI, asN, asE, obA, AGet_zero, bndA, lenA, minmaxA, loadA, storeA, fillA, putsA, mkA, Aw.newRow, St.ev, St.step, setS, killS, AV.kill, AV.killL, Mem.kill, AV.cells, AV.flat, AV.single, AV.cellular, AV.size, AV.sizeL, AV.pure, AV.pureL, ACond_true, ACond_false, Value.oneCell', ints, List.getD_cons_succ, List.getD_cons_zero, List.set_cons_succ, List.set_cons_zero, List.getElem?_cons_succ, List.getElem?_cons_zero, List.length_cons, List.head?_cons, List.length_nil, List.replicate_succ, List.replicate_zero, List.cons_append, List.nil_append, List.contains_nil, List.contains_cons, List.isEmpty_nil, List.isEmpty_cons, Option.getD_some, Option.getD_none, Bool.false_eq_true, if_false, if_true, true_and, and_true, List.all_cons, List.all_nil, Bool.and_true, Bool.true_and, Bool.not_true, Bool.not_false, Option.isSome_some, Nat.zero_add, Nat.add_zero, beq_self_eq_true, List.map_cons, List.map_nil, decide_true, nbeq, decide_false, Bool.or_false, Bool.or_true, Bool.false_or, Bool.true_or, eq_self, Bool.false_and, Bool.and_false, decide_eq_true_eq, List.getElem?_nil, List.length_append, Nat.reduceAdd, Nat.reduceEqDiff, Nat.reduceMul, Nat.reduceSub, Nat.reduceLeDiff, Nat.reduceBEq, Int.reduceAdd, Int.reduceSub, Int.reduceMul, Int.reduceNeg, Int.reduceToNat, Int.reduceLE, Int.reduceLT, Int.reduceEq, Int.toNat_zero, Int.toNat_one, Option.bind_some, Option.bind_none, ASch, St.put, Md.mem, Md.need, ne_eq, not_false_eq_true, Option.map_some, Option.map_none, w_bt, w_bf, ti2, ti3, ti4, ti5, ti7, ti9, ti12, ti13, ti15, ti16, ti17, ti18, ti21, ti22, ti23, ti24, ti25, ti26, ti27, ti31, ti42, ti56, ti57, ti63, ti64, ti73, ti74, ti75, ti76, ti78, ti96, ti110, ti115, ti118, ti126, ti128, ti129, ti133, ti135, ti139, ti141, ti142, ti148, ti151, ti153, Try.ntmps63, decide_eq_true h', intsA_len, aget_ints h, Int.toNat_natCast]
    have hb' := numL_lt hn (l.take (i + 1)) (fun x hx => hl.2 x (List.mem_of_mem_take hx))
    have hp' := pow_le (k := (l.take (i + 1)).length) (by simp; omega)
    rw [← numL_take h]
    exact ⟨by unfold lim; omega, by omega, by unfold lim; omega, by unfold lim; omega, i + 1, le_sl (by simp [leSl]), by omega, by omega⟩
  · have h' : ¬ (i : Int) < (l.length : Int) := by omega
    simp only [w_move, w_assign, w_pick, w_box, w_alloc, w_load, w_store, w_fieldAddr, w_indexAddr, w_binOp, w_not, w_neg, w_build, w_buildSlice, w_extract, w_field, w_slice, w_makeFunc, w_nilCheck, w_callF, w_callT, w_len, w_makeMap, w_lookup, w_mapUpdate, w_insert, w_put, w_makeSlice, lenM, oneOf, w_min, w_max, w_append, w_aop, w_aopg, w_take, w_takeg, w_some, w_asome, w_anone, w_nil, w_cons, awp, binC, idxC, arithC, cmpC, eqC, asP, asQ, asO, asS, asT, asG, asF, asB, asI, asN, asE, obA, AGet_zero, bndA, lenA, minmaxA, loadA, storeA, fillA, putsA, mkA, Aw.newRow, St.ev, St.step, setS, killS, AV.kill, AV.killL, Mem.kill, AV.cells, AV.flat, AV.single, AV.cellular, AV.size, AV.sizeL, AV.pure, AV.pureL, ACond_true, ACond_false, Value.oneCell', ints, List.getD_cons_succ, List.getD_cons_zero, List.set_cons_succ, List.set_cons_zero, List.getElem?_cons_succ, List.getElem?_cons_zero, List.length_cons, List.head?_cons, List.length_nil, List.replicate_succ, List.replicate_zero, List.cons_append, List.nil_append, List.contains_nil, List.contains_cons, List.isEmpty_nil, List.isEmpty_cons, Option.getD_some, Option.getD_none, Bool.false_eq_true, if_false, if_true, true_and, and_true, List.all_cons, List.all_nil, Bool.and_true, Bool.true_and, Bool.not_true, Bool.not_false, Option.isSome_some, Nat.zero_add, Nat.add_zero, beq_self_eq_true, List.map_cons, List.map_nil, decide_true, nbeq, decide_false, Bool.or_false, Bool.or_true, Bool.false_or, Bool.true_or, eq_self, Bool.false_and, Bool.and_false, decide_eq_true_eq, List.getElem?_nil, List.length_append, Nat.reduceAdd, Nat.reduceEqDiff, Nat.reduceMul, Nat.reduceSub, Nat.reduceLeDiff, Nat.reduceBEq, Int.reduceAdd, Int.reduceSub, Int.reduceMul, Int.reduceNeg, Int.reduceToNat, Int.reduceLE, Int.reduceLT, Int.reduceEq, Int.toNat_zero, Int.toNat_one, Option.bind_some, Option.bind_none, ASch, St.put, Md.mem, Md.need, ne_eq, not_false_eq_true, Option.map_some, Option.map_none, w_bt, w_bf, ti2, ti3, ti4, ti5, ti7, ti9, ti12, ti13, ti15, ti16, ti17, ti18, ti21, ti22, ti23, ti24, ti25, ti26, ti27, ti31, ti42, ti56, ti57, ti63, ti64, ti73, ti74, ti75, ti76, ti78, ti96, ti110, ti115, ti118, ti126, ti128, ti129, ti133, ti135, ti139, ti141, ti142, ti148, ti151, ti153, Try.ntmps63, decide_eq_false h']
    rw [List.take_of_length_le (by omega)]
    exact aend_frz rfl ⟨rfl, rfl⟩

/-- the table: for the number of each place, how far it is. -/
def tabN (k : Nat) (L : List Nd) : List Int := L.foldl (fun t x => t.set (numL x.pl).toNat x.far) (List.replicate (6 ^ k) 1000000)

theorem tabN_snoc (k : Nat) (L : List Nd) (x : Nd) : tabN k (L ++ [x]) = (tabN k L).set (numL x.pl).toNat x.far := by simp [tabN]
theorem tab_len (L : List Nd) : ∀ t : List Int, (L.foldl (fun t x => t.set (numL x.pl).toNat x.far) t).length = t.length := by
  induction L with
  | nil => intro t; rfl
  | cons x L ih => intro t; rw [List.foldl_cons, ih]; simp
theorem tabN_len (k : Nat) (L : List Nd) : (tabN k L).length = 6 ^ k := by rw [tabN, tab_len]; simp

theorem numL_idx {n : Int} (hn : n ≤ 6) {k : Nat} {p : List Int} (hp : okPl n k p) : 0 ≤ numL p ∧ (numL p).toNat < 6 ^ k := by
  obtain ⟨h1, h2⟩ := numL_lt hn p hp.2
  refine ⟨h1, ?_⟩
  rw [hp.1] at h2
  have e : ((6 ^ k : Nat) : Int) = (6 : Int) ^ k := by simp
  omega
theorem numL_toNat {n : Int} (hn : n ≤ 6) {k : Nat} {p q : List Int} (hp : okPl n k p) (hq : okPl n k q) (h : (numL p).toNat = (numL q).toNat) : p = q := by
  have h1 := (numL_lt hn p hp.2).1
  have h2 := (numL_lt hn q hq.2).1
  exact numL_inj hn p q (by rw [hp.1, hq.1]) hp.2 hq.2 (by omega)

theorem tab_at_not {n : Int} (hn : n ≤ 6) {k : Nat} {p : List Int} (hp : okPl n k p) : ∀ (L : List Nd) (t : List Int), (∀ x ∈ L, okPl n k x.pl) → p ∉ pls L → (L.foldl (fun t x => t.set (numL x.pl).toNat x.far) t)[(numL p).toNat]? = t[(numL p).toNat]?
  | [], t, _, _ => rfl
  | x :: L, t, h, hno => by
    rw [List.foldl_cons, tab_at_not hn hp L _ (fun y hy => h y (by simp [hy])) (fun hm => hno (by simp [pls] at hm ⊢; exact .inr hm))]
    rw [List.getElem?_set_ne]
    intro e
    exact hno (by simp [pls, numL_toNat hn (h x (by simp)) hp e])
theorem tab_at_in {n : Int} (hn : n ≤ 6) {k : Nat} : ∀ (L : List Nd) (t : List Int), (∀ x ∈ L, okPl n k x.pl) → (pls L).Nodup → t.length = 6 ^ k → ∀ x ∈ L, (L.foldl (fun t x => t.set (numL x.pl).toNat x.far) t)[(numL x.pl).toNat]? = some x.far
  | y :: L, t, h, hnd, ht, x, hx => by
    rw [List.foldl_cons]
    have hy := h y (by simp)
    simp only [pls, List.map_cons, List.nodup_cons] at hnd
    rcases List.mem_cons.1 hx with rfl | hx
    · rw [tab_at_not hn hy L _ (fun z hz => h z (by simp [hz])) hnd.1]
      rw [List.getElem?_set_self]
      rw [ht]; exact (numL_idx hn hy).2
    · exact tab_at_in hn L _ (fun z hz => h z (by simp [hz])) hnd.2 (by simpa using ht) x hx

theorem tabN_in {n : Int} (hn : n ≤ 6) {k : Nat} {L : List Nd} (h : InvN n k L) {i : Nat} (hi : i < L.length) {j : Nat} (hj : j = (numL L[i].pl).toNat) (hl : j < (tabN k L).length) : (tabN k L)[j] = L[i].far := by
  subst hj
  have := tab_at_in hn L (List.replicate (6 ^ k) 1000000) h.pl h.nd (by simp) L[i] (List.getElem_mem hi)
  have h2 : (tabN k L)[(numL L[i].pl).toNat]? = some L[i].far := this
  rw [List.getElem?_eq_getElem hl] at h2
  exact Option.some.inj h2
theorem tabN_out {n : Int} (hn : n ≤ 6) {k : Nat} {L : List Nd} (h : InvN n k L) {p : List Int} (hp : okPl n k p) (hno : p ∉ pls L) (hl : (numL p).toNat < (tabN k L).length) : (tabN k L)[(numL p).toNat] = 1000000 := by
  have h1 := tab_at_not hn hp L (List.replicate (6 ^ k) 1000000) h.pl hno
  have h2 : (tabN k L)[(numL p).toNat]? = some 1000000 := by
    rw [tabN, h1]
    simp [(numL_idx hn hp).2]
  rw [List.getElem?_eq_getElem hl] at h2
  exact Option.some.inj h2

/-! each place that is reached is a right one -/
theorem nodup_set {p : List Int} (h : p.Nodup) {z : Int} (hz : z ∉ p) (i : Nat) : (p.set i z).Nodup := by
  rw [List.Nodup, List.pairwise_iff_getElem] at h ⊢
  intro a b ha hb hab
  simp only [List.length_set] at ha hb
  rw [List.getElem_set, List.getElem_set]
  split
  · split
    · omega
    · intro e; exact hz (e ▸ List.getElem_mem hb)
  · split
    · intro e; exact hz (e ▸ List.getElem_mem ha)
    · exact h a b ha hb hab

theorem vTP_iff {n : Int} {ls : List (Int × Int)} {l : List Int} : vTP n ls l = 0 ↔ vT n ls = 0 ∧ l.length ≤ 4 ∧ (∀ z ∈ l, 0 ≤ z ∧ z < n) ∧ l.Nodup := by
  constructor
  · intro h
    have h1 := vTP_vT h
    have h2 := vTP_ok h
    refine ⟨h1, h2.2.1, h2.1.2, ?_⟩
    rw [vTP, if_pos h1] at h
    unfold vP at h
    split at h
    · omega
    · split at h
      · split at h
        · assumption
        · omega
      · omega
  · rintro ⟨h1, h2, h3, h4⟩
    rw [vTP, if_pos h1, vP, if_neg (by omega), if_pos h3, if_pos h4]

theorem vTP_nxt {n : Int} {ls : List (Int × Int)} {p : List Int} (h : vTP n ls p = 0) {k : Nat} {m : Int × Int} (hm : m ∈ mvK n ls p k) : vTP n ls (nxt p m) = 0 := by
  obtain ⟨h1, h2, h3, h4⟩ := vTP_iff.1 h
  obtain ⟨g1, g2, g3, g4, g5⟩ := mvK_ok m hm
  refine vTP_iff.2 ⟨h1, by simpa [nxt] using h2, fun z hz => ?_, nodup_set h4 g5 _⟩
  rcases List.mem_or_eq_of_mem_set hz with hz | rfl
  · exact h3 z hz
  · exact ⟨g3, g4⟩

def allV (n : Int) (ls : List (Int × Int)) (L : List Nd) : Prop := ∀ x ∈ L, vTP n ls x.pl = 0
theorem addN_V {n : Int} {ls : List (Int × Int)} {L : List Nd} (h : allV n ls L) {x : Nd} (hx : vTP n ls x.pl = 0) : allV n ls (addN L x) := by
  unfold addN
  split
  · exact h
  · intro y hy
    rcases List.mem_append.1 hy with hy | hy
    · exact h y hy
    · simp at hy; subst hy; exact hx
theorem visN_V {n : Int} {ls : List (Int × Int)} {p : List Int} {d : Int} (hp : vTP n ls p = 0) {k : Nat} : ∀ (ms : List (Int × Int)) (L : List Nd), (∀ m ∈ ms, m ∈ mvK n ls p k) → allV n ls L → allV n ls (visN p d L ms)
  | [], L, _, h => h
  | m :: ms, L, hm, h => by
    show allV n ls (visN p d (addN L ⟨nxt p m, padL p, m, d + 1⟩) ms)
    exact visN_V hp ms _ (fun m' h' => hm m' (by simp [h'])) (addN_V h (vTP_nxt hp (hm m (by simp))))
theorem rchI_V {n : Int} {ls : List (Int × Int)} {l : List Int} (h : vTP n ls l = 0) : ∀ i, allV n ls (rchI n ls l i)
  | 0 => by intro x hx; simp [rchI] at hx; subst hx; exact h
  | i + 1 => by
    have ih := rchI_V h i
    show allV n ls (stepN n ls (rchI n ls l i) i)
    rcases Nat.lt_or_ge i (rchI n ls l i).length with hi | hi
    · rw [stepN_some hi]
      exact visN_V (ih _ (List.getElem_mem hi)) _ _ (fun m hm => hm) ih
    · rw [stepN_none hi]; exact ih

theorem rchI_mono (n : Int) (ls : List (Int × Int)) (l : List Int) (i : Nat) : ∀ d, ∃ E, rchI n ls l (i + d) = rchI n ls l i ++ E
  | 0 => ⟨[], by simp⟩
  | d + 1 => by
    obtain ⟨E, hE⟩ := rchI_mono n ls l i d
    obtain ⟨E', hE'⟩ := stepN_ext n ls (rchI n ls l (i + d)) (i + d)
    exact ⟨E ++ E', by show stepN n ls (rchI n ls l (i + d)) (i + d) = _; rw [hE', hE, List.append_assoc]⟩

theorem visN_far (p : List Int) (d : Int) : ∀ (ms : List (Int × Int)) (L : List Nd) (e : Nat), (∀ (j : Nat) (h : j < L.length), e ≤ j → L[j].far = d + 1) → e ≤ L.length → ∀ (j : Nat) (h : j < (visN p d L ms).length), e ≤ j → (visN p d L ms)[j].far = d + 1
  | [], L, e, h, _, j, hj, hej => h j hj hej
  | m :: ms, L, e, h, hel, j, hj, hej => by
    refine visN_far p d ms (addN L ⟨nxt p m, padL p, m, d + 1⟩) e (fun q hq heq => ?_) ?_ j hj hej
    · unfold addN at hq ⊢
      split at hq
      · rename_i hc; simp only [if_pos hc]; exact h q hq heq
      · rename_i hc
        simp only [if_neg hc]
        rcases Nat.lt_or_ge q L.length with hlt | hge
        · rw [List.getElem_append_left hlt]; exact h q hlt heq
        · simp at hq
          obtain rfl : q = L.length := by omega
          simp
    · obtain ⟨E, hE⟩ := addN_ext L ⟨nxt p m, padL p, m, d + 1⟩
      rw [hE]; simp; omega
end Go.Proofs.Ytkolpijhgcijbaa
