/-
  Several texts in one: FnBF, FnBG, FnBH, FnBI.
-/
import Derived.Test.YtkolpijhgcijbaaMx
import Derived.Test.YtkolpijhgcijbaaMc
import Derived.Test.YtkolpijhgcijbaaMn
set_option linter.unusedSimpArgs false
set_option linter.unusedVariables false
namespace Go.Proofs.Ytkolpijhgcijbaa
open Aw Go.RowKit
set_option linter.unusedSimpArgs false

def isoN (l : List Int) (n : Int) : Nat → Bool
  | 0 => true
  | k + 1 => isoN l n k && (decide (0 ≤ l.getD k 0) && decide (l.getD k 0 < n) && !memL (l.take k) (l.getD k 0))
theorem isoN_mono {l : List Int} {n : Int} {k : Nat} : ∀ {m : Nat}, k ≤ m → isoN l n k = false → isoN l n m = false
  | m, h, h0 => by
    induction m with
    | zero => obtain rfl : k = 0 := by omega
              exact h0
    | succ m ih =>
      by_cases e : k = m + 1
      · subst e; exact h0
      · show (isoN l n m && _) = false
        rw [ih (by omega)]
        rfl
def isoB (l : List Int) (n : Int) : Bool := decide ((l.length : Int) = n) && isoN l n l.length

theorem ok89 : okFn Try.prog 89 = true := by kernel_rfl
set_option maxRecDepth 20000 in
theorem s89 (l : List Int) (n : Int) (hl : l.length ≤ 10000) : ASpec Try.prog 89 [.s 1 (intsA l), I n] (fun r Ms => r = B (isoB l n) ∧ Ms = []) := by
  refine aspec_of (own := []) Try.func89 rfl ok89 ?_
  simp only [w_move, w_assign, w_binOp, w_len, w_aop, w_some, w_asome, w_anone, w_nil, w_cons, awp, binC, cmpC, asB, asI, asN, lenA, St.ev, St.step, setS, killS, AV.kill, AV.killL, Mem.kill, ACond_false, List.getD_cons_succ, List.getD_cons_zero, List.set_cons_succ, List.set_cons_zero, List.length_cons, List.length_nil, List.replicate_succ, List.replicate_zero, List.cons_append, List.nil_append, List.contains_nil, List.isEmpty_nil, Option.getD_some, Bool.false_eq_true, if_false, if_true, true_and, Bool.true_and, Option.isSome_some, Nat.zero_add, Nat.add_zero, Nat.reduceAdd, Nat.reduceSub, Int.reduceAdd, Int.reduceSub, ti25, Try.ntmps89, intsA_len]
  by_cases h0 : (l.length : Int) = n
  · subst h0
    simp only [w_assign, w_aop, w_anone, w_nil, w_cons, awp, asN, St.ev, St.step, setS, killS, AV.kill, AV.killL, Mem.kill, ACond_false, List.set_cons_succ, List.set_cons_zero, List.contains_nil, List.isEmpty_nil, Option.getD_some, Bool.false_eq_true, if_false, if_true, Bool.not_true, decide_true, Nat.reduceAdd, Int.reduceAdd]
    refine swp_loop' (fun k : Nat => ⟨[.s 1 (intsA l), I l.length, .bot, .bot, .bot, I k, .bot, .bot, .bot, .bot, .bot, .bot, .bot, .bot, .bot, .bot, .bot, .bot, .bot, .bot, .bot, .bot, .bot, .bot, .bot, .bot, .bot, .bot, .bot, .bot, .bot, .bot, .bot, .bot, .bot, .bot, .bot, .bot], []⟩) (fun k => k ≤ l.length ∧ isoN l l.length k = true) (fun k => l.length - k) 0 (le_sl (by simp [leSl])) ⟨Nat.zero_le _, rfl⟩ ?_
    rintro k ⟨hk, hno⟩
    refine awp_sound (own := []) _ _ _ _ _ ?_
    simp only [w_move, w_binOp, w_aop, w_some, w_asome, w_nil, w_cons, awp, binC, cmpC, asB, asI, St.ev, St.step, setS, killS, AV.kill, AV.killL, Mem.kill, ACond_false, List.getD_cons_succ, List.getD_cons_zero, List.set_cons_succ, List.set_cons_zero, List.contains_nil, List.isEmpty_nil, if_true, true_and, Bool.true_and, Nat.reduceAdd, Int.reduceAdd]
    by_cases h : k < l.length
    · have h' : (k : Int) < (l.length : Int) := by omega
      simp only [awp, ACond_true, decide_eq_true h']
      have hst : isoN l l.length (k + 1) = (decide (0 ≤ l[k]) && decide (l[k] < (l.length : Int)) && !memL (l.take k) l[k]) := by
        show (isoN l l.length k && (decide (0 ≤ l.getD k 0) && decide (l.getD k 0 < (l.length : Int)) && !memL (l.take k) (l.getD k 0))) = _
        rw [hno, Bool.true_and, getD_to h]
      have hfin : isoN l l.length (k + 1) = false → isoB l l.length = false := fun e => by
        unfold isoB
        rw [isoN_mono h e, Bool.and_false]
      refine swp_draw (own := []) (.take 0 .plain [] (.take 1 .plain [] (.take 2 .reads [] (.take 3 .reads [] (.take 4 .plain [] (.take 5 .plain [] (.take 6 .plain [] (.take 7 .plain [] (.take 8 .reads [] (.take 9 .reads [] (.take 10 .plain [] (.take 11 .plain [] (.take 12 .plain [] (.take 13 .plain [] (.take 14 .plain [] (.take 15 .plain [] (.take 16 .plain [] (.take 17 .plain [] (.take 18 .plain [] (.take 19 .reads [] (.take 20 .reads [] (.alt 21 (.take 22 .plain [] (.done)) (.nil))))))))))))))))))))))) [⟨16, 1, 0, 0, true⟩, ⟨17, 32, 0, 0, true⟩, ⟨18, 98304, 3, 0, true⟩, ⟨19, 131072, 4, 0, true⟩, ⟨20, 262144, 8, 0, true⟩, ⟨21, 524288, 16, 0, true⟩, ⟨22, 1048577, 32, 0, true⟩, ⟨23, 1048608, 32, 0, true⟩, ⟨24, 7340032, 224, 0, true⟩, ⟨25, 9437184, 288, 0, true⟩, ⟨26, 1048578, 32, 0, true⟩, ⟨27, 51380224, 1568, 0, true⟩, ⟨28, 68157440, 2080, 0, true⟩, ⟨29, 134217728, 4128, 0, true⟩, ⟨30, 268435457, 8192, 0, true⟩, ⟨31, 268435488, 8192, 0, true⟩, ⟨32, 1879048192, 57344, 0, true⟩, ⟨33, 268435457, 8192, 0, true⟩, ⟨34, 268435488, 8192, 0, true⟩, ⟨35, 13153337344, 401408, 0, true⟩, ⟨36, 17448304640, 532480, 0, true⟩, ⟨37, 36775657472, 1122304, 0, false⟩, ⟨38, 68987912192, 2105344, 0, true⟩] mo (by kernel_rfl) ?_
      simp only [w_move, w_load, w_indexAddr, w_binOp, w_gdb, w_take, w_takeg, w_some, w_asome, binC, idxC, cmpC, asP, asS, asI, loadA, St.ev, setS, AV.cells, AV.flat, AV.single, List.getD_cons_succ, List.getD_cons_zero, List.set_cons_succ, List.set_cons_zero, List.getElem?_cons_succ, List.getElem?_cons_zero, Bool.false_eq_true, if_false, true_and, and_true, List.all_cons, List.all_nil, Bool.and_true, Bool.true_and, Bool.not_true, Option.bind_some, ASch, St.put, Md.mem, Md.need, w_bf, ti3, ti25, aget_ints h, Int.toNat_natCast]
      refine ⟨by omega, ?_⟩
      by_cases h1 : l[k] < 0
      · have e : isoN l l.length (k + 1) = false := by rw [hst, decide_eq_false (by omega)]; rfl
        simp only [w_move, w_assign, w_pick, w_aop, w_aopg, w_gdb, w_take, w_takeg, w_some, w_anone, w_nil, w_cons, awp, asB, asN, St.ev, St.step, setS, killS, AV.kill, AV.killL, Mem.kill, ACond_true, ACond_false, List.getD_cons_succ, List.getD_cons_zero, List.set_cons_succ, List.set_cons_zero, List.getElem?_cons_succ, List.getElem?_cons_zero, List.contains_nil, List.isEmpty_nil, Option.getD_some, Bool.false_eq_true, if_false, if_true, true_and, and_true, Bool.and_true, Bool.true_and, Bool.not_true, Nat.reduceAdd, Int.reduceAdd, Option.bind_some, ASch, St.put, Md.mem, Md.need, w_bf, decide_eq_true h1]
        exact aend_frz rfl ⟨by rw [hfin e]; rfl, rfl⟩
      by_cases h2 : (l.length : Int) ≤ l[k]
      · have e : isoN l l.length (k + 1) = false := by rw [hst, decide_eq_false (show ¬ l[k] < (l.length : Int) by omega), Bool.and_false]; rfl
        simp only [w_move, w_assign, w_pick, w_load, w_indexAddr, w_binOp, w_aop, w_aopg, w_gdb, w_take, w_takeg, w_some, w_asome, w_anone, w_nil, w_cons, awp, binC, idxC, cmpC, asP, asS, asB, asI, asN, loadA, St.ev, St.step, setS, killS, AV.kill, AV.killL, Mem.kill, AV.cells, AV.flat, AV.single, ACond_true, ACond_false, List.getD_cons_succ, List.getD_cons_zero, List.set_cons_succ, List.set_cons_zero, List.getElem?_cons_succ, List.getElem?_cons_zero, List.contains_nil, List.isEmpty_nil, Option.getD_some, Bool.false_eq_true, if_false, if_true, true_and, and_true, List.all_cons, List.all_nil, Bool.and_true, Bool.true_and, Bool.not_true, Bool.not_false, beq_self_eq_true, Nat.reduceAdd, Int.reduceAdd, Option.bind_some, ASch, St.put, Md.mem, Md.need, w_bf, ti3, ti25, decide_eq_false h1, decide_eq_true h2, aget_ints h, Int.toNat_natCast]
        exact ⟨by omega, aend_frz rfl ⟨by rw [hfin e]; rfl, rfl⟩⟩
      simp only [w_move, w_pick, w_load, w_indexAddr, w_binOp, w_slice, w_callF, w_aopg, w_gdb, w_take, w_takeg, w_some, w_asome, binC, idxC, cmpC, asP, asS, asB, asI, bndA, loadA, St.ev, setS, AV.cells, AV.flat, AV.single, ACond_true, ACond_false, List.getD_cons_succ, List.getD_cons_zero, List.set_cons_succ, List.set_cons_zero, List.getElem?_cons_succ, List.getElem?_cons_zero, Option.getD_some, Option.getD_none, Bool.false_eq_true, if_false, true_and, and_true, List.all_cons, List.all_nil, Bool.and_true, Bool.true_and, Bool.not_true, Bool.not_false, beq_self_eq_true, List.map_cons, List.map_nil, Int.reduceLE, Int.toNat_zero, Option.bind_some, ASch, St.put, Md.mem, Md.need, ti3, ti25, decide_eq_false h1, decide_eq_false h2, aget_ints h, Int.toNat_natCast, intsA_len, intsA_take]
      have h70 := s70 (l.take k) l[k] (by simp; omega)
      rw [List.drop_zero]
      refine ⟨by omega, ⟨by omega, by omega⟩, by omega, acall_v h70 rfl rfl ?_⟩
      rw [decide_eq_true (show 0 ≤ l[k] by omega), decide_eq_true (show l[k] < (l.length : Int) by omega)] at hst
      cases hm : memL (l.take k) l[k] with
      | true =>
        rw [hm] at hst
        simp only [w_assign, w_pick, w_aop, w_take, w_some, w_anone, w_nil, w_cons, awp, asB, asN, St.ev, St.step, setS, killS, AV.kill, AV.killL, Mem.kill, ACond_true, ACond_false, List.getD_cons_succ, List.getD_cons_zero, List.set_cons_succ, List.set_cons_zero, List.getElem?_cons_succ, List.getElem?_cons_zero, List.contains_nil, List.isEmpty_nil, Option.getD_some, Bool.false_eq_true, if_false, if_true, true_and, Bool.true_and, Nat.reduceAdd, Int.reduceAdd, ASch, St.put, Md.mem, Md.need]
        exact aend_frz rfl ⟨by rw [hfin hst]; rfl, rfl⟩
      | false =>
        rw [hm] at hst
        simp only [w_move, w_assign, w_pick, w_binOp, w_aop, w_take, w_some, w_asome, w_anone, w_nil, w_cons, awp, binC, arithC, cmpC, asB, asI, asN, St.ev, St.step, setS, killS, AV.kill, AV.killL, Mem.kill, ACond_false, List.getD_cons_succ, List.getD_cons_zero, List.set_cons_succ, List.set_cons_zero, List.getElem?_cons_succ, List.getElem?_cons_zero, List.contains_nil, List.isEmpty_nil, Option.getD_some, Bool.false_eq_true, if_false, if_true, true_and, and_true, Bool.and_true, Bool.true_and, Nat.reduceAdd, Int.reduceAdd, ASch, St.put, Md.mem, Md.need]
        exact ⟨by unfold lim; omega, k + 1, le_sl (by simp [leSl]), ⟨h, hst⟩, by omega⟩
    · have h' : ¬ (k : Int) < (l.length : Int) := by omega
      have hke : k = l.length := by omega
      subst hke
      simp only [w_assign, w_aop, w_anone, w_nil, w_cons, awp, asN, St.ev, St.step, setS, killS, AV.kill, AV.killL, Mem.kill, ACond_false, List.set_cons_succ, List.set_cons_zero, List.contains_nil, List.isEmpty_nil, Option.getD_some, Bool.false_eq_true, if_false, if_true, Nat.reduceAdd, Int.reduceAdd, decide_eq_false h']
      exact aend_frz rfl ⟨by unfold isoB; rw [hno, decide_eq_true rfl]; rfl, rfl⟩
  · simp only [w_assign, w_aop, w_anone, w_nil, w_cons, awp, asN, St.ev, St.step, setS, killS, AV.kill, AV.killL, Mem.kill, ACond_true, ACond_false, List.set_cons_succ, List.set_cons_zero, List.contains_nil, List.isEmpty_nil, Option.getD_some, Bool.false_eq_true, if_false, if_true, Bool.not_false, Nat.reduceAdd, Int.reduceAdd, decide_eq_false h0]
    exact aend_frz rfl ⟨by unfold isoB; rw [decide_eq_false h0]; rfl, rfl⟩

/-- the places of the new numbers. -/
def oldN (n : Nat) (to : List Int) : Nat → List Int
  | 0 => List.replicate n 0
  | z + 1 => (oldN n to z).set (to.getD z 0).toNat (z : Int)
theorem oldN_len (n : Nat) (to : List Int) : ∀ z, (oldN n to z).length = n
  | 0 => by simp [oldN]
  | z + 1 => by rw [oldN, List.length_set, oldN_len n to z]
def rwK (old : List Int) (ls : List (Int × Int)) (a b : Nat) : List (Int × Int) := (((List.range b).drop (a + 1)).filter fun c => lnk ls (old.getD a 0) (old.getD c 0)).map fun c : Nat => ((a : Int), (c : Int))
def acK (old : List Int) (ls : List (Int × Int)) (n a : Nat) : List (Int × Int) := (List.range a).flatMap fun i => rwK old ls i n
theorem rwK_start (old : List Int) (ls : List (Int × Int)) (a : Nat) : rwK old ls a (a + 1) = [] := by
  unfold rwK
  rw [List.drop_of_length_le (by simp)]
  rfl
theorem rwK_succ (old : List Int) (ls : List (Int × Int)) {a b : Nat} (h : a + 1 ≤ b) : rwK old ls a (b + 1) = rwK old ls a b ++ (if lnk ls (old.getD a 0) (old.getD b 0) then [((a : Int), (b : Int))] else []) := by
  unfold rwK
  rw [List.range_succ, List.drop_append_of_le_length (by simpa using h), List.filter_append, List.map_append]
  cases hl : lnk ls (old.getD a 0) (old.getD b 0) <;> simp only [List.filter, hl] <;> rfl
theorem acK_succ (old : List Int) (ls : List (Int × Int)) (n a : Nat) : acK old ls n (a + 1) = acK old ls n a ++ rwK old ls a n := by
  unfold acK
  rw [List.range_succ, List.flatMap_append]
  simp
theorem rwK_len (old : List Int) (ls : List (Int × Int)) (a b : Nat) : (rwK old ls a b).length ≤ b := by
  unfold rwK
  rw [List.length_map]
  refine Nat.le_trans (List.length_filter_le _ _) ?_
  simp
theorem acK_len (old : List Int) (ls : List (Int × Int)) (n : Nat) : ∀ a, (acK old ls n a).length ≤ a * n
  | 0 => by simp [acK]
  | a + 1 => by
    rw [acK_succ, List.length_append, Nat.add_mul]
    have := acK_len old ls n a
    have := rwK_len old ls a n
    omega
/-- the error of the document's Rename. -/
def rfE (n : Int) (ls : List (Int × Int)) (to : List Int) : Int := if vT n ls = 0 then (if isoB to n = true then 0 else 1) else vT n ls

theorem isoN_ok {l : List Int} {n : Int} : ∀ {k : Nat}, isoN l n k = true → ∀ j, j < k → 0 ≤ l.getD j 0 ∧ l.getD j 0 < n ∧ l.getD j 0 ∉ l.take j
  | 0, _, j, hj => by omega
  | k + 1, h, j, hj => by
    have h' : (isoN l n k && (decide (0 ≤ l.getD k 0) && decide (l.getD k 0 < n) && !memL (l.take k) (l.getD k 0))) = true := h
    simp only [Bool.and_eq_true, decide_eq_true_eq, Bool.not_eq_true', memL, decide_eq_false_iff_not] at h'
    by_cases e : j = k
    · subst e
      exact ⟨h'.2.1.1, h'.2.1.2, h'.2.2⟩
    · exact isoN_ok h'.1 j (by omega)
theorem ok57 : okFn Try.prog 57 = true := by kernel_rfl
set_option maxRecDepth 20000 in
set_option maxHeartbeats 1000000 in
theorem s57 (n : Int) (ls : List (Int × Int)) (to : List Int) (hls : ls.length ≤ 10000) (hto : to.length ≤ 10000) :
    ASpec Try.prog 57 [trapA n ls, .s 1 (intsA to)] (fun r Ms => r = renA n (rfE n ls to) (acK (oldN n.toNat to n.toNat) ls n.toNat n.toNat) ∧ Ms = []) := by
  refine aspec_of (own := []) Try.func57 rfl ok57 ?_
  simp only [w_assign, w_box, w_alloc, w_load, w_callF, w_aop, w_some, w_asome, w_anone, w_nil, w_cons, awp, asP, asN, loadA, mkA, Aw.newRow, St.ev, St.step, setS, killS, AV.kill, AV.killL, Mem.kill, AV.cells, AV.flat, AV.single, AV.cellular, AV.pure, AV.pureL, ACond_false, List.getD_cons_succ, List.getD_cons_zero, List.set_cons_succ, List.set_cons_zero, List.getElem?_cons_zero, List.length_cons, List.length_nil, List.replicate_succ, List.replicate_zero, List.cons_append, List.nil_append, List.contains_nil, List.isEmpty_nil, Option.getD_some, Bool.false_eq_true, if_false, if_true, true_and, and_true, List.all_cons, List.all_nil, Bool.and_true, Bool.true_and, Bool.not_true, Nat.zero_add, Nat.add_zero, beq_self_eq_true, List.map_cons, List.map_nil, decide_true, nbeq, decide_false, Bool.or_false, Nat.reduceAdd, Nat.reduceEqDiff, Nat.reduceSub, Nat.reduceLeDiff, Int.reduceAdd, Int.reduceSub, ti24, Try.ntmps57, trapA]
  refine acall_v (s24 n ls (by omega)) rfl rfl ?_
  simp only [w_move, w_assign, w_binOp, w_aop, w_some, w_asome, w_anone, w_nil, w_cons, awp, binC, cmpC, asB, asI, asN, St.ev, St.step, setS, killS, AV.kill, AV.killL, Mem.kill, ACond_false, List.getD_cons_succ, List.getD_cons_zero, List.set_cons_succ, List.set_cons_zero, List.contains_nil, List.isEmpty_nil, Option.getD_some, Bool.false_eq_true, if_false, if_true, true_and, Bool.true_and, Nat.reduceAdd, Int.reduceAdd]
  by_cases hv : vT n ls = 0
  · simp only [w_move, w_load, w_fieldAddr, w_callF, w_aop, w_some, w_asome, w_cons, awp, asP, loadA, St.ev, St.step, setS, killS, AV.kill, AV.killL, Mem.kill, AV.cells, AV.flat, AV.single, ACond_false, List.getD_cons_succ, List.getD_cons_zero, List.set_cons_succ, List.set_cons_zero, List.getElem?_cons_zero, List.length_cons, List.length_nil, List.contains_nil, List.isEmpty_nil, Bool.false_eq_true, if_false, if_true, true_and, and_true, List.all_cons, List.all_nil, Bool.and_true, Bool.true_and, Bool.not_true, Nat.zero_add, Nat.add_zero, beq_self_eq_true, List.map_cons, List.map_nil, decide_true, nbeq, decide_false, Bool.and_false, Nat.reduceAdd, Nat.reduceEqDiff, Nat.reduceLeDiff, Int.reduceAdd, ne_eq, not_false_eq_true, ti3, ti24, decide_eq_true hv]
    refine acall_v (s89 to n (by omega)) rfl rfl ?_
    have hn6 : 1 ≤ n ∧ n ≤ 6 := by
      unfold vT at hv
      split at hv
      · cases hv
      · omega
    cases hb : isoB to n with
    | true =>
      simp only [w_assign, w_load, w_fieldAddr, w_not, w_makeSlice, oneOf, w_aop, w_some, w_asome, w_anone, w_nil, w_cons, awp, asP, asB, asI, asN, loadA, Aw.newRow, St.ev, St.step, setS, killS, AV.kill, AV.killL, Mem.kill, AV.cells, AV.flat, AV.single, ACond_false, List.getD_cons_succ, List.getD_cons_zero, List.set_cons_succ, List.set_cons_zero, List.getElem?_cons_zero, List.length_cons, List.length_nil, List.cons_append, List.nil_append, List.contains_nil, List.isEmpty_nil, Option.getD_some, Bool.false_eq_true, if_false, if_true, true_and, and_true, List.all_cons, List.all_nil, Bool.and_true, Bool.true_and, Bool.not_true, Nat.zero_add, Nat.add_zero, beq_self_eq_true, decide_true, nbeq, decide_false, Bool.and_false, Nat.reduceAdd, Nat.reduceEqDiff, Nat.reduceLeDiff, Int.reduceAdd, ne_eq, not_false_eq_true, ti3, ti24, ti25]
      obtain ⟨N, rfl⟩ : ∃ N : Nat, n = N := ⟨n.toNat, by omega⟩
      have hb' := hb
      unfold isoB at hb'
      rw [Bool.and_eq_true, decide_eq_true_eq] at hb'
      have htl : to.length = N := by omega
      have hto2 : ∀ j, j < to.length → 0 ≤ to.getD j 0 ∧ to.getD j 0 < N := fun j hj => ⟨(isoN_ok hb'.2 j hj).1, (isoN_ok hb'.2 j hj).2.1⟩
      have e : rfE N ls to = 0 := by
        unfold rfE
        rw [if_pos hv, hb]
        rfl
      have hrep : List.replicate N (AV.v (.int .i64 0)) = intsA (oldN N to 0) := by simp [intsA, oldN]
      simp only [Int.toNat_natCast, hrep]
      refine ⟨⟨by omega, by omega⟩, ?_⟩
      refine swp_loop' (fun z : Nat => ⟨[.bot, .s 1 (intsA to), .p (.g [I N, .s 2 (prsA ls)]) 0, .bot, .q 0 2 0 0, .bot, .bot, .o 1, I z, .bot, .bot, .bot, .bot, .bot, .bot, .bot, .bot, .bot, .bot, .bot, .bot, .bot, .bot, .bot, .bot, .bot, .bot, .bot, .bot, .bot, .bot, .bot, .bot, .bot, .bot, .bot, .bot, .bot, .bot, .bot, .bot, .bot, .bot, .bot, .bot, .bot, .bot, .bot, .bot, .bot, .bot, .bot, .bot, .bot, .bot, .bot, .bot, .bot, .bot, .bot, .bot, .bot, .bot, .bot, .bot, .bot, .bot, .bot, .bot, .bot, .bot, .bot, .bot, .bot, .bot, .bot], [some ⟨none, 24, 2, [.g [I 0, .v (.slice none 0 0)]]⟩, some ⟨none, 3, 1, intsA (oldN N to z)⟩]⟩)
        (fun z => z ≤ N) (fun z => N - z) 0 (le_sl (by simp [leSl])) (Nat.zero_le _) ?_
      intro z hz
      refine awp_sound (own := []) _ _ _ _ _ ?_
      simp only [w_move, w_load, w_fieldAddr, w_binOp, w_aop, w_some, w_asome, w_nil, w_cons, awp, binC, cmpC, asP, asB, asI, loadA, St.ev, St.step, setS, killS, AV.kill, AV.killL, Mem.kill, AV.cells, AV.flat, AV.single, ACond_false, List.getD_cons_succ, List.getD_cons_zero, List.set_cons_succ, List.set_cons_zero, List.getElem?_cons_zero, List.length_cons, List.length_nil, List.contains_nil, List.isEmpty_nil, Bool.false_eq_true, if_false, if_true, true_and, and_true, List.all_cons, List.all_nil, Bool.and_true, Bool.true_and, Bool.not_true, Nat.zero_add, Nat.add_zero, beq_self_eq_true, decide_true, nbeq, decide_false, Bool.and_false, Nat.reduceAdd, Nat.reduceEqDiff, Nat.reduceLeDiff, Int.reduceAdd, ne_eq, not_false_eq_true, ti3, ti24]
      by_cases h : z < N
      · have h' : (z : Int) < (N : Int) := by omega
        have hzt : z < to.length := by omega
        have hr := hto2 z hzt
        have hzo : (to[z]).toNat < (oldN N to z).length := by rw [oldN_len, getD_to hzt]; omega
        have hset : (intsA (oldN N to z)).set (to[z]).toNat (I z) = intsA (oldN N to (z + 1)) := by
          rw [getD_to hzt]
          simp [intsA, oldN]
        rw [← getD_to hzt] at hr
        simp only [w_move, w_assign, w_load, w_store, w_indexAddr, w_binOp, w_aop, w_some, w_asome, w_anone, w_nil, w_cons, awp, binC, idxC, arithC, cmpC, asP, asQ, asO, asS, asI, asN, obA, loadA, storeA, putsA, St.ev, St.step, setS, killS, AV.kill, AV.killL, Mem.kill, AV.cells, AV.flat, AV.single, AV.cellular, ACond_true, ACond_false, Value.oneCell', List.getD_cons_succ, List.getD_cons_zero, List.set_cons_succ, List.set_cons_zero, List.getElem?_cons_succ, List.getElem?_cons_zero, List.length_cons, List.head?_cons, List.length_nil, List.contains_nil, List.isEmpty_nil, Option.getD_some, Bool.false_eq_true, if_false, if_true, true_and, and_true, List.all_cons, List.all_nil, Bool.and_true, Bool.true_and, Bool.not_true, Nat.zero_add, beq_self_eq_true, decide_true, Nat.reduceAdd, Nat.reduceLeDiff, Int.reduceAdd, ti3, ti25, decide_eq_true h', aget_ints hzt, Int.toNat_natCast, intsA_len, oldN_len, aget_ints hzo, hset]
        exact ⟨by omega, ⟨by omega, by omega⟩, by unfold lim; omega, z + 1, le_sl (by simp [leSl]), h, by omega⟩
      · have h' : ¬ (z : Int) < (N : Int) := by omega
        have hze : z = N := by omega
        subst hze
        simp only [w_assign, w_alloc, w_load, w_store, w_fieldAddr, w_build, w_aop, w_some, w_asome, w_anone, w_nil, w_cons, awp, asP, asQ, asN, obA, AGet_zero, loadA, storeA, fillA, putsA, mkA, Aw.newRow, St.ev, St.step, setS, killS, AV.kill, AV.killL, Mem.kill, AV.cells, AV.flat, AV.single, AV.cellular, ACond_false, Value.oneCell', List.getD_cons_succ, List.getD_cons_zero, List.set_cons_succ, List.set_cons_zero, List.getElem?_cons_succ, List.getElem?_cons_zero, List.length_cons, List.length_nil, List.cons_append, List.nil_append, List.contains_nil, List.isEmpty_nil, Option.getD_some, Bool.false_eq_true, if_false, if_true, true_and, and_true, List.all_cons, List.all_nil, Bool.and_true, Bool.true_and, Bool.not_true, Nat.zero_add, Nat.add_zero, beq_self_eq_true, List.map_cons, List.map_nil, decide_true, nbeq, decide_false, Bool.or_false, Bool.and_false, Nat.reduceAdd, Nat.reduceEqDiff, Nat.reduceLeDiff, Int.reduceAdd, ne_eq, not_false_eq_true, ti3, ti24, decide_eq_false h']
        obtain ⟨old, hold⟩ : ∃ old, old = oldN z to z := ⟨_, rfl⟩
        have hol : old.length = z := by rw [hold, oldN_len]
        rw [← hold]
        refine swp_loop' (fun a : Nat => ⟨[.bot, .bot, .p (.g [I z, .s 2 (prsA ls)]) 0, .bot, .q 0 2 0 0, .bot, .bot, .o 1, .bot, .q 2 2 0 0, I a, .bot, .bot, .bot, .bot, .bot, .bot, .bot, .bot, .bot, .bot, .bot, .bot, .bot, .bot, .bot, .bot, .bot, .bot, .bot, .bot, .bot, .bot, .bot, .bot, .bot, .bot, .bot, .bot, .bot, .bot, .bot, .bot, .bot, .bot, .bot, .bot, .bot, .bot, .bot, .bot, .bot, .bot, .bot, .bot, .bot, .bot, .bot, .bot, .bot, .bot, .bot, .bot, .bot, .bot, .bot, .bot, .bot, .bot, .bot, .bot, .bot, .bot, .bot, .bot, .bot], [some ⟨none, 24, 2, [.g [I 0, .v (.slice none 0 0)]]⟩, some ⟨none, 3, 1, intsA old⟩, some ⟨none, 24, 2, [.g [I z, .o 3]]⟩, some ⟨none, 57, 2, prsA (acK old ls z a)⟩]⟩)
          (fun a => a ≤ z) (fun a => z - a) 0 ?_ (Nat.zero_le _) ?_
        · exact Le.trans (le_nil 2 0 1 57 2 rfl rfl rfl rfl) (le_sl (by simp [leSl]))
        intro a ha
        refine awp_sound (own := []) _ _ _ _ _ ?_
        simp only [w_move, w_load, w_fieldAddr, w_binOp, w_aop, w_some, w_asome, w_nil, w_cons, awp, binC, cmpC, asP, asB, asI, loadA, St.ev, St.step, setS, killS, AV.kill, AV.killL, Mem.kill, AV.cells, AV.flat, AV.single, ACond_false, List.getD_cons_succ, List.getD_cons_zero, List.set_cons_succ, List.set_cons_zero, List.getElem?_cons_zero, List.length_cons, List.length_nil, List.contains_nil, List.isEmpty_nil, Bool.false_eq_true, if_false, if_true, true_and, and_true, List.all_cons, List.all_nil, Bool.and_true, Bool.true_and, Bool.not_true, Nat.zero_add, Nat.add_zero, beq_self_eq_true, decide_true, nbeq, decide_false, Bool.and_false, Nat.reduceAdd, Nat.reduceEqDiff, Nat.reduceLeDiff, Int.reduceAdd, ne_eq, not_false_eq_true, ti3, ti24]
        have hal := acK_len old ls z a
        have hal2 : a * z ≤ 36 := Nat.le_trans (Nat.mul_le_mul (show a ≤ 6 by omega) (show z ≤ 6 by omega)) (Nat.le_refl _)
        by_cases haz : a < z
        · have haz' : (a : Int) < (z : Int) := by omega
          simp only [w_move, w_assign, w_binOp, w_aop, w_some, w_asome, w_anone, w_nil, w_cons, awp, binC, arithC, cmpC, asI, asN, St.ev, St.step, setS, killS, AV.kill, AV.killL, Mem.kill, ACond_true, ACond_false, List.getD_cons_succ, List.getD_cons_zero, List.set_cons_succ, List.set_cons_zero, List.contains_nil, List.isEmpty_nil, Option.getD_some, Bool.false_eq_true, if_false, if_true, true_and, and_true, Bool.and_true, Bool.true_and, Nat.reduceAdd, Int.reduceAdd, decide_eq_true haz']
          refine ⟨by unfold lim; omega, ?_⟩
          refine swp_loop' (fun b : Nat => ⟨[.bot, .bot, .p (.g [I z, .s 2 (prsA ls)]) 0, .bot, .q 0 2 0 0, .bot, .bot, .o 1, .bot, .q 2 2 0 0, I a, I b, .bot, .bot, .bot, .bot, .bot, .bot, .bot, .bot, .bot, .bot, .bot, .bot, .bot, .bot, .bot, .bot, .bot, .bot, .bot, .bot, .bot, .bot, .bot, .bot, .bot, .bot, .bot, .bot, .bot, .bot, .bot, .bot, .bot, .bot, .bot, .bot, .bot, .bot, .bot, .bot, .bot, .bot, .bot, .bot, .bot, .bot, .bot, .bot, .bot, .bot, .bot, .bot, .bot, .bot, .bot, .bot, .bot, .bot, .bot, .bot, .bot, .bot, .bot, .bot], [some ⟨none, 24, 2, [.g [I 0, .v (.slice none 0 0)]]⟩, some ⟨none, 3, 1, intsA old⟩, some ⟨none, 24, 2, [.g [I z, .o 3]]⟩, some ⟨none, 57, 2, prsA (acK old ls z a ++ rwK old ls a b)⟩]⟩)
            (fun b => a + 1 ≤ b ∧ b ≤ z) (fun b => z - b) (a + 1) ?_ ⟨Nat.le_refl _, haz⟩ ?_
          · rw [rwK_start, List.append_nil]
            exact le_sl (by simp [leSl])
          rintro b ⟨hab, hbz⟩
          refine awp_sound (own := []) _ _ _ _ _ ?_
          simp only [w_move, w_load, w_fieldAddr, w_binOp, w_aop, w_some, w_asome, w_nil, w_cons, awp, binC, cmpC, asP, asB, asI, loadA, St.ev, St.step, setS, killS, AV.kill, AV.killL, Mem.kill, AV.cells, AV.flat, AV.single, ACond_false, List.getD_cons_succ, List.getD_cons_zero, List.set_cons_succ, List.set_cons_zero, List.getElem?_cons_zero, List.length_cons, List.length_nil, List.contains_nil, List.isEmpty_nil, Bool.false_eq_true, if_false, if_true, true_and, and_true, List.all_cons, List.all_nil, Bool.and_true, Bool.true_and, Bool.not_true, Nat.zero_add, Nat.add_zero, beq_self_eq_true, decide_true, nbeq, decide_false, Bool.and_false, Nat.reduceAdd, Nat.reduceEqDiff, Nat.reduceLeDiff, Int.reduceAdd, ne_eq, not_false_eq_true, ti3, ti24]
          by_cases hb2 : b < z
          · have hb2' : (b : Int) < (z : Int) := by omega
            have hao : a < old.length := by omega
            have hbo : b < old.length := by omega
            simp only [awp, ACond_true, decide_eq_true hb2']
            refine swp_draw (own := []) (.take 0 .reads [] (.take 1 .plain [] (.take 2 .plain [] (.take 3 .reads [] (.take 4 .reads [] (.take 5 .plain [] (.take 6 .plain [] (.take 7 .reads [] (.take 8 .reads [] (.alt 9 (.done) (.nil))))))))))) [⟨58, 4, 0, 0, true⟩, ⟨59, 128, 0, 0, true⟩, ⟨60, 1024, 0, 0, true⟩, ⟨61, 864691128455135232, 6, 0, true⟩, ⟨62, 1152921504606846976, 8, 0, true⟩, ⟨63, 128, 0, 0, true⟩, ⟨64, 2048, 0, 0, true⟩, ⟨65, 13835058055282163712, 96, 0, true⟩, ⟨66, 18446744073709551616, 128, 0, true⟩, ⟨67, 39343446344708653056, 273, 0, false⟩] mo (by kernel_rfl) ?_
            simp only [w_move, w_load, w_indexAddr, w_callF, w_aop, w_take, w_some, w_asome, w_anone, idxC, asP, asQ, asO, asS, asI, obA, loadA, St.ev, setS, AV.cells, AV.flat, AV.single, List.getD_cons_succ, List.getD_cons_zero, List.set_cons_succ, List.set_cons_zero, List.getElem?_cons_succ, List.getElem?_cons_zero, List.length_cons, List.length_nil, Bool.false_eq_true, if_false, if_true, true_and, and_true, List.all_cons, List.all_nil, Bool.and_true, Bool.true_and, Bool.not_true, Nat.zero_add, beq_self_eq_true, List.map_cons, List.map_nil, decide_true, Nat.reduceAdd, Nat.reduceLeDiff, Int.reduceAdd, ASch, St.put, Md.mem, Md.need, ti3, ti24, ti25, aget_ints hao, aget_ints hbo, Int.toNat_natCast, intsA_len, hol]
            refine ⟨⟨by omega, by omega⟩, ⟨by omega, by omega⟩, ?_⟩
            refine acall_v (s73 z ls old[a] old[b] (by omega)) rfl rfl ?_
            have hsu := rwK_succ old ls hab
            rw [← getD_to hao, ← getD_to hbo] at hsu
            have hrl := rwK_len old ls a b
            cases hk : lnk ls old[a] old[b] with
            | true =>
              rw [hk, if_pos rfl] at hsu
              have hap : prsA (acK old ls z a ++ rwK old ls a b) ++ [AV.g [I a, I b]] = prsA (acK old ls z a ++ rwK old ls a (b + 1)) := by
                rw [hsu, ← List.append_assoc]
                simp [prsA, prA]
              simp only [w_move, w_assign, w_load, w_store, w_fieldAddr, w_binOp, w_build, w_buildSlice, w_append, w_aop, w_some, w_asome, w_anone, w_nil, w_cons, awp, binC, arithC, cmpC, asP, asQ, asO, asS, asB, asI, asN, obA, AGet_zero, loadA, storeA, fillA, putsA, St.ev, St.step, setS, killS, AV.kill, AV.killL, Mem.kill, AV.cells, AV.flat, AV.single, AV.cellular, AV.size, AV.sizeL, AV.pure, AV.pureL, ACond_true, ACond_false, Value.oneCell', List.getD_cons_succ, List.getD_cons_zero, List.set_cons_succ, List.set_cons_zero, List.getElem?_cons_succ, List.getElem?_cons_zero, List.length_cons, List.length_nil, List.contains_nil, List.contains_cons, List.isEmpty_nil, List.isEmpty_cons, Option.getD_some, Bool.false_eq_true, if_false, if_true, true_and, and_true, List.all_cons, List.all_nil, Bool.and_true, Bool.true_and, Bool.not_true, Nat.zero_add, Nat.add_zero, beq_self_eq_true, List.map_cons, List.map_nil, decide_true, nbeq, decide_false, Bool.or_false, Bool.and_false, List.length_append, Nat.reduceAdd, Nat.reduceEqDiff, Nat.reduceMul, Nat.reduceLeDiff, Int.reduceAdd, Int.reduceMul, ASch, ne_eq, not_false_eq_true, Option.map_some, ti22, ti24, ti57, prsA_kill, intsA_kill, hap, prsA_len, List.length_append]
              exact ⟨⟨by decide, rfl⟩, ⟨by decide, by omega⟩, by unfold lim; omega, b + 1, le_sl (by simp [leSl]), ⟨by omega, hb2⟩, by omega⟩
            | false =>
              rw [hk, if_neg (by simp), List.append_nil] at hsu
              simp only [w_move, w_assign, w_binOp, w_aop, w_some, w_asome, w_anone, w_nil, w_cons, awp, binC, arithC, cmpC, asB, asI, asN, St.ev, St.step, setS, killS, AV.kill, AV.killL, Mem.kill, ACond_false, List.getD_cons_succ, List.getD_cons_zero, List.set_cons_succ, List.set_cons_zero, List.contains_nil, List.isEmpty_nil, Option.getD_some, Bool.false_eq_true, if_false, if_true, true_and, and_true, Bool.and_true, Bool.true_and, Nat.reduceAdd, Int.reduceAdd, ASch]
              exact ⟨by unfold lim; omega, b + 1, by rw [hsu]; exact le_sl (by simp [leSl]), ⟨by omega, hb2⟩, by omega⟩
          · have hb2' : ¬ (b : Int) < (z : Int) := by omega
            have hbe : b = z := by omega
            subst hbe
            simp only [w_move, w_assign, w_load, w_store, w_binOp, w_aop, w_some, w_asome, w_anone, w_nil, w_cons, awp, binC, arithC, cmpC, asP, asQ, asI, asN, obA, AGet_zero, loadA, storeA, putsA, St.ev, St.step, setS, killS, AV.kill, AV.killL, Mem.kill, AV.cells, AV.flat, AV.single, AV.cellular, ACond_false, List.getD_cons_succ, List.getD_cons_zero, List.set_cons_succ, List.set_cons_zero, List.getElem?_cons_succ, List.getElem?_cons_zero, List.length_cons, List.length_nil, List.contains_nil, List.isEmpty_nil, Option.getD_some, Bool.false_eq_true, if_false, if_true, true_and, and_true, List.all_cons, List.all_nil, Bool.and_true, Bool.true_and, Bool.not_true, Nat.zero_add, beq_self_eq_true, decide_true, Nat.reduceAdd, Nat.reduceEqDiff, Nat.reduceLeDiff, Int.reduceAdd, ti24, decide_eq_false hb2']
            exact ⟨by unfold lim; omega, a + 1, by rw [acK_succ]; exact le_sl (by simp [leSl]), haz, by omega⟩
        · have haz' : ¬ (a : Int) < (z : Int) := by omega
          have hae : a = z := by omega
          subst hae
          simp only [w_assign, w_load, w_store, w_aop, w_some, w_anone, w_nil, w_cons, awp, asP, asQ, asN, obA, AGet_zero, loadA, storeA, putsA, St.ev, St.step, setS, killS, AV.kill, AV.killL, Mem.kill, AV.cells, AV.flat, AV.single, AV.cellular, ACond_false, List.getD_cons_succ, List.getD_cons_zero, List.set_cons_succ, List.set_cons_zero, List.getElem?_cons_succ, List.getElem?_cons_zero, List.length_cons, List.length_nil, List.contains_nil, List.isEmpty_nil, Option.getD_some, Bool.false_eq_true, if_false, if_true, true_and, and_true, List.all_cons, List.all_nil, Bool.and_true, Bool.true_and, Bool.not_true, Nat.zero_add, beq_self_eq_true, decide_true, Nat.reduceAdd, Nat.reduceLeDiff, Int.reduceAdd, ti24, decide_eq_false haz']
          refine aend_frz (x := .t [.g [I a, .o 3], I 0]) ?_ ⟨by rw [e]; simp [frz, AV.sub, AV.subL, trapA, prsA_pure, renA, hold], rfl⟩
          show resA Try.prog [.cell 4 24, .tmp 5] _ = _
          simp [resA, resL, resOne, ti24, loadA, AV.flat, AV.cells, AV.single]
    | false =>
      simp only [w_assign, w_store, w_not, w_build, w_aop, w_some, w_anone, w_nil, w_cons, awp, asQ, asB, asN, obA, AGet_zero, storeA, fillA, putsA, St.ev, St.step, setS, killS, AV.kill, AV.killL, Mem.kill, AV.cells, AV.flat, AV.single, AV.cellular, ACond_true, ACond_false, List.getD_cons_succ, List.getD_cons_zero, List.set_cons_succ, List.set_cons_zero, List.getElem?_cons_zero, List.length_cons, List.length_nil, List.contains_nil, List.isEmpty_nil, Option.getD_some, Bool.false_eq_true, if_false, if_true, true_and, and_true, List.all_cons, List.all_nil, Bool.and_true, Bool.true_and, Bool.not_false, Nat.zero_add, beq_self_eq_true, List.map_cons, List.map_nil, decide_true, Nat.reduceAdd, Nat.reduceLeDiff, Int.reduceAdd, ti24]
      have e : rfE n ls to = 1 := by
        unfold rfE
        rw [if_pos hv, hb]
        rfl
      refine aend_frz (x := .t [.g [I 0, .v (.slice none 0 0)], I 1]) ?_ ⟨by rw [e]; simp [frz, AV.sub, AV.subL, renA], rfl⟩
      show resA Try.prog [.cell 4 24, .tmp 5] _ = _
      simp [resA, resL, resOne, ti24, loadA, AV.flat, AV.cells, AV.single]
  · simp only [w_move, w_assign, w_store, w_build, w_aop, w_some, w_anone, w_nil, w_cons, awp, asQ, asN, obA, AGet_zero, storeA, fillA, putsA, St.ev, St.step, setS, killS, AV.kill, AV.killL, Mem.kill, AV.cells, AV.flat, AV.single, AV.cellular, ACond_true, ACond_false, List.getD_cons_succ, List.getD_cons_zero, List.set_cons_succ, List.set_cons_zero, List.getElem?_cons_zero, List.length_cons, List.length_nil, List.contains_nil, List.isEmpty_nil, Option.getD_some, Bool.false_eq_true, if_false, if_true, true_and, and_true, List.all_cons, List.all_nil, Bool.and_true, Bool.true_and, Bool.not_false, Nat.zero_add, beq_self_eq_true, List.map_cons, List.map_nil, decide_true, Nat.reduceAdd, Nat.reduceLeDiff, Int.reduceAdd, ti24, decide_eq_false hv]
    have e : rfE n ls to = vT n ls := by unfold rfE; rw [if_neg hv]
    refine aend_frz (x := .t [.g [I 0, .v (.slice none 0 0)], I (vT n ls)]) ?_ ⟨by rw [e]; simp [frz, AV.sub, AV.subL, renA, hv], rfl⟩
    show resA Try.prog [.cell 4 24, .tmp 5] _ = _
    simp [resA, resL, resOne, ti24, loadA, AV.flat, AV.cells, AV.single]
end Go.Proofs.Ytkolpijhgcijbaa

namespace Go.Proofs.Ytkolpijhgcijbaa
open Aw

theorem nodup_at {α : Type} {L : List α} (h : L.Nodup) {a b : Nat} (ha : a < L.length) (hb : b < L.length) (e : L[a] = L[b]) : a = b := by
  have hp := List.pairwise_iff_getElem.1 h
  rcases Nat.lt_trichotomy a b with h1 | h1 | h1
  · exact (hp a b ha hb h1 e).elim
  · exact h1
  · exact (hp b a hb ha h1 e.symm).elim
structure Rn (n : Int) (ls ms : List (Int × Int)) (f : Int → Int) : Prop where
  rng : ∀ x, 0 ≤ x → x < n → 0 ≤ f x ∧ f x < n
  inj : ∀ x y, 0 ≤ x → x < n → 0 ≤ y → y < n → f x = f y → x = y
  sur : ∀ w, 0 ≤ w → w < n → ∃ z, 0 ≤ z ∧ z < n ∧ f z = w
  lk : ∀ x y, 0 ≤ x → x < n → 0 ≤ y → y < n → lnk ms (f x) (f y) = lnk ls x y

theorem refu_zero {n : Int} {ls : List (Int × Int)} {p : List Int} {m : Int × Int} : refu n ls p m = 0 ↔ (0 ≤ m.1 ∧ m.1 < p.length ∧ 0 ≤ m.2 ∧ m.2 < n) ∧ lnk ls (p.getD m.1.toNat 0) m.2 = true ∧ m.2 ∉ p := by
  unfold refu memL
  split
  · rename_i h
    constructor
    · intro e; cases e
    · rintro ⟨h1, _⟩; omega
  · rename_i h
    split
    · rename_i h2
      constructor
      · intro e; cases e
      · rintro ⟨_, h3, _⟩; rw [h2] at h3; cases h3
    · rename_i h2
      split
      · rename_i h3
        constructor
        · intro e; cases e
        · rintro ⟨_, _, h4⟩; exact (h4 (of_decide_eq_true h3)).elim
      · rename_i h3
        exact ⟨fun _ => ⟨by omega, by simpa using h2, by simpa using h3⟩, fun _ => rfl⟩
section
variable {n : Int} {ls ms : List (Int × Int)} {f : Int → Int} (r : Rn n ls ms f)
include r
theorem mem_rn {p : List Int} (hp : ∀ x ∈ p, 0 ≤ x ∧ x < n) {z : Int} (h0 : 0 ≤ z) (hn : z < n) : f z ∈ p.map f ↔ z ∈ p := by
  rw [List.mem_map]
  constructor
  · rintro ⟨y, hy, e⟩
    have := r.inj y z (hp y hy).1 (hp y hy).2 h0 hn e
    rwa [← this]
  · exact fun h => ⟨z, h, rfl⟩
theorem refu_rn {p : List Int} (hp : ∀ x ∈ p, 0 ≤ x ∧ x < n) (i z : Int) (h0 : 0 ≤ z) (hn : z < n) : refu n ms (p.map f) (i, f z) = 0 ↔ refu n ls p (i, z) = 0 := by
  rw [refu_zero, refu_zero]
  simp only [List.length_map]
  have hz := r.rng z h0 hn
  rw [mem_rn r hp h0 hn]
  by_cases hi : 0 ≤ i ∧ i < p.length
  · have hlt : i.toNat < p.length := by omega
    have e1 : (p.map f).getD i.toNat 0 = f p[i.toNat] := by
      rw [List.getD_eq_getElem?_getD, List.getElem?_map, List.getElem?_eq_getElem hlt]; rfl
    have e2 : p.getD i.toNat 0 = p[i.toNat] := by
      rw [List.getD_eq_getElem?_getD, List.getElem?_eq_getElem hlt]; rfl
    have hx := hp _ (List.getElem_mem hlt)
    rw [e1, e2, r.lk _ _ hx.1 hx.2 h0 hn]
    constructor <;> rintro ⟨⟨_, _, _, _⟩, h5, h6⟩
    · exact ⟨⟨hi.1, hi.2, h0, hn⟩, h5, h6⟩
    · exact ⟨⟨hi.1, hi.2, hz.1, hz.2⟩, h5, h6⟩
  · constructor <;> rintro ⟨⟨h1, h2, _⟩, _⟩ <;> exact (hi ⟨h1, h2⟩).elim
omit r in
theorem nxt_rn (f : Int → Int) (p : List Int) (i z : Int) : nxt (p.map f) (i, f z) = (nxt p (i, z)).map f := by
  unfold nxt
  rw [List.map_set]
omit r in
theorem rng_of {l : List Int} (h : vTP n ls l = 0) : ∀ x ∈ l, 0 ≤ x ∧ x < n := (vTP_ok h).1.2
theorem way_fwd : ∀ (d : Nat) {p q : List Int}, vTP n ls p = 0 → Way n ls d p q → Way n ms d (p.map f) (q.map f)
  | 0, p, q, _, h => by
    show p.map f = q.map f
    rw [show p = q from h]
  | d + 1, p, q, hv, ⟨q', m, h1, h2, h3⟩ => by
    have hq := Way.V d hv h1
    have hm := (refu_zero.1 h2).1
    refine ⟨q'.map f, (m.1, f m.2), way_fwd d hv h1, (refu_rn r (rng_of hq) m.1 m.2 hm.2.2.1 hm.2.2.2).2 h2, ?_⟩
    rw [h3, nxt_rn]
theorem way_bwd : ∀ (d : Nat) {p q' : List Int}, vTP n ls p = 0 → Way n ms d (p.map f) q' → ∃ q, q' = q.map f ∧ Way n ls d p q
  | 0, p, q', _, h => ⟨p, (show p.map f = q' from h).symm, rfl⟩
  | d + 1, p, q', hv, ⟨q1, m, h1, h2, h3⟩ => by
    obtain ⟨q, rfl, h4⟩ := way_bwd d hv h1
    have hq := Way.V d hv h4
    have hm := (refu_zero.1 h2).1
    obtain ⟨z, z0, zn, e⟩ := r.sur m.2 hm.2.2.1 hm.2.2.2
    have h5 : refu n ms (q.map f) (m.1, f z) = 0 := by rw [e]; exact h2
    refine ⟨nxt q (m.1, z), ?_, q, (m.1, z), h4, (refu_rn r (rng_of hq) m.1 z z0 zn).1 h5, rfl⟩
    rw [h3, ← nxt_rn, e]
theorem map_inj {p q : List Int} (hp : ∀ x ∈ p, 0 ≤ x ∧ x < n) (hq : ∀ x ∈ q, 0 ≤ x ∧ x < n) (h : p.map f = q.map f) : p = q := by
  have hl : p.length = q.length := by simpa using congrArg List.length h
  refine List.ext_getElem hl fun j h1 h2 => ?_
  have := congrArg (fun l : List Int => l[j]?) h
  simp only [List.getElem?_map, List.getElem?_eq_getElem h1, List.getElem?_eq_getElem h2, Option.map_some, Option.some.injEq] at this
  exact r.inj _ _ (hp _ (List.getElem_mem h1)).1 (hp _ (List.getElem_mem h1)).2 (hq _ (List.getElem_mem h2)).1 (hq _ (List.getElem_mem h2)).2 this
theorem rn_core {l : List Int} {R S : List Nd} (hv : vTP n ls l = 0) {k k' : Nat} (i1 : InvN n k R) (i2 : InvN n k' S) (a1 : ∀ x ∈ R, ∃ d : Nat, x.far = d ∧ Way n ls d l x.pl) (a2 : ∀ x ∈ S, ∃ d : Nat, x.far = d ∧ Way n ms d (l.map f) x.pl)
    (b1 : ∀ (d : Nat) (q : List Int), Way n ls d l q → ∃ x ∈ R, x.pl = q ∧ x.far ≤ d) (b2 : ∀ (d : Nat) (q : List Int), Way n ms d (l.map f) q → ∃ x ∈ S, x.pl = q ∧ x.far ≤ d) : S.length = R.length ∧ mxR S = mxR R := by
  -- each place of the one list has its fellow in the other
  have c1 : ∀ x ∈ R, ∃ y ∈ S, y.pl = x.pl.map f ∧ y.far ≤ x.far := fun x hx => by
    obtain ⟨d, e, hw⟩ := a1 x hx
    obtain ⟨y, hy, e1, e2⟩ := b2 d _ (way_fwd r d hv hw)
    exact ⟨y, hy, e1, by omega⟩
  have c2 : ∀ y ∈ S, ∃ x ∈ R, y.pl = x.pl.map f ∧ x.far ≤ y.far := fun y hy => by
    obtain ⟨d, e, hw⟩ := a2 y hy
    obtain ⟨q, e1, hw'⟩ := way_bwd r d hv hw
    obtain ⟨x, hx, e2, e3⟩ := b1 d _ hw'
    exact ⟨x, hx, by rw [e1, e2], by omega⟩
  have hR : ∀ x ∈ R, ∀ z ∈ x.pl, 0 ≤ z ∧ z < n := fun x hx => (i1.pl x hx).2
  have hnd : ((pls R).map (List.map f)).Nodup := by
    unfold List.Nodup
    rw [List.pairwise_map]
    refine List.Pairwise.imp_of_mem (fun {a b} ha hb hne e => ?_) i1.nd
    obtain ⟨x, hx, rfl⟩ := List.mem_map.1 ha
    obtain ⟨y, hy, rfl⟩ := List.mem_map.1 hb
    exact hne (map_inj r (hR x hx) (hR y hy) e)
  constructor
  · apply Nat.le_antisymm
    · have := nodup_sub (pls S) ((pls R).map (List.map f)) i2.nd fun p hp => by
        obtain ⟨y, hy, rfl⟩ := List.mem_map.1 hp
        obtain ⟨x, hx, e, _⟩ := c2 y hy
        rw [e]
        exact List.mem_map.2 ⟨_, List.mem_map.2 ⟨x, hx, rfl⟩, rfl⟩
      simpa [pls] using this
    · have := nodup_sub ((pls R).map (List.map f)) (pls S) hnd fun p hp => by
        obtain ⟨q, hq, rfl⟩ := List.mem_map.1 hp
        obtain ⟨x, hx, rfl⟩ := List.mem_map.1 hq
        obtain ⟨y, hy, e, _⟩ := c1 x hx
        rw [← e]
        exact List.mem_map.2 ⟨y, hy, rfl⟩
      simpa [pls] using this
  · obtain ⟨m1, m2, m3⟩ := mxR_spec i1
    obtain ⟨k1, k2, k3⟩ := mxR_spec i2
    apply Int.le_antisymm
    · rcases k3 with k3 | ⟨y, hy, e⟩
      · omega
      · obtain ⟨x, hx, e1, e2⟩ := c2 y hy
        obtain ⟨y', hy', e3, e4⟩ := c1 x hx
        have hyy : y' = y := by
          have hp : y'.pl = y.pl := by rw [e3, e1]
          obtain ⟨a, ha, rfl⟩ := List.mem_iff_getElem.1 hy
          obtain ⟨b, hb, rfl⟩ := List.mem_iff_getElem.1 hy'
          have hab : b = a := by
            have hnd2 := i2.nd
            unfold pls at hnd2
            exact nodup_at hnd2 (by simpa using hb) (by simpa using ha) (by simpa using hp)
          subst hab
          rfl
        subst hyy
        have := m2 x hx
        omega
    · rcases m3 with m3 | ⟨x, hx, e⟩
      · omega
      · obtain ⟨y, hy, e1, e2⟩ := c1 x hx
        obtain ⟨x', hx', e3, e4⟩ := c2 y hy
        have hxx : x' = x := by
          have hp : x'.pl = x.pl := map_inj r (hR x' hx') (hR x hx) (by rw [← e3, e1])
          obtain ⟨a, ha, rfl⟩ := List.mem_iff_getElem.1 hx
          obtain ⟨b, hb, rfl⟩ := List.mem_iff_getElem.1 hx'
          have hab : b = a := by
            have hnd2 := i1.nd
            unfold pls at hnd2
            exact nodup_at hnd2 (by simpa using hb) (by simpa using ha) (by simpa using hp)
          subst hab
          rfl
        subst hxx
        have := k2 y hy
        omega
theorem rn_rch {l : List Int} (hv : vTP n ls l = 0) (hv' : vTP n ms (l.map f) = 0) : (rch n ms (l.map f)).length = (rch n ls l).length ∧ mxR (rch n ms (l.map f)) = mxR (rch n ls l) :=
  rn_core r hv (rch_inv (ls := ls) (vTP_ok hv).2.2 (vTP_ok hv).1) (rch_inv (ls := ms) (vTP_ok hv').2.2 (vTP_ok hv').1) way_rch way_rch (fun d _ => rch_way hv d) (fun d _ => rch_way hv' d)
end
end Go.Proofs.Ytkolpijhgcijbaa

namespace Go.Proofs.Ytkolpijhgcijbaa
open Aw Go.Sort Go.Lib

def zL (N : Nat) : List Int := (List.range N).map fun k : Nat => (k : Int)
theorem zL_nd (N : Nat) : (zL N).Nodup := by
  unfold zL List.Nodup
  rw [List.pairwise_map]
  exact List.Pairwise.imp (fun h e => h (by omega)) List.nodup_range
theorem zL_mem {N : Nat} {x : Int} : x ∈ zL N ↔ 0 ≤ x ∧ x < N := by
  unfold zL
  rw [List.mem_map]
  constructor
  · rintro ⟨k, hk, rfl⟩
    have := List.mem_range.1 hk
    omega
  · intro h
    exact ⟨x.toNat, List.mem_range.2 (by omega), by omega⟩
theorem zL_len (N : Nat) : (zL N).length = N := by simp [zL]
theorem sub_full {l E : List Int} (h : l.Nodup) (hs : ∀ x ∈ l, x ∈ E) (hl : l.length = E.length) : ∀ y ∈ E, y ∈ l := by
  intro y hy
  refine Decidable.byContradiction fun hn => ?_
  have := nodup_sub (y :: l) E (List.nodup_cons.2 ⟨hn, h⟩) fun x hx => by
    rcases List.mem_cons.1 hx with rfl | hx
    · exact hy
    · exact hs x hx
  simp at this
  omega
theorem full_nd {l E : List Int} (h : E.Nodup) (hs : ∀ x ∈ E, x ∈ l) (hl : l.length = E.length) : l.Nodup := by
  unfold List.Nodup
  rw [List.pairwise_iff_getElem]
  intro i j hi hj hij e
  have := nodup_sub E (l.eraseIdx j) h fun x hx => by
    obtain ⟨k, hk, rfl⟩ := List.mem_iff_getElem.1 (hs x hx)
    by_cases hkj : k = j
    · subst hkj
      rw [List.mem_eraseIdx_iff_getElem]
      exact ⟨i, hi, by omega, e⟩
    · rw [List.mem_eraseIdx_iff_getElem]
      exact ⟨k, hk, hkj, rfl⟩
  rw [List.length_eraseIdx, if_pos hj] at this
  omega
/-- a renumbering. -/
structure Ord (to : List Int) (N : Nat) : Prop where
  len : to.length = N
  nd : to.Nodup
  rg : ∀ x ∈ to, 0 ≤ x ∧ x < N
  fu : ∀ x : Int, 0 ≤ x → x < N → x ∈ to
theorem ord_of {to : List Int} {N : Nat} (h : ordB to N = true) : Ord to N := by
  unfold ordB at h
  rw [Bool.and_eq_true, decide_eq_true_eq, List.all_eq_true] at h
  have hl : to.length = N := by omega
  have hs : ∀ x ∈ zL N, x ∈ to := fun x hx => by
    have h1 := zL_mem.1 hx
    have := h.2 x.toNat (List.mem_range.2 (by omega))
    unfold memL at this
    rw [decide_eq_true_eq, show ((x.toNat : Nat) : Int) = x by omega] at this
    exact this
  have hn := full_nd (zL_nd N) hs (by rw [zL_len]; exact hl)
  have h2 := sub_full (zL_nd N) hs (by rw [zL_len, hl])
  exact ⟨hl, hn, fun x hx => zL_mem.1 (h2 x hx), fun x h0 h1 => hs x (zL_mem.2 ⟨h0, h1⟩)⟩
theorem iso_ord {to : List Int} {N : Nat} (h : isoB to N = true) : Ord to N := by
  unfold isoB at h
  rw [Bool.and_eq_true, decide_eq_true_eq] at h
  have hl : to.length = N := by omega
  have hk := fun j hj => isoN_ok h.2 j hj
  have hn : to.Nodup := by
    unfold List.Nodup
    rw [List.pairwise_iff_getElem]
    intro i j hi hj hij e
    have := (hk j hj).2.2
    rw [← getD_to hj] at this
    exact this (by rw [← e]; exact List.mem_take_iff_getElem.2 ⟨i, by omega, rfl⟩)
  have hr : ∀ x ∈ to, 0 ≤ x ∧ x < N := fun x hx => by
    obtain ⟨j, hj, rfl⟩ := List.mem_iff_getElem.1 hx
    have := hk j hj
    rw [← getD_to hj] at this
    exact ⟨this.1, this.2.1⟩
  have h2 := sub_full hn (E := zL N) (fun x hx => zL_mem.2 (hr x hx)) (by rw [zL_len, hl])
  exact ⟨hl, hn, hr, fun x h0 h1 => h2 x (zL_mem.2 ⟨h0, h1⟩)⟩
theorem ord_ordB {to : List Int} {N : Nat} (h : Ord to N) : ordB to N = true :=
  ordB_true (by rw [h.len]) fun k hk => by
    unfold memL
    exact decide_eq_true (h.fu k (by omega) (by have := h.len; omega))
theorem ord_iso {to : List Int} {N : Nat} (h : Ord to N) : isoB to N = true := by
  unfold isoB
  rw [decide_eq_true (by rw [h.len]), Bool.true_and]
  have : ∀ k, k ≤ to.length → isoN to N k = true := by
    intro k
    induction k with
    | zero => intro _; rfl
    | succ k ih =>
      intro hk
      have hkl : k < to.length := by omega
      have h1 := h.rg _ (List.getElem_mem hkl)
      show (isoN to N k && (decide (0 ≤ to.getD k 0) && decide (to.getD k 0 < N) && !memL (to.take k) (to.getD k 0))) = true
      rw [ih (by omega), ← getD_to hkl, decide_eq_true h1.1, decide_eq_true h1.2]
      have : to[k] ∉ to.take k := fun hm => by
        obtain ⟨i, hi, e⟩ := List.mem_take_iff_getElem.1 hm
        have := nodup_at h.nd (by omega) hkl e
        omega
      unfold memL
      rw [decide_eq_false this]
      rfl
  exact this _ (Nat.le_refl _)
theorem iso_eq (to : List Int) (N : Nat) : isoB to N = ordB to N := by
  rw [Bool.eq_iff_iff]
  exact ⟨fun h => ord_ordB (iso_ord h), fun h => ord_iso (ord_of h)⟩

section
variable {to : List Int} {N : Nat} (h : Ord to N)
include h
theorem fT_at {x : Int} (h0 : 0 ≤ x) (h1 : x < N) : ∃ hx : x.toNat < to.length, fT to x = to[x.toNat] := by
  have hx : x.toNat < to.length := by rw [h.len]; omega
  exact ⟨hx, by unfold fT; rw [getD_to hx]⟩
theorem fT_rng {x : Int} (h0 : 0 ≤ x) (h1 : x < N) : 0 ≤ fT to x ∧ fT to x < N := by
  obtain ⟨hx, e⟩ := fT_at h h0 h1
  rw [e]
  exact h.rg _ (List.getElem_mem hx)
theorem fT_inj {x y : Int} (h0 : 0 ≤ x) (h1 : x < N) (h2 : 0 ≤ y) (h3 : y < N) (e : fT to x = fT to y) : x = y := by
  obtain ⟨hx, ex⟩ := fT_at h h0 h1
  obtain ⟨hy, ey⟩ := fT_at h h2 h3
  rw [ex, ey] at e
  have := nodup_at h.nd hx hy e
  omega
theorem fT_sur {w : Int} (h0 : 0 ≤ w) (h1 : w < N) : ∃ z, 0 ≤ z ∧ z < (N : Int) ∧ fT to z = w := by
  obtain ⟨j, hj, e⟩ := List.mem_iff_getElem.1 (h.fu w h0 h1)
  refine ⟨j, by omega, by have := h.len; omega, ?_⟩
  unfold fT
  rw [Int.toNat_natCast, ← getD_to hj, e]
/-- a link of the renumbered trap. -/
theorem rnK_mem {ls : List (Int × Int)} (hok : ∀ k ∈ ls, okLn N k) {x y : Int} (hx : 0 ≤ x ∧ x < N) (hy : 0 ≤ y ∧ y < N) : (min (fT to x) (fT to y), max (fT to x) (fT to y)) ∈ ls.map (rnK to) ↔ (min x y, max x y) ∈ ls := by
  rw [List.mem_map]
  constructor
  · rintro ⟨⟨a, b⟩, hk, e⟩
    have ho := hok _ hk
    unfold okLn at ho
    simp only at ho
    unfold rnK at e
    simp only [Prod.mk.injEq] at e
    have i1 := fT_inj h (x := a) (y := x) (by omega) (by omega) hx.1 hx.2
    have i2 := fT_inj h (x := a) (y := y) (by omega) (by omega) hy.1 hy.2
    have i3 := fT_inj h (x := b) (y := x) (by omega) (by omega) hx.1 hx.2
    have i4 := fT_inj h (x := b) (y := y) (by omega) (by omega) hy.1 hy.2
    have : min x y = a ∧ max x y = b := by omega
    rw [this.1, this.2]
    exact hk
  · intro hk
    refine ⟨_, hk, ?_⟩
    unfold rnK
    simp only
    by_cases hxy : x ≤ y
    · rw [Int.min_eq_left hxy, Int.max_eq_right hxy]
    · have e1 : min x y = y := by omega
      have e2 : max x y = x := by omega
      rw [e1, e2, Int.min_comm (fT to y), Int.max_comm (fT to y)]
theorem rn_of {ls ms : List (Int × Int)} (hok : ∀ k ∈ ls, okLn N k) (hm : ∀ k, k ∈ ms ↔ k ∈ ls.map (rnK to)) : Rn N ls ms (fT to) where
  rng := fun x h0 h1 => fT_rng h h0 h1
  inj := fun x y h0 h1 h2 h3 e => fT_inj h h0 h1 h2 h3 e
  sur := fun w h0 h1 => fT_sur h h0 h1
  lk := fun x y h0 h1 h2 h3 => by
    unfold lnk memL
    apply decide_eq_decide.2
    rw [hm, rnK_mem h hok ⟨h0, h1⟩ ⟨h2, h3⟩]
omit h

/-- the places of the new numbers. -/
theorem oldN_at (h : Ord to N) : ∀ z, z ≤ N → ∀ j, j < z → (oldN N to z).getD (fT to j).toNat 0 = (j : Int)
  | 0, _, j, hj => by omega
  | z + 1, hz, j, hj => by
    have hzl : z < to.length := by rw [h.len]; omega
    have hr := fT_rng h (x := (z : Int)) (by omega) (by omega)
    have hd : to.getD z 0 = fT to z := by unfold fT; rw [Int.toNat_natCast]
    show ((oldN N to z).set (to.getD z 0).toNat (z : Int)).getD (fT to j).toNat 0 = j
    rw [hd]
    by_cases e : j = z
    · subst e
      rw [List.getD_eq_getElem?_getD, List.getElem?_set_self (by rw [oldN_len]; omega)]
      rfl
    · have hrj := fT_rng h (x := (j : Int)) (by omega) (by omega)
      have hne : (fT to z).toNat ≠ (fT to j).toNat := fun e2 => by
        have := fT_inj h (x := (z : Int)) (y := (j : Int)) (by omega) (by omega) (by omega) (by omega) (by omega)
        omega
      rw [List.getD_eq_getElem?_getD, List.getElem?_set_ne hne, ← List.getD_eq_getElem?_getD]
      exact oldN_at h z (by omega) j (by omega)
theorem old_rng (h : Ord to N) {a : Nat} (ha : a < N) : ∃ x : Int, 0 ≤ x ∧ x < N ∧ fT to x = a ∧ (oldN N to N).getD a 0 = x := by
  obtain ⟨z, z0, zn, e⟩ := fT_sur h (w := (a : Int)) (by omega) (by omega)
  refine ⟨z, z0, zn, e, ?_⟩
  have := oldN_at h N (Nat.le_refl _) z.toNat (by omega)
  rw [show ((z.toNat : Nat) : Int) = z by omega, e, Int.toNat_natCast] at this
  exact this
theorem rwK_mem {old : List Int} {ls : List (Int × Int)} {a b : Nat} {k : Int × Int} : k ∈ rwK old ls a b ↔ ∃ c : Nat, a < c ∧ c < b ∧ lnk ls (old.getD a 0) (old.getD c 0) = true ∧ k = ((a : Int), (c : Int)) := by
  unfold rwK
  rw [List.mem_map]
  constructor
  · rintro ⟨c, hc, rfl⟩
    rw [List.mem_filter] at hc
    obtain ⟨hc, hl⟩ := hc
    obtain ⟨j, hj, rfl⟩ := List.mem_iff_getElem.1 hc
    simp only [List.length_drop, List.length_range] at hj
    rw [List.getElem_drop, List.getElem_range] at hl ⊢
    exact ⟨a + 1 + j, by omega, by omega, hl, rfl⟩
  · rintro ⟨c, h1, h2, h3, rfl⟩
    refine ⟨c, List.mem_filter.2 ⟨List.mem_iff_getElem.2 ⟨c - (a + 1), by simp; omega, ?_⟩, h3⟩, rfl⟩
    rw [List.getElem_drop, List.getElem_range]
    omega
theorem acK_mem {old : List Int} {ls : List (Int × Int)} {n a : Nat} {k : Int × Int} : k ∈ acK old ls n a ↔ ∃ b c : Nat, b < a ∧ b < c ∧ c < n ∧ lnk ls (old.getD b 0) (old.getD c 0) = true ∧ k = ((b : Int), (c : Int)) := by
  unfold acK
  rw [List.mem_flatMap]
  constructor
  · rintro ⟨b, hb, hk⟩
    obtain ⟨c, h1, h2, h3, h4⟩ := rwK_mem.1 hk
    exact ⟨b, c, List.mem_range.1 hb, h1, h2, h3, h4⟩
  · rintro ⟨b, c, h0, h1, h2, h3, h4⟩
    exact ⟨b, List.mem_range.2 h0, rwK_mem.2 ⟨c, h1, h2, h3, h4⟩⟩
end
end Go.Proofs.Ytkolpijhgcijbaa

namespace Go.Proofs.Ytkolpijhgcijbaa
open Aw Go.Sort Go.Lib

def leK (x y : Int × Int) : Prop := (!(ltOf cmpK) y x) = true
theorem leK_iff (x y : Int × Int) : leK x y ↔ ¬ (y.1 < x.1 ∨ (y.1 = x.1 ∧ y.2 < x.2)) := by
  unfold leK
  rw [Bool.not_eq_true', ltK_not]
theorem srtL_pw (l : List (Int × Int)) : (srtL l).Pairwise leK := by
  unfold srtL
  refine List.pairwise_mergeSort (fun a b c h1 h2 => ?_) (fun a b => ?_) l
  · have k1 := (leK_iff a b).1 h1
    have k2 := (leK_iff b c).1 h2
    exact (leK_iff a c).2 (by omega)
  · rw [Bool.or_eq_true]
    by_cases h : leK a b
    · exact .inl h
    · rw [leK_iff] at h
      exact .inr ((leK_iff b a).2 (by omega))
theorem srtL_perm (l : List (Int × Int)) : (srtL l).Perm l := List.mergeSort_perm l _
theorem lnk_iff {ls : List (Int × Int)} {x y : Int} : lnk ls x y = true ↔ (min x y, max x y) ∈ ls := by
  unfold lnk memL
  simp
def ltP (x y : Int × Int) : Prop := x.1 < y.1 ∨ (x.1 = y.1 ∧ x.2 < y.2)
theorem rwK_pw (old : List Int) (ls : List (Int × Int)) (a b : Nat) : (rwK old ls a b).Pairwise ltP := by
  unfold rwK
  rw [List.pairwise_map]
  refine List.Pairwise.filter _ ?_
  refine List.Pairwise.imp (fun {x y} (h : x < y) => .inr ⟨rfl, by simp only; omega⟩) ?_
  exact List.Pairwise.drop List.pairwise_lt_range
theorem acK_pw (old : List Int) (ls : List (Int × Int)) (n : Nat) : ∀ a, (acK old ls n a).Pairwise ltP
  | 0 => by simp [acK]
  | a + 1 => by
    rw [acK_succ, List.pairwise_append]
    refine ⟨acK_pw old ls n a, rwK_pw old ls a n, fun x hx y hy => ?_⟩
    obtain ⟨b, c, h0, _, _, _, rfl⟩ := acK_mem.1 hx
    obtain ⟨d, _, _, _, rfl⟩ := rwK_mem.1 hy
    exact .inl (by simp only; omega)
section
variable {to : List Int} {N : Nat} (h : Ord to N) {ls : List (Int × Int)} (hok : ∀ k ∈ ls, okLn N k)
include h hok
theorem rnK_nd (hn : ls.Nodup) : (ls.map (rnK to)).Nodup := by
  unfold List.Nodup
  rw [List.pairwise_map]
  refine List.Pairwise.imp_of_mem (fun {a b} ha hb hne e => hne ?_) hn
  obtain ⟨a1, a2⟩ := a
  obtain ⟨b1, b2⟩ := b
  have h1 := hok _ ha
  have h2 := hok _ hb
  unfold okLn at h1 h2
  simp only at h1 h2
  unfold rnK at e
  simp only [Prod.mk.injEq] at e
  have i1 := fT_inj h (x := a1) (y := b1) (by omega) (by omega) (by omega) (by omega)
  have i2 := fT_inj h (x := a1) (y := b2) (by omega) (by omega) (by omega) (by omega)
  have i3 := fT_inj h (x := a2) (y := b1) (by omega) (by omega) (by omega) (by omega)
  have i4 := fT_inj h (x := a2) (y := b2) (by omega) (by omega) (by omega) (by omega)
  exact Prod.ext (by simp only; omega) (by simp only; omega)
theorem rnK_ok : ∀ k ∈ ls.map (rnK to), okLn N k := fun k hk => by
  obtain ⟨⟨a, b⟩, hm, rfl⟩ := List.mem_map.1 hk
  have h1 := hok _ hm
  unfold okLn at h1
  simp only at h1
  have r1 := fT_rng h (x := a) (by omega) (by omega)
  have r2 := fT_rng h (x := b) (by omega) (by omega)
  have i1 := fT_inj h (x := a) (y := b) (by omega) (by omega) (by omega) (by omega)
  unfold okLn rnK
  simp only
  omega
theorem rnK_acK (k : Int × Int) : k ∈ ls.map (rnK to) ↔ k ∈ acK (oldN N to N) ls N N := by
  rw [acK_mem]
  constructor
  · intro hk
    have ho := rnK_ok h hok k hk
    unfold okLn at ho
    obtain ⟨x, x0, xn, ex, e1⟩ := old_rng h (a := k.1.toNat) (by omega)
    obtain ⟨y, y0, yn, ey, e2⟩ := old_rng h (a := k.2.toNat) (by omega)
    refine ⟨k.1.toNat, k.2.toNat, by omega, by omega, by omega, ?_, Prod.ext (by simp only; omega) (by simp only; omega)⟩
    rw [e1, e2]
    rw [lnk_iff]
    refine (rnK_mem h hok ⟨x0, xn⟩ ⟨y0, yn⟩).1 ?_
    have : (min (fT to x) (fT to y), max (fT to x) (fT to y)) = k := Prod.ext (by simp only; omega) (by simp only; omega)
    rw [this]
    exact hk
  · rintro ⟨b, c, h0, h1, h2, h3, rfl⟩
    obtain ⟨x, x0, xn, ex, e1⟩ := old_rng h (a := b) (by omega)
    obtain ⟨y, y0, yn, ey, e2⟩ := old_rng h (a := c) (by omega)
    rw [e1, e2] at h3
    rw [lnk_iff] at h3
    have := (rnK_mem h hok ⟨x0, xn⟩ ⟨y0, yn⟩).2 h3
    rw [ex, ey, Int.min_eq_left (by omega), Int.max_eq_right (by omega)] at this
    exact this
theorem ren_eq (hn : ls.Nodup) : srtL (ls.map (rnK to)) = acK (oldN N to N) ls N N := by
  have hp := acK_pw (oldN N to N) ls N N
  have hnd : (acK (oldN N to N) ls N N).Nodup := hp.imp fun {x y} hxy e => by
    subst e
    unfold ltP at hxy
    omega
  refine List.Perm.eq_of_pairwise (le := leK) (fun a b _ _ h1 h2 => ?_) (srtL_pw _) (hp.imp fun {x y} hxy => ?_) ((srtL_perm _).trans ((List.perm_ext_iff_of_nodup (rnK_nd h hok hn) hnd).2 (rnK_acK h hok)))
  · rw [leK_iff] at h1 h2
    exact Prod.ext (by omega) (by omega)
  · rw [leK_iff]
    unfold ltP at hxy
    omega
theorem vT_ren (h1 : 1 ≤ N) (h6 : N ≤ 6) (hn : ls.Nodup) : vT N (srtL (ls.map (rnK to))) = 0 := by
  rw [vT_iff]
  refine ⟨⟨by omega, by omega⟩, fun k hk => rnK_ok h hok k ((srtL_perm _).mem_iff.1 hk), ((srtL_perm _).nodup_iff).2 (rnK_nd h hok hn)⟩
end
theorem vP_iff {n : Int} {l : List Int} : vP n l = 0 ↔ l.length ≤ 4 ∧ (∀ z ∈ l, 0 ≤ z ∧ z < n) ∧ l.Nodup := by
  unfold vP
  split
  · exact ⟨fun e => (by cases e), fun ⟨a, _⟩ => by omega⟩
  · rename_i h4
    split
    · rename_i hr
      split
      · rename_i hn
        exact ⟨fun _ => ⟨by omega, hr, hn⟩, fun _ => rfl⟩
      · rename_i hn
        exact ⟨fun e => (by cases e), fun ⟨_, _, a⟩ => (hn a).elim⟩
    · rename_i hr
      exact ⟨fun e => (by cases e), fun ⟨_, a, _⟩ => (hr a).elim⟩
theorem vTP_ren {n : Int} {ls ms : List (Int × Int)} {f : Int → Int} (r : Rn n ls ms f) (hm : vT n ms = 0) {l : List Int} (hv : vTP n ls l = 0) : vTP n ms (l.map f) = 0 := by
  have hvp : vP n l = 0 := by
    unfold vTP at hv
    split at hv
    · exact hv
    · rename_i hh; exact (hh hv).elim
  obtain ⟨h4, hr, hn⟩ := vP_iff.1 hvp
  unfold vTP
  rw [if_pos hm, vP_iff]
  refine ⟨by simpa using h4, fun z hz => ?_, ?_⟩
  · obtain ⟨x, hx, rfl⟩ := List.mem_map.1 hz
    exact r.rng x (hr x hx).1 (hr x hx).2
  · unfold List.Nodup
    rw [List.pairwise_map]
    exact List.Pairwise.imp_of_mem (fun {a b} ha hb hne e => hne (r.inj a b (hr a ha).1 (hr a ha).2 (hr b hb).1 (hr b hb).2 e)) hn
end Go.Proofs.Ytkolpijhgcijbaa
