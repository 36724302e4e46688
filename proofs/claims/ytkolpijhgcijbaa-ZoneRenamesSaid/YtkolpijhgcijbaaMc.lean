/-
  Several texts in one: Ti, FnA, FnB, FnC, FnD, FnE, FnF, FnG, FnH, FnI, FnJ, FnK, FnL.
-/
import Derived.Test.YtkolpijhgcijbaaMb
import Derived.Test.YtkolpijhgcijbaaProg
import Derived.KernelRfl
set_option linter.unusedSimpArgs false
set_option linter.unusedVariables false
namespace Go.Proofs.Ytkolpijhgcijbaa
open Aw
theorem ti2 : tiOf Try.prog 2 = some ⟨false, 1, 8, [.int .i64 (0)], none, none, [], [], false, false⟩ := by kernel_rfl
theorem ti3 : tiOf Try.prog 3 = some ⟨false, 1, 8, [.int .i64 (0)], none, none, [], [], false, false⟩ := by kernel_rfl
theorem ti4 : tiOf Try.prog 4 = some ⟨false, 1, 1, [.bool false], none, none, [], [], true, false⟩ := by kernel_rfl
theorem ti5 : tiOf Try.prog 5 = some ⟨false, 1, 1, [.int .u8 (0)], none, none, [], [], false, false⟩ := by kernel_rfl
theorem ti7 : tiOf Try.prog 7 = some ⟨true, 4, 24, [.int .i64 (0), .int .i64 (0), .bool false, .int .u8 (0)], none, none, [(0, 1), (1, 1), (2, 1), (3, 1)], [2, 3, 4, 6], false, false⟩ := by kernel_rfl
theorem ti9 : tiOf Try.prog 9 = some ⟨false, 1, 16, [.string ⟨#[]⟩], none, none, [], [], false, false⟩ := by kernel_rfl
theorem ti12 : tiOf Try.prog 12 = some ⟨false, 1, 8, [.int .u64 (0)], none, none, [], [], false, false⟩ := by kernel_rfl
theorem ti13 : tiOf Try.prog 13 = some ⟨true, 2, 24, [.string ⟨#[]⟩, .int .u64 (0)], none, none, [(0, 1), (1, 1)], [9, 12], false, false⟩ := by kernel_rfl
theorem ti15 : tiOf Try.prog 15 = some ⟨false, 1, 8, [.pointer none], none, none, [], [], false, false⟩ := by kernel_rfl
theorem ti16 : tiOf Try.prog 16 = some ⟨false, 1, 8, [.pointer none], none, none, [], [], false, false⟩ := by kernel_rfl
theorem ti17 : tiOf Try.prog 17 = some ⟨false, 1, 8, [.pointer none], none, none, [], [], false, false⟩ := by kernel_rfl
theorem ti18 : tiOf Try.prog 18 = some ⟨true, 1, 8, [.pointer none], none, none, [(0, 1)], [17], false, false⟩ := by kernel_rfl
theorem ti21 : tiOf Try.prog 21 = some ⟨false, 1, 4, [.int .i32 (0)], none, none, [], [], false, false⟩ := by kernel_rfl
theorem ti22 : tiOf Try.prog 22 = some ⟨false, 1, 24, [.slice none 0 0], some 57, none, [], [], false, false⟩ := by kernel_rfl
theorem ti23 : tiOf Try.prog 23 = some ⟨true, 2, 32, [.int .i64 (0), .slice none 0 0], none, none, [(0, 1), (1, 1)], [3, 22], false, false⟩ := by kernel_rfl
theorem ti24 : tiOf Try.prog 24 = some ⟨true, 2, 32, [.int .i64 (0), .slice none 0 0], none, none, [(0, 1), (1, 1)], [3, 22], false, false⟩ := by kernel_rfl
theorem ti25 : tiOf Try.prog 25 = some ⟨false, 1, 24, [.slice none 0 0], some 3, none, [], [], false, false⟩ := by kernel_rfl
theorem ti26 : tiOf Try.prog 26 = some ⟨true, 2, 16, [.int .i64 (0), .int .i64 (0)], none, none, [(0, 1), (1, 1)], [3, 3], false, true⟩ := by kernel_rfl
theorem ti27 : tiOf Try.prog 27 = some ⟨true, 2, 16, [.int .i64 (0), .int .i64 (0)], none, none, [(0, 1), (1, 1)], [3, 3], false, true⟩ := by kernel_rfl
theorem ti31 : tiOf Try.prog 31 = some ⟨false, 1, 8, [.int .i64 (0)], none, none, [], [], false, false⟩ := by kernel_rfl
theorem ti42 : tiOf Try.prog 42 = some ⟨false, 1, 24, [.slice none 0 0], some 64, none, [], [], false, false⟩ := by kernel_rfl
theorem ti56 : tiOf Try.prog 56 = some ⟨true, 2, 16, [.int .i64 (0), .int .i64 (0)], none, none, [(0, 1), (1, 1)], [3, 3], false, true⟩ := by kernel_rfl
theorem ti57 : tiOf Try.prog 57 = some ⟨true, 2, 16, [.int .i64 (0), .int .i64 (0)], none, none, [(0, 1), (1, 1)], [3, 3], false, true⟩ := by kernel_rfl
theorem ti63 : tiOf Try.prog 63 = some ⟨true, 2, 16, [.int .i64 (0), .int .i64 (0)], none, none, [(0, 1), (1, 1)], [3, 3], false, true⟩ := by kernel_rfl
theorem ti64 : tiOf Try.prog 64 = some ⟨true, 2, 16, [.int .i64 (0), .int .i64 (0)], none, none, [(0, 1), (1, 1)], [3, 3], false, true⟩ := by kernel_rfl
theorem ti73 : tiOf Try.prog 73 = some ⟨true, 4, 32, [.int .i64 (0), .int .i64 (0), .int .i64 (0), .int .i64 (0)], none, some (4, 3), [], [], false, false⟩ := by kernel_rfl
theorem ti74 : tiOf Try.prog 74 = some ⟨true, 4, 32, [.int .i64 (0), .int .i64 (0), .int .i64 (0), .int .i64 (0)], none, some (4, 3), [], [], false, false⟩ := by kernel_rfl
theorem ti75 : tiOf Try.prog 75 = some ⟨true, 7, 56, [.int .i64 (0), .int .i64 (0), .int .i64 (0), .int .i64 (0), .int .i64 (0), .int .i64 (0), .int .i64 (0)], none, none, [(0, 4), (4, 2), (6, 1)], [74, 64, 3], false, false⟩ := by kernel_rfl
theorem ti76 : tiOf Try.prog 76 = some ⟨true, 7, 56, [.int .i64 (0), .int .i64 (0), .int .i64 (0), .int .i64 (0), .int .i64 (0), .int .i64 (0), .int .i64 (0)], none, none, [(0, 4), (4, 2), (6, 1)], [74, 64, 3], false, false⟩ := by kernel_rfl
theorem ti78 : tiOf Try.prog 78 = some ⟨false, 1, 8, [.map none], none, none, [], [], false, false⟩ := by kernel_rfl
theorem ti96 : tiOf Try.prog 96 = some ⟨false, 1, 24, [.slice none 0 0], some 25, none, [], [], false, false⟩ := by kernel_rfl
theorem ti110 : tiOf Try.prog 110 = some ⟨false, 1, 24, [.slice none 0 0], some 22, none, [], [], false, false⟩ := by kernel_rfl
theorem ti115 : tiOf Try.prog 115 = some ⟨false, 1, 8, [.int .u64 (0)], none, none, [], [], false, false⟩ := by kernel_rfl
theorem ti118 : tiOf Try.prog 118 = some ⟨false, 1, 8, [.int .i64 (0)], none, none, [], [], false, false⟩ := by kernel_rfl
theorem ti126 : tiOf Try.prog 126 = some ⟨false, 1, 4, [.int .u32 (0)], none, none, [], [], false, false⟩ := by kernel_rfl
theorem ti128 : tiOf Try.prog 128 = some ⟨false, 1, 8, [.int .u64 (0)], none, none, [], [], false, false⟩ := by kernel_rfl
theorem ti129 : tiOf Try.prog 129 = some ⟨false, 1, 8, [.int .u64 (0)], none, none, [], [], false, false⟩ := by kernel_rfl
theorem ti133 : tiOf Try.prog 133 = some ⟨false, 1, 8, [.pointer none], none, none, [], [], false, false⟩ := by kernel_rfl
theorem ti135 : tiOf Try.prog 135 = some ⟨false, 1, 8, [.pointer none], none, none, [], [], false, false⟩ := by kernel_rfl
theorem ti139 : tiOf Try.prog 139 = some ⟨true, 4, 40, [.pointer none, .pointer none, .pointer none, .string ⟨#[]⟩], none, none, [(0, 1), (1, 1), (2, 1), (3, 1)], [17, 17, 17, 9], false, false⟩ := by kernel_rfl
theorem ti141 : tiOf Try.prog 141 = some ⟨true, 0, 0, [], none, some (0, 16), [], [], false, false⟩ := by kernel_rfl
theorem ti142 : tiOf Try.prog 142 = some ⟨true, 0, 0, [], none, none, [(0, 0)], [141], false, false⟩ := by kernel_rfl
theorem ti148 : tiOf Try.prog 148 = some ⟨false, 1, 8, [.pointer none], none, none, [], [], false, false⟩ := by kernel_rfl
theorem ti151 : tiOf Try.prog 151 = some ⟨true, 11, 48, [.int .u64 (0), .int .u64 (0), .int .u32 (0), .int .u8 (0), .int .u8 (0), .int .u8 (0), .int .u8 (0), .nilFunc, .pointer none, .int .i32 (0), .int .i32 (0)], none, none, [(0, 1), (1, 1), (2, 1), (3, 1), (4, 1), (5, 1), (6, 1), (7, 1), (8, 1), (9, 1), (10, 1)], [12, 12, 126, 145, 5, 5, 146, 147, 148, 149, 150], false, false⟩ := by kernel_rfl
theorem ti153 : tiOf Try.prog 153 = some ⟨false, 1, 8, [.pointer none], none, none, [], [], false, false⟩ := by kernel_rfl
end Go.Proofs.Ytkolpijhgcijbaa

namespace Go.Proofs.Ytkolpijhgcijbaa
open Aw Go.RowKit
set_option linter.unusedSimpArgs false
theorem mo : Try.prog.follows .mixedOrders = true := by kernel_rfl

def idxL {α : Type} [DecidableEq α] (l : List α) (x : α) : Int := match l.findIdx? (fun y => decide (x = y)) with | some i => (i : Int) | none => -1
theorem idxL_some {α : Type} [DecidableEq α] {l : List α} {x : α} {k : Nat} (h : k < l.length) (hno : ∀ j (h : j < l.length), j < k → x ≠ l[j]) (hx : x = l[k]) : idxL l x = k := by
  have : l.findIdx? (fun y => decide (x = y)) = some k := by
    rw [List.findIdx?_eq_some_iff_getElem]
    exact ⟨h, by simpa using hx, fun j hj => by simpa using hno j (by omega) hj⟩
  simp [idxL, this]
theorem idxL_none {α : Type} [DecidableEq α] {l : List α} {x : α} (hno : ∀ j (h : j < l.length), x ≠ l[j]) : idxL l x = -1 := by
  have : l.findIdx? (fun y => decide (x = y)) = none := by
    rw [List.findIdx?_eq_none_iff]
    intro y hy
    obtain ⟨j, hj, rfl⟩ := List.mem_iff_getElem.1 hy
    simpa using hno j hj
  simp [idxL, this]
def memL {α : Type} [DecidableEq α] (l : List α) (x : α) : Bool := decide (x ∈ l)
theorem memL_eq {α : Type} [DecidableEq α] (l : List α) (x : α) : memL l x = true ↔ x ∈ l := by simp [memL]
theorem idxL_mem {α : Type} [DecidableEq α] (l : List α) (x : α) : decide (0 ≤ idxL l x) = memL l x := by
  unfold idxL memL
  cases h : l.findIdx? (fun y => decide (x = y)) with
  | none =>
    rw [List.findIdx?_eq_none_iff] at h
    have : x ∉ l := fun hx => by simpa using h x hx
    simp [this]
  | some i =>
    rw [List.findIdx?_eq_some_iff_getElem] at h
    obtain ⟨hi, hx, _⟩ := h
    have : x ∈ l := by rw [of_decide_eq_true hx]; exact List.getElem_mem hi
    simp [this]

theorem ok83 : okFn Try.prog 83 = true := by kernel_rfl
theorem s83 (l : List Int) (x : Int) (hl : l.length ≤ 1000000) : ASpec Try.prog 83 [.s 1 (intsA l), I x] (fun r Ms => r = I (idxL l x) ∧ Ms = []) := by
  refine aspec_of (own := []) Try.func83 rfl ok83 ?_
  simp only [w_move, w_assign, w_len, w_aop, w_some, w_asome, w_anone, w_nil, w_cons, awp, asN, lenA, St.ev, St.step, setS, killS, AV.kill, AV.killL, Mem.kill, ACond_false, List.getD_cons_succ, List.getD_cons_zero, List.set_cons_succ, List.set_cons_zero, List.length_cons, List.length_nil, List.replicate_succ, List.replicate_zero, List.cons_append, List.nil_append, List.contains_nil, List.isEmpty_nil, Option.getD_some, Bool.false_eq_true, if_false, if_true, true_and, Bool.true_and, Option.isSome_some, Nat.zero_add, Nat.add_zero, Nat.reduceAdd, Nat.reduceSub, Int.reduceAdd, Int.reduceSub, ti25, Try.ntmps83]
  refine swp_loop' (fun k : Nat => ⟨[.s 1 (intsA l), I x, .bot, .bot, .bot, .bot, .s 1 (intsA l), I (intsA l).length, I k, .bot, .bot, .bot, .bot, .bot, .bot, .bot, .bot, .bot, .bot], []⟩) (fun k => k ≤ l.length ∧ ∀ j (h : j < l.length), j < k → x ≠ l[j]) (fun k => l.length - k) 0 (le_sl (by simp [leSl, intsA_len, prsA_len])) ⟨Nat.zero_le _, by omega⟩ ?_
  rintro k ⟨hk, hno⟩
  refine awp_sound (own := []) _ _ _ _ _ ?_
  simp only [w_binOp, w_aop, w_some, w_asome, w_nil, w_cons, awp, binC, cmpC, asB, asI, St.ev, St.step, setS, killS, AV.kill, AV.killL, Mem.kill, ACond_false, List.getD_cons_succ, List.getD_cons_zero, List.set_cons_succ, List.set_cons_zero, List.contains_nil, List.isEmpty_nil, if_true, true_and, Bool.true_and, Nat.reduceAdd, Int.reduceAdd, intsA_len]
  by_cases h : k < l.length
  · have h' : (k : Int) < (l.length : Int) := by omega
    simp only [w_move, w_assign, w_load, w_indexAddr, w_binOp, w_aop, w_some, w_asome, w_anone, w_nil, w_cons, awp, binC, idxC, cmpC, asP, asS, asB, asI, asN, loadA, St.ev, St.step, setS, killS, AV.kill, AV.killL, Mem.kill, AV.cells, AV.flat, AV.single, ACond_true, ACond_false, List.getD_cons_succ, List.getD_cons_zero, List.set_cons_succ, List.set_cons_zero, List.getElem?_cons_zero, List.contains_nil, List.isEmpty_nil, Option.getD_some, Bool.false_eq_true, if_false, if_true, true_and, and_true, List.all_cons, List.all_nil, Bool.and_true, Bool.true_and, Bool.not_true, Nat.reduceAdd, Int.reduceAdd, ti3, ti25, decide_eq_true h', aget_ints h, Int.toNat_natCast]
    refine ⟨by omega, ?_⟩
    by_cases hx : x = l[k]
    · simp only [w_move, w_assign, w_aop, w_anone, w_nil, w_cons, awp, asN, St.ev, St.step, setS, killS, AV.kill, AV.killL, Mem.kill, ACond_true, ACond_false, List.getD_cons_succ, List.getD_cons_zero, List.set_cons_succ, List.set_cons_zero, List.contains_nil, List.isEmpty_nil, Option.getD_some, Bool.false_eq_true, if_false, if_true, Nat.reduceAdd, Int.reduceAdd, decide_eq_true hx]
      exact aend_frz rfl ⟨by rw [idxL_some h hno hx]; rfl, rfl⟩
    · simp only [w_move, w_binOp, w_aop, w_some, w_asome, w_anone, w_nil, w_cons, awp, binC, arithC, cmpC, asI, St.ev, St.step, setS, killS, AV.kill, AV.killL, Mem.kill, ACond_false, List.getD_cons_succ, List.getD_cons_zero, List.set_cons_succ, List.set_cons_zero, List.contains_nil, List.isEmpty_nil, if_true, true_and, and_true, Bool.and_true, Bool.true_and, Nat.reduceAdd, Int.reduceAdd, ne_eq, decide_eq_false hx]
      refine ⟨by unfold lim; omega, k + 1, le_sl (by simp [leSl, intsA_len, prsA_len]), ⟨h, fun j hj hlt => ?_⟩, by omega⟩
      rcases Nat.lt_or_ge j k with h1 | h1
      · exact hno j hj h1
      · obtain rfl : j = k := by omega
        exact hx
  · have h' : ¬ (k : Int) < (l.length : Int) := by omega
    simp only [w_assign, w_aop, w_anone, w_nil, w_cons, awp, asN, St.ev, St.step, setS, killS, AV.kill, AV.killL, Mem.kill, ACond_false, List.set_cons_succ, List.set_cons_zero, List.contains_nil, List.isEmpty_nil, Option.getD_some, Bool.false_eq_true, if_false, if_true, Nat.reduceAdd, Int.reduceAdd, Int.reduceNeg, decide_eq_false h']
    exact aend_frz rfl ⟨by rw [idxL_none fun j hj => hno j hj (by omega)]; rfl, rfl⟩

theorem ok71 : okFn Try.prog 71 = true := by kernel_rfl
theorem s71 (l : List Int) (x : Int) (hl : l.length ≤ 1000000) : ASpec Try.prog 71 [.s 1 (intsA l), I x] (fun r Ms => r = B (memL l x) ∧ Ms = []) := by
  refine aspec_of (own := []) Try.func71 rfl ok71 ?_
  simp only [w_move, w_assign, w_callF, w_aop, w_anone, w_nil, w_cons, awp, asN, St.ev, St.step, setS, killS, AV.kill, AV.killL, Mem.kill, ACond_false, List.getD_cons_succ, List.getD_cons_zero, List.set_cons_succ, List.set_cons_zero, List.length_cons, List.length_nil, List.replicate_succ, List.replicate_zero, List.cons_append, List.nil_append, List.contains_nil, List.isEmpty_nil, Option.getD_some, Bool.false_eq_true, if_false, if_true, Nat.zero_add, Nat.add_zero, List.map_cons, List.map_nil, Nat.reduceAdd, Nat.reduceSub, Int.reduceAdd, Int.reduceSub, Try.ntmps71]
  refine acall_v (s83 l x hl) rfl rfl ?_
  simp only [w_assign, w_binOp, w_aop, w_some, w_asome, w_anone, w_nil, w_cons, awp, binC, cmpC, asI, asN, St.ev, St.step, setS, killS, AV.kill, AV.killL, Mem.kill, List.getD_cons_succ, List.getD_cons_zero, List.set_cons_succ, List.set_cons_zero, List.contains_nil, List.isEmpty_nil, Option.getD_some, Bool.false_eq_true, if_false, if_true, true_and, Bool.true_and, idxL_mem]
  exact aend_frz rfl ⟨rfl, rfl⟩

theorem ok92 : okFn Try.prog 92 = true := by kernel_rfl
theorem s92 (l : List (Int × Int)) (x y : Int) (hl : l.length ≤ 1000000) : ASpec Try.prog 92 [.s 2 (prsA l), .g [I x, I y]] (fun r Ms => r = I (idxL l (x, y)) ∧ Ms = []) := by
  refine aspec_of (own := []) Try.func92 rfl ok92 ?_
  simp only [w_move, w_assign, w_box, w_len, w_aop, w_some, w_asome, w_anone, w_nil, w_cons, awp, asN, lenA, St.ev, St.step, setS, killS, AV.kill, AV.killL, Mem.kill, AV.cellular, AV.pure, AV.pureL, ACond_false, List.getD_cons_succ, List.getD_cons_zero, List.set_cons_succ, List.set_cons_zero, List.length_cons, List.length_nil, List.replicate_succ, List.replicate_zero, List.cons_append, List.nil_append, List.contains_nil, List.isEmpty_nil, Option.getD_some, Bool.false_eq_true, if_false, if_true, true_and, and_true, Bool.and_true, Bool.true_and, Option.isSome_some, Nat.zero_add, Nat.add_zero, Nat.reduceAdd, Nat.reduceSub, Int.reduceAdd, Int.reduceSub, ti22, Try.ntmps92]
  refine swp_loop' (fun k : Nat => ⟨[.s 2 (prsA l), .bot, .bot, .p (.g [I x, I y]) 0, .bot, .bot, .s 2 (prsA l), I (prsA l).length, I k, .bot, .bot, .bot, .bot, .bot, .bot, .bot, .bot, .bot, .bot], []⟩) (fun k => k ≤ l.length ∧ ∀ j (h : j < l.length), j < k → (x, y) ≠ l[j]) (fun k => l.length - k) 0 (le_sl (by simp [leSl, intsA_len, prsA_len])) ⟨Nat.zero_le _, by omega⟩ ?_
  rintro k ⟨hk, hno⟩
  refine awp_sound (own := []) _ _ _ _ _ ?_
  simp only [w_binOp, w_aop, w_some, w_asome, w_nil, w_cons, awp, binC, cmpC, asB, asI, St.ev, St.step, setS, killS, AV.kill, AV.killL, Mem.kill, ACond_false, List.getD_cons_succ, List.getD_cons_zero, List.set_cons_succ, List.set_cons_zero, List.contains_nil, List.isEmpty_nil, if_true, true_and, Bool.true_and, Nat.reduceAdd, Int.reduceAdd, prsA_len]
  by_cases h : k < l.length
  · have h' : (k : Int) < (l.length : Int) := by omega
    simp only [w_move, w_assign, w_aop, w_anone, w_nil, w_cons, awp, asN, St.ev, St.step, setS, killS, AV.kill, AV.killL, Mem.kill, ACond_true, ACond_false, List.getD_cons_succ, List.getD_cons_zero, List.set_cons_succ, List.set_cons_zero, List.contains_nil, List.isEmpty_nil, Option.getD_some, Bool.false_eq_true, if_false, if_true, Nat.reduceAdd, Int.reduceAdd, decide_eq_true h']
    refine swp_draw (own := []) (.take 0 .reads [] (.take 1 .plain [] (.take 2 .plain [] (.take 3 .reads [] (.take 4 .reads [] (.take 5 .plain [] (.done))))))) [⟨12, 8, 0, 0, true⟩, ⟨13, 1, 0, 0, true⟩, ⟨14, 32, 0, 0, true⟩, ⟨15, 12288, 6, 0, true⟩, ⟨16, 16384, 8, 0, true⟩, ⟨17, 34816, 17, 0, true⟩] mo (by kernel_rfl) ?_
    simp only [w_move, w_load, w_indexAddr, w_binOp, w_take, w_some, w_asome, w_anone, awp, binC, idxC, eqC, asP, asS, asG, asB, asI, loadA, St.ev, setS, AV.cells, AV.flat, AV.single, ints, List.getD_cons_succ, List.getD_cons_zero, List.set_cons_succ, List.set_cons_zero, List.getElem?_cons_succ, List.getElem?_cons_zero, List.length_cons, List.length_nil, Bool.false_eq_true, if_false, if_true, true_and, and_true, List.all_cons, List.all_nil, Bool.and_true, Bool.true_and, Bool.not_true, Nat.zero_add, beq_self_eq_true, decide_true, Nat.reduceAdd, Nat.reduceLeDiff, Int.reduceAdd, ASch, St.put, Md.mem, Md.need, Option.map_some, ti22, ti57, aget_prs h, Int.toNat_natCast]
    refine ⟨by omega, ?_⟩
    by_cases hx : (x, y) = l[k]
    · have hx' : [x, y] = [l[k].1, l[k].2] := by rw [← hx]
      simp only [w_move, w_assign, w_aop, w_anone, w_nil, w_cons, awp, asN, St.ev, St.step, setS, killS, AV.kill, AV.killL, Mem.kill, ACond_true, ACond_false, List.getD_cons_succ, List.getD_cons_zero, List.set_cons_succ, List.set_cons_zero, List.contains_nil, List.isEmpty_nil, Option.getD_some, Bool.false_eq_true, if_false, if_true, Nat.reduceAdd, Int.reduceAdd, St.put, decide_eq_true hx']
      exact aend_frz rfl ⟨by rw [idxL_some h hno hx]; rfl, rfl⟩
    · have hx' : ¬ [x, y] = [l[k].1, l[k].2] := fun e => hx (by simp at e; exact Prod.ext e.1 e.2)
      simp only [w_move, w_binOp, w_aop, w_some, w_asome, w_anone, w_nil, w_cons, awp, binC, arithC, cmpC, asI, St.ev, St.step, setS, killS, AV.kill, AV.killL, Mem.kill, ACond_false, List.getD_cons_succ, List.getD_cons_zero, List.set_cons_succ, List.set_cons_zero, List.contains_nil, List.isEmpty_nil, if_true, true_and, and_true, Bool.and_true, Bool.true_and, Nat.reduceAdd, Int.reduceAdd, St.put, ne_eq, decide_eq_false hx']
      refine ⟨by unfold lim; omega, k + 1, le_sl (by simp [leSl, intsA_len, prsA_len]), ⟨h, fun j hj hlt => ?_⟩, by omega⟩
      rcases Nat.lt_or_ge j k with h1 | h1
      · exact hno j hj h1
      · obtain rfl : j = k := by omega
        exact hx
  · have h' : ¬ (k : Int) < (l.length : Int) := by omega
    simp only [w_assign, w_aop, w_anone, w_nil, w_cons, awp, asN, St.ev, St.step, setS, killS, AV.kill, AV.killL, Mem.kill, ACond_false, List.set_cons_succ, List.set_cons_zero, List.contains_nil, List.isEmpty_nil, Option.getD_some, Bool.false_eq_true, if_false, if_true, Nat.reduceAdd, Int.reduceAdd, Int.reduceNeg, decide_eq_false h']
    exact aend_frz rfl ⟨by rw [idxL_none fun j hj => hno j hj (by omega)]; rfl, rfl⟩

theorem ok67 : okFn Try.prog 67 = true := by kernel_rfl
theorem s67 (l : List (Int × Int)) (x y : Int) (hl : l.length ≤ 1000000) : ASpec Try.prog 67 [.s 2 (prsA l), .g [I x, I y]] (fun r Ms => r = B (memL l (x, y)) ∧ Ms = []) := by
  refine aspec_of (own := []) Try.func67 rfl ok67 ?_
  simp only [w_move, w_assign, w_box, w_load, w_callF, w_aop, w_some, w_asome, w_anone, w_nil, w_cons, awp, asP, asN, loadA, St.ev, St.step, setS, killS, AV.kill, AV.killL, Mem.kill, AV.cells, AV.flat, AV.single, AV.cellular, AV.pure, AV.pureL, ACond_false, List.getD_cons_succ, List.getD_cons_zero, List.set_cons_succ, List.set_cons_zero, List.getElem?_cons_zero, List.length_cons, List.length_nil, List.replicate_succ, List.replicate_zero, List.cons_append, List.nil_append, List.contains_nil, List.isEmpty_nil, Option.getD_some, Bool.false_eq_true, if_false, if_true, true_and, and_true, List.all_cons, List.all_nil, Bool.and_true, Bool.true_and, Bool.not_true, Nat.zero_add, Nat.add_zero, beq_self_eq_true, List.map_cons, List.map_nil, decide_true, Nat.reduceAdd, Nat.reduceSub, Nat.reduceLeDiff, Int.reduceAdd, Int.reduceSub, ti57, Try.ntmps67]
  refine acall_v (s92 l x y hl) rfl rfl ?_
  simp only [w_assign, w_binOp, w_aop, w_some, w_asome, w_anone, w_nil, w_cons, awp, binC, cmpC, asI, asN, St.ev, St.step, setS, killS, AV.kill, AV.killL, Mem.kill, List.getD_cons_succ, List.getD_cons_zero, List.set_cons_succ, List.set_cons_zero, List.contains_nil, List.isEmpty_nil, Option.getD_some, Bool.false_eq_true, if_false, if_true, true_and, Bool.true_and, idxL_mem]
  exact aend_frz rfl ⟨rfl, rfl⟩

def trapA (n : Int) (ls : List (Int × Int)) : AV := .g [I n, .s 2 (prsA ls)]
/-- a link between two zones. -/
def lnk (ls : List (Int × Int)) (a b : Int) : Bool := memL ls (min a b, max a b)
theorem ok91 : okFn Try.prog 91 = true := by kernel_rfl
theorem s91 (n : Int) (ls : List (Int × Int)) (a b : Int) (hl : ls.length ≤ 1000000) : ASpec Try.prog 91 [trapA n ls, I a, I b] (fun r Ms => r = B (lnk ls a b) ∧ Ms = []) := by
  refine aspec_of (own := []) Try.func91 rfl ok91 ?_
  simp only [w_move, w_assign, w_box, w_load, w_fieldAddr, w_build, w_callF, w_min, w_max, w_aop, w_some, w_asome, w_anone, w_nil, w_cons, awp, asP, asN, minmaxA, loadA, fillA, putsA, St.ev, St.step, setS, killS, AV.kill, AV.killL, Mem.kill, AV.cells, AV.flat, AV.single, AV.cellular, AV.pure, AV.pureL, ACond_false, Value.oneCell', List.getD_cons_succ, List.getD_cons_zero, List.set_cons_succ, List.set_cons_zero, List.getElem?_cons_succ, List.getElem?_cons_zero, List.length_cons, List.length_nil, List.replicate_succ, List.replicate_zero, List.cons_append, List.nil_append, List.contains_nil, List.isEmpty_nil, Option.getD_some, Bool.false_eq_true, if_false, if_true, true_and, and_true, List.all_cons, List.all_nil, Bool.and_true, Bool.true_and, Bool.not_true, Nat.zero_add, Nat.add_zero, beq_self_eq_true, List.map_cons, List.map_nil, decide_true, nbeq, decide_false, Bool.and_false, Nat.reduceAdd, Nat.reduceEqDiff, Nat.reduceSub, Nat.reduceLeDiff, Int.reduceAdd, Int.reduceSub, ne_eq, not_false_eq_true, ti22, ti24, ti57, Try.ntmps91, trapA]
  refine acall_v (s67 ls (min a b) (max a b) hl) rfl rfl ?_
  simp only [w_assign, w_aop, w_anone, w_nil, w_cons, awp, asN, St.ev, St.step, setS, killS, AV.kill, AV.killL, Mem.kill, List.getD_cons_succ, List.getD_cons_zero, List.set_cons_succ, List.set_cons_zero, List.contains_nil, List.isEmpty_nil, Option.getD_some, Bool.false_eq_true, if_false, if_true]
  exact aend_frz rfl ⟨rfl, rfl⟩

theorem ok64 : okFn Try.prog 64 = true := by kernel_rfl
theorem s64 (n : Int) (ls : List (Int × Int)) (z : Int) : ASpec Try.prog 64 [trapA n ls, I z] (fun r Ms => r = B (decide (0 ≤ z ∧ z < n)) ∧ Ms = []) := by
  refine aspec_of (own := []) Try.func64 rfl ok64 ?_
  simp only [w_move, w_assign, w_box, w_binOp, w_aop, w_aopg, w_gdb, w_some, w_asome, w_anone, w_nil, w_cons, awp, binC, cmpC, asI, asN, St.ev, St.step, setS, killS, AV.kill, AV.killL, Mem.kill, AV.cellular, AV.pure, AV.pureL, ACond_false, List.getD_cons_succ, List.getD_cons_zero, List.set_cons_succ, List.set_cons_zero, List.getElem?_cons_succ, List.getElem?_cons_zero, List.length_cons, List.length_nil, List.replicate_succ, List.replicate_zero, List.cons_append, List.nil_append, List.contains_nil, List.isEmpty_nil, Option.getD_some, Bool.false_eq_true, if_false, if_true, true_and, and_true, Bool.and_true, Bool.true_and, Nat.zero_add, Nat.add_zero, Nat.reduceAdd, Nat.reduceSub, Int.reduceAdd, Int.reduceSub, Option.bind_some, w_bt, Try.ntmps64, trapA]
  by_cases h : 0 ≤ z
  · simp only [w_move, w_assign, w_pick, w_load, w_fieldAddr, w_binOp, w_aop, w_aopg, w_gdb, w_some, w_asome, w_anone, w_nil, w_cons, awp, binC, cmpC, asP, asB, asI, asN, loadA, St.ev, St.step, setS, killS, AV.kill, AV.killL, Mem.kill, AV.cells, AV.flat, AV.single, ACond_true, List.getD_cons_succ, List.getD_cons_zero, List.set_cons_succ, List.set_cons_zero, List.getElem?_cons_succ, List.getElem?_cons_zero, List.length_cons, List.length_nil, List.contains_nil, List.isEmpty_nil, Option.getD_some, Bool.false_eq_true, if_false, if_true, true_and, and_true, List.all_cons, List.all_nil, Bool.and_true, Bool.true_and, Bool.not_true, Nat.zero_add, Nat.add_zero, beq_self_eq_true, decide_true, nbeq, decide_false, Bool.and_false, Nat.reduceAdd, Nat.reduceEqDiff, Nat.reduceLeDiff, Int.reduceAdd, Option.bind_some, ne_eq, not_false_eq_true, ti3, ti24, decide_eq_true h]
    exact aend_frz rfl ⟨by simp [h]; rfl, rfl⟩
  · simp only [w_assign, w_pick, w_aop, w_aopg, w_gdb, w_some, w_anone, w_nil, w_cons, awp, asB, asN, St.ev, St.step, setS, killS, AV.kill, AV.killL, Mem.kill, ACond_false, List.getD_cons_succ, List.getD_cons_zero, List.set_cons_succ, List.set_cons_zero, List.getElem?_cons_succ, List.getElem?_cons_zero, List.contains_nil, List.isEmpty_nil, Option.getD_some, Bool.false_eq_true, if_false, if_true, Option.bind_some, w_bt, decide_eq_false h]
    exact aend_frz rfl ⟨by simp [h]; rfl, rfl⟩
end Go.Proofs.Ytkolpijhgcijbaa

namespace Go.Proofs.Ytkolpijhgcijbaa
open Aw Go.RowKit
set_option linter.unusedSimpArgs false

/-- what is in a list, told by the places. -/
theorem memL_true {α : Type} [DecidableEq α] {l : List α} {x : α} {k : Nat} (h : k < l.length) (hx : l[k] = x) : memL l x = true := by rw [memL_eq, ← hx]; exact List.getElem_mem h
theorem memL_false {α : Type} [DecidableEq α] {l : List α} {x : α} (h : ∀ j (hj : j < l.length), l[j] ≠ x) : memL l x = false := by
  rw [Bool.eq_false_iff, ne_eq, memL_eq]
  intro hx
  obtain ⟨j, hj, e⟩ := List.mem_iff_getElem.1 hx
  exact h j hj e
theorem upto {p : Nat → Prop} {k : Nat} (h : ∀ j, j < k → p j) (hk : p k) : ∀ j, j < k + 1 → p j := fun j hj => by
  rcases Nat.lt_or_ge j k with h1 | h1
  · exact h j h1
  · obtain rfl : j = k := by omega
    exact hk

theorem ok27 : okFn Try.prog 27 = true := by kernel_rfl
theorem s27 (a b : List Int) (ha : a.length ≤ 1000000) (hb : b.length ≤ 1000000) : ASpec Try.prog 27 [.s 1 (intsA a), .s 1 (intsA b)] (fun r Ms => r = B (decide (a = b)) ∧ Ms = []) := by
  refine aspec_of (own := []) Try.func27 rfl ok27 ?_
  simp only [w_move, w_assign, w_binOp, w_len, w_aop, w_some, w_asome, w_anone, w_nil, w_cons, awp, binC, cmpC, asB, asI, asN, lenA, St.ev, St.step, setS, killS, AV.kill, AV.killL, Mem.kill, ACond_false, List.getD_cons_succ, List.getD_cons_zero, List.set_cons_succ, List.set_cons_zero, List.length_cons, List.length_nil, List.replicate_succ, List.replicate_zero, List.cons_append, List.nil_append, List.contains_nil, List.isEmpty_nil, Option.getD_some, Bool.false_eq_true, if_false, if_true, true_and, Bool.true_and, Option.isSome_some, Nat.zero_add, Nat.add_zero, Nat.reduceAdd, Nat.reduceSub, Int.reduceAdd, Int.reduceSub, ti25, Try.ntmps27, intsA_len]
  by_cases hl : (a.length : Int) = b.length
  · simp only [w_assign, w_aop, w_anone, w_nil, w_cons, awp, asN, St.ev, St.step, setS, killS, AV.kill, AV.killL, Mem.kill, ACond_false, List.set_cons_succ, List.set_cons_zero, List.contains_nil, List.isEmpty_nil, Option.getD_some, Bool.false_eq_true, if_false, if_true, Bool.not_true, Nat.reduceAdd, Int.reduceAdd, decide_eq_true hl]
    refine swp_loop' (fun k : Nat => ⟨[.s 1 (intsA a), .s 1 (intsA b), .bot, .bot, .bot, I k, .bot, .bot, .bot, .bot, .bot, .bot, .bot, .bot, .bot, .bot, .bot, .bot, .bot, .bot, .bot, .bot, .bot, .bot, .bot, .bot], []⟩) (fun k => k ≤ a.length ∧ ∀ j (h : j < a.length) (h' : j < b.length), j < k → a[j] = b[j]) (fun k => a.length - k) 0 (le_sl (by simp [leSl, intsA_len, prsA_len])) ⟨Nat.zero_le _, by omega⟩ ?_
    rintro k ⟨hk, hno⟩
    refine awp_sound (own := []) _ _ _ _ _ ?_
    simp only [w_move, w_binOp, w_len, w_aop, w_some, w_asome, w_nil, w_cons, awp, binC, cmpC, asB, asI, lenA, St.ev, St.step, setS, killS, AV.kill, AV.killL, Mem.kill, ACond_false, List.getD_cons_succ, List.getD_cons_zero, List.set_cons_succ, List.set_cons_zero, List.contains_nil, List.isEmpty_nil, if_true, true_and, Bool.true_and, Option.isSome_some, Nat.reduceAdd, Int.reduceAdd, ti25, intsA_len]
    by_cases h : k < a.length
    · have h' : (k : Int) < (a.length : Int) := by omega
      have h2 : k < b.length := by omega
      simp only [awp, ACond_true, decide_eq_true h']
      refine swp_draw (own := []) (.take 0 .plain [] (.take 1 .plain [] (.take 2 .reads [] (.take 3 .reads [] (.take 4 .plain [] (.take 5 .plain [] (.take 6 .reads [] (.take 7 .reads [] (.take 8 .plain [] (.done)))))))))) [⟨18, 1, 0, 0, true⟩, ⟨19, 32, 0, 0, true⟩, ⟨20, 393216, 3, 0, true⟩, ⟨21, 524288, 4, 0, true⟩, ⟨22, 2, 0, 0, true⟩, ⟨23, 32, 0, 0, true⟩, ⟨24, 6291456, 48, 0, true⟩, ⟨25, 8388608, 64, 0, true⟩, ⟨26, 17825792, 136, 0, true⟩] mo (by kernel_rfl) ?_
      simp only [w_move, w_load, w_indexAddr, w_binOp, w_take, w_some, w_asome, awp, binC, idxC, cmpC, asP, asS, asB, asI, loadA, St.ev, setS, AV.cells, AV.flat, AV.single, List.getD_cons_succ, List.getD_cons_zero, List.set_cons_succ, List.set_cons_zero, List.getElem?_cons_succ, List.getElem?_cons_zero, Bool.false_eq_true, if_false, true_and, and_true, List.all_cons, List.all_nil, Bool.and_true, Bool.true_and, Bool.not_true, ASch, St.put, Md.mem, Md.need, ti3, ti25, aget_ints h, aget_ints h2, Int.toNat_natCast]
      refine ⟨by omega, by omega, ?_⟩
      by_cases hx : a[k] = b[k]
      · simp only [w_move, w_assign, w_binOp, w_aop, w_some, w_asome, w_anone, w_nil, w_cons, awp, binC, arithC, cmpC, asI, asN, St.ev, St.step, setS, killS, AV.kill, AV.killL, Mem.kill, ACond_false, List.getD_cons_succ, List.getD_cons_zero, List.set_cons_succ, List.set_cons_zero, List.contains_nil, List.isEmpty_nil, Option.getD_some, Bool.false_eq_true, if_false, if_true, true_and, and_true, Bool.and_true, Bool.true_and, Bool.not_true, Nat.reduceAdd, Int.reduceAdd, St.put, decide_eq_true hx]
        refine ⟨by unfold lim; omega, k + 1, le_sl (by simp [leSl, intsA_len, prsA_len]), ⟨h, fun j hj hj' hlt => ?_⟩, by omega⟩
        rcases Nat.lt_or_ge j k with h1 | h1
        · exact hno j hj hj' h1
        · obtain rfl : j = k := by omega
          exact hx
      · simp only [w_assign, w_aop, w_anone, w_nil, w_cons, awp, asN, St.ev, St.step, setS, killS, AV.kill, AV.killL, Mem.kill, ACond_true, ACond_false, List.set_cons_succ, List.set_cons_zero, List.contains_nil, List.isEmpty_nil, Option.getD_some, Bool.false_eq_true, if_false, if_true, Bool.not_false, Nat.reduceAdd, Int.reduceAdd, St.put, decide_eq_false hx]
        refine aend_frz rfl ⟨?_, rfl⟩
        rw [decide_eq_false (fun e => hx (by subst e; rfl))]
        rfl
    · have h' : ¬ (k : Int) < (a.length : Int) := by omega
      simp only [w_assign, w_aop, w_anone, w_nil, w_cons, awp, asN, St.ev, St.step, setS, killS, AV.kill, AV.killL, Mem.kill, ACond_false, List.set_cons_succ, List.set_cons_zero, List.contains_nil, List.isEmpty_nil, Option.getD_some, Bool.false_eq_true, if_false, if_true, Nat.reduceAdd, Int.reduceAdd, decide_eq_false h']
      refine aend_frz rfl ⟨?_, rfl⟩
      rw [decide_eq_true (List.ext_getElem (by omega) fun j h1 h2 => hno j h1 h2 (by omega))]
      rfl
  · simp only [w_assign, w_aop, w_anone, w_nil, w_cons, awp, asN, St.ev, St.step, setS, killS, AV.kill, AV.killL, Mem.kill, ACond_true, ACond_false, List.set_cons_succ, List.set_cons_zero, List.contains_nil, List.isEmpty_nil, Option.getD_some, Bool.false_eq_true, if_false, if_true, Bool.not_false, Nat.reduceAdd, Int.reduceAdd, decide_eq_false hl]
    refine aend_frz rfl ⟨?_, rfl⟩
    rw [decide_eq_false (fun e => hl (by rw [e]))]
    rfl

theorem ok70 : okFn Try.prog 70 = true := by kernel_rfl
theorem s70 (l : List Int) (x : Int) (hl : l.length ≤ 1000000) : ASpec Try.prog 70 [.s 1 (intsA l), I x] (fun r Ms => r = B (memL l x) ∧ Ms = []) := by
  refine aspec_of (own := []) Try.func70 rfl ok70 ?_
  simp only [w_assign, w_aop, w_anone, w_nil, w_cons, awp, asN, St.ev, St.step, setS, killS, AV.kill, AV.killL, Mem.kill, ACond_false, List.set_cons_succ, List.set_cons_zero, List.length_cons, List.length_nil, List.replicate_succ, List.replicate_zero, List.cons_append, List.nil_append, List.contains_nil, List.isEmpty_nil, Option.getD_some, Bool.false_eq_true, if_false, if_true, Nat.zero_add, Nat.add_zero, Nat.reduceAdd, Nat.reduceSub, Int.reduceAdd, Int.reduceSub, Try.ntmps70]
  refine swp_loop' (fun k : Nat => ⟨[.s 1 (intsA l), I x, .bot, .bot, .bot, I k, .bot, .bot, .bot, .bot, .bot, .bot, .bot, .bot, .bot, .bot, .bot, .bot], []⟩) (fun k => k ≤ l.length ∧ ∀ j, j < k → ∀ h : j < l.length, l[j] ≠ x) (fun k => l.length - k) 0 (le_sl (by simp [leSl, intsA_len, prsA_len])) ⟨Nat.zero_le _, by omega⟩ ?_
  rintro k ⟨hk, hno⟩
  refine awp_sound (own := []) _ _ _ _ _ ?_
  simp only [w_move, w_binOp, w_len, w_aop, w_some, w_asome, w_nil, w_cons, awp, binC, cmpC, asB, asI, lenA, St.ev, St.step, setS, killS, AV.kill, AV.killL, Mem.kill, ACond_false, List.getD_cons_succ, List.getD_cons_zero, List.set_cons_succ, List.set_cons_zero, List.contains_nil, List.isEmpty_nil, if_true, true_and, Bool.true_and, Option.isSome_some, Nat.reduceAdd, Int.reduceAdd, ti25, intsA_len]
  by_cases h : k < l.length
  · have h' : (k : Int) < (l.length : Int) := by omega
    simp only [w_move, w_load, w_indexAddr, w_binOp, w_aop, w_some, w_asome, w_nil, w_cons, awp, binC, idxC, cmpC, asP, asS, asB, asI, loadA, St.ev, St.step, setS, killS, AV.kill, AV.killL, Mem.kill, AV.cells, AV.flat, AV.single, ACond_true, ACond_false, List.getD_cons_succ, List.getD_cons_zero, List.set_cons_succ, List.set_cons_zero, List.getElem?_cons_zero, List.contains_nil, List.isEmpty_nil, Bool.false_eq_true, if_false, if_true, true_and, and_true, List.all_cons, List.all_nil, Bool.and_true, Bool.true_and, Bool.not_true, Nat.reduceAdd, Int.reduceAdd, ti3, ti25, decide_eq_true h', aget_ints h, Int.toNat_natCast]
    refine ⟨by omega, ?_⟩
    by_cases hx : l[k] = x
    · simp only [w_assign, w_aop, w_anone, w_nil, w_cons, awp, asN, St.ev, St.step, setS, killS, AV.kill, AV.killL, Mem.kill, ACond_true, ACond_false, List.set_cons_succ, List.set_cons_zero, List.contains_nil, List.isEmpty_nil, Option.getD_some, Bool.false_eq_true, if_false, if_true, Nat.reduceAdd, Int.reduceAdd, decide_eq_true hx]
      exact aend_frz rfl ⟨by rw [memL_true h hx]; rfl, rfl⟩
    · simp only [w_move, w_assign, w_binOp, w_aop, w_some, w_asome, w_anone, w_nil, w_cons, awp, binC, arithC, cmpC, asI, asN, St.ev, St.step, setS, killS, AV.kill, AV.killL, Mem.kill, ACond_false, List.getD_cons_succ, List.getD_cons_zero, List.set_cons_succ, List.set_cons_zero, List.contains_nil, List.isEmpty_nil, Option.getD_some, Bool.false_eq_true, if_false, if_true, true_and, and_true, Bool.and_true, Bool.true_and, Nat.reduceAdd, Int.reduceAdd, ne_eq, decide_eq_false hx]
      exact ⟨by unfold lim; omega, k + 1, le_sl (by simp [leSl, intsA_len, prsA_len]), ⟨h, upto hno fun _ => hx⟩, by omega⟩
  · have h' : ¬ (k : Int) < (l.length : Int) := by omega
    simp only [w_assign, w_aop, w_anone, w_nil, w_cons, awp, asN, St.ev, St.step, setS, killS, AV.kill, AV.killL, Mem.kill, ACond_false, List.set_cons_succ, List.set_cons_zero, List.contains_nil, List.isEmpty_nil, Option.getD_some, Bool.false_eq_true, if_false, if_true, Nat.reduceAdd, Int.reduceAdd, decide_eq_false h']
    exact aend_frz rfl ⟨by rw [memL_false fun j hj => hno j (by omega) hj]; rfl, rfl⟩

theorem ok73 : okFn Try.prog 73 = true := by kernel_rfl
theorem s73 (n : Int) (ls : List (Int × Int)) (a b : Int) (hl : ls.length ≤ 1000000) : ASpec Try.prog 73 [trapA n ls, I a, I b] (fun r Ms => r = B (lnk ls a b) ∧ Ms = []) := by
  refine aspec_of (own := []) Try.func73 rfl ok73 ?_
  simp only [w_assign, w_box, w_aop, w_anone, w_nil, w_cons, awp, asN, St.ev, St.step, setS, killS, AV.kill, AV.killL, Mem.kill, AV.cellular, AV.pure, AV.pureL, ACond_false, List.getD_cons_zero, List.set_cons_succ, List.set_cons_zero, List.length_cons, List.length_nil, List.replicate_succ, List.replicate_zero, List.cons_append, List.nil_append, List.contains_nil, List.isEmpty_nil, Option.getD_some, Bool.false_eq_true, if_false, if_true, true_and, and_true, Bool.and_true, Bool.true_and, Nat.zero_add, Nat.add_zero, Nat.reduceAdd, Nat.reduceSub, Int.reduceAdd, Int.reduceSub, Try.ntmps73, trapA]
  refine swp_loop' (fun k : Nat => ⟨[.bot, I a, I b, .p (.g [I n, .s 2 (prsA ls)]) 0, .bot, .bot, .bot, I k, .bot, .bot, .bot, .bot, .bot, .bot, .bot, .bot, .bot, .bot, .bot, .bot, .bot, .bot, .bot, .bot, .bot, .bot, .bot, .bot, .bot, .bot, .bot, .bot, .bot, .bot, .bot, .bot, .bot], []⟩) (fun k => k ≤ ls.length ∧ ∀ j, j < k → ∀ h : j < ls.length, ls[j] ≠ (min a b, max a b)) (fun k => ls.length - k) 0 (le_sl (by simp [leSl, intsA_len, prsA_len])) ⟨Nat.zero_le _, by omega⟩ ?_
  rintro k ⟨hk, hno⟩
  refine awp_sound (own := []) _ _ _ _ _ ?_
  simp only [w_move, w_load, w_fieldAddr, w_binOp, w_len, w_aop, w_some, w_asome, w_nil, w_cons, awp, binC, cmpC, asP, asB, asI, lenA, loadA, St.ev, St.step, setS, killS, AV.kill, AV.killL, Mem.kill, AV.cells, AV.flat, AV.single, ACond_false, List.getD_cons_succ, List.getD_cons_zero, List.set_cons_succ, List.set_cons_zero, List.getElem?_cons_succ, List.getElem?_cons_zero, List.length_cons, List.length_nil, List.contains_nil, List.isEmpty_nil, Bool.false_eq_true, if_false, if_true, true_and, and_true, List.all_cons, List.all_nil, Bool.and_true, Bool.true_and, Bool.not_true, Option.isSome_some, Nat.zero_add, decide_true, nbeq, decide_false, Bool.and_false, Nat.reduceAdd, Nat.reduceEqDiff, Nat.reduceLeDiff, Int.reduceAdd, ne_eq, not_false_eq_true, ti22, ti24, prsA_len]
  by_cases h : k < ls.length
  · have h' : (k : Int) < (ls.length : Int) := by omega
    simp only [w_move, w_load, w_fieldAddr, w_indexAddr, w_binOp, w_min, w_aop, w_aopg, w_gdb, w_some, w_asome, w_cons, awp, binC, idxC, cmpC, asP, asS, asI, minmaxA, loadA, St.ev, St.step, setS, killS, AV.kill, AV.killL, Mem.kill, AV.cells, AV.flat, AV.single, ACond_true, ACond_false, List.getD_cons_succ, List.getD_cons_zero, List.set_cons_succ, List.set_cons_zero, List.getElem?_cons_succ, List.getElem?_cons_zero, List.length_cons, List.length_nil, List.contains_nil, List.isEmpty_nil, Bool.false_eq_true, if_false, if_true, true_and, and_true, List.all_cons, List.all_nil, Bool.and_true, Bool.true_and, Bool.not_true, Nat.zero_add, Nat.add_zero, beq_self_eq_true, decide_true, nbeq, decide_false, Bool.and_false, Nat.reduceAdd, Nat.reduceEqDiff, Nat.reduceLeDiff, Int.reduceAdd, Option.bind_some, ne_eq, not_false_eq_true, w_bt, ti3, ti22, ti24, ti57, decide_eq_true h', aget_prs h, Int.toNat_natCast]
    refine ⟨by omega, ?_⟩
    by_cases h1 : ls[k].1 = min a b
    · simp only [w_move, w_pick, w_load, w_fieldAddr, w_indexAddr, w_binOp, w_max, w_aop, w_aopg, w_gdb, w_some, w_asome, w_nil, w_cons, awp, binC, idxC, cmpC, asP, asS, asB, asI, minmaxA, loadA, St.ev, St.step, setS, killS, AV.kill, AV.killL, Mem.kill, AV.cells, AV.flat, AV.single, ACond_true, List.getD_cons_succ, List.getD_cons_zero, List.set_cons_succ, List.set_cons_zero, List.getElem?_cons_succ, List.getElem?_cons_zero, List.length_cons, List.length_nil, List.isEmpty_nil, Bool.false_eq_true, if_false, if_true, true_and, and_true, List.all_cons, List.all_nil, Bool.and_true, Bool.true_and, Bool.not_true, Nat.zero_add, beq_self_eq_true, decide_true, nbeq, decide_false, Bool.and_false, Nat.reduceAdd, Nat.reduceEqDiff, Nat.reduceLeDiff, Int.reduceAdd, Option.bind_some, ne_eq, not_false_eq_true, ti3, ti22, ti24, ti57, decide_eq_true h1, aget_prs h, Int.toNat_natCast]
      refine ⟨by omega, ?_⟩
      by_cases h2 : ls[k].2 = max a b
      · simp only [w_assign, w_aop, w_anone, w_nil, w_cons, awp, asN, St.ev, St.step, setS, killS, AV.kill, AV.killL, Mem.kill, ACond_true, ACond_false, List.set_cons_succ, List.set_cons_zero, List.contains_nil, List.isEmpty_nil, Option.getD_some, Bool.false_eq_true, if_false, if_true, Nat.reduceAdd, Int.reduceAdd, decide_eq_true h2]
        exact aend_frz rfl ⟨by rw [lnk, memL_true h (Prod.ext h1 h2)]; rfl, rfl⟩
      · simp only [w_move, w_assign, w_binOp, w_aop, w_some, w_asome, w_anone, w_nil, w_cons, awp, binC, arithC, cmpC, asI, asN, St.ev, St.step, setS, killS, AV.kill, AV.killL, Mem.kill, ACond_false, List.getD_cons_succ, List.getD_cons_zero, List.set_cons_succ, List.set_cons_zero, List.contains_nil, List.isEmpty_nil, Option.getD_some, Bool.false_eq_true, if_false, if_true, true_and, and_true, Bool.and_true, Bool.true_and, Nat.reduceAdd, Int.reduceAdd, ne_eq, decide_eq_false h2]
        exact ⟨by unfold lim; omega, k + 1, le_sl (by simp [leSl, intsA_len, prsA_len]), ⟨h, upto hno fun _ e => h2 (by rw [e])⟩, by omega⟩
    · simp only [w_move, w_assign, w_pick, w_binOp, w_aop, w_aopg, w_gdb, w_some, w_asome, w_anone, w_nil, w_cons, awp, binC, arithC, cmpC, asB, asI, asN, St.ev, St.step, setS, killS, AV.kill, AV.killL, Mem.kill, ACond_false, List.getD_cons_succ, List.getD_cons_zero, List.set_cons_succ, List.set_cons_zero, List.getElem?_cons_succ, List.getElem?_cons_zero, List.contains_nil, List.isEmpty_nil, Option.getD_some, Bool.false_eq_true, if_false, if_true, true_and, and_true, Bool.and_true, Bool.true_and, Nat.reduceAdd, Int.reduceAdd, Option.bind_some, ne_eq, w_bt, decide_eq_false h1]
      exact ⟨by unfold lim; omega, k + 1, le_sl (by simp [leSl, intsA_len, prsA_len]), ⟨h, upto hno fun _ e => h1 (by rw [e])⟩, by omega⟩
  · have h' : ¬ (k : Int) < (ls.length : Int) := by omega
    simp only [w_assign, w_aop, w_anone, w_nil, w_cons, awp, asN, St.ev, St.step, setS, killS, AV.kill, AV.killL, Mem.kill, ACond_false, List.set_cons_succ, List.set_cons_zero, List.contains_nil, List.isEmpty_nil, Option.getD_some, Bool.false_eq_true, if_false, if_true, Nat.reduceAdd, Int.reduceAdd, decide_eq_false h']
    exact aend_frz rfl ⟨by rw [lnk, memL_false fun j hj => hno j (by omega) hj]; rfl, rfl⟩
end Go.Proofs.Ytkolpijhgcijbaa

namespace Go.Proofs.Ytkolpijhgcijbaa
open Aw Go.RowKit
set_option linter.unusedSimpArgs false

def okLn (n : Int) (l : Int × Int) : Prop := 0 ≤ l.1 ∧ l.2 < n ∧ l.1 < l.2
instance (n : Int) (l : Int × Int) : Decidable (okLn n l) := by unfold okLn; infer_instance
/-- the first error of a trap. -/
def vT (n : Int) (ls : List (Int × Int)) : Int := if n < 1 ∨ 6 < n then 1 else if ∀ l ∈ ls, okLn n l then (if ls.Nodup then 0 else 6) else 1

theorem prsA_take (l : List (Int × Int)) (k : Nat) : (prsA l).take k = prsA (l.take k) := by simp [prsA]
theorem intsA_take (l : List Int) (k : Nat) : (intsA l).take k = intsA (l.take k) := by simp [intsA]
theorem prsA_drop (l : List (Int × Int)) (k : Nat) : (prsA l).drop k = prsA (l.drop k) := by simp [prsA]
theorem intsA_drop (l : List Int) (k : Nat) : (intsA l).drop k = intsA (l.drop k) := by simp [intsA]

theorem le_all {sl sl' : List AV} {M : Mem} (h : leSl sl sl') (hf : AV.freeL ((List.range M.length).map (· + 0)) sl' = true) : Le ⟨sl, M⟩ ⟨sl', []⟩ := le_of (M' := []) (Mx := M) h rfl hf (by simp)

theorem not_nodup {α : Type} {l : List α} {k : Nat} (h : k < l.length) (hm : l[k] ∈ l.take k) : ¬ l.Nodup := by
  intro hn
  obtain ⟨j, hj, e⟩ := List.mem_iff_getElem.1 hm
  rw [List.getElem_take] at e
  have hj' : j < k := by simp at hj; omega
  rw [List.Nodup, List.pairwise_iff_getElem] at hn
  exact hn j k (by omega) h hj' e
theorem nodup_of {α : Type} {l : List α} (h : ∀ k (hk : k < l.length), l[k] ∉ l.take k) : l.Nodup := by
  rw [List.Nodup, List.pairwise_iff_getElem]
  intro i j hi hj hij e
  exact h j hj (by rw [← e]; exact List.mem_take_iff_getElem.2 ⟨i, by omega, rfl⟩)

theorem ok23 : okFn Try.prog 23 = true := by kernel_rfl
theorem s23 (n : Int) (ls : List (Int × Int)) (hl : ls.length ≤ 1000000) : ASpec Try.prog 23 [trapA n ls] (fun r Ms => r = I (vT n ls) ∧ Ms = []) := by
  refine aspec_of (own := []) Try.func23 rfl ok23 ?_
  simp only [w_move, w_assign, w_box, w_load, w_fieldAddr, w_binOp, w_aop, w_aopg, w_gdb, w_some, w_asome, w_anone, w_nil, w_cons, awp, binC, cmpC, asP, asI, asN, loadA, St.ev, St.step, setS, killS, AV.kill, AV.killL, Mem.kill, AV.cells, AV.flat, AV.single, AV.cellular, AV.pure, AV.pureL, ACond_false, List.getD_cons_succ, List.getD_cons_zero, List.set_cons_succ, List.set_cons_zero, List.getElem?_cons_succ, List.getElem?_cons_zero, List.length_cons, List.length_nil, List.replicate_succ, List.replicate_zero, List.cons_append, List.nil_append, List.contains_nil, List.isEmpty_nil, Option.getD_some, Bool.false_eq_true, if_false, if_true, true_and, and_true, List.all_cons, List.all_nil, Bool.and_true, Bool.true_and, Bool.not_true, Nat.zero_add, Nat.add_zero, beq_self_eq_true, decide_true, nbeq, decide_false, Bool.and_false, Nat.reduceAdd, Nat.reduceEqDiff, Nat.reduceSub, Nat.reduceLeDiff, Int.reduceAdd, Int.reduceSub, Option.bind_some, ne_eq, not_false_eq_true, w_bf, ti3, ti24, Try.ntmps23, trapA]
  by_cases h1 : n < 1
  · simp only [w_assign, w_pick, w_aop, w_aopg, w_gdb, w_some, w_anone, w_nil, w_cons, awp, asB, asN, St.ev, St.step, setS, killS, AV.kill, AV.killL, Mem.kill, ACond_true, ACond_false, List.getD_cons_succ, List.getD_cons_zero, List.set_cons_succ, List.set_cons_zero, List.getElem?_cons_succ, List.getElem?_cons_zero, List.contains_nil, List.isEmpty_nil, Option.getD_some, Bool.false_eq_true, if_false, if_true, Bool.not_true, Nat.reduceAdd, Int.reduceAdd, Option.bind_some, w_bf, decide_eq_true h1]
    exact aend_frz rfl ⟨by rw [vT, if_pos (.inl h1)]; rfl, rfl⟩
  simp only [w_pick, w_load, w_fieldAddr, w_binOp, w_aop, w_aopg, w_gdb, w_some, w_asome, w_nil, w_cons, awp, binC, cmpC, asP, asB, asI, loadA, St.ev, St.step, setS, killS, AV.kill, AV.killL, Mem.kill, AV.cells, AV.flat, AV.single, ACond_true, ACond_false, List.getD_cons_succ, List.getD_cons_zero, List.set_cons_succ, List.set_cons_zero, List.getElem?_cons_succ, List.getElem?_cons_zero, List.length_cons, List.length_nil, List.isEmpty_nil, Bool.false_eq_true, if_false, if_true, true_and, and_true, List.all_cons, List.all_nil, Bool.and_true, Bool.true_and, Bool.not_true, Bool.not_false, Nat.zero_add, Nat.add_zero, beq_self_eq_true, decide_true, nbeq, decide_false, Bool.and_false, Nat.reduceAdd, Nat.reduceEqDiff, Nat.reduceLeDiff, Int.reduceAdd, Option.bind_some, ne_eq, not_false_eq_true, ti3, ti24, decide_eq_false h1]
  by_cases h2 : 6 < n
  · simp only [w_assign, w_aop, w_anone, w_nil, w_cons, awp, asN, St.ev, St.step, setS, killS, AV.kill, AV.killL, Mem.kill, ACond_true, ACond_false, List.set_cons_succ, List.set_cons_zero, List.contains_nil, List.isEmpty_nil, Option.getD_some, Bool.false_eq_true, if_false, if_true, Nat.reduceAdd, Int.reduceAdd, decide_eq_true h2]
    exact aend_frz rfl ⟨by rw [vT, if_pos (.inr h2)]; rfl, rfl⟩
  simp only [w_move, w_load, w_fieldAddr, w_len, w_aop, w_some, w_asome, w_nil, w_cons, awp, asP, lenA, loadA, St.ev, St.step, setS, killS, AV.kill, AV.killL, Mem.kill, AV.cells, AV.flat, AV.single, ACond_false, List.getD_cons_succ, List.getD_cons_zero, List.set_cons_succ, List.set_cons_zero, List.getElem?_cons_succ, List.getElem?_cons_zero, List.length_cons, List.length_nil, List.contains_nil, List.isEmpty_nil, Bool.false_eq_true, if_false, if_true, true_and, and_true, List.all_cons, List.all_nil, Bool.and_true, Bool.true_and, Bool.not_true, Option.isSome_some, Nat.zero_add, decide_true, nbeq, decide_false, Bool.and_false, Nat.reduceAdd, Nat.reduceEqDiff, Nat.reduceLeDiff, Int.reduceAdd, ne_eq, not_false_eq_true, ti22, ti24, decide_eq_false h2]
  refine swp_loop' (fun k : Nat => ⟨[.bot, .p (.g [I n, .s 2 (prsA ls)]) 0, .bot, .bot, .bot, .bot, .bot, .bot, .bot, .bot, .bot, .bot, .bot, .bot, .bot, .bot, .s 2 (prsA ls), I ls.length, I k, .bot, .bot, .bot, .bot, .bot, .bot, .bot, .bot, .bot, .bot, .bot, .bot, .bot, .bot, .bot, .bot, .bot, .bot, .bot, .bot, .bot, .bot, .bot, .bot, .bot, .bot, .bot, .bot, .bot, .bot, .bot, .bot, .bot, .bot, .bot, .bot], []⟩) (fun k => k ≤ ls.length ∧ ∀ j, j < k → ∀ h : j < ls.length, okLn n ls[j]) (fun k => ls.length - k) 0 (le_sl (by simp [leSl, prsA_len])) ⟨Nat.zero_le _, by omega⟩ ?_
  rintro k ⟨hk, hno⟩
  refine awp_sound (own := []) _ _ _ _ _ ?_
  simp only [w_binOp, w_aop, w_some, w_asome, w_nil, w_cons, awp, binC, cmpC, asB, asI, St.ev, St.step, setS, killS, AV.kill, AV.killL, Mem.kill, ACond_false, List.getD_cons_succ, List.getD_cons_zero, List.set_cons_succ, List.set_cons_zero, List.contains_nil, List.isEmpty_nil, if_true, true_and, Bool.true_and, Nat.reduceAdd, Int.reduceAdd]
  by_cases h : k < ls.length
  · have h' : (k : Int) < (ls.length : Int) := by omega
    simp only [w_move, w_alloc, w_load, w_store, w_fieldAddr, w_indexAddr, w_binOp, w_aop, w_aopg, w_gdb, w_some, w_asome, w_anone, w_nil, w_cons, awp, binC, idxC, cmpC, asP, asQ, asS, asI, obA, AGet_zero, loadA, storeA, putsA, mkA, Aw.newRow, St.ev, St.step, setS, killS, AV.kill, AV.killL, Mem.kill, AV.cells, AV.flat, AV.single, AV.cellular, ACond_true, ACond_false, List.getD_cons_succ, List.getD_cons_zero, List.set_cons_succ, List.set_cons_zero, List.getElem?_cons_succ, List.getElem?_cons_zero, List.length_cons, List.length_nil, List.nil_append, List.contains_nil, List.isEmpty_nil, Bool.false_eq_true, if_false, if_true, true_and, and_true, List.all_cons, List.all_nil, Bool.and_true, Bool.true_and, Bool.not_true, Nat.zero_add, Nat.add_zero, beq_self_eq_true, List.map_cons, List.map_nil, decide_true, nbeq, decide_false, Bool.or_false, Bool.and_false, Nat.reduceAdd, Nat.reduceEqDiff, Nat.reduceLeDiff, Int.reduceAdd, Option.bind_some, ne_eq, not_false_eq_true, w_bf, ti3, ti22, ti57, decide_eq_true h', aget_prs h, Int.toNat_natCast]
    have bad : ¬ okLn n ls[k] → ¬ ∀ l ∈ ls, okLn n l := fun hb ha => hb (ha _ (List.getElem_mem h))
    have ret : ¬ okLn n ls[k] → vT n ls = 1 := fun hb => by rw [vT, if_neg (by omega), if_neg (bad hb)]
    refine ⟨by omega, ?_⟩
    by_cases c1 : ls[k].1 < 0
    · simp only [w_move, w_assign, w_pick, w_aop, w_aopg, w_gdb, w_some, w_anone, w_nil, w_cons, awp, asB, asN, St.ev, St.step, setS, killS, AV.kill, AV.killL, Mem.kill, ACond_true, ACond_false, List.getD_cons_succ, List.getD_cons_zero, List.set_cons_succ, List.set_cons_zero, List.getElem?_cons_succ, List.getElem?_cons_zero, List.contains_nil, List.isEmpty_nil, Option.getD_some, Bool.false_eq_true, if_false, if_true, Bool.not_true, Nat.reduceAdd, Int.reduceAdd, Option.bind_some, w_bf, decide_eq_true c1]
      exact aend_frz rfl ⟨by rw [ret (fun hb => by have := hb.1; omega)]; rfl, rfl⟩
    simp only [w_move, w_pick, w_load, w_fieldAddr, w_binOp, w_aop, w_aopg, w_gdb, w_some, w_asome, w_anone, w_cons, binC, cmpC, asP, asQ, asB, asI, obA, AGet_zero, loadA, St.ev, St.step, setS, killS, AV.kill, AV.killL, Mem.kill, AV.cells, AV.flat, AV.single, ACond_true, ACond_false, List.getD_cons_succ, List.getD_cons_zero, List.set_cons_succ, List.set_cons_zero, List.getElem?_cons_succ, List.getElem?_cons_zero, List.length_cons, List.length_nil, List.contains_nil, List.isEmpty_nil, Bool.false_eq_true, if_false, if_true, true_and, and_true, List.all_cons, List.all_nil, Bool.and_true, Bool.true_and, Bool.not_true, Bool.not_false, Nat.zero_add, Nat.add_zero, beq_self_eq_true, decide_true, nbeq, decide_false, Bool.and_false, Nat.reduceAdd, Nat.reduceEqDiff, Nat.reduceLeDiff, Int.reduceAdd, Option.bind_some, ne_eq, not_false_eq_true, w_bf, ti3, ti24, ti57, decide_eq_false c1]
    by_cases c2 : n ≤ ls[k].2
    · simp only [w_assign, w_pick, w_aop, w_aopg, w_gdb, w_some, w_anone, w_nil, w_cons, awp, asB, asN, St.ev, St.step, setS, killS, AV.kill, AV.killL, Mem.kill, ACond_true, ACond_false, List.getD_cons_succ, List.getD_cons_zero, List.set_cons_succ, List.set_cons_zero, List.getElem?_cons_succ, List.getElem?_cons_zero, List.contains_nil, List.isEmpty_nil, Option.getD_some, Bool.false_eq_true, if_false, if_true, Bool.not_true, Nat.reduceAdd, Int.reduceAdd, Option.bind_some, w_bf, decide_eq_true c2]
      exact aend_frz rfl ⟨by rw [ret (fun hb => by have := hb.2.1; omega)]; rfl, rfl⟩
    simp only [w_pick, w_load, w_fieldAddr, w_binOp, w_aop, w_aopg, w_gdb, w_some, w_asome, w_anone, w_nil, w_cons, awp, binC, cmpC, asP, asQ, asB, asI, obA, AGet_zero, loadA, St.ev, St.step, setS, killS, AV.kill, AV.killL, Mem.kill, AV.cells, AV.flat, AV.single, ACond_true, ACond_false, List.getD_cons_succ, List.getD_cons_zero, List.set_cons_succ, List.set_cons_zero, List.getElem?_cons_succ, List.getElem?_cons_zero, List.length_cons, List.length_nil, List.contains_nil, List.isEmpty_nil, Bool.false_eq_true, if_false, if_true, true_and, and_true, List.all_cons, List.all_nil, Bool.and_true, Bool.true_and, Bool.not_true, Bool.not_false, Nat.zero_add, Nat.add_zero, beq_self_eq_true, decide_true, nbeq, decide_false, Bool.and_false, Nat.reduceAdd, Nat.reduceEqDiff, Nat.reduceLeDiff, Int.reduceAdd, Option.bind_some, ne_eq, not_false_eq_true, ti3, ti57, decide_eq_false c2]
    by_cases c3 : ls[k].2 ≤ ls[k].1
    · simp only [w_assign, w_aop, w_anone, w_nil, w_cons, awp, asN, St.ev, St.step, setS, killS, AV.kill, AV.killL, Mem.kill, ACond_true, ACond_false, List.set_cons_succ, List.set_cons_zero, List.contains_nil, List.isEmpty_nil, Option.getD_some, Bool.false_eq_true, if_false, if_true, Nat.reduceAdd, Int.reduceAdd, decide_eq_true c3]
      exact aend_frz rfl ⟨by rw [ret (fun hb => by have := hb.2.2; omega)]; rfl, rfl⟩
    simp only [w_move, w_binOp, w_aop, w_some, w_asome, w_anone, w_nil, w_cons, awp, binC, arithC, cmpC, asI, St.ev, St.step, setS, killS, AV.kill, AV.killL, Mem.kill, ACond_false, List.getD_cons_succ, List.getD_cons_zero, List.set_cons_succ, List.set_cons_zero, List.contains_nil, List.isEmpty_nil, Bool.false_eq_true, if_false, if_true, true_and, and_true, Bool.and_true, Bool.true_and, Nat.reduceAdd, Int.reduceAdd, decide_eq_false c3]
    exact ⟨by unfold lim; omega, k + 1, le_all (by simp [leSl]) rfl, ⟨h, upto hno fun _ => ⟨by omega, by omega, by omega⟩⟩, by omega⟩
  · have h' : ¬ (k : Int) < (ls.length : Int) := by omega
    have good : ∀ l ∈ ls, okLn n l := fun l hm => by
      obtain ⟨j, hj, rfl⟩ := List.mem_iff_getElem.1 hm
      exact hno j (by omega) hj
    simp only [w_move, w_load, w_fieldAddr, w_len, w_aop, w_some, w_asome, w_nil, w_cons, awp, asP, lenA, loadA, St.ev, St.step, setS, killS, AV.kill, AV.killL, Mem.kill, AV.cells, AV.flat, AV.single, ACond_false, List.getD_cons_succ, List.getD_cons_zero, List.set_cons_succ, List.set_cons_zero, List.getElem?_cons_succ, List.getElem?_cons_zero, List.length_cons, List.length_nil, List.contains_nil, List.isEmpty_nil, Bool.false_eq_true, if_false, if_true, true_and, and_true, List.all_cons, List.all_nil, Bool.and_true, Bool.true_and, Bool.not_true, Option.isSome_some, Nat.zero_add, decide_true, nbeq, decide_false, Bool.and_false, Nat.reduceAdd, Nat.reduceEqDiff, Nat.reduceLeDiff, Int.reduceAdd, ne_eq, not_false_eq_true, ti22, ti24, decide_eq_false h', prsA_len]
    clear hno h h' hk
    refine swp_loop' (fun k : Nat => ⟨[.bot, .p (.g [I n, .s 2 (prsA ls)]) 0, .bot, .bot, .bot, .bot, .bot, .bot, .bot, .bot, .bot, .bot, .bot, .bot, .bot, .bot, .bot, .bot, .bot, .bot, .bot, .bot, .bot, .bot, .bot, .bot, .bot, .bot, .bot, .bot, .bot, .bot, .bot, .bot, .bot, .bot, .bot, .bot, .bot, .bot, .bot, .s 2 (prsA ls), I ls.length, I k, .bot, .bot, .bot, .bot, .bot, .bot, .bot, .bot, .bot, .bot, .bot], []⟩) (fun k => k ≤ ls.length ∧ ∀ j, j < k → ∀ h : j < ls.length, ls[j] ∉ ls.take j) (fun k => ls.length - k) 0 (le_sl (by simp [leSl, prsA_len])) ⟨Nat.zero_le _, by omega⟩ ?_
    rintro k ⟨hk, hno⟩
    refine awp_sound (own := []) _ _ _ _ _ ?_
    simp only [w_binOp, w_aop, w_some, w_asome, w_nil, w_cons, awp, binC, cmpC, asB, asI, St.ev, St.step, setS, killS, AV.kill, AV.killL, Mem.kill, ACond_false, List.getD_cons_succ, List.getD_cons_zero, List.set_cons_succ, List.set_cons_zero, List.contains_nil, List.isEmpty_nil, if_true, true_and, Bool.true_and, Nat.reduceAdd, Int.reduceAdd]
    by_cases h : k < ls.length
    · have h' : (k : Int) < (ls.length : Int) := by omega
      simp only [w_move, w_assign, w_alloc, w_load, w_store, w_indexAddr, w_aop, w_some, w_asome, w_anone, w_nil, w_cons, awp, idxC, asP, asQ, asS, asI, asN, obA, AGet_zero, loadA, storeA, putsA, mkA, Aw.newRow, St.ev, St.step, setS, killS, AV.kill, AV.killL, Mem.kill, AV.cells, AV.flat, AV.single, AV.cellular, ACond_true, ACond_false, List.getD_cons_succ, List.getD_cons_zero, List.set_cons_succ, List.set_cons_zero, List.getElem?_cons_zero, List.length_cons, List.length_nil, List.nil_append, List.contains_nil, List.isEmpty_nil, Option.getD_some, Bool.false_eq_true, if_false, if_true, true_and, and_true, List.all_cons, List.all_nil, Bool.and_true, Bool.true_and, Bool.not_true, Nat.zero_add, beq_self_eq_true, List.map_cons, List.map_nil, decide_true, nbeq, decide_false, Bool.or_false, Nat.reduceAdd, Nat.reduceEqDiff, Nat.reduceLeDiff, Int.reduceAdd, ti22, ti57, decide_eq_true h', aget_prs h, Int.toNat_natCast]
      refine ⟨by omega, ?_⟩
      refine swp_draw (own := []) (.take 0 .plain [] (.take 1 .reads [] (.take 2 .plain [] (.take 3 .plain [] (.take 4 .reads [] (.alt 5 (.done) (.nil))))))) [⟨49, 2, 0, 0, true⟩, ⟨50, 281474976710656, 1, 0, true⟩, ⟨51, 32, 0, 0, true⟩, ⟨52, 1688849860263936, 6, 0, true⟩, ⟨53, 64, 0, 0, true⟩, ⟨54, 6755399441055744, 24, 0, false⟩] mo (by kernel_rfl) ?_
      simp only [w_move, w_load, w_fieldAddr, w_slice, w_callF, w_aop, w_take, w_some, w_asome, w_anone, asP, asQ, asS, obA, AGet_zero, bndA, loadA, St.ev, setS, AV.cells, AV.flat, AV.single, List.getD_cons_succ, List.getD_cons_zero, List.set_cons_succ, List.set_cons_zero, List.getElem?_cons_succ, List.getElem?_cons_zero, List.length_cons, List.length_nil, Option.getD_some, Option.getD_none, Bool.false_eq_true, if_false, if_true, true_and, and_true, List.all_cons, List.all_nil, Bool.and_true, Bool.true_and, Bool.not_true, Nat.zero_add, beq_self_eq_true, List.map_cons, List.map_nil, decide_true, nbeq, decide_false, Bool.and_false, Nat.reduceAdd, Nat.reduceEqDiff, Nat.reduceLeDiff, Int.reduceAdd, Int.reduceLE, Int.toNat_zero, ASch, St.put, Md.mem, Md.need, ne_eq, not_false_eq_true, ti22, ti24, ti57, prsA_len, bndA, Option.getD_some, Option.getD_none, prsA_take, List.drop_zero, Int.toNat_natCast]
      refine ⟨by omega, acall_v (s67 (ls.take k) ls[k].1 ls[k].2 (by simp only [List.length_take]; omega)) rfl rfl ?_⟩
      by_cases hm : ls[k] ∈ ls.take k
      · have hm' : memL (ls.take k) (ls[k].1, ls[k].2) = true := (memL_eq _ _).2 hm
        simp only [w_assign, w_aop, w_some, w_anone, w_nil, w_cons, awp, asB, asN, St.ev, St.step, setS, killS, AV.kill, AV.killL, Mem.kill, ACond_true, ACond_false, List.getD_cons_succ, List.getD_cons_zero, List.set_cons_succ, List.set_cons_zero, List.contains_nil, List.isEmpty_nil, Option.getD_some, Bool.false_eq_true, if_false, if_true, Nat.reduceAdd, Int.reduceAdd, ASch, hm']
        refine aend_frz rfl ⟨?_, rfl⟩
        rw [vT, if_neg (by omega), if_pos good, if_neg (not_nodup h hm)]
        rfl
      · have hm' : memL (ls.take k) (ls[k].1, ls[k].2) = false := by rw [Bool.eq_false_iff, ne_eq, memL_eq]; exact hm
        simp only [w_move, w_binOp, w_aop, w_some, w_asome, w_anone, w_nil, w_cons, awp, binC, arithC, cmpC, asB, asI, St.ev, St.step, setS, killS, AV.kill, AV.killL, Mem.kill, ACond_false, List.getD_cons_succ, List.getD_cons_zero, List.set_cons_succ, List.set_cons_zero, List.contains_nil, List.isEmpty_nil, Bool.false_eq_true, if_false, if_true, true_and, and_true, Bool.and_true, Bool.true_and, Nat.reduceAdd, Int.reduceAdd, ASch, hm']
        exact ⟨by unfold lim; omega, k + 1, le_all (by simp [leSl]) rfl, ⟨h, upto hno fun _ => hm⟩, by omega⟩
    · have h' : ¬ (k : Int) < (ls.length : Int) := by omega
      simp only [w_assign, w_aop, w_anone, w_nil, w_cons, awp, asN, St.ev, St.step, setS, killS, AV.kill, AV.killL, Mem.kill, ACond_false, List.set_cons_succ, List.set_cons_zero, List.contains_nil, List.isEmpty_nil, Option.getD_some, Bool.false_eq_true, if_false, if_true, Nat.reduceAdd, Int.reduceAdd, decide_eq_false h']
      refine aend_frz rfl ⟨?_, rfl⟩
      rw [vT, if_neg (by omega), if_pos good, if_pos (nodup_of fun j hj => hno j (by omega) hj)]
      rfl
end Go.Proofs.Ytkolpijhgcijbaa

namespace Go.Proofs.Ytkolpijhgcijbaa
open Aw Go.RowKit
set_option linter.unusedSimpArgs false

theorem ok68 : okFn Try.prog 68 = true := by kernel_rfl
theorem s68 (x lo hi : Int) : ASpec Try.prog 68 [I x, I lo, I hi] (fun r Ms => r = B (decide (lo ≤ x ∧ x ≤ hi)) ∧ Ms = []) := by
  refine aspec_of (own := []) Try.func68 rfl ok68 ?_
  simp only [w_move, w_assign, w_binOp, w_aop, w_aopg, w_gdb, w_some, w_asome, w_anone, w_nil, w_cons, awp, binC, cmpC, asI, asN, St.ev, St.step, setS, killS, AV.kill, AV.killL, Mem.kill, ACond_false, List.getD_cons_succ, List.getD_cons_zero, List.set_cons_succ, List.set_cons_zero, List.getElem?_cons_succ, List.getElem?_cons_zero, List.length_cons, List.length_nil, List.replicate_succ, List.replicate_zero, List.cons_append, List.nil_append, List.contains_nil, List.isEmpty_nil, Option.getD_some, Bool.false_eq_true, if_false, if_true, true_and, Bool.true_and, Nat.zero_add, Nat.add_zero, Nat.reduceAdd, Nat.reduceSub, Int.reduceAdd, Int.reduceSub, Option.bind_some, w_bt, Try.ntmps68]
  by_cases h : lo ≤ x
  · simp only [w_move, w_assign, w_pick, w_binOp, w_aop, w_aopg, w_gdb, w_some, w_asome, w_anone, w_nil, w_cons, awp, binC, cmpC, asB, asI, asN, St.ev, St.step, setS, killS, AV.kill, AV.killL, Mem.kill, ACond_true, List.getD_cons_succ, List.getD_cons_zero, List.set_cons_succ, List.set_cons_zero, List.getElem?_cons_succ, List.getElem?_cons_zero, List.contains_nil, List.isEmpty_nil, Option.getD_some, Bool.false_eq_true, if_false, if_true, true_and, Bool.true_and, beq_self_eq_true, Option.bind_some, decide_eq_true h]
    exact aend_frz rfl ⟨by simp [h]; rfl, rfl⟩
  · simp only [w_assign, w_pick, w_aop, w_aopg, w_gdb, w_some, w_anone, w_nil, w_cons, awp, asB, asN, St.ev, St.step, setS, killS, AV.kill, AV.killL, Mem.kill, ACond_false, List.getD_cons_succ, List.getD_cons_zero, List.set_cons_succ, List.set_cons_zero, List.getElem?_cons_succ, List.getElem?_cons_zero, List.contains_nil, List.isEmpty_nil, Option.getD_some, Bool.false_eq_true, if_false, if_true, Option.bind_some, w_bt, decide_eq_false h]
    exact aend_frz rfl ⟨by simp [h]; rfl, rfl⟩

theorem mem_take_of {α : Type} {l : List α} {j k : Nat} (hk : k < l.length) (hj : j < k) (e : l[j]'(by omega) = l[k]) : l[k] ∈ l.take k := by
  rw [← e]; exact List.mem_take_iff_getElem.2 ⟨j, by omega, rfl⟩
theorem not_mem_take {α : Type} {l : List α} {k : Nat} (hk : k < l.length) (h : ∀ j, j < k → ∀ hj : j < l.length, l[j] ≠ l[k]) : l[k] ∉ l.take k := by
  intro hm
  obtain ⟨j, hj, e⟩ := List.mem_iff_getElem.1 hm
  rw [List.getElem_take] at e
  have hj' : j < k := by simp at hj; omega
  exact h j hj' (by omega) e

theorem ok24 : okFn Try.prog 24 = true := by kernel_rfl
theorem s24 (n : Int) (ls : List (Int × Int)) (hl : ls.length ≤ 1000000) : ASpec Try.prog 24 [trapA n ls] (fun r Ms => r = I (vT n ls) ∧ Ms = []) := by
  refine aspec_of (own := []) Try.func24 rfl ok24 ?_
  simp only [w_assign, w_box, w_load, w_fieldAddr, w_callF, w_aop, w_some, w_asome, w_anone, w_nil, w_cons, awp, asP, asN, loadA, St.ev, St.step, setS, killS, AV.kill, AV.killL, Mem.kill, AV.cells, AV.flat, AV.single, AV.cellular, AV.pure, AV.pureL, ACond_false, List.getD_cons_succ, List.getD_cons_zero, List.set_cons_succ, List.set_cons_zero, List.getElem?_cons_zero, List.length_cons, List.length_nil, List.replicate_succ, List.replicate_zero, List.cons_append, List.nil_append, List.contains_nil, List.isEmpty_nil, Option.getD_some, Bool.false_eq_true, if_false, if_true, true_and, and_true, List.all_cons, List.all_nil, Bool.and_true, Bool.true_and, Bool.not_true, Nat.zero_add, Nat.add_zero, beq_self_eq_true, List.map_cons, List.map_nil, decide_true, nbeq, decide_false, Bool.and_false, Nat.reduceAdd, Nat.reduceEqDiff, Nat.reduceSub, Nat.reduceLeDiff, Int.reduceAdd, Int.reduceSub, ne_eq, not_false_eq_true, ti3, ti24, Try.ntmps24, trapA]
  refine acall_v (s68 n 1 6) rfl rfl ?_
  by_cases h0 : ¬ (1 ≤ n ∧ n ≤ 6)
  · simp only [w_assign, w_not, w_aop, w_some, w_anone, w_nil, w_cons, awp, asB, asN, St.ev, St.step, setS, killS, AV.kill, AV.killL, Mem.kill, ACond_true, ACond_false, List.getD_cons_succ, List.getD_cons_zero, List.set_cons_succ, List.set_cons_zero, List.contains_nil, List.isEmpty_nil, Option.getD_some, Bool.false_eq_true, if_false, if_true, Bool.not_false, Nat.reduceAdd, Int.reduceAdd, decide_eq_false h0]
    exact aend_frz rfl ⟨by rw [vT, if_pos (by omega)]; rfl, rfl⟩
  have h1 : 1 ≤ n ∧ n ≤ 6 := Decidable.not_not.1 h0
  simp only [w_assign, w_not, w_aop, w_some, w_anone, w_nil, w_cons, awp, asB, asN, St.ev, St.step, setS, killS, AV.kill, AV.killL, Mem.kill, ACond_false, List.getD_cons_succ, List.getD_cons_zero, List.set_cons_succ, List.set_cons_zero, List.contains_nil, List.isEmpty_nil, Option.getD_some, Bool.false_eq_true, if_false, if_true, Bool.not_true, Nat.reduceAdd, Int.reduceAdd, decide_eq_true h1]
  refine swp_loop' (fun k : Nat => ⟨[.bot, .p (.g [I n, .s 2 (prsA ls)]) 0, .bot, I k, .bot, .bot, .bot, .bot, .bot, .bot, .bot, .bot, .bot, .bot, .bot, .bot, .bot, .bot, .bot, .bot, .bot, .bot, .bot, .bot, .bot, .bot, .bot, .bot, .bot, .bot, .bot, .bot, .bot, .bot, .bot, .bot, .bot, .bot, .bot, .bot, .bot, .bot, .bot, .bot, .bot, .bot, .bot, .bot, .bot, .bot, .bot, .bot, .bot, .bot, .bot, .bot, .bot, .bot, .bot, .bot, .bot, .bot, .bot], []⟩) (fun k => k ≤ ls.length ∧ ∀ j, j < k → ∀ h : j < ls.length, okLn n ls[j]) (fun k => ls.length - k) 0 (le_sl (by simp [leSl, prsA_len])) ⟨Nat.zero_le _, by omega⟩ ?_
  rintro k ⟨hk, hno⟩
  refine awp_sound (own := []) _ _ _ _ _ ?_
  simp only [w_move, w_load, w_fieldAddr, w_binOp, w_len, w_aop, w_some, w_asome, w_nil, w_cons, awp, binC, cmpC, asP, asB, asI, lenA, loadA, St.ev, St.step, setS, killS, AV.kill, AV.killL, Mem.kill, AV.cells, AV.flat, AV.single, ACond_false, List.getD_cons_succ, List.getD_cons_zero, List.set_cons_succ, List.set_cons_zero, List.getElem?_cons_succ, List.getElem?_cons_zero, List.length_cons, List.length_nil, List.contains_nil, List.isEmpty_nil, Bool.false_eq_true, if_false, if_true, true_and, and_true, List.all_cons, List.all_nil, Bool.and_true, Bool.true_and, Bool.not_true, Option.isSome_some, Nat.zero_add, decide_true, nbeq, decide_false, Bool.and_false, Nat.reduceAdd, Nat.reduceEqDiff, Nat.reduceLeDiff, Int.reduceAdd, ne_eq, not_false_eq_true, ti22, ti24, prsA_len]
  by_cases h : k < ls.length
  · have h' : (k : Int) < (ls.length : Int) := by omega
    simp only [w_move, w_alloc, w_load, w_store, w_fieldAddr, w_indexAddr, w_binOp, w_aop, w_aopg, w_gdb, w_some, w_asome, w_anone, w_nil, w_cons, awp, binC, idxC, cmpC, asP, asQ, asS, asI, obA, AGet_zero, loadA, storeA, putsA, mkA, Aw.newRow, St.ev, St.step, setS, killS, AV.kill, AV.killL, Mem.kill, AV.cells, AV.flat, AV.single, AV.cellular, ACond_true, ACond_false, List.getD_cons_succ, List.getD_cons_zero, List.set_cons_succ, List.set_cons_zero, List.getElem?_cons_succ, List.getElem?_cons_zero, List.length_cons, List.length_nil, List.nil_append, List.contains_nil, List.isEmpty_nil, Bool.false_eq_true, if_false, if_true, true_and, and_true, List.all_cons, List.all_nil, Bool.and_true, Bool.true_and, Bool.not_true, Nat.zero_add, Nat.add_zero, beq_self_eq_true, List.map_cons, List.map_nil, decide_true, nbeq, decide_false, Bool.or_false, Bool.and_false, Nat.reduceAdd, Nat.reduceEqDiff, Nat.reduceLeDiff, Int.reduceAdd, Option.bind_some, ne_eq, not_false_eq_true, w_bf, ti3, ti22, ti24, ti57, decide_eq_true h', aget_prs h, Int.toNat_natCast]
    have bad : ¬ okLn n ls[k] → ¬ ∀ l ∈ ls, okLn n l := fun hb ha => hb (ha _ (List.getElem_mem h))
    have ret : ¬ okLn n ls[k] → vT n ls = 1 := fun hb => by rw [vT, if_neg (by omega), if_neg (bad hb)]
    refine ⟨by omega, ?_⟩
    by_cases c1 : ls[k].1 < 0
    · simp only [w_move, w_assign, w_pick, w_aop, w_aopg, w_gdb, w_some, w_anone, w_nil, w_cons, awp, asB, asN, St.ev, St.step, setS, killS, AV.kill, AV.killL, Mem.kill, ACond_true, ACond_false, List.getD_cons_succ, List.getD_cons_zero, List.set_cons_succ, List.set_cons_zero, List.getElem?_cons_succ, List.getElem?_cons_zero, List.contains_nil, List.isEmpty_nil, Option.getD_some, Bool.false_eq_true, if_false, if_true, Bool.not_true, Nat.reduceAdd, Int.reduceAdd, Option.bind_some, w_bf, decide_eq_true c1]
      exact aend_frz rfl ⟨by rw [ret (fun hb => by have := hb.1; omega)]; rfl, rfl⟩
    simp only [w_move, w_pick, w_load, w_fieldAddr, w_binOp, w_aop, w_aopg, w_gdb, w_some, w_asome, w_anone, w_cons, binC, cmpC, asP, asQ, asB, asI, obA, AGet_zero, loadA, St.ev, St.step, setS, killS, AV.kill, AV.killL, Mem.kill, AV.cells, AV.flat, AV.single, ACond_true, ACond_false, List.getD_cons_succ, List.getD_cons_zero, List.set_cons_succ, List.set_cons_zero, List.getElem?_cons_succ, List.getElem?_cons_zero, List.length_cons, List.length_nil, List.contains_nil, List.isEmpty_nil, Bool.false_eq_true, if_false, if_true, true_and, and_true, List.all_cons, List.all_nil, Bool.and_true, Bool.true_and, Bool.not_true, Bool.not_false, Nat.zero_add, Nat.add_zero, beq_self_eq_true, decide_true, nbeq, decide_false, Bool.and_false, Nat.reduceAdd, Nat.reduceEqDiff, Nat.reduceLeDiff, Int.reduceAdd, Option.bind_some, ne_eq, not_false_eq_true, w_bf, ti3, ti24, ti57, decide_eq_false c1]
    by_cases c2 : n ≤ ls[k].2
    · simp only [w_assign, w_pick, w_aop, w_aopg, w_gdb, w_some, w_anone, w_nil, w_cons, awp, asB, asN, St.ev, St.step, setS, killS, AV.kill, AV.killL, Mem.kill, ACond_true, ACond_false, List.getD_cons_succ, List.getD_cons_zero, List.set_cons_succ, List.set_cons_zero, List.getElem?_cons_succ, List.getElem?_cons_zero, List.contains_nil, List.isEmpty_nil, Option.getD_some, Bool.false_eq_true, if_false, if_true, Bool.not_true, Nat.reduceAdd, Int.reduceAdd, Option.bind_some, w_bf, decide_eq_true c2]
      exact aend_frz rfl ⟨by rw [ret (fun hb => by have := hb.2.1; omega)]; rfl, rfl⟩
    simp only [w_pick, w_load, w_fieldAddr, w_binOp, w_aop, w_aopg, w_gdb, w_some, w_asome, w_anone, w_nil, w_cons, awp, binC, cmpC, asP, asQ, asB, asI, obA, AGet_zero, loadA, St.ev, St.step, setS, killS, AV.kill, AV.killL, Mem.kill, AV.cells, AV.flat, AV.single, ACond_true, ACond_false, List.getD_cons_succ, List.getD_cons_zero, List.set_cons_succ, List.set_cons_zero, List.getElem?_cons_succ, List.getElem?_cons_zero, List.length_cons, List.length_nil, List.contains_nil, List.isEmpty_nil, Bool.false_eq_true, if_false, if_true, true_and, and_true, List.all_cons, List.all_nil, Bool.and_true, Bool.true_and, Bool.not_true, Bool.not_false, Nat.zero_add, Nat.add_zero, beq_self_eq_true, decide_true, nbeq, decide_false, Bool.and_false, Nat.reduceAdd, Nat.reduceEqDiff, Nat.reduceLeDiff, Int.reduceAdd, Option.bind_some, ne_eq, not_false_eq_true, ti3, ti57, decide_eq_false c2]
    by_cases c3 : ls[k].2 ≤ ls[k].1
    · simp only [w_assign, w_aop, w_anone, w_nil, w_cons, awp, asN, St.ev, St.step, setS, killS, AV.kill, AV.killL, Mem.kill, ACond_true, ACond_false, List.set_cons_succ, List.set_cons_zero, List.contains_nil, List.isEmpty_nil, Option.getD_some, Bool.false_eq_true, if_false, if_true, Nat.reduceAdd, Int.reduceAdd, decide_eq_true c3]
      exact aend_frz rfl ⟨by rw [ret (fun hb => by have := hb.2.2; omega)]; rfl, rfl⟩
    simp only [w_move, w_assign, w_binOp, w_aop, w_some, w_asome, w_anone, w_nil, w_cons, awp, binC, arithC, cmpC, asI, asN, St.ev, St.step, setS, killS, AV.kill, AV.killL, Mem.kill, ACond_false, List.getD_cons_succ, List.getD_cons_zero, List.set_cons_succ, List.set_cons_zero, List.contains_nil, List.isEmpty_nil, Option.getD_some, Bool.false_eq_true, if_false, if_true, true_and, and_true, Bool.and_true, Bool.true_and, Nat.reduceAdd, Int.reduceAdd, decide_eq_false c3]
    exact ⟨by unfold lim; omega, k + 1, le_all (by simp [leSl]) rfl, ⟨h, upto hno fun _ => ⟨by omega, by omega, by omega⟩⟩, by omega⟩
  · have h' : ¬ (k : Int) < (ls.length : Int) := by omega
    have good : ∀ l ∈ ls, okLn n l := fun l hm => by
      obtain ⟨j, hj, rfl⟩ := List.mem_iff_getElem.1 hm
      exact hno j (by omega) hj
    simp only [w_assign, w_aop, w_anone, w_nil, w_cons, awp, asN, St.ev, St.step, setS, killS, AV.kill, AV.killL, Mem.kill, ACond_false, List.set_cons_succ, List.set_cons_zero, List.contains_nil, List.isEmpty_nil, Option.getD_some, Bool.false_eq_true, if_false, if_true, Nat.reduceAdd, Int.reduceAdd, decide_eq_false h']
    clear hno h h' hk
    refine swp_loop' (fun k : Nat => ⟨[.bot, .p (.g [I n, .s 2 (prsA ls)]) 0, .bot, .bot, .bot, I k, .bot, .bot, .bot, .bot, .bot, .bot, .bot, .bot, .bot, .bot, .bot, .bot, .bot, .bot, .bot, .bot, .bot, .bot, .bot, .bot, .bot, .bot, .bot, .bot, .bot, .bot, .bot, .bot, .bot, .bot, .bot, .bot, .bot, .bot, .bot, .bot, .bot, .bot, .bot, .bot, .bot, .bot, .bot, .bot, .bot, .bot, .bot, .bot, .bot, .bot, .bot, .bot, .bot, .bot, .bot, .bot, .bot], []⟩) (fun k => k ≤ ls.length ∧ ∀ j, j < k → ∀ h : j < ls.length, ls[j] ∉ ls.take j) (fun k => ls.length - k) 0 (le_sl (by simp [leSl, prsA_len])) ⟨Nat.zero_le _, by omega⟩ ?_
    rintro k ⟨hk, hno⟩
    refine awp_sound (own := []) _ _ _ _ _ ?_
    simp only [w_move, w_load, w_fieldAddr, w_binOp, w_len, w_aop, w_some, w_asome, w_nil, w_cons, awp, binC, cmpC, asP, asB, asI, lenA, loadA, St.ev, St.step, setS, killS, AV.kill, AV.killL, Mem.kill, AV.cells, AV.flat, AV.single, ACond_false, List.getD_cons_succ, List.getD_cons_zero, List.set_cons_succ, List.set_cons_zero, List.getElem?_cons_succ, List.getElem?_cons_zero, List.length_cons, List.length_nil, List.contains_nil, List.isEmpty_nil, Bool.false_eq_true, if_false, if_true, true_and, and_true, List.all_cons, List.all_nil, Bool.and_true, Bool.true_and, Bool.not_true, Option.isSome_some, Nat.zero_add, decide_true, nbeq, decide_false, Bool.and_false, Nat.reduceAdd, Nat.reduceEqDiff, Nat.reduceLeDiff, Int.reduceAdd, ne_eq, not_false_eq_true, ti22, ti24, prsA_len]
    by_cases h : k < ls.length
    · have h' : (k : Int) < (ls.length : Int) := by omega
      simp only [w_assign, w_aop, w_anone, w_nil, w_cons, awp, asN, St.ev, St.step, setS, killS, AV.kill, AV.killL, Mem.kill, ACond_true, ACond_false, List.set_cons_succ, List.set_cons_zero, List.contains_nil, List.isEmpty_nil, Option.getD_some, Bool.false_eq_true, if_false, if_true, Nat.reduceAdd, Int.reduceAdd, decide_eq_true h']
      refine swp_loop' (fun j : Nat => ⟨[.bot, .p (.g [I n, .s 2 (prsA ls)]) 0, .bot, .bot, .bot, I k, I j, .bot, .bot, .bot, .bot, .bot, .bot, .bot, .bot, .bot, .bot, .bot, .bot, .bot, .bot, .bot, .bot, .bot, .bot, .bot, .bot, .bot, .bot, .bot, .bot, .bot, .bot, .bot, .bot, .bot, .bot, .bot, .bot, .bot, .bot, .bot, .bot, .bot, .bot, .bot, .bot, .bot, .bot, .bot, .bot, .bot, .bot, .bot, .bot, .bot, .bot, .bot, .bot, .bot, .bot, .bot, .bot], []⟩) (fun j => j ≤ k ∧ ∀ i, i < j → ∀ h' : i < ls.length, ls[i] ≠ ls[k]) (fun j => k - j) 0 (le_sl (by simp [leSl, prsA_len])) ⟨Nat.zero_le _, by omega⟩ ?_
      rintro j ⟨hj, hni⟩
      refine awp_sound (own := []) _ _ _ _ _ ?_
      simp only [w_move, w_binOp, w_aop, w_some, w_asome, w_nil, w_cons, awp, binC, cmpC, asB, asI, St.ev, St.step, setS, killS, AV.kill, AV.killL, Mem.kill, ACond_false, List.getD_cons_succ, List.getD_cons_zero, List.set_cons_succ, List.set_cons_zero, List.contains_nil, List.isEmpty_nil, if_true, true_and, Bool.true_and, Nat.reduceAdd, Int.reduceAdd]
      by_cases hjk : j < k
      · have hjk' : (j : Int) < (k : Int) := by omega
        have hjl : j < ls.length := by omega
        simp only [awp, ACond_true, decide_eq_true hjk']
        refine swp_draw (own := []) (.take 0 .plain [] (.take 1 .reads [] (.take 2 .plain [] (.take 3 .reads [] (.take 4 .reads [] (.take 5 .plain [] (.take 6 .reads [] (.take 7 .plain [] (.take 8 .reads [] (.take 9 .reads [] (.take 10 .plain [] (.done)))))))))))) [⟨53, 2, 0, 0, true⟩, ⟨54, 4503599627370496, 1, 0, true⟩, ⟨55, 64, 0, 0, true⟩, ⟨56, 27021597764222976, 6, 0, true⟩, ⟨57, 36028797018963968, 8, 0, true⟩, ⟨58, 2, 0, 0, true⟩, ⟨59, 144115188075855872, 32, 0, true⟩, ⟨60, 32, 0, 0, true⟩, ⟨61, 864691128455135232, 192, 0, true⟩, ⟨62, 1152921504606846976, 256, 0, true⟩, ⟨63, 2377900603251621888, 528, 0, true⟩] mo (by kernel_rfl) ?_
        simp only [w_move, w_load, w_fieldAddr, w_indexAddr, w_binOp, w_take, w_some, w_asome, w_anone, awp, binC, idxC, eqC, asP, asS, asG, asB, asI, loadA, St.ev, setS, AV.cells, AV.flat, AV.single, ints, List.getD_cons_succ, List.getD_cons_zero, List.set_cons_succ, List.set_cons_zero, List.getElem?_cons_succ, List.getElem?_cons_zero, List.length_cons, List.length_nil, Bool.false_eq_true, if_false, if_true, true_and, and_true, List.all_cons, List.all_nil, Bool.and_true, Bool.true_and, Bool.not_true, Nat.zero_add, beq_self_eq_true, decide_true, nbeq, decide_false, Bool.and_false, Nat.reduceAdd, Nat.reduceEqDiff, Nat.reduceLeDiff, Int.reduceAdd, ASch, St.put, Md.mem, Md.need, ne_eq, not_false_eq_true, Option.map_some, ti22, ti24, ti57, aget_prs h, aget_prs hjl, Int.toNat_natCast]
        refine ⟨by omega, by omega, ?_⟩
        by_cases e : ls[j] = ls[k]
        · have e' : [ls[j].1, ls[j].2] = [ls[k].1, ls[k].2] := by rw [e]
          simp only [w_assign, w_aop, w_anone, w_nil, w_cons, awp, asN, St.ev, St.step, setS, killS, AV.kill, AV.killL, Mem.kill, ACond_true, ACond_false, List.set_cons_succ, List.set_cons_zero, List.contains_nil, List.isEmpty_nil, Option.getD_some, Bool.false_eq_true, if_false, if_true, Nat.reduceAdd, Int.reduceAdd, St.put, decide_eq_true e']
          refine aend_frz rfl ⟨?_, rfl⟩
          rw [vT, if_neg (by omega), if_pos good, if_neg (not_nodup h (mem_take_of h hjk e))]
          rfl
        · have e' : ¬ [ls[j].1, ls[j].2] = [ls[k].1, ls[k].2] := fun x => e (by simp at x; exact Prod.ext x.1 x.2)
          simp only [w_move, w_assign, w_binOp, w_aop, w_some, w_asome, w_anone, w_nil, w_cons, awp, binC, arithC, cmpC, asI, asN, St.ev, St.step, setS, killS, AV.kill, AV.killL, Mem.kill, ACond_false, List.getD_cons_succ, List.getD_cons_zero, List.set_cons_succ, List.set_cons_zero, List.contains_nil, List.isEmpty_nil, Option.getD_some, Bool.false_eq_true, if_false, if_true, true_and, and_true, Bool.and_true, Bool.true_and, Nat.reduceAdd, Int.reduceAdd, St.put, ne_eq, decide_eq_false e']
          exact ⟨by unfold lim; omega, j + 1, le_sl (by simp [leSl]), ⟨hjk, upto hni fun _ => e⟩, by omega⟩
      · have hjk' : ¬ (j : Int) < (k : Int) := by omega
        simp only [w_move, w_assign, w_binOp, w_aop, w_some, w_asome, w_anone, w_nil, w_cons, awp, binC, arithC, cmpC, asI, asN, St.ev, St.step, setS, killS, AV.kill, AV.killL, Mem.kill, ACond_false, List.getD_cons_succ, List.getD_cons_zero, List.set_cons_succ, List.set_cons_zero, List.contains_nil, List.isEmpty_nil, Option.getD_some, Bool.false_eq_true, if_false, if_true, true_and, and_true, Bool.and_true, Bool.true_and, Nat.reduceAdd, Nat.reduceEqDiff, Int.reduceAdd, decide_eq_false hjk']
        exact ⟨by unfold lim; omega, k + 1, le_sl (by simp [leSl]), ⟨h, upto hno fun _ => not_mem_take h fun i hi hi' => hni i (by omega) hi'⟩, by omega⟩
    · have h' : ¬ (k : Int) < (ls.length : Int) := by omega
      simp only [w_assign, w_aop, w_anone, w_nil, w_cons, awp, asN, St.ev, St.step, setS, killS, AV.kill, AV.killL, Mem.kill, ACond_false, List.set_cons_succ, List.set_cons_zero, List.contains_nil, List.isEmpty_nil, Option.getD_some, Bool.false_eq_true, if_false, if_true, Nat.reduceAdd, Int.reduceAdd, decide_eq_false h']
      refine aend_frz rfl ⟨?_, rfl⟩
      rw [vT, if_neg (by omega), if_pos good, if_pos (nodup_of fun j hj => hno j (by omega) hj)]
      rfl
end Go.Proofs.Ytkolpijhgcijbaa

namespace Go.Proofs.Ytkolpijhgcijbaa
open Aw Go.RowKit
set_option linter.unusedSimpArgs false

theorem ok94 : okFn Try.prog 94 = true := by kernel_rfl
theorem s94 (n : Int) (ls : List (Int × Int)) (z : Int) : ASpec Try.prog 94 [I z, .p (trapA n ls) 0] (fun r Ms => r = B (!decide (0 ≤ z ∧ z < n)) ∧ Ms = []) := by
  refine aspec_of (own := []) Try.func94 rfl ok94 ?_
  simp only [w_move, w_assign, w_load, w_callF, w_aop, w_some, w_asome, w_anone, w_nil, w_cons, awp, asP, asN, loadA, St.ev, St.step, setS, killS, AV.kill, AV.killL, Mem.kill, AV.cells, AV.flat, AV.single, ACond_false, List.getD_cons_succ, List.getD_cons_zero, List.set_cons_succ, List.set_cons_zero, List.getElem?_cons_zero, List.length_cons, List.length_nil, List.replicate_succ, List.replicate_zero, List.cons_append, List.nil_append, List.contains_nil, List.isEmpty_nil, Option.getD_some, Bool.false_eq_true, if_false, if_true, and_true, List.all_cons, List.all_nil, Bool.and_true, Bool.not_true, Nat.zero_add, Nat.add_zero, beq_self_eq_true, List.map_cons, List.map_nil, decide_true, Nat.reduceAdd, Nat.reduceSub, Nat.reduceLeDiff, Int.reduceAdd, Int.reduceSub, ti24, Try.ntmps94, trapA]
  refine acall_v (s64 n ls z) rfl rfl ?_
  simp only [w_assign, w_not, w_aop, w_some, w_anone, w_nil, w_cons, awp, asB, asN, St.ev, St.step, setS, killS, AV.kill, AV.killL, Mem.kill, List.getD_cons_succ, List.getD_cons_zero, List.set_cons_succ, List.set_cons_zero, List.contains_nil, List.isEmpty_nil, Option.getD_some, Bool.false_eq_true, if_false, if_true]
  exact aend_frz rfl ⟨rfl, rfl⟩

def idxP (l : List Int) (p : Int → Bool) : Int := match l.findIdx? p with | some i => (i : Int) | none => -1
theorem idxP_some {l : List Int} {p : Int → Bool} {k : Nat} (h : k < l.length) (hno : ∀ j, j < k → ∀ h : j < l.length, p l[j] = false) (hx : p l[k] = true) : idxP l p = k := by
  have : l.findIdx? p = some k := by
    rw [List.findIdx?_eq_some_iff_getElem]
    exact ⟨h, hx, fun j hj => by rw [hno j hj (by omega)]; simp⟩
  simp [idxP, this]
theorem idxP_none {l : List Int} {p : Int → Bool} (hno : ∀ j, ∀ h : j < l.length, p l[j] = false) : idxP l p = -1 := by
  have : l.findIdx? p = none := by
    rw [List.findIdx?_eq_none_iff]
    intro y hy
    obtain ⟨j, hj, rfl⟩ := List.mem_iff_getElem.1 hy
    exact hno j hj
  simp [idxP, this]
theorem idxP_any (l : List Int) (p : Int → Bool) : decide (0 ≤ idxP l p) = l.any p := by
  unfold idxP
  cases h : l.findIdx? p with
  | none =>
    rw [List.findIdx?_eq_none_iff] at h
    have : l.any p = false := by rw [List.any_eq_false]; intro x hx; rw [h x hx]; simp
    simp [this]
  | some i =>
    rw [List.findIdx?_eq_some_iff_getElem] at h
    obtain ⟨hi, hx, _⟩ := h
    have : l.any p = true := List.any_eq_true.2 ⟨_, List.getElem_mem hi, hx⟩
    simp [this]

theorem ok101 : okFn Try.prog 101 = true := by kernel_rfl
theorem s101 (l : List Int) (p : Int → Bool) (f : FuncId) (cap : List AV) (hl : l.length ≤ 1000000) (hc : AV.pureL cap = true) (hs : ∀ z, ASpec Try.prog f (I z :: cap) (fun r Ms => r = B (p z) ∧ Ms = [])) :
    ASpec Try.prog 101 [.s 1 (intsA l), .f (.func f) cap] (fun r Ms => r = I (idxP l p) ∧ Ms = []) := by
  refine aspec_of (own := []) Try.func101 rfl ok101 ?_
  simp only [w_move, w_assign, w_len, w_aop, w_some, w_asome, w_anone, w_nil, w_cons, awp, asN, lenA, St.ev, St.step, setS, killS, AV.kill, AV.killL, Mem.kill, ACond_false, List.getD_cons_succ, List.getD_cons_zero, List.set_cons_succ, List.set_cons_zero, List.length_cons, List.length_nil, List.replicate_succ, List.replicate_zero, List.cons_append, List.nil_append, List.contains_nil, List.isEmpty_nil, Option.getD_some, Bool.false_eq_true, if_false, if_true, true_and, Bool.true_and, Option.isSome_some, Nat.zero_add, Nat.add_zero, Nat.reduceAdd, Nat.reduceSub, Int.reduceAdd, Int.reduceSub, ti25, Try.ntmps101]
  refine swp_loop' (fun k : Nat => ⟨[.s 1 (intsA l), .f (.func f) cap, .bot, .bot, .bot, .bot, .bot, I l.length, I k, .bot, .bot, .bot, .bot, .bot, .bot, .bot, .bot, .bot, .bot], []⟩) (fun k => k ≤ l.length ∧ ∀ j, j < k → ∀ h : j < l.length, p l[j] = false) (fun k => l.length - k) 0 (le_sl (by simp [leSl, intsA_len])) ⟨Nat.zero_le _, by omega⟩ ?_
  rintro k ⟨hk, hno⟩
  refine awp_sound (own := []) _ _ _ _ _ ?_
  simp only [w_binOp, w_aop, w_some, w_asome, w_nil, w_cons, awp, binC, cmpC, asB, asI, St.ev, St.step, setS, killS, AV.kill, AV.killL, Mem.kill, ACond_false, List.getD_cons_succ, List.getD_cons_zero, List.set_cons_succ, List.set_cons_zero, List.contains_nil, List.isEmpty_nil, if_true, true_and, Bool.true_and, Nat.reduceAdd, Int.reduceAdd]
  by_cases h : k < l.length
  · have h' : (k : Int) < (l.length : Int) := by omega
    simp only [w_move, w_assign, w_load, w_indexAddr, w_callT, w_aop, w_some, w_asome, w_anone, w_nil, w_cons, awp, idxC, asP, asS, asF, asI, asN, loadA, St.ev, St.step, setS, killS, AV.kill, AV.killL, Mem.kill, AV.cells, AV.flat, AV.single, ACond_true, ACond_false, List.getD_cons_succ, List.getD_cons_zero, List.set_cons_succ, List.set_cons_zero, List.getElem?_cons_zero, List.cons_append, List.nil_append, List.contains_nil, List.isEmpty_nil, Option.getD_some, Bool.false_eq_true, if_false, if_true, true_and, and_true, List.all_cons, List.all_nil, Bool.and_true, Bool.true_and, Bool.not_true, List.map_cons, List.map_nil, Nat.reduceAdd, Int.reduceAdd, ti3, ti25, decide_eq_true h', aget_ints h, Int.toNat_natCast]
    refine ⟨by omega, acall_v (hs l[k]) (by simp [AV.pureL, AV.pure, hc]) rfl ?_⟩
    cases hx : p l[k] with
    | true =>
      simp only [w_move, w_assign, w_aop, w_some, w_anone, w_nil, w_cons, awp, asB, asN, St.ev, St.step, setS, killS, AV.kill, AV.killL, Mem.kill, ACond_true, ACond_false, List.getD_cons_succ, List.getD_cons_zero, List.set_cons_succ, List.set_cons_zero, List.contains_nil, List.isEmpty_nil, Option.getD_some, Bool.false_eq_true, if_false, if_true, Nat.reduceAdd, Int.reduceAdd]
      exact aend_frz rfl ⟨by rw [idxP_some h hno hx]; rfl, rfl⟩
    | false =>
      simp only [w_move, w_binOp, w_aop, w_some, w_asome, w_anone, w_nil, w_cons, awp, binC, arithC, cmpC, asB, asI, St.ev, St.step, setS, killS, AV.kill, AV.killL, Mem.kill, ACond_false, List.getD_cons_succ, List.getD_cons_zero, List.set_cons_succ, List.set_cons_zero, List.contains_nil, List.isEmpty_nil, if_true, true_and, and_true, Bool.and_true, Bool.true_and, Nat.reduceAdd, Int.reduceAdd]
      exact ⟨by unfold lim; omega, k + 1, le_sl (by simp [leSl, intsA_len]), ⟨h, upto hno fun _ => hx⟩, by omega⟩
  · have h' : ¬ (k : Int) < (l.length : Int) := by omega
    simp only [w_assign, w_aop, w_anone, w_nil, w_cons, awp, asN, St.ev, St.step, setS, killS, AV.kill, AV.killL, Mem.kill, ACond_false, List.set_cons_succ, List.set_cons_zero, List.contains_nil, List.isEmpty_nil, Option.getD_some, Bool.false_eq_true, if_false, if_true, Nat.reduceAdd, Int.reduceAdd, Int.reduceNeg, decide_eq_false h']
    exact aend_frz rfl ⟨by rw [idxP_none fun j hj => hno j (by omega) hj]; rfl, rfl⟩

theorem ok93 : okFn Try.prog 93 = true := by kernel_rfl
theorem s93 (l : List Int) (p : Int → Bool) (f : FuncId) (cap : List AV) (hl : l.length ≤ 1000000) (hc : AV.pureL cap = true) (hs : ∀ z, ASpec Try.prog f (I z :: cap) (fun r Ms => r = B (p z) ∧ Ms = [])) :
    ASpec Try.prog 93 [.s 1 (intsA l), .f (.func f) cap] (fun r Ms => r = B (l.any p) ∧ Ms = []) := by
  refine aspec_of (own := []) Try.func93 rfl ok93 ?_
  simp only [w_move, w_assign, w_callF, w_aop, w_anone, w_nil, w_cons, awp, asN, St.ev, St.step, setS, killS, AV.kill, AV.killL, Mem.kill, ACond_false, List.getD_cons_succ, List.getD_cons_zero, List.set_cons_succ, List.set_cons_zero, List.length_cons, List.length_nil, List.replicate_succ, List.replicate_zero, List.cons_append, List.nil_append, List.contains_nil, List.isEmpty_nil, Option.getD_some, Bool.false_eq_true, if_false, if_true, Nat.zero_add, Nat.add_zero, List.map_cons, List.map_nil, Nat.reduceAdd, Nat.reduceSub, Int.reduceAdd, Int.reduceSub, Try.ntmps93]
  refine acall_v (s101 l p f cap hl hc hs) (by simp [AV.pureL, AV.pure, hc]) rfl ?_
  simp only [w_assign, w_binOp, w_aop, w_some, w_asome, w_anone, w_nil, w_cons, awp, binC, cmpC, asI, asN, St.ev, St.step, setS, killS, AV.kill, AV.killL, Mem.kill, List.getD_cons_succ, List.getD_cons_zero, List.set_cons_succ, List.set_cons_zero, List.contains_nil, List.isEmpty_nil, Option.getD_some, Bool.false_eq_true, if_false, if_true, true_and, Bool.true_and, idxP_any]
  exact aend_frz rfl ⟨rfl, rfl⟩

/-- the first error of a place in a right trap. -/
def vP (n : Int) (l : List Int) : Int := if 4 < l.length then 3 else if ∀ z ∈ l, 0 ≤ z ∧ z < n then (if l.Nodup then 0 else 6) else 1

theorem ok69 : okFn Try.prog 69 = true := by kernel_rfl
theorem s69 (n : Int) (ls : List (Int × Int)) (l : List Int) (hl : l.length ≤ 1000000) : ASpec Try.prog 69 [trapA n ls, .s 1 (intsA l)] (fun r Ms => r = I (vP n l) ∧ Ms = []) := by
  refine aspec_of (own := []) Try.func69 rfl ok69 ?_
  simp only [w_move, w_assign, w_box, w_binOp, w_len, w_aop, w_some, w_asome, w_anone, w_nil, w_cons, awp, binC, cmpC, asB, asI, asN, lenA, St.ev, St.step, setS, killS, AV.kill, AV.killL, Mem.kill, AV.cellular, AV.pure, AV.pureL, ACond_false, List.getD_cons_succ, List.getD_cons_zero, List.set_cons_succ, List.set_cons_zero, List.length_cons, List.length_nil, List.replicate_succ, List.replicate_zero, List.cons_append, List.nil_append, List.contains_nil, List.isEmpty_nil, Option.getD_some, Bool.false_eq_true, if_false, if_true, true_and, and_true, Bool.and_true, Bool.true_and, Option.isSome_some, Nat.zero_add, Nat.add_zero, Nat.reduceAdd, Nat.reduceSub, Int.reduceAdd, Int.reduceSub, ti25, Try.ntmps69, trapA, intsA_len]
  by_cases h0 : (4 : Int) < l.length
  · simp only [w_assign, w_aop, w_anone, w_nil, w_cons, awp, asN, St.ev, St.step, setS, killS, AV.kill, AV.killL, Mem.kill, ACond_true, ACond_false, List.set_cons_succ, List.set_cons_zero, List.contains_nil, List.isEmpty_nil, Option.getD_some, Bool.false_eq_true, if_false, if_true, Nat.reduceAdd, Int.reduceAdd, decide_eq_true h0]
    exact aend_frz rfl ⟨by rw [vP, if_pos (by omega)]; rfl, rfl⟩
  simp only [w_move, w_makeFunc, w_callF, w_aop, w_cons, awp, St.ev, St.step, setS, killS, AV.kill, AV.killL, Mem.kill, AV.single, AV.cellular, ACond_false, Value.oneCell', List.getD_cons_succ, List.getD_cons_zero, List.set_cons_succ, List.set_cons_zero, List.contains_nil, List.isEmpty_nil, if_true, and_true, List.all_cons, List.all_nil, Bool.and_true, List.map_cons, List.map_nil, Nat.reduceAdd, Int.reduceAdd, decide_eq_false h0]
  refine ⟨rfl, acall_v (s93 l (fun z => !decide (0 ≤ z ∧ z < n)) 94 [.p (trapA n ls) 0] hl rfl (fun z => s94 n ls z)) rfl rfl ?_⟩
  by_cases ha : ∀ z ∈ l, 0 ≤ z ∧ z < n
  · have hb : (l.any fun z => !decide (0 ≤ z ∧ z < n)) = false := by
      rw [List.any_eq_false]; intro z hz; simp [ha z hz]
    simp only [w_move, w_len, w_aop, w_some, w_asome, w_nil, w_cons, awp, asB, lenA, St.ev, St.step, setS, killS, AV.kill, AV.killL, Mem.kill, ACond_false, List.getD_cons_succ, List.getD_cons_zero, List.set_cons_succ, List.set_cons_zero, List.contains_nil, List.isEmpty_nil, if_true, true_and, Bool.true_and, Option.isSome_some, Nat.reduceAdd, Int.reduceAdd, ti25, hb, intsA_len]
    refine swp_loop' (fun k : Nat => ⟨[.bot, .s 1 (intsA l), .bot, .bot, .bot, .bot, .bot, .bot, .bot, .bot, .bot, .bot, .bot, .s 1 (intsA l), I l.length, I k, .bot, .bot, .bot, .bot, .bot, .bot, .bot, .bot, .bot, .bot], []⟩) (fun k => k ≤ l.length ∧ ∀ j, j < k → ∀ h : j < l.length, l[j] ∉ l.take j) (fun k => l.length - k) 0 (le_sl (by simp [leSl, intsA_len])) ⟨Nat.zero_le _, by omega⟩ ?_
    rintro k ⟨hk, hno⟩
    refine awp_sound (own := []) _ _ _ _ _ ?_
    simp only [w_binOp, w_aop, w_some, w_asome, w_nil, w_cons, awp, binC, cmpC, asB, asI, St.ev, St.step, setS, killS, AV.kill, AV.killL, Mem.kill, ACond_false, List.getD_cons_succ, List.getD_cons_zero, List.set_cons_succ, List.set_cons_zero, List.contains_nil, List.isEmpty_nil, if_true, true_and, Bool.true_and, Nat.reduceAdd, Int.reduceAdd]
    by_cases h : k < l.length
    · have h' : (k : Int) < (l.length : Int) := by omega
      simp only [w_move, w_assign, w_load, w_indexAddr, w_slice, w_callF, w_aop, w_some, w_asome, w_anone, w_nil, w_cons, awp, idxC, asP, asS, asI, asN, bndA, loadA, St.ev, St.step, setS, killS, AV.kill, AV.killL, Mem.kill, AV.cells, AV.flat, AV.single, ACond_true, ACond_false, List.getD_cons_succ, List.getD_cons_zero, List.set_cons_succ, List.set_cons_zero, List.getElem?_cons_zero, List.contains_nil, List.isEmpty_nil, Option.getD_some, Option.getD_none, Bool.false_eq_true, if_false, if_true, true_and, and_true, List.all_cons, List.all_nil, Bool.and_true, Bool.true_and, Bool.not_true, List.map_cons, List.map_nil, Nat.reduceAdd, Int.reduceAdd, Int.reduceLE, Int.toNat_zero, ti3, ti25, decide_eq_true h', intsA_len, aget_ints h, bndA, intsA_take, List.drop_zero, Int.toNat_natCast]
      refine ⟨by omega, by omega, acall_v (s71 (l.take k) l[k] (by simp only [List.length_take]; omega)) rfl rfl ?_⟩
      by_cases hm : l[k] ∈ l.take k
      · simp only [w_assign, w_aop, w_some, w_anone, w_nil, w_cons, awp, asB, asN, St.ev, St.step, setS, killS, AV.kill, AV.killL, Mem.kill, ACond_true, ACond_false, List.getD_cons_succ, List.getD_cons_zero, List.set_cons_succ, List.set_cons_zero, List.contains_nil, List.isEmpty_nil, Option.getD_some, Bool.false_eq_true, if_false, if_true, Nat.reduceAdd, Int.reduceAdd, (memL_eq _ _).2 hm]
        refine aend_frz rfl ⟨?_, rfl⟩
        rw [vP, if_neg (by omega), if_pos ha, if_neg (not_nodup h hm)]
        rfl
      · have hm' : memL (l.take k) l[k] = false := by rw [Bool.eq_false_iff, ne_eq, memL_eq]; exact hm
        simp only [w_move, w_binOp, w_aop, w_some, w_asome, w_anone, w_nil, w_cons, awp, binC, arithC, cmpC, asB, asI, St.ev, St.step, setS, killS, AV.kill, AV.killL, Mem.kill, ACond_false, List.getD_cons_succ, List.getD_cons_zero, List.set_cons_succ, List.set_cons_zero, List.contains_nil, List.isEmpty_nil, if_true, true_and, and_true, Bool.and_true, Bool.true_and, Nat.reduceAdd, Int.reduceAdd, hm']
        exact ⟨by unfold lim; omega, k + 1, le_sl (by simp [leSl]), ⟨h, upto hno fun _ => hm⟩, by omega⟩
    · have h' : ¬ (k : Int) < (l.length : Int) := by omega
      simp only [w_assign, w_aop, w_anone, w_nil, w_cons, awp, asN, St.ev, St.step, setS, killS, AV.kill, AV.killL, Mem.kill, ACond_false, List.set_cons_succ, List.set_cons_zero, List.contains_nil, List.isEmpty_nil, Option.getD_some, Bool.false_eq_true, if_false, if_true, Nat.reduceAdd, Int.reduceAdd, decide_eq_false h']
      refine aend_frz rfl ⟨?_, rfl⟩
      rw [vP, if_neg (by omega), if_pos ha, if_pos (nodup_of fun j hj => hno j (by omega) hj)]
      rfl
  · have hb : (l.any fun z => !decide (0 ≤ z ∧ z < n)) = true := by
      rw [List.any_eq_true]
      simp only [Classical.not_forall] at ha
      obtain ⟨z, hz, hn⟩ := ha
      exact ⟨z, hz, by simp only [decide_eq_false hn, Bool.not_false]⟩
    simp only [w_assign, w_aop, w_some, w_anone, w_nil, w_cons, awp, asB, asN, St.ev, St.step, setS, killS, AV.kill, AV.killL, Mem.kill, ACond_true, ACond_false, List.getD_cons_succ, List.getD_cons_zero, List.set_cons_succ, List.set_cons_zero, List.contains_nil, List.isEmpty_nil, Option.getD_some, Bool.false_eq_true, if_false, if_true, Nat.reduceAdd, Int.reduceAdd, hb]
    refine aend_frz rfl ⟨?_, rfl⟩
    rw [vP, if_neg (by omega), if_neg ha]
    rfl
end Go.Proofs.Ytkolpijhgcijbaa

namespace Go.Proofs.Ytkolpijhgcijbaa
open Aw Go.RowKit
set_option linter.unusedSimpArgs false

/-- the first error of a trap and a place. -/
def vTP (n : Int) (ls : List (Int × Int)) (l : List Int) : Int := if vT n ls = 0 then vP n l else vT n ls
theorem ok25 : okFn Try.prog 25 = true := by kernel_rfl
theorem s25 (n : Int) (ls : List (Int × Int)) (l : List Int) (hls : ls.length ≤ 1000000) (hl : l.length ≤ 1000000) : ASpec Try.prog 25 [trapA n ls, .s 1 (intsA l)] (fun r Ms => r = I (vTP n ls l) ∧ Ms = []) := by
  refine aspec_of (own := []) Try.func25 rfl ok25 ?_
  simp only [w_assign, w_box, w_load, w_callF, w_aop, w_some, w_asome, w_anone, w_nil, w_cons, awp, asP, asN, loadA, St.ev, St.step, setS, killS, AV.kill, AV.killL, Mem.kill, AV.cells, AV.flat, AV.single, AV.cellular, AV.pure, AV.pureL, ACond_false, List.getD_cons_succ, List.getD_cons_zero, List.set_cons_succ, List.set_cons_zero, List.getElem?_cons_zero, List.length_cons, List.length_nil, List.replicate_succ, List.replicate_zero, List.cons_append, List.nil_append, List.contains_nil, List.isEmpty_nil, Option.getD_some, Bool.false_eq_true, if_false, if_true, true_and, and_true, List.all_cons, List.all_nil, Bool.and_true, Bool.true_and, Bool.not_true, Nat.zero_add, Nat.add_zero, beq_self_eq_true, List.map_cons, List.map_nil, decide_true, Nat.reduceAdd, Nat.reduceSub, Nat.reduceLeDiff, Int.reduceAdd, Int.reduceSub, ti24, Try.ntmps25, trapA]
  refine acall_v (s23 n ls hls) rfl rfl ?_
  by_cases h : vT n ls = 0
  · simp only [w_move, w_assign, w_load, w_binOp, w_callF, w_aop, w_some, w_asome, w_anone, w_nil, w_cons, awp, binC, cmpC, asP, asB, asI, asN, loadA, St.ev, St.step, setS, killS, AV.kill, AV.killL, Mem.kill, AV.cells, AV.flat, AV.single, ACond_false, List.getD_cons_succ, List.getD_cons_zero, List.set_cons_succ, List.set_cons_zero, List.getElem?_cons_zero, List.length_cons, List.length_nil, List.contains_nil, List.isEmpty_nil, Option.getD_some, Bool.false_eq_true, if_false, if_true, true_and, and_true, List.all_cons, List.all_nil, Bool.and_true, Bool.true_and, Bool.not_true, Nat.zero_add, beq_self_eq_true, List.map_cons, List.map_nil, decide_true, Nat.reduceAdd, Nat.reduceLeDiff, Int.reduceAdd, ti24, decide_eq_true h]
    refine acall_v (s69 n ls l hl) rfl rfl ?_
    simp only [w_assign, w_aop, w_anone, w_nil, w_cons, awp, asN, St.ev, St.step, setS, killS, AV.kill, AV.killL, Mem.kill, List.getD_cons_succ, List.getD_cons_zero, List.set_cons_succ, List.set_cons_zero, List.contains_nil, List.isEmpty_nil, Option.getD_some, Bool.false_eq_true, if_false, if_true]
    exact aend_frz rfl ⟨by rw [vTP, if_pos h]; rfl, rfl⟩
  · simp only [w_move, w_assign, w_binOp, w_aop, w_some, w_asome, w_anone, w_nil, w_cons, awp, binC, cmpC, asB, asI, asN, St.ev, St.step, setS, killS, AV.kill, AV.killL, Mem.kill, ACond_true, ACond_false, List.getD_cons_succ, List.getD_cons_zero, List.set_cons_succ, List.set_cons_zero, List.contains_nil, List.isEmpty_nil, Option.getD_some, Bool.false_eq_true, if_false, if_true, true_and, Bool.true_and, Bool.not_false, Nat.reduceAdd, Int.reduceAdd, decide_eq_false h]
    exact aend_frz rfl ⟨by rw [vTP, if_neg h]; rfl, rfl⟩
end Go.Proofs.Ytkolpijhgcijbaa

namespace Go.Proofs.Ytkolpijhgcijbaa
open Aw Go.RowKit
set_option linter.unusedSimpArgs false

theorem ok26 : okFn Try.prog 26 = true := by kernel_rfl
theorem s26 (n : Int) (ls : List (Int × Int)) (l : List Int) (hls : ls.length ≤ 1000000) (hl : l.length ≤ 1000000) : ASpec Try.prog 26 [trapA n ls, .s 1 (intsA l)] (fun r Ms => r = I (vTP n ls l) ∧ Ms = []) := by
  refine aspec_of (own := []) Try.func26 rfl ok26 ?_
  simp only [w_assign, w_box, w_load, w_callF, w_aop, w_some, w_asome, w_anone, w_nil, w_cons, awp, asP, asN, loadA, St.ev, St.step, setS, killS, AV.kill, AV.killL, Mem.kill, AV.cells, AV.flat, AV.single, AV.cellular, AV.pure, AV.pureL, ACond_false, List.getD_cons_succ, List.getD_cons_zero, List.set_cons_succ, List.set_cons_zero, List.getElem?_cons_zero, List.length_cons, List.length_nil, List.replicate_succ, List.replicate_zero, List.cons_append, List.nil_append, List.contains_nil, List.isEmpty_nil, Option.getD_some, Bool.false_eq_true, if_false, if_true, true_and, and_true, List.all_cons, List.all_nil, Bool.and_true, Bool.true_and, Bool.not_true, Nat.zero_add, Nat.add_zero, beq_self_eq_true, List.map_cons, List.map_nil, decide_true, Nat.reduceAdd, Nat.reduceSub, Nat.reduceLeDiff, Int.reduceAdd, Int.reduceSub, ti24, Try.ntmps26, trapA]
  refine acall_v (s24 n ls hls) rfl rfl ?_
  by_cases hn : ¬ vT n ls = 0
  · simp only [w_move, w_assign, w_binOp, w_aop, w_some, w_asome, w_anone, w_nil, w_cons, awp, binC, cmpC, asB, asI, asN, St.ev, St.step, setS, killS, AV.kill, AV.killL, Mem.kill, ACond_true, ACond_false, List.getD_cons_succ, List.getD_cons_zero, List.set_cons_succ, List.set_cons_zero, List.contains_nil, List.isEmpty_nil, Option.getD_some, Bool.false_eq_true, if_false, if_true, true_and, Bool.true_and, Bool.not_false, Nat.reduceAdd, Int.reduceAdd, decide_eq_false hn]
    exact aend_frz rfl ⟨by rw [vTP, if_neg hn]; rfl, rfl⟩
  have hv : vT n ls = 0 := Decidable.not_not.1 hn
  simp only [w_move, w_assign, w_binOp, w_len, w_aop, w_some, w_asome, w_anone, w_nil, w_cons, awp, binC, cmpC, asB, asI, asN, lenA, St.ev, St.step, setS, killS, AV.kill, AV.killL, Mem.kill, ACond_false, List.getD_cons_succ, List.getD_cons_zero, List.set_cons_succ, List.set_cons_zero, List.contains_nil, List.isEmpty_nil, Option.getD_some, Bool.false_eq_true, if_false, if_true, true_and, Bool.true_and, Bool.not_true, Option.isSome_some, Nat.reduceAdd, Int.reduceAdd, ti25, decide_eq_true hv, intsA_len]
  by_cases h0 : (4 : Int) < l.length
  · simp only [w_assign, w_aop, w_anone, w_nil, w_cons, awp, asN, St.ev, St.step, setS, killS, AV.kill, AV.killL, Mem.kill, ACond_true, ACond_false, List.set_cons_succ, List.set_cons_zero, List.contains_nil, List.isEmpty_nil, Option.getD_some, Bool.false_eq_true, if_false, if_true, Nat.reduceAdd, Int.reduceAdd, decide_eq_true h0]
    exact aend_frz rfl ⟨by rw [vTP, if_pos hv, vP, if_pos (by omega)]; rfl, rfl⟩
  simp only [w_assign, w_aop, w_anone, w_nil, w_cons, awp, asN, St.ev, St.step, setS, killS, AV.kill, AV.killL, Mem.kill, ACond_false, List.set_cons_succ, List.set_cons_zero, List.contains_nil, List.isEmpty_nil, Option.getD_some, Bool.false_eq_true, if_false, if_true, Nat.reduceAdd, Int.reduceAdd, decide_eq_false h0]
  refine swp_loop' (fun k : Nat => ⟨[.bot, .s 1 (intsA l), .p (.g [I n, .s 2 (prsA ls)]) 0, .bot, .bot, .bot, I k, .bot, .bot, .bot, .bot, .bot, .bot, .bot, .bot, .bot, .bot, .bot, .bot, .bot, .bot, .bot, .bot, .bot, .bot, .bot, .bot, .bot, .bot, .bot, .bot, .bot, .bot, .bot, .bot, .bot, .bot, .bot, .bot, .bot, .bot, .bot, .bot, .bot, .bot, .bot, .bot, .bot, .bot, .bot], []⟩) (fun k => k ≤ l.length ∧ ∀ j, j < k → ∀ h : j < l.length, 0 ≤ l[j] ∧ l[j] < n) (fun k => l.length - k) 0 (le_sl (by simp [leSl, intsA_len])) ⟨Nat.zero_le _, by omega⟩ ?_
  rintro k ⟨hk, hno⟩
  refine awp_sound (own := []) _ _ _ _ _ ?_
  simp only [w_move, w_binOp, w_len, w_aop, w_some, w_asome, w_nil, w_cons, awp, binC, cmpC, asB, asI, lenA, St.ev, St.step, setS, killS, AV.kill, AV.killL, Mem.kill, ACond_false, List.getD_cons_succ, List.getD_cons_zero, List.set_cons_succ, List.set_cons_zero, List.contains_nil, List.isEmpty_nil, if_true, true_and, Bool.true_and, Option.isSome_some, Nat.reduceAdd, Int.reduceAdd, ti25, intsA_len]
  by_cases h : k < l.length
  · have h' : (k : Int) < (l.length : Int) := by omega
    simp only [awp, ACond_true, decide_eq_true h']
    refine swp_draw (own := []) (.take 0 .plain [] (.take 1 .plain [] (.take 2 .reads [] (.take 3 .reads [] (.take 4 .plain [] (.take 5 .plain [] (.take 6 .plain [] (.take 7 .plain [] (.take 8 .reads [] (.take 9 .reads [] (.take 10 .plain [] (.take 11 .reads [] (.take 12 .plain [] (.take 13 .plain [] (.done))))))))))))))) [⟨23, 2, 0, 0, true⟩, ⟨24, 64, 0, 0, true⟩, ⟨25, 12582912, 3, 0, true⟩, ⟨26, 16777216, 4, 0, true⟩, ⟨27, 33554432, 8, 0, true⟩, ⟨28, 67108864, 16, 0, true⟩, ⟨29, 134217730, 32, 0, true⟩, ⟨30, 134217792, 32, 0, true⟩, ⟨31, 939524096, 224, 0, true⟩, ⟨32, 1207959552, 288, 0, true⟩, ⟨33, 134217732, 32, 0, true⟩, ⟨34, 4429185024, 1056, 0, true⟩, ⟨35, 10871635968, 2592, 0, true⟩, ⟨36, 17314086912, 4128, 0, true⟩] mo (by kernel_rfl) ?_
    simp only [w_move, w_load, w_indexAddr, w_binOp, w_gdb, w_take, w_takeg, w_some, w_asome, binC, idxC, cmpC, asP, asS, asI, loadA, St.ev, setS, AV.cells, AV.flat, AV.single, List.getD_cons_succ, List.getD_cons_zero, List.set_cons_succ, List.set_cons_zero, List.getElem?_cons_succ, List.getElem?_cons_zero, Bool.false_eq_true, if_false, true_and, and_true, List.all_cons, List.all_nil, Bool.and_true, Bool.true_and, Bool.not_true, Option.bind_some, ASch, St.put, Md.mem, Md.need, w_bf, ti3, ti25, aget_ints h, Int.toNat_natCast]
    refine ⟨by omega, ?_⟩
    have ret : ¬ (0 ≤ l[k] ∧ l[k] < n) → vTP n ls l = 1 := fun hb => by rw [vTP, if_pos hv, vP, if_neg (by omega), if_neg (fun ha => hb (ha _ (List.getElem_mem h)))]
    by_cases c1 : l[k] < 0
    · simp only [w_assign, w_pick, w_aop, w_gdb, w_take, w_takeg, w_some, w_anone, w_nil, w_cons, awp, asB, asN, St.ev, St.step, setS, killS, AV.kill, AV.killL, Mem.kill, ACond_true, ACond_false, List.getD_cons_succ, List.getD_cons_zero, List.set_cons_succ, List.set_cons_zero, List.getElem?_cons_succ, List.getElem?_cons_zero, List.contains_nil, List.isEmpty_nil, Option.getD_some, Bool.false_eq_true, if_false, if_true, true_and, Bool.true_and, Bool.not_true, Nat.reduceAdd, Int.reduceAdd, Option.bind_some, ASch, St.put, Md.mem, Md.need, w_bf, decide_eq_true c1]
      exact aend_frz rfl ⟨by rw [ret (by omega)]; rfl, rfl⟩
    simp only [w_move, w_pick, w_load, w_fieldAddr, w_indexAddr, w_binOp, w_gdb, w_take, w_takeg, w_some, w_asome, awp, binC, idxC, cmpC, asP, asS, asB, asI, loadA, St.ev, setS, AV.cells, AV.flat, AV.single, ACond_true, ACond_false, List.getD_cons_succ, List.getD_cons_zero, List.set_cons_succ, List.set_cons_zero, List.getElem?_cons_succ, List.getElem?_cons_zero, List.length_cons, List.length_nil, Bool.false_eq_true, if_false, if_true, true_and, and_true, List.all_cons, List.all_nil, Bool.and_true, Bool.true_and, Bool.not_true, Bool.not_false, Nat.zero_add, Nat.add_zero, beq_self_eq_true, decide_true, nbeq, decide_false, Bool.and_false, Nat.reduceAdd, Nat.reduceEqDiff, Nat.reduceLeDiff, Int.reduceAdd, Option.bind_some, ASch, St.put, Md.mem, Md.need, ne_eq, not_false_eq_true, ti3, ti24, ti25, decide_eq_false c1, aget_ints h, Int.toNat_natCast]
    refine ⟨by omega, ?_⟩
    by_cases c2 : n ≤ l[k]
    · simp only [w_assign, w_aop, w_anone, w_nil, w_cons, awp, asN, St.ev, St.step, setS, killS, AV.kill, AV.killL, Mem.kill, ACond_true, ACond_false, List.getD_cons_succ, List.getD_cons_zero, List.set_cons_succ, List.set_cons_zero, List.contains_nil, List.isEmpty_nil, Option.getD_some, Bool.false_eq_true, if_false, if_true, Nat.reduceAdd, Int.reduceAdd, St.put, decide_eq_true c2]
      exact aend_frz rfl ⟨by rw [ret (by omega)]; rfl, rfl⟩
    simp only [w_move, w_assign, w_binOp, w_aop, w_some, w_asome, w_anone, w_nil, w_cons, awp, binC, arithC, cmpC, asI, asN, St.ev, St.step, setS, killS, AV.kill, AV.killL, Mem.kill, ACond_false, List.getD_cons_succ, List.getD_cons_zero, List.set_cons_succ, List.set_cons_zero, List.contains_nil, List.isEmpty_nil, Option.getD_some, Bool.false_eq_true, if_false, if_true, true_and, and_true, Bool.and_true, Bool.true_and, Nat.reduceAdd, Int.reduceAdd, St.put, decide_eq_false c2]
    exact ⟨by unfold lim; omega, k + 1, le_sl (by simp [leSl]), ⟨h, upto hno fun _ => ⟨by omega, by omega⟩⟩, by omega⟩
  · have h' : ¬ (k : Int) < (l.length : Int) := by omega
    have good : ∀ z ∈ l, 0 ≤ z ∧ z < n := fun z hm => by
      obtain ⟨j, hj, rfl⟩ := List.mem_iff_getElem.1 hm
      exact hno j (by omega) hj
    simp only [w_assign, w_aop, w_anone, w_nil, w_cons, awp, asN, St.ev, St.step, setS, killS, AV.kill, AV.killL, Mem.kill, ACond_false, List.set_cons_succ, List.set_cons_zero, List.contains_nil, List.isEmpty_nil, Option.getD_some, Bool.false_eq_true, if_false, if_true, Nat.reduceAdd, Int.reduceAdd, decide_eq_false h']
    clear hno h h' hk
    refine swp_loop' (fun k : Nat => ⟨[.bot, .s 1 (intsA l), .p (.g [I n, .s 2 (prsA ls)]) 0, .bot, .bot, .bot, .bot, I k, .bot, .bot, .bot, .bot, .bot, .bot, .bot, .bot, .bot, .bot, .bot, .bot, .bot, .bot, .bot, .bot, .bot, .bot, .bot, .bot, .bot, .bot, .bot, .bot, .bot, .bot, .bot, .bot, .bot, .bot, .bot, .bot, .bot, .bot, .bot, .bot, .bot, .bot, .bot, .bot, .bot, .bot], []⟩) (fun k => k ≤ l.length ∧ ∀ j, j < k → ∀ h : j < l.length, l[j] ∉ l.take j) (fun k => l.length - k) 0 (le_sl (by simp [leSl, intsA_len])) ⟨Nat.zero_le _, by omega⟩ ?_
    rintro k ⟨hk, hno⟩
    refine awp_sound (own := []) _ _ _ _ _ ?_
    simp only [w_move, w_binOp, w_len, w_aop, w_some, w_asome, w_nil, w_cons, awp, binC, cmpC, asB, asI, lenA, St.ev, St.step, setS, killS, AV.kill, AV.killL, Mem.kill, ACond_false, List.getD_cons_succ, List.getD_cons_zero, List.set_cons_succ, List.set_cons_zero, List.contains_nil, List.isEmpty_nil, if_true, true_and, Bool.true_and, Option.isSome_some, Nat.reduceAdd, Int.reduceAdd, ti25, intsA_len]
    by_cases h : k < l.length
    · have h' : (k : Int) < (l.length : Int) := by omega
      simp only [awp, ACond_true, decide_eq_true h']
      refine swp_draw (own := []) (.take 0 .plain [] (.take 1 .plain [] (.take 2 .plain [] (.take 3 .plain [] (.take 4 .plain [] (.take 5 .reads [] (.take 6 .reads [] (.alt 7 (.done) (.nil))))))))) [⟨43, 2, 0, 0, true⟩, ⟨44, 128, 0, 0, true⟩, ⟨45, 13194139533312, 3, 0, true⟩, ⟨46, 2, 0, 0, true⟩, ⟨47, 128, 0, 0, true⟩, ⟨48, 105553116266496, 24, 0, true⟩, ⟨49, 140737488355328, 32, 0, true⟩, ⟨50, 299067162755072, 68, 0, false⟩] mo (by kernel_rfl) ?_
      simp only [w_move, w_load, w_indexAddr, w_slice, w_callF, w_aop, w_take, w_some, w_asome, idxC, asP, asS, asI, bndA, loadA, St.ev, setS, AV.cells, AV.flat, AV.single, List.getD_cons_succ, List.getD_cons_zero, List.set_cons_succ, List.set_cons_zero, List.getElem?_cons_succ, List.getElem?_cons_zero, Option.getD_some, Option.getD_none, Bool.false_eq_true, if_false, true_and, and_true, List.all_cons, List.all_nil, Bool.and_true, Bool.true_and, Bool.not_true, List.map_cons, List.map_nil, Int.reduceLE, Int.toNat_zero, ASch, St.put, Md.mem, Md.need, ti3, ti25, intsA_len, aget_ints h, bndA, intsA_take, List.drop_zero, Int.toNat_natCast]
      refine ⟨by omega, by omega, acall_v (s70 (l.take k) l[k] (by simp only [List.length_take]; omega)) rfl rfl ?_⟩
      by_cases hm : l[k] ∈ l.take k
      · simp only [w_assign, w_aop, w_some, w_anone, w_nil, w_cons, awp, asB, asN, St.ev, St.step, setS, killS, AV.kill, AV.killL, Mem.kill, ACond_true, ACond_false, List.getD_cons_succ, List.getD_cons_zero, List.set_cons_succ, List.set_cons_zero, List.contains_nil, List.isEmpty_nil, Option.getD_some, Bool.false_eq_true, if_false, if_true, Nat.reduceAdd, Int.reduceAdd, ASch, (memL_eq _ _).2 hm]
        refine aend_frz rfl ⟨?_, rfl⟩
        rw [vTP, if_pos hv, vP, if_neg (by omega), if_pos good, if_neg (not_nodup h hm)]
        rfl
      · have hm' : memL (l.take k) l[k] = false := by rw [Bool.eq_false_iff, ne_eq, memL_eq]; exact hm
        simp only [w_move, w_assign, w_binOp, w_aop, w_some, w_asome, w_anone, w_nil, w_cons, awp, binC, arithC, cmpC, asB, asI, asN, St.ev, St.step, setS, killS, AV.kill, AV.killL, Mem.kill, ACond_false, List.getD_cons_succ, List.getD_cons_zero, List.set_cons_succ, List.set_cons_zero, List.contains_nil, List.isEmpty_nil, Option.getD_some, Bool.false_eq_true, if_false, if_true, true_and, and_true, Bool.and_true, Bool.true_and, Nat.reduceAdd, Int.reduceAdd, ASch, hm']
        exact ⟨by unfold lim; omega, k + 1, le_sl (by simp [leSl]), ⟨h, upto hno fun _ => hm⟩, by omega⟩
    · have h' : ¬ (k : Int) < (l.length : Int) := by omega
      simp only [w_assign, w_aop, w_anone, w_nil, w_cons, awp, asN, St.ev, St.step, setS, killS, AV.kill, AV.killL, Mem.kill, ACond_false, List.set_cons_succ, List.set_cons_zero, List.contains_nil, List.isEmpty_nil, Option.getD_some, Bool.false_eq_true, if_false, if_true, Nat.reduceAdd, Int.reduceAdd, decide_eq_false h']
      refine aend_frz rfl ⟨?_, rfl⟩
      rw [vTP, if_pos hv, vP, if_neg (by omega), if_pos good, if_pos (nodup_of fun j hj => hno j (by omega) hj)]
      rfl
end Go.Proofs.Ytkolpijhgcijbaa

namespace Go.Proofs.Ytkolpijhgcijbaa
open Aw Go.RowKit
set_option linter.unusedSimpArgs false

/-- the first numbers of which something holds. -/
def upL (k : Nat) (p : Int → Bool) : List Int := ((List.range k).map fun (i : Nat) => (i : Int)).filter p
theorem upL_true {k : Nat} {p : Int → Bool} (h : p k = true) : upL (k + 1) p = upL k p ++ [(k : Int)] := by simp [upL, List.range_succ, h]
theorem upL_false {k : Nat} {p : Int → Bool} (h : p k = false) : upL (k + 1) p = upL k p := by simp [upL, List.range_succ, h]
theorem upL_len (k : Nat) (p : Int → Bool) : (upL k p).length ≤ k := by
  have := List.length_filter_le p ((List.range k).map fun (i : Nat) => (i : Int))
  simpa [upL] using this

theorem ok65 : okFn Try.prog 65 = true := by kernel_rfl
theorem s65 (n : Int) (ls : List (Int × Int)) (z : Int) (hn : n ≤ 100) (hl : ls.length ≤ 1000000) : ASpec Try.prog 65 [trapA n ls, I z] (fun r Ms => r = .s 1 (intsA (upL n.toNat (lnk ls z))) ∧ Ms = []) := by
  refine aspec_of (own := [5]) Try.func65 rfl ok65 ?_
  simp only [w_move, w_assign, w_box, w_load, w_fieldAddr, w_aop, w_some, w_asome, w_anone, w_nil, w_cons, awp, asP, asN, loadA, Aw.newRow, St.ev, St.step, setS, killS, AV.kill, AV.killL, Mem.kill, AV.cells, AV.flat, AV.single, AV.cellular, AV.pure, AV.pureL, ACond_false, List.getD_cons_succ, List.getD_cons_zero, List.set_cons_succ, List.set_cons_zero, List.getElem?_cons_zero, List.length_cons, List.length_nil, List.replicate_succ, List.replicate_zero, List.cons_append, List.nil_append, List.contains_nil, List.contains_cons, List.isEmpty_nil, Option.getD_some, Bool.false_eq_true, if_false, if_true, true_and, and_true, List.all_cons, List.all_nil, Bool.and_true, Bool.true_and, Bool.not_true, Nat.zero_add, Nat.add_zero, beq_self_eq_true, decide_true, nbeq, decide_false, Bool.or_false, Bool.and_false, Nat.reduceAdd, Nat.reduceEqDiff, Nat.reduceSub, Nat.reduceLeDiff, Int.reduceAdd, Int.reduceSub, ne_eq, not_false_eq_true, ti3, ti24, ti25, Try.ntmps65, trapA]
  refine swp_loop' (fun k : Nat => ⟨[.bot, I z, .p (.g [I n, .s 2 (prsA ls)]) 0, .bot, .bot, .o 0, .bot, .bot, I n, I k, .bot, .bot, .bot, .bot, .bot, .bot, .bot, .bot, .bot, .bot, .bot, .bot], [some ⟨none, 3, 1, intsA (upL k (lnk ls z))⟩]⟩) (fun k => k ≤ n.toNat) (fun k => n.toNat - k) 0 (le_sl (by simp [leSl])) (Nat.zero_le _) ?_
  intro k hk
  refine awp_sound (own := [5]) _ _ _ _ _ ?_
  simp only [w_binOp, w_aop, w_some, w_asome, w_nil, w_cons, awp, binC, cmpC, asB, asI, St.ev, St.step, setS, killS, AV.kill, AV.killL, Mem.kill, ACond_false, List.getD_cons_succ, List.getD_cons_zero, List.set_cons_succ, List.set_cons_zero, List.contains_nil, List.contains_cons, List.isEmpty_nil, Bool.false_eq_true, if_false, if_true, true_and, Bool.true_and, nbeq, decide_false, Bool.or_false, Nat.reduceAdd, Nat.reduceEqDiff, Int.reduceAdd]
  by_cases h : (k : Int) < n
  · simp only [w_move, w_assign, w_load, w_callF, w_aop, w_some, w_asome, w_anone, w_nil, w_cons, awp, asP, asN, loadA, St.ev, St.step, setS, killS, AV.kill, AV.killL, Mem.kill, AV.cells, AV.flat, AV.single, ACond_true, ACond_false, List.getD_cons_succ, List.getD_cons_zero, List.set_cons_succ, List.set_cons_zero, List.getElem?_cons_zero, List.length_cons, List.length_nil, List.contains_nil, List.contains_cons, List.isEmpty_nil, Option.getD_some, Bool.false_eq_true, if_false, if_true, and_true, List.all_cons, List.all_nil, Bool.and_true, Bool.not_true, Nat.zero_add, beq_self_eq_true, List.map_cons, List.map_nil, decide_true, nbeq, decide_false, Bool.or_false, Nat.reduceAdd, Nat.reduceEqDiff, Nat.reduceLeDiff, Int.reduceAdd, ti24, decide_eq_true h]
    refine acall_v (s91 n ls z k hl) rfl rfl ?_
    cases hz : lnk ls z k with
    | true =>
      simp only [w_move, w_assign, w_binOp, w_buildSlice, w_append, w_aop, w_some, w_asome, w_anone, w_nil, w_cons, awp, binC, arithC, cmpC, asO, asS, asB, asI, asN, obA, St.ev, St.step, setS, killS, AV.kill, AV.killL, Mem.kill, AV.cells, AV.flat, AV.single, AV.cellular, AV.size, AV.pure, AV.pureL, ACond_true, ACond_false, Value.oneCell', List.getD_cons_succ, List.getD_cons_zero, List.set_cons_succ, List.set_cons_zero, List.getElem?_cons_zero, List.length_cons, List.length_nil, List.contains_nil, List.contains_cons, List.isEmpty_nil, List.isEmpty_cons, Option.getD_some, Bool.false_eq_true, if_false, if_true, true_and, and_true, List.all_cons, List.all_nil, Bool.and_true, Bool.true_and, Nat.zero_add, beq_self_eq_true, List.map_cons, List.map_nil, decide_true, nbeq, decide_false, Bool.or_false, Nat.reduceAdd, Nat.reduceEqDiff, Nat.reduceMul, Nat.reduceLeDiff, Int.reduceAdd, Int.reduceMul, Option.map_some, ti3, ti25, intsA_len, intsA_kill]
      have := upL_len k (lnk ls z)
      exact ⟨⟨by omega, by decide⟩, ⟨by omega, by omega⟩, by unfold lim; omega, k + 1, by rw [upL_true hz, ← intsA_app]; exact le_sl (by simp [leSl]), by omega, by omega⟩
    | false =>
      simp only [w_move, w_binOp, w_aop, w_some, w_asome, w_anone, w_nil, w_cons, awp, binC, arithC, cmpC, asB, asI, St.ev, St.step, setS, killS, AV.kill, AV.killL, Mem.kill, ACond_false, List.getD_cons_succ, List.getD_cons_zero, List.set_cons_succ, List.set_cons_zero, List.contains_nil, List.contains_cons, List.isEmpty_nil, Bool.false_eq_true, if_false, if_true, true_and, and_true, Bool.and_true, Bool.true_and, nbeq, decide_false, Bool.or_false, Nat.reduceAdd, Nat.reduceEqDiff, Int.reduceAdd]
      exact ⟨by unfold lim; omega, k + 1, by rw [upL_false hz]; exact le_sl (by simp [leSl]), by omega, by omega⟩
  · simp only [w_move, w_assign, w_aop, w_anone, w_nil, w_cons, awp, asN, St.ev, St.step, setS, killS, AV.kill, AV.killL, Mem.kill, ACond_false, List.getD_cons_succ, List.getD_cons_zero, List.set_cons_succ, List.set_cons_zero, List.contains_nil, List.contains_cons, List.isEmpty_nil, Option.getD_some, Bool.false_eq_true, if_false, if_true, nbeq, decide_false, Bool.or_false, Nat.reduceAdd, Nat.reduceEqDiff, Int.reduceAdd, decide_eq_false h]
    refine aend_frz rfl ⟨?_, rfl⟩
    have : k = n.toNat := by omega
    subst this
    simp [frz, AV.sub, intsA_pure]

theorem ok66 : okFn Try.prog 66 = true := by kernel_rfl
theorem s66 (n : Int) (ls : List (Int × Int)) (z : Int) (hn : n ≤ 100) (hl : ls.length ≤ 1000000) : ASpec Try.prog 66 [trapA n ls, I z] (fun r Ms => r = .s 1 (intsA (upL n.toNat (lnk ls z))) ∧ Ms = []) := by
  refine aspec_of (own := [5]) Try.func66 rfl ok66 ?_
  simp only [w_assign, w_box, w_aop, w_some, w_asome, w_anone, w_nil, w_cons, awp, asN, Aw.newRow, St.ev, St.step, setS, killS, AV.kill, AV.killL, Mem.kill, AV.cellular, AV.pure, AV.pureL, ACond_false, List.getD_cons_zero, List.set_cons_succ, List.set_cons_zero, List.length_cons, List.length_nil, List.replicate_succ, List.replicate_zero, List.cons_append, List.nil_append, List.contains_nil, List.contains_cons, List.isEmpty_nil, Option.getD_some, Bool.false_eq_true, if_false, if_true, true_and, and_true, Bool.and_true, Bool.true_and, Nat.zero_add, Nat.add_zero, beq_self_eq_true, nbeq, decide_false, Bool.or_false, Nat.reduceAdd, Nat.reduceEqDiff, Nat.reduceSub, Int.reduceAdd, Int.reduceSub, ti3, ti25, Try.ntmps66, trapA]
  refine swp_loop' (fun k : Nat => ⟨[.bot, I z, .p (.g [I n, .s 2 (prsA ls)]) 0, .bot, .bot, .o 0, I k, .bot, .bot, .bot, .bot, .bot, .bot, .bot, .bot, .bot, .bot, .bot, .bot, .bot, .bot, .bot], [some ⟨none, 3, 1, intsA (upL k (lnk ls z))⟩]⟩) (fun k => k ≤ n.toNat) (fun k => n.toNat - k) 0 (le_sl (by simp [leSl])) (Nat.zero_le _) ?_
  intro k hk
  refine awp_sound (own := [5]) _ _ _ _ _ ?_
  simp only [w_move, w_load, w_fieldAddr, w_binOp, w_aop, w_some, w_asome, w_nil, w_cons, awp, binC, cmpC, asP, asB, asI, loadA, St.ev, St.step, setS, killS, AV.kill, AV.killL, Mem.kill, AV.cells, AV.flat, AV.single, ACond_false, List.getD_cons_succ, List.getD_cons_zero, List.set_cons_succ, List.set_cons_zero, List.getElem?_cons_zero, List.length_cons, List.length_nil, List.contains_nil, List.contains_cons, List.isEmpty_nil, Bool.false_eq_true, if_false, if_true, true_and, and_true, List.all_cons, List.all_nil, Bool.and_true, Bool.true_and, Bool.not_true, Nat.zero_add, Nat.add_zero, beq_self_eq_true, decide_true, nbeq, decide_false, Bool.or_false, Bool.and_false, Nat.reduceAdd, Nat.reduceEqDiff, Nat.reduceLeDiff, Int.reduceAdd, ne_eq, not_false_eq_true, ti3, ti24]
  by_cases h : (k : Int) < n
  · simp only [w_move, w_load, w_callF, w_aop, w_some, w_asome, w_cons, awp, asP, loadA, St.ev, St.step, setS, killS, AV.kill, AV.killL, Mem.kill, AV.cells, AV.flat, AV.single, ACond_true, ACond_false, List.getD_cons_succ, List.getD_cons_zero, List.set_cons_succ, List.set_cons_zero, List.getElem?_cons_zero, List.length_cons, List.length_nil, List.contains_nil, List.contains_cons, List.isEmpty_nil, Bool.false_eq_true, if_false, if_true, and_true, List.all_cons, List.all_nil, Bool.and_true, Bool.not_true, Nat.zero_add, beq_self_eq_true, List.map_cons, List.map_nil, decide_true, nbeq, decide_false, Bool.or_false, Nat.reduceAdd, Nat.reduceEqDiff, Nat.reduceLeDiff, Int.reduceAdd, ti24, decide_eq_true h]
    refine acall_v (s73 n ls z k hl) rfl rfl ?_
    cases hz : lnk ls z k with
    | true =>
      simp only [w_move, w_assign, w_binOp, w_buildSlice, w_append, w_aop, w_some, w_asome, w_anone, w_nil, w_cons, awp, binC, arithC, cmpC, asO, asS, asB, asI, asN, obA, St.ev, St.step, setS, killS, AV.kill, AV.killL, Mem.kill, AV.cells, AV.flat, AV.single, AV.cellular, AV.size, AV.pure, AV.pureL, ACond_true, ACond_false, Value.oneCell', List.getD_cons_succ, List.getD_cons_zero, List.set_cons_succ, List.set_cons_zero, List.getElem?_cons_zero, List.length_cons, List.length_nil, List.contains_nil, List.contains_cons, List.isEmpty_nil, List.isEmpty_cons, Option.getD_some, Bool.false_eq_true, if_false, if_true, true_and, and_true, List.all_cons, List.all_nil, Bool.and_true, Bool.true_and, Nat.zero_add, beq_self_eq_true, List.map_cons, List.map_nil, decide_true, nbeq, decide_false, Bool.or_false, Nat.reduceAdd, Nat.reduceEqDiff, Nat.reduceMul, Nat.reduceLeDiff, Int.reduceAdd, Int.reduceMul, Option.map_some, ti3, ti25, intsA_len, intsA_kill]
      have := upL_len k (lnk ls z)
      exact ⟨⟨by omega, by decide⟩, ⟨by omega, by omega⟩, by unfold lim; omega, k + 1, by rw [upL_true hz, ← intsA_app]; exact le_sl (by simp [leSl]), by omega, by omega⟩
    | false =>
      simp only [w_move, w_assign, w_binOp, w_aop, w_some, w_asome, w_anone, w_nil, w_cons, awp, binC, arithC, cmpC, asB, asI, asN, St.ev, St.step, setS, killS, AV.kill, AV.killL, Mem.kill, ACond_false, List.getD_cons_succ, List.getD_cons_zero, List.set_cons_succ, List.set_cons_zero, List.contains_nil, List.contains_cons, List.isEmpty_nil, Option.getD_some, Bool.false_eq_true, if_false, if_true, true_and, and_true, Bool.and_true, Bool.true_and, nbeq, decide_false, Bool.or_false, Nat.reduceAdd, Nat.reduceEqDiff, Int.reduceAdd]
      exact ⟨by unfold lim; omega, k + 1, by rw [upL_false hz]; exact le_sl (by simp [leSl]), by omega, by omega⟩
  · simp only [w_move, w_assign, w_aop, w_anone, w_nil, w_cons, awp, asN, St.ev, St.step, setS, killS, AV.kill, AV.killL, Mem.kill, ACond_false, List.getD_cons_succ, List.getD_cons_zero, List.set_cons_succ, List.set_cons_zero, List.contains_nil, List.contains_cons, List.isEmpty_nil, Option.getD_some, Bool.false_eq_true, if_false, if_true, nbeq, decide_false, Bool.or_false, Nat.reduceAdd, Nat.reduceEqDiff, Int.reduceAdd, decide_eq_false h]
    refine aend_frz rfl ⟨?_, rfl⟩
    have : k = n.toNat := by omega
    subst this
    simp [frz, AV.sub, intsA_pure]
end Go.Proofs.Ytkolpijhgcijbaa

namespace Go.Proofs.Ytkolpijhgcijbaa
open Aw Go.RowKit
set_option linter.unusedSimpArgs false

theorem ok21 : okFn Try.prog 21 = true := by kernel_rfl
theorem s21 (n : Int) (ls : List (Int × Int)) (z : Int) (hl : ls.length ≤ 1000000) : ASpec Try.prog 21 [trapA n ls, I z] (fun r Ms => r = (if vT n ls ≠ 0 then .t [.s 1 [], I (vT n ls)] else if 0 ≤ z ∧ z < n then .t [.s 1 (intsA (upL n.toNat (lnk ls z))), I 0] else .t [.s 1 [], I 4]) ∧ Ms = []) := by
  refine aspec_of (own := [4]) Try.func21 rfl ok21 ?_
  simp only [w_assign, w_box, w_load, w_callF, w_aop, w_some, w_asome, w_anone, w_nil, w_cons, awp, asP, asN, loadA, Aw.newRow, St.ev, St.step, setS, killS, AV.kill, AV.killL, Mem.kill, AV.cells, AV.flat, AV.single, AV.cellular, AV.pure, AV.pureL, ACond_false, List.getD_cons_succ, List.getD_cons_zero, List.set_cons_succ, List.set_cons_zero, List.getElem?_cons_zero, List.length_cons, List.length_nil, List.replicate_succ, List.replicate_zero, List.cons_append, List.nil_append, List.contains_nil, List.contains_cons, List.isEmpty_nil, Option.getD_some, Bool.false_eq_true, if_false, if_true, true_and, and_true, List.all_cons, List.all_nil, Bool.and_true, Bool.true_and, Bool.not_true, Nat.zero_add, Nat.add_zero, beq_self_eq_true, List.map_cons, List.map_nil, decide_true, nbeq, decide_false, Bool.or_false, Nat.reduceAdd, Nat.reduceEqDiff, Nat.reduceSub, Nat.reduceLeDiff, Int.reduceAdd, Int.reduceSub, ti3, ti24, ti25, Try.ntmps21, trapA]
  refine acall_v (s23 n ls hl) rfl rfl ?_
  by_cases h : ¬ vT n ls = 0
  · simp only [w_move, w_assign, w_binOp, w_aop, w_some, w_asome, w_anone, w_nil, w_cons, awp, binC, cmpC, asB, asI, asN, Aw.newRow, St.ev, St.step, setS, killS, AV.kill, AV.killL, Mem.kill, ACond_true, ACond_false, List.getD_cons_succ, List.getD_cons_zero, List.set_cons_succ, List.set_cons_zero, List.length_cons, List.length_nil, List.cons_append, List.nil_append, List.contains_nil, List.contains_cons, List.isEmpty_nil, Option.getD_some, Bool.false_eq_true, if_false, if_true, true_and, Bool.true_and, Bool.not_false, Nat.zero_add, beq_self_eq_true, nbeq, decide_false, Bool.or_false, Nat.reduceAdd, Nat.reduceEqDiff, Int.reduceAdd, ne_eq, ti3, ti25, decide_eq_true h, decide_eq_false h]
    exact aend_frz rfl ⟨by rw [if_pos h]; simp [frz, AV.sub, AV.subL, AV.pureL], rfl⟩
  have hv : vT n ls = 0 := Decidable.not_not.1 h
  have hn : n ≤ 6 := by
    unfold vT at hv
    split at hv
    · omega
    · omega
  simp only [w_move, w_assign, w_load, w_binOp, w_callF, w_aop, w_some, w_asome, w_anone, w_nil, w_cons, awp, binC, cmpC, asP, asB, asI, asN, loadA, St.ev, St.step, setS, killS, AV.kill, AV.killL, Mem.kill, AV.cells, AV.flat, AV.single, ACond_false, List.getD_cons_succ, List.getD_cons_zero, List.set_cons_succ, List.set_cons_zero, List.getElem?_cons_zero, List.length_cons, List.length_nil, List.contains_nil, List.contains_cons, List.isEmpty_nil, Option.getD_some, Bool.false_eq_true, if_false, if_true, true_and, and_true, List.all_cons, List.all_nil, Bool.and_true, Bool.true_and, Bool.not_true, Nat.zero_add, beq_self_eq_true, List.map_cons, List.map_nil, decide_true, nbeq, decide_false, Bool.or_false, Nat.reduceAdd, Nat.reduceEqDiff, Nat.reduceLeDiff, Int.reduceAdd, ti24, decide_eq_true hv]
  refine acall_v (s64 n ls z) rfl rfl ?_
  by_cases hz : 0 ≤ z ∧ z < n
  · simp only [w_move, w_load, w_not, w_callF, w_aop, w_some, w_asome, w_nil, w_cons, awp, asP, asB, loadA, St.ev, St.step, setS, killS, AV.kill, AV.killL, Mem.kill, AV.cells, AV.flat, AV.single, ACond_false, List.getD_cons_succ, List.getD_cons_zero, List.set_cons_succ, List.set_cons_zero, List.getElem?_cons_zero, List.length_cons, List.length_nil, List.contains_nil, List.contains_cons, List.isEmpty_nil, Bool.false_eq_true, if_false, if_true, and_true, List.all_cons, List.all_nil, Bool.and_true, Bool.not_true, Nat.zero_add, beq_self_eq_true, List.map_cons, List.map_nil, decide_true, nbeq, decide_false, Bool.or_false, Nat.reduceAdd, Nat.reduceEqDiff, Nat.reduceLeDiff, Int.reduceAdd, ti24, decide_eq_true hz]
    refine acall_v (s65 n ls z (by omega) hl) rfl rfl ?_
    simp only [w_assign, w_aop, w_anone, w_nil, w_cons, awp, asN, St.ev, St.step, setS, killS, AV.kill, AV.killL, Mem.kill, List.getD_cons_succ, List.getD_cons_zero, List.set_cons_succ, List.set_cons_zero, List.contains_nil, List.contains_cons, List.isEmpty_nil, Option.getD_some, Bool.false_eq_true, if_false, if_true, beq_self_eq_true, nbeq, decide_false, Bool.or_false, Nat.reduceEqDiff, ne_eq]
    exact aend_frz rfl ⟨by rw [if_neg h, if_pos hz]; simp [frz, AV.sub, AV.subL, AV.pureL], rfl⟩
  · simp only [w_assign, w_not, w_aop, w_some, w_asome, w_anone, w_nil, w_cons, awp, asB, asN, Aw.newRow, St.ev, St.step, setS, killS, AV.kill, AV.killL, Mem.kill, ACond_true, ACond_false, List.getD_cons_succ, List.getD_cons_zero, List.set_cons_succ, List.set_cons_zero, List.length_cons, List.length_nil, List.cons_append, List.nil_append, List.contains_nil, List.contains_cons, List.isEmpty_nil, Option.getD_some, Bool.false_eq_true, if_false, if_true, Bool.not_false, Nat.zero_add, beq_self_eq_true, nbeq, decide_false, Bool.or_false, Nat.reduceAdd, Nat.reduceEqDiff, Int.reduceAdd, ne_eq, ti3, ti25, decide_eq_false hz]
    exact aend_frz rfl ⟨by rw [if_neg h, if_neg hz]; simp [frz, AV.sub, AV.subL, AV.pureL], rfl⟩

theorem ok22 : okFn Try.prog 22 = true := by kernel_rfl
theorem s22 (n : Int) (ls : List (Int × Int)) (z : Int) (hl : ls.length ≤ 1000000) : ASpec Try.prog 22 [trapA n ls, I z] (fun r Ms => r = (if vT n ls ≠ 0 then .t [.s 1 [], I (vT n ls)] else if 0 ≤ z ∧ z < n then .t [.s 1 (intsA (upL n.toNat (lnk ls z))), I 0] else .t [.s 1 [], I 4]) ∧ Ms = []) := by
  refine aspec_of (own := [4]) Try.func22 rfl ok22 ?_
  simp only [w_assign, w_box, w_load, w_callF, w_aop, w_some, w_asome, w_anone, w_nil, w_cons, awp, asP, asN, loadA, Aw.newRow, St.ev, St.step, setS, killS, AV.kill, AV.killL, Mem.kill, AV.cells, AV.flat, AV.single, AV.cellular, AV.pure, AV.pureL, ACond_false, List.getD_cons_succ, List.getD_cons_zero, List.set_cons_succ, List.set_cons_zero, List.getElem?_cons_zero, List.length_cons, List.length_nil, List.replicate_succ, List.replicate_zero, List.cons_append, List.nil_append, List.contains_nil, List.contains_cons, List.isEmpty_nil, Option.getD_some, Bool.false_eq_true, if_false, if_true, true_and, and_true, List.all_cons, List.all_nil, Bool.and_true, Bool.true_and, Bool.not_true, Nat.zero_add, Nat.add_zero, beq_self_eq_true, List.map_cons, List.map_nil, decide_true, nbeq, decide_false, Bool.or_false, Nat.reduceAdd, Nat.reduceEqDiff, Nat.reduceSub, Nat.reduceLeDiff, Int.reduceAdd, Int.reduceSub, ti3, ti24, ti25, Try.ntmps22, trapA]
  refine acall_v (s24 n ls hl) rfl rfl ?_
  by_cases h : ¬ vT n ls = 0
  · simp only [w_move, w_assign, w_binOp, w_aop, w_some, w_asome, w_anone, w_nil, w_cons, awp, binC, cmpC, asB, asI, asN, Aw.newRow, St.ev, St.step, setS, killS, AV.kill, AV.killL, Mem.kill, ACond_true, ACond_false, List.getD_cons_succ, List.getD_cons_zero, List.set_cons_succ, List.set_cons_zero, List.length_cons, List.length_nil, List.cons_append, List.nil_append, List.contains_nil, List.contains_cons, List.isEmpty_nil, Option.getD_some, Bool.false_eq_true, if_false, if_true, true_and, Bool.true_and, Bool.not_false, Nat.zero_add, beq_self_eq_true, nbeq, decide_false, Bool.or_false, Nat.reduceAdd, Nat.reduceEqDiff, Int.reduceAdd, ne_eq, ti3, ti25, decide_eq_true h, decide_eq_false h]
    exact aend_frz rfl ⟨by rw [if_pos h]; simp [frz, AV.sub, AV.subL, AV.pureL], rfl⟩
  have hv : vT n ls = 0 := Decidable.not_not.1 h
  have hn : n ≤ 6 := by
    unfold vT at hv
    split at hv
    · omega
    · omega
  simp only [w_move, w_assign, w_binOp, w_aop, w_aopg, w_gdb, w_some, w_asome, w_anone, w_nil, w_cons, awp, binC, cmpC, asB, asI, asN, St.ev, St.step, setS, killS, AV.kill, AV.killL, Mem.kill, ACond_false, List.getD_cons_succ, List.getD_cons_zero, List.set_cons_succ, List.set_cons_zero, List.getElem?_cons_succ, List.getElem?_cons_zero, List.contains_nil, List.contains_cons, List.isEmpty_nil, Option.getD_some, Bool.false_eq_true, if_false, if_true, true_and, Bool.true_and, Bool.not_true, nbeq, decide_false, Bool.or_false, Nat.reduceAdd, Nat.reduceEqDiff, Int.reduceAdd, Option.bind_some, w_bf, decide_eq_true hv]
  by_cases h1 : z < 0
  · simp only [w_assign, w_pick, w_aop, w_aopg, w_gdb, w_some, w_asome, w_anone, w_nil, w_cons, awp, asB, asN, Aw.newRow, St.ev, St.step, setS, killS, AV.kill, AV.killL, Mem.kill, ACond_true, ACond_false, List.getD_cons_succ, List.getD_cons_zero, List.set_cons_succ, List.set_cons_zero, List.getElem?_cons_succ, List.getElem?_cons_zero, List.length_cons, List.length_nil, List.cons_append, List.nil_append, List.contains_nil, List.contains_cons, List.isEmpty_nil, Option.getD_some, Bool.false_eq_true, if_false, if_true, Bool.not_true, Nat.zero_add, beq_self_eq_true, nbeq, decide_false, Bool.or_false, Nat.reduceAdd, Nat.reduceEqDiff, Int.reduceAdd, Option.bind_some, ne_eq, w_bf, ti3, ti25, decide_eq_true h1]
    exact aend_frz rfl ⟨by rw [if_neg h, if_neg (by omega)]; simp [frz, AV.sub, AV.subL, AV.pureL], rfl⟩
  simp only [w_move, w_pick, w_load, w_fieldAddr, w_binOp, w_aop, w_aopg, w_gdb, w_some, w_asome, w_nil, w_cons, awp, binC, cmpC, asP, asB, asI, loadA, St.ev, St.step, setS, killS, AV.kill, AV.killL, Mem.kill, AV.cells, AV.flat, AV.single, ACond_true, ACond_false, List.getD_cons_succ, List.getD_cons_zero, List.set_cons_succ, List.set_cons_zero, List.getElem?_cons_succ, List.getElem?_cons_zero, List.length_cons, List.length_nil, List.contains_nil, List.isEmpty_nil, Bool.false_eq_true, if_false, if_true, true_and, and_true, List.all_cons, List.all_nil, Bool.and_true, Bool.true_and, Bool.not_true, Bool.not_false, Nat.zero_add, Nat.add_zero, beq_self_eq_true, decide_true, nbeq, decide_false, Bool.and_false, Nat.reduceAdd, Nat.reduceEqDiff, Nat.reduceLeDiff, Int.reduceAdd, Option.bind_some, ne_eq, not_false_eq_true, ti3, ti24, decide_eq_false h1]
  by_cases h2 : n ≤ z
  · simp only [w_assign, w_aop, w_some, w_asome, w_anone, w_nil, w_cons, awp, asN, Aw.newRow, St.ev, St.step, setS, killS, AV.kill, AV.killL, Mem.kill, ACond_true, ACond_false, List.set_cons_succ, List.set_cons_zero, List.length_cons, List.length_nil, List.cons_append, List.nil_append, List.contains_nil, List.contains_cons, List.isEmpty_nil, Option.getD_some, Bool.false_eq_true, if_false, if_true, Nat.zero_add, beq_self_eq_true, nbeq, decide_false, Bool.or_false, Nat.reduceAdd, Nat.reduceEqDiff, Int.reduceAdd, ne_eq, ti3, ti25, decide_eq_true h2]
    exact aend_frz rfl ⟨by rw [if_neg h, if_neg (by omega)]; simp [frz, AV.sub, AV.subL, AV.pureL], rfl⟩
  simp only [w_move, w_load, w_callF, w_aop, w_some, w_asome, w_cons, awp, asP, loadA, St.ev, St.step, setS, killS, AV.kill, AV.killL, Mem.kill, AV.cells, AV.flat, AV.single, ACond_false, List.getD_cons_succ, List.getD_cons_zero, List.set_cons_succ, List.set_cons_zero, List.getElem?_cons_zero, List.length_cons, List.length_nil, List.contains_nil, List.contains_cons, List.isEmpty_nil, Bool.false_eq_true, if_false, if_true, and_true, List.all_cons, List.all_nil, Bool.and_true, Bool.not_true, Nat.zero_add, beq_self_eq_true, List.map_cons, List.map_nil, decide_true, nbeq, decide_false, Bool.or_false, Nat.reduceAdd, Nat.reduceEqDiff, Nat.reduceLeDiff, Int.reduceAdd, ti24, decide_eq_false h2]
  refine acall_v (s66 n ls z (by omega) hl) rfl rfl ?_
  simp only [w_assign, w_aop, w_anone, w_nil, w_cons, awp, asN, St.ev, St.step, setS, killS, AV.kill, AV.killL, Mem.kill, List.getD_cons_succ, List.getD_cons_zero, List.set_cons_succ, List.set_cons_zero, List.contains_nil, List.contains_cons, List.isEmpty_nil, Option.getD_some, Bool.false_eq_true, if_false, if_true, beq_self_eq_true, nbeq, decide_false, Bool.or_false, Nat.reduceEqDiff, ne_eq]
  exact aend_frz rfl ⟨by rw [if_neg h, if_pos (by omega)]; simp [frz, AV.sub, AV.subL, AV.pureL], rfl⟩
end Go.Proofs.Ytkolpijhgcijbaa

namespace Go.Proofs.Ytkolpijhgcijbaa
open Aw Go.RowKit
set_option linter.unusedSimpArgs false

theorem vT_le {n : Int} {ls : List (Int × Int)} (h : vT n ls = 0) : n ≤ 6 := by
  unfold vT at h
  split at h <;> omega
theorem vTP_vT {n : Int} {ls : List (Int × Int)} {l : List Int} (h : vTP n ls l = 0) : vT n ls = 0 := by
  unfold vTP at h
  split at h
  · assumption
  · assumption

theorem ok28 : okFn Try.prog 28 = true := by kernel_rfl
theorem s28 (n : Int) (ls : List (Int × Int)) (l : List Int) (hls : ls.length ≤ 1000000) (hl : l.length ≤ 1000000) : ASpec Try.prog 28 [trapA n ls, .s 1 (intsA l)] (fun r Ms => r = (if vTP n ls l ≠ 0 then .t [.s 1 [], I (vTP n ls l)] else .t [.s 1 (intsA (upL n.toNat fun z => !memL l z)), I 0]) ∧ Ms = []) := by
  refine aspec_of (own := [4, 7]) Try.func28 rfl ok28 ?_
  simp only [w_move, w_assign, w_box, w_load, w_callF, w_aop, w_some, w_asome, w_anone, w_nil, w_cons, awp, asP, asN, loadA, Aw.newRow, St.ev, St.step, setS, killS, AV.kill, AV.killL, Mem.kill, AV.cells, AV.flat, AV.single, AV.cellular, AV.pure, AV.pureL, ACond_false, List.getD_cons_succ, List.getD_cons_zero, List.set_cons_succ, List.set_cons_zero, List.getElem?_cons_zero, List.length_cons, List.length_nil, List.replicate_succ, List.replicate_zero, List.cons_append, List.nil_append, List.contains_nil, List.contains_cons, List.isEmpty_nil, Option.getD_some, Bool.false_eq_true, if_false, if_true, true_and, and_true, List.all_cons, List.all_nil, Bool.and_true, Bool.true_and, Bool.not_true, Nat.zero_add, Nat.add_zero, beq_self_eq_true, List.map_cons, List.map_nil, decide_true, nbeq, decide_false, Bool.or_false, Nat.reduceAdd, Nat.reduceEqDiff, Nat.reduceSub, Nat.reduceLeDiff, Int.reduceAdd, Int.reduceSub, ti3, ti24, ti25, Try.ntmps28, trapA]
  refine acall_v (s25 n ls l hls hl) rfl rfl ?_
  by_cases h : ¬ vTP n ls l = 0
  · simp only [w_move, w_assign, w_binOp, w_aop, w_some, w_asome, w_anone, w_nil, w_cons, awp, binC, cmpC, asB, asI, asN, Aw.newRow, St.ev, St.step, setS, killS, AV.kill, AV.killL, Mem.kill, ACond_true, ACond_false, List.getD_cons_succ, List.getD_cons_zero, List.set_cons_succ, List.set_cons_zero, List.length_cons, List.length_nil, List.cons_append, List.nil_append, List.contains_nil, List.contains_cons, List.isEmpty_nil, Option.getD_some, Bool.false_eq_true, if_false, if_true, true_and, Bool.true_and, Bool.not_false, Nat.zero_add, beq_self_eq_true, nbeq, decide_false, Bool.or_false, Nat.reduceAdd, Nat.reduceEqDiff, Int.reduceAdd, ne_eq, ti3, ti25, decide_eq_true h, decide_eq_false h]
    exact aend_frz rfl ⟨by rw [if_pos h]; simp [frz, AV.sub, AV.subL, AV.pureL], rfl⟩
  have hv : vTP n ls l = 0 := Decidable.not_not.1 h
  have hn : n ≤ 6 := vT_le (vTP_vT hv)
  simp only [w_move, w_assign, w_load, w_fieldAddr, w_binOp, w_aop, w_some, w_asome, w_anone, w_nil, w_cons, awp, binC, cmpC, asP, asB, asI, asN, loadA, Aw.newRow, St.ev, St.step, setS, killS, AV.kill, AV.killL, Mem.kill, AV.cells, AV.flat, AV.single, ACond_false, List.getD_cons_succ, List.getD_cons_zero, List.set_cons_succ, List.set_cons_zero, List.getElem?_cons_zero, List.length_cons, List.length_nil, List.cons_append, List.nil_append, List.contains_nil, List.contains_cons, List.isEmpty_nil, Option.getD_some, Bool.false_eq_true, if_false, if_true, true_and, and_true, List.all_cons, List.all_nil, Bool.and_true, Bool.true_and, Bool.not_true, Nat.zero_add, Nat.add_zero, beq_self_eq_true, decide_true, nbeq, decide_false, Bool.or_false, Bool.or_true, Bool.and_false, Nat.reduceAdd, Nat.reduceEqDiff, Nat.reduceLeDiff, Int.reduceAdd, ne_eq, not_false_eq_true, ti3, ti24, ti25, decide_eq_true hv]
  refine swp_loop' (fun k : Nat => ⟨[.bot, .s 1 (intsA l), .p (.g [I n, .s 2 (prsA ls)]) 0, .bot, .bot, .bot, .bot, .o 1, .bot, .bot, .bot, .bot, .bot, .bot, .bot, .bot, I n, I k, .bot, .bot, .bot, .bot, .bot, .bot, .bot, .bot, .bot, .bot, .bot, .bot], [some ⟨none, 3, 1, []⟩, some ⟨none, 3, 1, intsA (upL k fun z => !memL l z)⟩]⟩) (fun k => k ≤ n.toNat) (fun k => n.toNat - k) 0 (le_sl (by simp [leSl])) (Nat.zero_le _) ?_
  intro k hk
  refine awp_sound (own := [4, 7]) _ _ _ _ _ ?_
  simp only [w_binOp, w_aop, w_some, w_asome, w_nil, w_cons, awp, binC, cmpC, asB, asI, St.ev, St.step, setS, killS, AV.kill, AV.killL, Mem.kill, ACond_false, List.getD_cons_succ, List.getD_cons_zero, List.set_cons_succ, List.set_cons_zero, List.contains_nil, List.contains_cons, List.isEmpty_nil, Bool.false_eq_true, if_false, if_true, true_and, Bool.true_and, nbeq, decide_false, Bool.or_false, Nat.reduceAdd, Nat.reduceEqDiff, Int.reduceAdd]
  by_cases h : (k : Int) < n
  · simp only [w_move, w_assign, w_callF, w_aop, w_anone, w_nil, w_cons, awp, asN, St.ev, St.step, setS, killS, AV.kill, AV.killL, Mem.kill, ACond_true, ACond_false, List.getD_cons_succ, List.getD_cons_zero, List.set_cons_succ, List.set_cons_zero, List.contains_nil, List.contains_cons, List.isEmpty_nil, Option.getD_some, Bool.false_eq_true, if_false, if_true, List.map_cons, List.map_nil, nbeq, decide_false, Bool.or_false, Nat.reduceAdd, Nat.reduceEqDiff, Int.reduceAdd, decide_eq_true h]
    refine acall_v (s71 l k hl) rfl rfl ?_
    cases hz : memL l k with
    | false =>
      simp only [w_move, w_assign, w_binOp, w_not, w_buildSlice, w_append, w_aop, w_some, w_asome, w_anone, w_nil, w_cons, awp, binC, arithC, cmpC, asO, asS, asB, asI, asN, obA, St.ev, St.step, setS, killS, AV.kill, AV.killL, Mem.kill, AV.cells, AV.flat, AV.single, AV.cellular, AV.size, AV.pure, AV.pureL, ACond_true, ACond_false, Value.oneCell', List.getD_cons_succ, List.getD_cons_zero, List.set_cons_succ, List.set_cons_zero, List.getElem?_cons_succ, List.getElem?_cons_zero, List.length_cons, List.length_nil, List.contains_nil, List.contains_cons, List.isEmpty_nil, List.isEmpty_cons, Option.getD_some, Bool.false_eq_true, if_false, if_true, true_and, and_true, List.all_cons, List.all_nil, Bool.and_true, Bool.true_and, Bool.not_false, Nat.zero_add, beq_self_eq_true, List.map_cons, List.map_nil, decide_true, nbeq, decide_false, Bool.or_false, Bool.or_true, Nat.reduceAdd, Nat.reduceEqDiff, Nat.reduceMul, Nat.reduceLeDiff, Int.reduceAdd, Int.reduceMul, Option.map_some, ti3, ti25, intsA_len, intsA_kill]
      have := upL_len k (fun z => !memL l z)
      exact ⟨⟨by omega, by decide⟩, ⟨by omega, by omega⟩, by unfold lim; omega, k + 1, by rw [upL_true (by simp [hz]), ← intsA_app]; exact le_sl (by simp [leSl]), by omega, by omega⟩
    | true =>
      simp only [w_move, w_binOp, w_not, w_aop, w_some, w_asome, w_anone, w_nil, w_cons, awp, binC, arithC, cmpC, asB, asI, St.ev, St.step, setS, killS, AV.kill, AV.killL, Mem.kill, ACond_false, List.getD_cons_succ, List.getD_cons_zero, List.set_cons_succ, List.set_cons_zero, List.contains_nil, List.contains_cons, List.isEmpty_nil, Bool.false_eq_true, if_false, if_true, true_and, and_true, Bool.and_true, Bool.true_and, Bool.not_true, nbeq, decide_false, Bool.or_false, Nat.reduceAdd, Nat.reduceEqDiff, Int.reduceAdd]
      exact ⟨by unfold lim; omega, k + 1, by rw [upL_false (by simp [hz])]; exact le_sl (by simp [leSl]), by omega, by omega⟩
  · simp only [w_move, w_assign, w_aop, w_anone, w_nil, w_cons, awp, asN, St.ev, St.step, setS, killS, AV.kill, AV.killL, Mem.kill, ACond_false, List.getD_cons_succ, List.getD_cons_zero, List.set_cons_succ, List.set_cons_zero, List.contains_nil, List.contains_cons, List.isEmpty_nil, Option.getD_some, Bool.false_eq_true, if_false, if_true, beq_self_eq_true, nbeq, decide_false, Bool.or_false, Nat.reduceAdd, Nat.reduceEqDiff, Int.reduceAdd, ne_eq, decide_eq_false h]
    refine aend_frz rfl ⟨?_, rfl⟩
    have : k = n.toNat := by omega
    subst this
    rw [if_neg (by simpa using hv)]
    simp [frz, AV.sub, AV.subL, intsA_pure]

theorem ok29 : okFn Try.prog 29 = true := by kernel_rfl
theorem s29 (n : Int) (ls : List (Int × Int)) (l : List Int) (hls : ls.length ≤ 1000000) (hl : l.length ≤ 1000000) : ASpec Try.prog 29 [trapA n ls, .s 1 (intsA l)] (fun r Ms => r = (if vTP n ls l ≠ 0 then .t [.s 1 [], I (vTP n ls l)] else .t [.s 1 (intsA (upL n.toNat fun z => !memL l z)), I 0]) ∧ Ms = []) := by
  refine aspec_of (own := [4, 7]) Try.func29 rfl ok29 ?_
  simp only [w_move, w_assign, w_box, w_load, w_callF, w_aop, w_some, w_asome, w_anone, w_nil, w_cons, awp, asP, asN, loadA, Aw.newRow, St.ev, St.step, setS, killS, AV.kill, AV.killL, Mem.kill, AV.cells, AV.flat, AV.single, AV.cellular, AV.pure, AV.pureL, ACond_false, List.getD_cons_succ, List.getD_cons_zero, List.set_cons_succ, List.set_cons_zero, List.getElem?_cons_zero, List.length_cons, List.length_nil, List.replicate_succ, List.replicate_zero, List.cons_append, List.nil_append, List.contains_nil, List.contains_cons, List.isEmpty_nil, Option.getD_some, Bool.false_eq_true, if_false, if_true, true_and, and_true, List.all_cons, List.all_nil, Bool.and_true, Bool.true_and, Bool.not_true, Nat.zero_add, Nat.add_zero, beq_self_eq_true, List.map_cons, List.map_nil, decide_true, nbeq, decide_false, Bool.or_false, Nat.reduceAdd, Nat.reduceEqDiff, Nat.reduceSub, Nat.reduceLeDiff, Int.reduceAdd, Int.reduceSub, ti3, ti24, ti25, Try.ntmps29, trapA]
  refine acall_v (s26 n ls l hls hl) rfl rfl ?_
  by_cases h : ¬ vTP n ls l = 0
  · simp only [w_move, w_assign, w_binOp, w_aop, w_some, w_asome, w_anone, w_nil, w_cons, awp, binC, cmpC, asB, asI, asN, Aw.newRow, St.ev, St.step, setS, killS, AV.kill, AV.killL, Mem.kill, ACond_true, ACond_false, List.getD_cons_succ, List.getD_cons_zero, List.set_cons_succ, List.set_cons_zero, List.length_cons, List.length_nil, List.cons_append, List.nil_append, List.contains_nil, List.contains_cons, List.isEmpty_nil, Option.getD_some, Bool.false_eq_true, if_false, if_true, true_and, Bool.true_and, Bool.not_false, Nat.zero_add, beq_self_eq_true, nbeq, decide_false, Bool.or_false, Nat.reduceAdd, Nat.reduceEqDiff, Int.reduceAdd, ne_eq, ti3, ti25, decide_eq_true h, decide_eq_false h]
    exact aend_frz rfl ⟨by rw [if_pos h]; simp [frz, AV.sub, AV.subL, AV.pureL], rfl⟩
  have hv : vTP n ls l = 0 := Decidable.not_not.1 h
  have hn : n ≤ 6 := vT_le (vTP_vT hv)
  simp only [w_move, w_assign, w_binOp, w_aop, w_some, w_asome, w_anone, w_nil, w_cons, awp, binC, cmpC, asB, asI, asN, Aw.newRow, St.ev, St.step, setS, killS, AV.kill, AV.killL, Mem.kill, ACond_false, List.getD_cons_succ, List.getD_cons_zero, List.set_cons_succ, List.set_cons_zero, List.length_cons, List.length_nil, List.cons_append, List.nil_append, List.contains_nil, List.contains_cons, List.isEmpty_nil, Option.getD_some, Bool.false_eq_true, if_false, if_true, true_and, Bool.true_and, Bool.not_true, Nat.zero_add, beq_self_eq_true, nbeq, decide_false, Bool.or_false, Bool.or_true, Nat.reduceAdd, Nat.reduceEqDiff, Int.reduceAdd, ti3, ti25, decide_eq_true hv]
  refine swp_loop' (fun k : Nat => ⟨[.bot, .s 1 (intsA l), .p (.g [I n, .s 2 (prsA ls)]) 0, .bot, .bot, .bot, .bot, .o 1, I k, .bot, .bot, .bot, .bot, .bot, .bot, .bot, .bot, .bot, .bot, .bot, .bot, .bot, .bot, .bot, .bot, .bot, .bot, .bot, .bot, .bot], [some ⟨none, 3, 1, []⟩, some ⟨none, 3, 1, intsA (upL k fun z => !memL l z)⟩]⟩) (fun k => k ≤ n.toNat) (fun k => n.toNat - k) 0 (le_sl (by simp [leSl])) (Nat.zero_le _) ?_
  intro k hk
  refine awp_sound (own := [4, 7]) _ _ _ _ _ ?_
  simp only [w_move, w_load, w_fieldAddr, w_binOp, w_aop, w_some, w_asome, w_nil, w_cons, awp, binC, cmpC, asP, asB, asI, loadA, St.ev, St.step, setS, killS, AV.kill, AV.killL, Mem.kill, AV.cells, AV.flat, AV.single, ACond_false, List.getD_cons_succ, List.getD_cons_zero, List.set_cons_succ, List.set_cons_zero, List.getElem?_cons_zero, List.length_cons, List.length_nil, List.contains_nil, List.contains_cons, List.isEmpty_nil, Bool.false_eq_true, if_false, if_true, true_and, and_true, List.all_cons, List.all_nil, Bool.and_true, Bool.true_and, Bool.not_true, Nat.zero_add, Nat.add_zero, beq_self_eq_true, decide_true, nbeq, decide_false, Bool.or_false, Bool.and_false, Nat.reduceAdd, Nat.reduceEqDiff, Nat.reduceLeDiff, Int.reduceAdd, ne_eq, not_false_eq_true, ti3, ti24]
  by_cases h : (k : Int) < n
  · simp only [w_move, w_callF, w_aop, w_cons, awp, St.ev, St.step, setS, killS, AV.kill, AV.killL, Mem.kill, ACond_true, ACond_false, List.getD_cons_succ, List.getD_cons_zero, List.set_cons_succ, List.set_cons_zero, List.contains_nil, List.contains_cons, List.isEmpty_nil, Bool.false_eq_true, if_false, if_true, List.map_cons, List.map_nil, nbeq, decide_false, Bool.or_false, Nat.reduceAdd, Nat.reduceEqDiff, Int.reduceAdd, decide_eq_true h]
    refine acall_v (s70 l k hl) rfl rfl ?_
    cases hz : memL l k with
    | false =>
      simp only [w_move, w_assign, w_binOp, w_not, w_buildSlice, w_append, w_aop, w_some, w_asome, w_anone, w_nil, w_cons, awp, binC, arithC, cmpC, asO, asS, asB, asI, asN, obA, St.ev, St.step, setS, killS, AV.kill, AV.killL, Mem.kill, AV.cells, AV.flat, AV.single, AV.cellular, AV.size, AV.pure, AV.pureL, ACond_true, ACond_false, Value.oneCell', List.getD_cons_succ, List.getD_cons_zero, List.set_cons_succ, List.set_cons_zero, List.getElem?_cons_succ, List.getElem?_cons_zero, List.length_cons, List.length_nil, List.contains_nil, List.contains_cons, List.isEmpty_nil, List.isEmpty_cons, Option.getD_some, Bool.false_eq_true, if_false, if_true, true_and, and_true, List.all_cons, List.all_nil, Bool.and_true, Bool.true_and, Bool.not_false, Nat.zero_add, beq_self_eq_true, List.map_cons, List.map_nil, decide_true, nbeq, decide_false, Bool.or_false, Bool.or_true, Nat.reduceAdd, Nat.reduceEqDiff, Nat.reduceMul, Nat.reduceLeDiff, Int.reduceAdd, Int.reduceMul, Option.map_some, ti3, ti25, intsA_len, intsA_kill]
      have := upL_len k (fun z => !memL l z)
      exact ⟨⟨by omega, by decide⟩, ⟨by omega, by omega⟩, by unfold lim; omega, k + 1, by rw [upL_true (by simp [hz]), ← intsA_app]; exact le_sl (by simp [leSl]), by omega, by omega⟩
    | true =>
      simp only [w_move, w_assign, w_binOp, w_not, w_aop, w_some, w_asome, w_anone, w_nil, w_cons, awp, binC, arithC, cmpC, asB, asI, asN, St.ev, St.step, setS, killS, AV.kill, AV.killL, Mem.kill, ACond_false, List.getD_cons_succ, List.getD_cons_zero, List.set_cons_succ, List.set_cons_zero, List.contains_nil, List.contains_cons, List.isEmpty_nil, Option.getD_some, Bool.false_eq_true, if_false, if_true, true_and, and_true, Bool.and_true, Bool.true_and, Bool.not_true, nbeq, decide_false, Bool.or_false, Nat.reduceAdd, Nat.reduceEqDiff, Int.reduceAdd]
      exact ⟨by unfold lim; omega, k + 1, by rw [upL_false (by simp [hz])]; exact le_sl (by simp [leSl]), by omega, by omega⟩
  · simp only [w_move, w_assign, w_aop, w_anone, w_nil, w_cons, awp, asN, St.ev, St.step, setS, killS, AV.kill, AV.killL, Mem.kill, ACond_false, List.getD_cons_succ, List.getD_cons_zero, List.set_cons_succ, List.set_cons_zero, List.contains_nil, List.contains_cons, List.isEmpty_nil, Option.getD_some, Bool.false_eq_true, if_false, if_true, beq_self_eq_true, nbeq, decide_false, Bool.or_false, Nat.reduceAdd, Nat.reduceEqDiff, Int.reduceAdd, ne_eq, decide_eq_false h]
    refine aend_frz rfl ⟨?_, rfl⟩
    have : k = n.toNat := by omega
    subst this
    rw [if_neg (by simpa using hv)]
    simp [frz, AV.sub, AV.subL, intsA_pure]
end Go.Proofs.Ytkolpijhgcijbaa

namespace Go.Proofs.Ytkolpijhgcijbaa
open Aw Go.RowKit
set_option linter.unusedSimpArgs false

/-- the moves of one ion to some of the zones zs. -/
def mvZ (l : List Int) (i : Nat) (zs : List Int) : List (Int × Int) := (zs.filter fun z => !memL l z).map fun z => ((i : Int), z)
/-- the moves of the first ions. -/
def mvK (n : Int) (ls : List (Int × Int)) (l : List Int) (k : Nat) : List (Int × Int) := (List.range k).flatMap fun i => mvZ l i (upL n.toNat (lnk ls (l.getD i 0)))
theorem mvK_succ (n : Int) (ls : List (Int × Int)) (l : List Int) (k : Nat) (h : k < l.length) : mvK n ls l (k + 1) = mvK n ls l k ++ mvZ l k (upL n.toNat (lnk ls l[k])) := by
  simp [mvK, List.range_succ, h]
theorem mvZ_len (l : List Int) (i : Nat) (zs : List Int) : (mvZ l i zs).length ≤ zs.length := by
  simp only [mvZ, List.length_map]; exact List.length_filter_le _ _
theorem mvK_len (n : Int) (ls : List (Int × Int)) (l : List Int) (k : Nat) : (mvK n ls l k).length ≤ k * n.toNat := by
  induction k with
  | zero => simp [mvK]
  | succ k ih =>
    have : mvK n ls l (k + 1) = mvK n ls l k ++ mvZ l k (upL n.toNat (lnk ls (l.getD k 0))) := by simp [mvK, List.range_succ]
    rw [this, List.length_append, Nat.succ_mul]
    have h1 := mvZ_len l k (upL n.toNat (lnk ls (l.getD k 0)))
    have h2 := upL_len n.toNat (lnk ls (l.getD k 0))
    omega

theorem mvZ_app (l : List Int) (i : Nat) (a b : List Int) : mvZ l i (a ++ b) = mvZ l i a ++ mvZ l i b := by simp [mvZ]
theorem mvZ_true {l : List Int} {i : Nat} {zs : List Int} {j : Nat} (hj : j < zs.length) (h : memL l zs[j] = false) : mvZ l i (zs.take (j + 1)) = mvZ l i (zs.take j) ++ [((i : Int), zs[j])] := by
  rw [List.take_succ_eq_append_getElem hj, mvZ_app]; simp [mvZ, h]
theorem mvZ_false {l : List Int} {i : Nat} {zs : List Int} {j : Nat} (hj : j < zs.length) (h : memL l zs[j] = true) : mvZ l i (zs.take (j + 1)) = mvZ l i (zs.take j) := by
  rw [List.take_succ_eq_append_getElem hj, mvZ_app]; simp [mvZ, h]

theorem ok72 : okFn Try.prog 72 = true := by kernel_rfl
theorem s72 (n : Int) (ls : List (Int × Int)) (l : List Int) (hn : n ≤ 100) (hls : ls.length ≤ 1000000) (hl : l.length ≤ 100) : ASpec Try.prog 72 [trapA n ls, .s 1 (intsA l)] (fun r Ms => r = .s 2 (prsA (mvK n ls l l.length)) ∧ Ms = []) := by
  refine aspec_of (own := [5]) Try.func72 rfl ok72 ?_
  simp only [w_move, w_assign, w_box, w_len, w_aop, w_some, w_asome, w_anone, w_nil, w_cons, awp, asN, lenA, Aw.newRow, St.ev, St.step, setS, killS, AV.kill, AV.killL, Mem.kill, AV.cellular, AV.pure, AV.pureL, ACond_false, List.getD_cons_succ, List.getD_cons_zero, List.set_cons_succ, List.set_cons_zero, List.length_cons, List.length_nil, List.replicate_succ, List.replicate_zero, List.cons_append, List.nil_append, List.contains_nil, List.contains_cons, List.isEmpty_nil, Option.getD_some, Bool.false_eq_true, if_false, if_true, true_and, and_true, Bool.and_true, Bool.true_and, Option.isSome_some, Nat.zero_add, Nat.add_zero, beq_self_eq_true, nbeq, decide_false, Bool.or_false, Nat.reduceAdd, Nat.reduceEqDiff, Nat.reduceSub, Int.reduceAdd, Int.reduceSub, ti25, ti42, ti64, Try.ntmps72, trapA, intsA_len]
  refine swp_loop' (fun k : Nat => ⟨[.bot, .s 1 (intsA l), .p (.g [I n, .s 2 (prsA ls)]) 0, .bot, .bot, .o 0, .bot, .bot, .bot, .bot, .s 1 (intsA l), I l.length, I k, .bot, .bot, .bot, .bot, .bot, .bot, .bot, .bot, .bot, .bot, .bot, .bot, .bot, .bot, .bot, .bot, .bot, .bot, .bot, .bot, .bot, .bot, .bot, .bot, .bot], [some ⟨none, 64, 2, prsA (mvK n ls l k)⟩]⟩) (fun k => k ≤ l.length) (fun k => l.length - k) 0 (le_sl (by simp [leSl, intsA_len])) (Nat.zero_le _) ?_
  intro k hk
  refine awp_sound (own := [5]) _ _ _ _ _ ?_
  simp only [w_binOp, w_aop, w_some, w_asome, w_nil, w_cons, awp, binC, cmpC, asB, asI, St.ev, St.step, setS, killS, AV.kill, AV.killL, Mem.kill, ACond_false, List.getD_cons_succ, List.getD_cons_zero, List.set_cons_succ, List.set_cons_zero, List.contains_nil, List.contains_cons, List.isEmpty_nil, Bool.false_eq_true, if_false, if_true, true_and, Bool.true_and, nbeq, decide_false, Bool.or_false, Nat.reduceAdd, Nat.reduceEqDiff, Int.reduceAdd]
  by_cases h : k < l.length
  · have h' : (k : Int) < (l.length : Int) := by omega
    simp only [w_move, w_assign, w_load, w_indexAddr, w_callF, w_aop, w_some, w_asome, w_anone, w_nil, w_cons, awp, idxC, asP, asS, asI, asN, loadA, St.ev, St.step, setS, killS, AV.kill, AV.killL, Mem.kill, AV.cells, AV.flat, AV.single, ACond_true, ACond_false, List.getD_cons_succ, List.getD_cons_zero, List.set_cons_succ, List.set_cons_zero, List.getElem?_cons_zero, List.length_cons, List.length_nil, List.contains_nil, List.contains_cons, List.isEmpty_nil, Option.getD_some, Bool.false_eq_true, if_false, if_true, true_and, and_true, List.all_cons, List.all_nil, Bool.and_true, Bool.true_and, Bool.not_true, Nat.zero_add, beq_self_eq_true, List.map_cons, List.map_nil, decide_true, nbeq, decide_false, Bool.or_false, Nat.reduceAdd, Nat.reduceEqDiff, Nat.reduceLeDiff, Int.reduceAdd, ti3, ti24, ti25, decide_eq_true h', aget_ints h, Int.toNat_natCast]
    refine ⟨by omega, acall_v (s65 n ls l[k] hn hls) rfl rfl ?_⟩
    have hz := upL_len n.toNat (lnk ls l[k])
    generalize hzs : upL n.toNat (lnk ls l[k]) = zs at hz
    simp only [w_move, w_len, w_aop, w_some, w_asome, w_nil, w_cons, awp, lenA, St.ev, St.step, setS, killS, AV.kill, AV.killL, Mem.kill, List.getD_cons_succ, List.getD_cons_zero, List.set_cons_succ, List.set_cons_zero, List.contains_nil, List.isEmpty_nil, Bool.false_eq_true, if_false, if_true, true_and, Bool.true_and, Option.isSome_some, ti25, intsA_len]
    refine swp_loop' (fun j : Nat => ⟨[.bot, .s 1 (intsA l), .p (.g [I n, .s 2 (prsA ls)]) 0, .bot, .bot, .o 0, I k, .bot, .bot, .bot, .s 1 (intsA l), I l.length, I k, .bot, .bot, .bot, .bot, .bot, .bot, .s 1 (intsA zs), I zs.length, I j, .bot, .bot, .bot, .bot, .bot, .bot, .bot, .bot, .bot, .bot, .bot, .bot, .bot, .bot, .bot, .bot], [some ⟨none, 64, 2, prsA (mvK n ls l k ++ mvZ l k (zs.take j))⟩]⟩) (fun j => j ≤ zs.length) (fun j => zs.length - j) 0 (by simp only [List.take_zero, mvZ, List.filter_nil, List.map_nil, List.append_nil]; exact le_sl (by simp [leSl, intsA_len])) (Nat.zero_le _) ?_
    intro j hj
    refine awp_sound (own := [5]) _ _ _ _ _ ?_
    simp only [w_binOp, w_aop, w_some, w_asome, w_nil, w_cons, awp, binC, cmpC, asB, asI, St.ev, St.step, setS, killS, AV.kill, AV.killL, Mem.kill, ACond_false, List.getD_cons_succ, List.getD_cons_zero, List.set_cons_succ, List.set_cons_zero, List.contains_nil, List.contains_cons, List.isEmpty_nil, Bool.false_eq_true, if_false, if_true, true_and, Bool.true_and, nbeq, decide_false, Bool.or_false, Nat.reduceAdd, Nat.reduceEqDiff, Int.reduceAdd]
    by_cases hjz : j < zs.length
    · have hjz' : (j : Int) < (zs.length : Int) := by omega
      simp only [w_move, w_assign, w_load, w_indexAddr, w_callF, w_aop, w_some, w_asome, w_anone, w_nil, w_cons, awp, idxC, asP, asS, asI, asN, loadA, St.ev, St.step, setS, killS, AV.kill, AV.killL, Mem.kill, AV.cells, AV.flat, AV.single, ACond_true, ACond_false, List.getD_cons_succ, List.getD_cons_zero, List.set_cons_succ, List.set_cons_zero, List.getElem?_cons_zero, List.contains_nil, List.contains_cons, List.isEmpty_nil, Option.getD_some, Bool.false_eq_true, if_false, if_true, true_and, and_true, List.all_cons, List.all_nil, Bool.and_true, Bool.true_and, Bool.not_true, List.map_cons, List.map_nil, nbeq, decide_false, Bool.or_false, Nat.reduceAdd, Nat.reduceEqDiff, Int.reduceAdd, ti3, ti25, decide_eq_true hjz', aget_ints hjz, Int.toNat_natCast]
      refine ⟨by omega, acall_v (s71 l zs[j] (by omega)) rfl rfl ?_⟩
      cases hm : memL l zs[j] with
      | false =>
        simp only [w_move, w_assign, w_binOp, w_not, w_build, w_buildSlice, w_append, w_aop, w_some, w_asome, w_anone, w_nil, w_cons, awp, binC, arithC, cmpC, asO, asS, asB, asI, asN, obA, fillA, putsA, St.ev, St.step, setS, killS, AV.kill, AV.killL, Mem.kill, AV.cells, AV.flat, AV.single, AV.cellular, AV.size, AV.sizeL, AV.pure, AV.pureL, ACond_true, ACond_false, Value.oneCell', List.getD_cons_succ, List.getD_cons_zero, List.set_cons_succ, List.set_cons_zero, List.getElem?_cons_succ, List.getElem?_cons_zero, List.length_cons, List.length_nil, List.contains_nil, List.contains_cons, List.isEmpty_nil, List.isEmpty_cons, Option.getD_some, Bool.false_eq_true, if_false, if_true, true_and, and_true, List.all_cons, List.all_nil, Bool.and_true, Bool.true_and, Bool.not_false, Nat.zero_add, Nat.add_zero, beq_self_eq_true, List.map_cons, List.map_nil, decide_true, nbeq, decide_false, Bool.or_false, List.length_append, Nat.reduceAdd, Nat.reduceEqDiff, Nat.reduceMul, Nat.reduceLeDiff, Int.reduceAdd, Int.reduceMul, Option.map_some, ti42, ti64, prsA_len, prsA_kill]
        have h1 := mvZ_len l k (zs.take j)
        have h2 := mvK_len n ls l k
        have h3 : k * n.toNat ≤ 100 * 100 := Nat.mul_le_mul (by omega) (by omega)
        rw [List.length_take] at h1
        exact ⟨⟨by omega, by decide⟩, ⟨by omega, by omega⟩, by unfold lim; omega, j + 1, by rw [mvZ_true hjz hm, ← List.append_assoc, ← prsA_app]; exact le_sl (by simp [leSl]), by omega, by omega⟩
      | true =>
        simp only [w_move, w_binOp, w_not, w_aop, w_some, w_asome, w_anone, w_nil, w_cons, awp, binC, arithC, cmpC, asB, asI, St.ev, St.step, setS, killS, AV.kill, AV.killL, Mem.kill, ACond_false, List.getD_cons_succ, List.getD_cons_zero, List.set_cons_succ, List.set_cons_zero, List.contains_nil, List.contains_cons, List.isEmpty_nil, Bool.false_eq_true, if_false, if_true, true_and, and_true, Bool.and_true, Bool.true_and, Bool.not_true, nbeq, decide_false, Bool.or_false, Nat.reduceAdd, Nat.reduceEqDiff, Int.reduceAdd]
        exact ⟨by unfold lim; omega, j + 1, by rw [mvZ_false hjz hm]; exact le_sl (by simp [leSl]), by omega, by omega⟩
    · have hjz' : ¬ (j : Int) < (zs.length : Int) := by omega
      simp only [w_move, w_assign, w_binOp, w_aop, w_some, w_asome, w_anone, w_nil, w_cons, awp, binC, arithC, cmpC, asI, asN, St.ev, St.step, setS, killS, AV.kill, AV.killL, Mem.kill, ACond_false, List.getD_cons_succ, List.getD_cons_zero, List.set_cons_succ, List.set_cons_zero, List.contains_nil, List.contains_cons, List.isEmpty_nil, Option.getD_some, Bool.false_eq_true, if_false, if_true, true_and, and_true, Bool.and_true, Bool.true_and, nbeq, decide_false, Bool.or_false, Nat.reduceAdd, Nat.reduceEqDiff, Int.reduceAdd, decide_eq_false hjz']
      have e : mvK n ls l (k + 1) = mvK n ls l k ++ mvZ l k (zs.take j) := by rw [mvK_succ _ _ _ _ h, hzs, List.take_of_length_le (by omega)]
      exact ⟨by unfold lim; omega, k + 1, by rw [e]; exact le_sl (by simp [leSl]), by omega, by omega⟩
  · have h' : ¬ (k : Int) < (l.length : Int) := by omega
    simp only [w_move, w_assign, w_aop, w_anone, w_nil, w_cons, awp, asN, St.ev, St.step, setS, killS, AV.kill, AV.killL, Mem.kill, ACond_false, List.getD_cons_succ, List.getD_cons_zero, List.set_cons_succ, List.set_cons_zero, List.contains_nil, List.contains_cons, List.isEmpty_nil, Option.getD_some, Bool.false_eq_true, if_false, if_true, nbeq, decide_false, Bool.or_false, Nat.reduceAdd, Nat.reduceEqDiff, Int.reduceAdd, decide_eq_false h']
    refine aend_frz rfl ⟨?_, rfl⟩
    have : k = l.length := by omega
    subst this
    simp [frz, AV.sub, prsA_pure]
end Go.Proofs.Ytkolpijhgcijbaa

namespace Go.Proofs.Ytkolpijhgcijbaa
open Aw Go.RowKit
set_option linter.unusedSimpArgs false

theorem vTP_len {n : Int} {ls : List (Int × Int)} {l : List Int} (h : vTP n ls l = 0) : l.length ≤ 4 := by
  unfold vTP at h
  split at h
  · unfold vP at h
    split at h
    · omega
    · omega
  · rename_i h'; exact absurd h h'

theorem ok30 : okFn Try.prog 30 = true := by kernel_rfl
theorem s30 (n : Int) (ls : List (Int × Int)) (l : List Int) (hls : ls.length ≤ 1000000) (hl : l.length ≤ 1000000) : ASpec Try.prog 30 [trapA n ls, .s 1 (intsA l)] (fun r Ms => r = (if vTP n ls l ≠ 0 then .t [.s 2 [], I (vTP n ls l)] else .t [.s 2 (prsA (mvK n ls l l.length)), I 0]) ∧ Ms = []) := by
  refine aspec_of (own := [4]) Try.func30 rfl ok30 ?_
  simp only [w_move, w_assign, w_box, w_load, w_callF, w_aop, w_some, w_asome, w_anone, w_nil, w_cons, awp, asP, asN, loadA, Aw.newRow, St.ev, St.step, setS, killS, AV.kill, AV.killL, Mem.kill, AV.cells, AV.flat, AV.single, AV.cellular, AV.pure, AV.pureL, ACond_false, List.getD_cons_succ, List.getD_cons_zero, List.set_cons_succ, List.set_cons_zero, List.getElem?_cons_zero, List.length_cons, List.length_nil, List.replicate_succ, List.replicate_zero, List.cons_append, List.nil_append, List.contains_nil, List.contains_cons, List.isEmpty_nil, Option.getD_some, Bool.false_eq_true, if_false, if_true, true_and, and_true, List.all_cons, List.all_nil, Bool.and_true, Bool.true_and, Bool.not_true, Nat.zero_add, Nat.add_zero, beq_self_eq_true, List.map_cons, List.map_nil, decide_true, nbeq, decide_false, Bool.or_false, Nat.reduceAdd, Nat.reduceEqDiff, Nat.reduceSub, Nat.reduceLeDiff, Int.reduceAdd, Int.reduceSub, ti24, ti42, ti64, Try.ntmps30, trapA]
  refine acall_v (s25 n ls l hls hl) rfl rfl ?_
  by_cases h : ¬ vTP n ls l = 0
  · simp only [w_move, w_assign, w_binOp, w_aop, w_some, w_asome, w_anone, w_nil, w_cons, awp, binC, cmpC, asB, asI, asN, Aw.newRow, St.ev, St.step, setS, killS, AV.kill, AV.killL, Mem.kill, ACond_true, ACond_false, List.getD_cons_succ, List.getD_cons_zero, List.set_cons_succ, List.set_cons_zero, List.length_cons, List.length_nil, List.cons_append, List.nil_append, List.contains_nil, List.contains_cons, List.isEmpty_nil, Option.getD_some, Bool.false_eq_true, if_false, if_true, true_and, Bool.true_and, Bool.not_false, Nat.zero_add, beq_self_eq_true, nbeq, decide_false, Bool.or_false, Nat.reduceAdd, Nat.reduceEqDiff, Int.reduceAdd, ne_eq, ti42, ti64, decide_eq_true h, decide_eq_false h]
    exact aend_frz rfl ⟨by rw [if_pos h]; simp [frz, AV.sub, AV.subL, AV.pureL], rfl⟩
  have hv : vTP n ls l = 0 := Decidable.not_not.1 h
  have hn : n ≤ 6 := vT_le (vTP_vT hv)
  have hk := vTP_len hv
  simp only [w_move, w_assign, w_load, w_binOp, w_callF, w_aop, w_some, w_asome, w_anone, w_nil, w_cons, awp, binC, cmpC, asP, asB, asI, asN, loadA, St.ev, St.step, setS, killS, AV.kill, AV.killL, Mem.kill, AV.cells, AV.flat, AV.single, ACond_false, List.getD_cons_succ, List.getD_cons_zero, List.set_cons_succ, List.set_cons_zero, List.getElem?_cons_zero, List.length_cons, List.length_nil, List.contains_nil, List.contains_cons, List.isEmpty_nil, Option.getD_some, Bool.false_eq_true, if_false, if_true, true_and, and_true, List.all_cons, List.all_nil, Bool.and_true, Bool.true_and, Bool.not_true, Nat.zero_add, beq_self_eq_true, List.map_cons, List.map_nil, decide_true, nbeq, decide_false, Bool.or_false, Nat.reduceAdd, Nat.reduceEqDiff, Nat.reduceLeDiff, Int.reduceAdd, ti24, decide_eq_true hv]
  refine acall_v (s72 n ls l (by omega) hls (by omega)) rfl rfl ?_
  simp only [w_assign, w_aop, w_anone, w_nil, w_cons, awp, asN, St.ev, St.step, setS, killS, AV.kill, AV.killL, Mem.kill, List.getD_cons_succ, List.getD_cons_zero, List.set_cons_succ, List.set_cons_zero, List.contains_nil, List.contains_cons, List.isEmpty_nil, Option.getD_some, Bool.false_eq_true, if_false, if_true, beq_self_eq_true, nbeq, decide_false, Bool.or_false, Nat.reduceEqDiff, ne_eq]
  exact aend_frz rfl ⟨by rw [if_neg h]; simp [frz, AV.sub, AV.subL, AV.pureL], rfl⟩

theorem ok31 : okFn Try.prog 31 = true := by kernel_rfl
theorem s31 (n : Int) (ls : List (Int × Int)) (l : List Int) (hls : ls.length ≤ 1000000) (hl : l.length ≤ 1000000) : ASpec Try.prog 31 [trapA n ls, .s 1 (intsA l)] (fun r Ms => r = (if vTP n ls l ≠ 0 then .t [.s 2 [], I (vTP n ls l)] else .t [.s 2 (prsA (mvK n ls l l.length)), I 0]) ∧ Ms = []) := by
  refine aspec_of (own := [4, 7]) Try.func31 rfl ok31 ?_
  simp only [w_move, w_assign, w_box, w_load, w_callF, w_aop, w_some, w_asome, w_anone, w_nil, w_cons, awp, asP, asN, loadA, Aw.newRow, St.ev, St.step, setS, killS, AV.kill, AV.killL, Mem.kill, AV.cells, AV.flat, AV.single, AV.cellular, AV.pure, AV.pureL, ACond_false, List.getD_cons_succ, List.getD_cons_zero, List.set_cons_succ, List.set_cons_zero, List.getElem?_cons_zero, List.length_cons, List.length_nil, List.replicate_succ, List.replicate_zero, List.cons_append, List.nil_append, List.contains_nil, List.contains_cons, List.isEmpty_nil, Option.getD_some, Bool.false_eq_true, if_false, if_true, true_and, and_true, List.all_cons, List.all_nil, Bool.and_true, Bool.true_and, Bool.not_true, Nat.zero_add, Nat.add_zero, beq_self_eq_true, List.map_cons, List.map_nil, decide_true, nbeq, decide_false, Bool.or_false, Nat.reduceAdd, Nat.reduceEqDiff, Nat.reduceSub, Nat.reduceLeDiff, Int.reduceAdd, Int.reduceSub, ti24, ti42, ti64, Try.ntmps31, trapA]
  refine acall_v (s26 n ls l hls hl) rfl rfl ?_
  by_cases h : ¬ vTP n ls l = 0
  · simp only [w_move, w_assign, w_binOp, w_aop, w_some, w_asome, w_anone, w_nil, w_cons, awp, binC, cmpC, asB, asI, asN, Aw.newRow, St.ev, St.step, setS, killS, AV.kill, AV.killL, Mem.kill, ACond_true, ACond_false, List.getD_cons_succ, List.getD_cons_zero, List.set_cons_succ, List.set_cons_zero, List.length_cons, List.length_nil, List.cons_append, List.nil_append, List.contains_nil, List.contains_cons, List.isEmpty_nil, Option.getD_some, Bool.false_eq_true, if_false, if_true, true_and, Bool.true_and, Bool.not_false, Nat.zero_add, beq_self_eq_true, nbeq, decide_false, Bool.or_false, Nat.reduceAdd, Nat.reduceEqDiff, Int.reduceAdd, ne_eq, ti42, ti64, decide_eq_true h, decide_eq_false h]
    exact aend_frz rfl ⟨by rw [if_pos h]; simp [frz, AV.sub, AV.subL, AV.pureL], rfl⟩
  have hv : vTP n ls l = 0 := Decidable.not_not.1 h
  have hn : n ≤ 6 := vT_le (vTP_vT hv)
  have hk4 := vTP_len hv
  simp only [w_move, w_assign, w_binOp, w_aop, w_some, w_asome, w_anone, w_nil, w_cons, awp, binC, cmpC, asB, asI, asN, Aw.newRow, St.ev, St.step, setS, killS, AV.kill, AV.killL, Mem.kill, ACond_false, List.getD_cons_succ, List.getD_cons_zero, List.set_cons_succ, List.set_cons_zero, List.length_cons, List.length_nil, List.cons_append, List.nil_append, List.contains_nil, List.contains_cons, List.isEmpty_nil, Option.getD_some, Bool.false_eq_true, if_false, if_true, true_and, Bool.true_and, Bool.not_true, Nat.zero_add, beq_self_eq_true, nbeq, decide_false, Bool.or_false, Bool.or_true, Nat.reduceAdd, Nat.reduceEqDiff, Int.reduceAdd, ti42, ti64, decide_eq_true hv]
  refine swp_loop' (fun k : Nat => ⟨[.bot, .s 1 (intsA l), .p (.g [I n, .s 2 (prsA ls)]) 0, .bot, .bot, .bot, .bot, .o 1, I k, .bot, .bot, .bot, .bot, .bot, .bot, .bot, .bot, .bot, .bot, .bot, .bot, .bot, .bot, .bot, .bot, .bot, .bot, .bot, .bot, .bot, .bot, .bot, .bot, .bot, .bot, .bot, .bot, .bot, .bot, .bot, .bot, .bot, .bot, .bot, .bot, .bot, .bot, .bot], [some ⟨none, 64, 2, []⟩, some ⟨none, 64, 2, prsA (mvK n ls l k)⟩]⟩) (fun k => k ≤ l.length) (fun k => l.length - k) 0 (le_sl (by simp [leSl, intsA_len])) (Nat.zero_le _) ?_
  intro k hk
  refine awp_sound (own := [4, 7]) _ _ _ _ _ ?_
  simp only [w_move, w_binOp, w_len, w_aop, w_some, w_asome, w_nil, w_cons, awp, binC, cmpC, asB, asI, lenA, St.ev, St.step, setS, killS, AV.kill, AV.killL, Mem.kill, ACond_false, List.getD_cons_succ, List.getD_cons_zero, List.set_cons_succ, List.set_cons_zero, List.contains_nil, List.contains_cons, List.isEmpty_nil, Bool.false_eq_true, if_false, if_true, true_and, Bool.true_and, Option.isSome_some, nbeq, decide_false, Bool.or_false, Nat.reduceAdd, Nat.reduceEqDiff, Int.reduceAdd, ti25, intsA_len]
  by_cases h : k < l.length
  · have h' : (k : Int) < (l.length : Int) := by omega
    simp only [w_assign, w_aop, w_anone, w_nil, w_cons, awp, asN, St.ev, St.step, setS, killS, AV.kill, AV.killL, Mem.kill, ACond_true, ACond_false, List.set_cons_succ, List.set_cons_zero, List.contains_nil, List.contains_cons, List.isEmpty_nil, Option.getD_some, Bool.false_eq_true, if_false, if_true, nbeq, decide_false, Bool.or_false, Nat.reduceAdd, Nat.reduceEqDiff, Int.reduceAdd, decide_eq_true h']
    refine swp_loop' (fun j : Nat => ⟨[.bot, .s 1 (intsA l), .p (.g [I n, .s 2 (prsA ls)]) 0, .bot, .bot, .bot, .bot, .o 1, I k, I j, .bot, .bot, .bot, .bot, .bot, .bot, .bot, .bot, .bot, .bot, .bot, .bot, .bot, .bot, .bot, .bot, .bot, .bot, .bot, .bot, .bot, .bot, .bot, .bot, .bot, .bot, .bot, .bot, .bot, .bot, .bot, .bot, .bot, .bot, .bot, .bot, .bot, .bot], [some ⟨none, 64, 2, []⟩, some ⟨none, 64, 2, prsA (mvK n ls l k ++ mvZ l k (upL j (lnk ls l[k])))⟩]⟩) (fun j => j ≤ n.toNat) (fun j => n.toNat - j) 0 (by simp only [upL, List.range_zero, mvZ, List.filter_nil, List.map_nil, List.append_nil]; exact le_sl (by simp [leSl, intsA_len])) (Nat.zero_le _) ?_
    intro j hj
    refine awp_sound (own := [4, 7]) _ _ _ _ _ ?_
    simp only [w_move, w_load, w_fieldAddr, w_binOp, w_aop, w_some, w_asome, w_nil, w_cons, awp, binC, cmpC, asP, asB, asI, loadA, St.ev, St.step, setS, killS, AV.kill, AV.killL, Mem.kill, AV.cells, AV.flat, AV.single, ACond_false, List.getD_cons_succ, List.getD_cons_zero, List.set_cons_succ, List.set_cons_zero, List.getElem?_cons_zero, List.length_cons, List.length_nil, List.contains_nil, List.contains_cons, List.isEmpty_nil, Bool.false_eq_true, if_false, if_true, true_and, and_true, List.all_cons, List.all_nil, Bool.and_true, Bool.true_and, Bool.not_true, Nat.zero_add, Nat.add_zero, beq_self_eq_true, decide_true, nbeq, decide_false, Bool.or_false, Bool.and_false, Nat.reduceAdd, Nat.reduceEqDiff, Nat.reduceLeDiff, Int.reduceAdd, ne_eq, not_false_eq_true, ti3, ti24]
    by_cases hjz : (j : Int) < n
    · simp only [awp, ACond_true, decide_eq_true hjz]
      refine swp_draw (own := [4, 7]) (.take 0 .reads [] (.take 1 .plain [] (.take 2 .plain [] (.take 3 .reads [] (.take 4 .reads [] (.take 5 .plain [] (.alt 6 (.take 7 .plain [] (.take 8 .plain [] (.take 9 .plain [] (.alt 10 (.take 11 .plain [] (.take 12 .plain [] (.done))) (.nil))))) (.nil)))))))) [⟨29, 4, 0, 0, true⟩, ⟨30, 2, 0, 0, true⟩, ⟨31, 256, 0, 0, true⟩, ⟨32, 1610612736, 6, 0, true⟩, ⟨33, 2147483648, 8, 0, true⟩, ⟨34, 512, 0, 0, true⟩, ⟨35, 13153337344, 49, 0, false⟩, ⟨36, 17179869184, 64, 0, true⟩, ⟨37, 34359738370, 128, 0, true⟩, ⟨38, 34359738880, 128, 0, true⟩, ⟨39, 240518168576, 896, 0, false⟩, ⟨40, 309237645312, 1152, 0, true⟩, ⟨41, 584115552256, 2176, 0, true⟩] mo (by kernel_rfl) ?_
      simp only [w_move, w_load, w_indexAddr, w_callF, w_aop, w_take, w_some, w_asome, idxC, asP, asS, asI, loadA, St.ev, setS, AV.cells, AV.flat, AV.single, List.getD_cons_succ, List.getD_cons_zero, List.set_cons_succ, List.set_cons_zero, List.getElem?_cons_succ, List.getElem?_cons_zero, List.length_cons, List.length_nil, Bool.false_eq_true, if_false, if_true, true_and, and_true, List.all_cons, List.all_nil, Bool.and_true, Bool.true_and, Bool.not_true, Nat.zero_add, beq_self_eq_true, List.map_cons, List.map_nil, decide_true, Nat.reduceAdd, Nat.reduceLeDiff, Int.reduceAdd, ASch, St.put, Md.mem, Md.need, ti3, ti24, ti25, aget_ints h, Int.toNat_natCast]
      refine ⟨by omega, acall_v (s73 n ls l[k] j hls) rfl rfl ?_⟩
      cases hz : lnk ls l[k] j with
      | false =>
        simp only [w_move, w_assign, w_pick, w_binOp, w_aop, w_aopg, w_gdb, w_take, w_takeg, w_some, w_asome, w_anone, w_nil, w_cons, awp, binC, arithC, cmpC, asB, asI, asN, St.ev, St.step, setS, killS, AV.kill, AV.killL, Mem.kill, ACond_false, List.getD_cons_succ, List.getD_cons_zero, List.set_cons_succ, List.set_cons_zero, List.getElem?_cons_succ, List.getElem?_cons_zero, List.contains_nil, List.contains_cons, List.isEmpty_nil, Option.getD_some, Bool.false_eq_true, if_false, if_true, true_and, and_true, Bool.and_true, Bool.true_and, nbeq, decide_false, Bool.or_false, Nat.reduceAdd, Nat.reduceEqDiff, Int.reduceAdd, Option.bind_some, ASch, St.put, Md.mem, Md.need, w_bt]
        exact ⟨by unfold lim; omega, j + 1, by rw [upL_false hz]; exact le_sl (by simp [leSl]), by omega, by omega⟩
      | true =>
        simp only [w_move, w_callF, w_aopg, w_gdb, w_take, w_takeg, w_some, St.ev, St.step, setS, killS, AV.kill, AV.killL, Mem.kill, ACond_true, List.getD_cons_succ, List.getD_cons_zero, List.set_cons_succ, List.set_cons_zero, List.getElem?_cons_succ, List.getElem?_cons_zero, List.contains_nil, List.isEmpty_nil, Bool.false_eq_true, if_false, if_true, true_and, and_true, Bool.and_true, Bool.true_and, beq_self_eq_true, List.map_cons, List.map_nil, Option.bind_some, ASch, St.put, Md.mem, Md.need]
        refine acall_v (s70 l j hl) rfl rfl ?_
        cases hm : memL l j with
        | true =>
          simp only [w_move, w_assign, w_pick, w_binOp, w_not, w_aop, w_gdb, w_take, w_takeg, w_some, w_asome, w_anone, w_nil, w_cons, awp, binC, arithC, cmpC, asB, asI, asN, St.ev, St.step, setS, killS, AV.kill, AV.killL, Mem.kill, ACond_true, ACond_false, List.getD_cons_succ, List.getD_cons_zero, List.set_cons_succ, List.set_cons_zero, List.getElem?_cons_succ, List.getElem?_cons_zero, List.contains_nil, List.contains_cons, List.isEmpty_nil, Option.getD_some, Bool.false_eq_true, if_false, if_true, true_and, and_true, Bool.and_true, Bool.true_and, Bool.not_true, beq_self_eq_true, nbeq, decide_false, Bool.or_false, Nat.reduceAdd, Nat.reduceEqDiff, Int.reduceAdd, Option.bind_some, ASch, St.put, Md.mem, Md.need]
          exact ⟨by unfold lim; omega, j + 1, by rw [upL_true hz, mvZ_app, show mvZ l k [(j : Int)] = [] by simp [mvZ, hm], List.append_nil]; exact le_sl (by simp [leSl]), by omega, by omega⟩
        | false =>
          simp only [w_move, w_assign, w_pick, w_binOp, w_not, w_build, w_buildSlice, w_append, w_aop, w_gdb, w_take, w_takeg, w_some, w_asome, w_anone, w_nil, w_cons, awp, binC, arithC, cmpC, asO, asS, asB, asI, asN, obA, fillA, putsA, St.ev, St.step, setS, killS, AV.kill, AV.killL, Mem.kill, AV.cells, AV.flat, AV.single, AV.cellular, AV.size, AV.sizeL, AV.pure, AV.pureL, ACond_true, ACond_false, Value.oneCell', List.getD_cons_succ, List.getD_cons_zero, List.set_cons_succ, List.set_cons_zero, List.getElem?_cons_succ, List.getElem?_cons_zero, List.length_cons, List.length_nil, List.contains_nil, List.contains_cons, List.isEmpty_nil, List.isEmpty_cons, Option.getD_some, Bool.false_eq_true, if_false, if_true, true_and, and_true, List.all_cons, List.all_nil, Bool.and_true, Bool.true_and, Bool.not_false, Nat.zero_add, Nat.add_zero, beq_self_eq_true, List.map_cons, List.map_nil, decide_true, nbeq, decide_false, Bool.or_false, Bool.or_true, List.length_append, Nat.reduceAdd, Nat.reduceEqDiff, Nat.reduceMul, Nat.reduceLeDiff, Int.reduceAdd, Int.reduceMul, Option.bind_some, ASch, St.put, Md.mem, Md.need, Option.map_some, ti42, ti64, prsA_len, prsA_kill]
          have h1 := mvZ_len l k (upL j (lnk ls l[k]))
          have h0 := upL_len j (lnk ls l[k])
          have h2 := mvK_len n ls l k
          have h3 : k * n.toNat ≤ 100 * 100 := Nat.mul_le_mul (by omega) (by omega)
          exact ⟨⟨by omega, by decide⟩, ⟨by omega, by omega⟩, by unfold lim; omega, j + 1, by rw [upL_true hz, mvZ_app, show mvZ l k [(j : Int)] = [((k : Int), (j : Int))] by simp [mvZ, hm], ← List.append_assoc, ← prsA_app]; exact le_sl (by simp [leSl]), by omega, by omega⟩
    · simp only [w_move, w_assign, w_binOp, w_aop, w_some, w_asome, w_anone, w_nil, w_cons, awp, binC, arithC, cmpC, asI, asN, St.ev, St.step, setS, killS, AV.kill, AV.killL, Mem.kill, ACond_false, List.getD_cons_succ, List.getD_cons_zero, List.set_cons_succ, List.set_cons_zero, List.contains_nil, List.contains_cons, List.isEmpty_nil, Option.getD_some, Bool.false_eq_true, if_false, if_true, true_and, and_true, Bool.and_true, Bool.true_and, beq_self_eq_true, nbeq, decide_false, Bool.or_false, Nat.reduceAdd, Nat.reduceEqDiff, Int.reduceAdd, ne_eq, decide_eq_false hjz]
      have e : mvK n ls l (k + 1) = mvK n ls l k ++ mvZ l k (upL j (lnk ls l[k])) := by rw [mvK_succ _ _ _ _ h]; congr 3; omega
      exact ⟨by unfold lim; omega, k + 1, by rw [e]; exact le_sl (by simp [leSl]), by omega, by omega⟩
  · have h' : ¬ (k : Int) < (l.length : Int) := by omega
    simp only [w_move, w_assign, w_aop, w_anone, w_nil, w_cons, awp, asN, St.ev, St.step, setS, killS, AV.kill, AV.killL, Mem.kill, ACond_false, List.getD_cons_succ, List.getD_cons_zero, List.set_cons_succ, List.set_cons_zero, List.contains_nil, List.contains_cons, List.isEmpty_nil, Option.getD_some, Bool.false_eq_true, if_false, if_true, beq_self_eq_true, nbeq, decide_false, Bool.or_false, Nat.reduceAdd, Nat.reduceEqDiff, Int.reduceAdd, ne_eq, decide_eq_false h']
    refine aend_frz rfl ⟨?_, rfl⟩
    have : k = l.length := by omega
    subst this
    rw [if_neg (by simpa using hv)]
    simp [frz, AV.sub, AV.subL, prsA_pure]
end Go.Proofs.Ytkolpijhgcijbaa
