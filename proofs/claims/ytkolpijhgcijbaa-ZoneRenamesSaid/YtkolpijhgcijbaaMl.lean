/-
  Several texts in one: FnAG, FnAH.
-/
import Derived.Test.YtkolpijhgcijbaaMc
import Derived.Test.YtkolpijhgcijbaaMw
import Derived.Test.YtkolpijhgcijbaaMf
set_option linter.unusedSimpArgs false
set_option linter.unusedVariables false
namespace Go.Proofs.Ytkolpijhgcijbaa
open Aw Go.RowKit
set_option linter.unusedSimpArgs false

theorem ok35 : okFn Try.prog 35 = true := by kernel_rfl
theorem s35 (n : Int) (ls : List (Int × Int)) (hls : ls.length ≤ 1000000) : ASpec Try.prog 35 [trapA n ls] (fun r Ms => r = trapA n ls ∧ Ms = []) := by
  refine aspec_of (own := [5]) Try.func35 rfl ok35 ?_
  simp only [w_box, w_alloc, w_aop, w_some, w_nil, w_cons, awp, mkA, Aw.newRow, St.ev, St.step, setS, killS, AV.kill, AV.killL, Mem.kill, AV.cellular, AV.pure, AV.pureL, ACond_false, List.getD_cons_zero, List.set_cons_succ, List.set_cons_zero, List.length_cons, List.length_nil, List.replicate_succ, List.replicate_zero, List.cons_append, List.nil_append, List.contains_nil, List.contains_cons, List.isEmpty_nil, Option.getD_some, if_true, true_and, and_true, Bool.and_true, Bool.true_and, Nat.zero_add, Nat.add_zero, List.map_cons, List.map_nil, nbeq, decide_false, Bool.or_false, Nat.reduceAdd, Nat.reduceEqDiff, Nat.reduceSub, Int.reduceAdd, Int.reduceSub, ti24, Try.ntmps35, trapA]
  refine swp_draw (own := [5]) (.take 3 .plain [] (.take 4 .reads [] (.take 0 .over [1] (.alt 1 (.alt 2 (.alt 5 (.take 6 .plain [] (.alt 7 (.done) (.nil))) (.nil)) (.nil)) (.alt 2 (.alt 1 (.alt 5 (.take 6 .plain [] (.alt 7 (.done) (.nil))) (.nil)) (.alt 5 (.take 1 .reads [] (.take 6 .plain [] (.alt 7 (.done) (.nil)))) (.nil))) (.nil)))))) [⟨4, 2, 0, 0, true⟩, ⟨5, 8, 1, 0, true⟩, ⟨6, 0, 0, 0, false⟩, ⟨7, 2, 0, 0, true⟩, ⟨8, 64, 8, 0, true⟩, ⟨9, 160, 20, 2, false⟩, ⟨10, 272, 34, 0, true⟩, ⟨0, 516, 127, 1, false⟩] mo (by kernel_rfl) ?_
  simp only [w_load, w_store, w_fieldAddr, w_build, w_buildSlice, w_append, w_aop, w_take, w_some, w_asome, awp, asP, asQ, asO, asS, obA, AGet_zero, loadA, storeA, fillA, putsA, Aw.newRow, St.ev, St.step, setS, killS, AV.kill, AV.killL, Mem.kill, AV.cells, AV.flat, AV.single, AV.cellular, AV.pure, ACond_true, Value.oneCell', List.getD_cons_succ, List.getD_cons_zero, List.set_cons_succ, List.set_cons_zero, List.getElem?_cons_succ, List.getElem?_cons_zero, List.length_cons, List.length_nil, List.cons_append, List.nil_append, List.contains_nil, List.contains_cons, List.isEmpty_nil, List.isEmpty_cons, Option.getD_some, Bool.false_eq_true, if_false, if_true, true_and, and_true, List.all_cons, List.all_nil, Bool.and_true, Bool.true_and, Bool.not_true, Nat.zero_add, Nat.add_zero, beq_self_eq_true, List.map_cons, List.map_nil, decide_true, nbeq, decide_false, Bool.or_false, Bool.and_false, Nat.reduceAdd, Nat.reduceEqDiff, Nat.reduceMul, Nat.reduceLeDiff, Int.reduceAdd, Int.reduceMul, ASch, St.put, Md.mem, Md.need, ne_eq, not_false_eq_true, Option.map_some, ti3, ti22, ti24, ti57, prsA_len, List.nil_append]
  refine ⟨⟨⟨by decide, rfl⟩, ⟨by decide, hls⟩, ?_⟩, ⟨by decide, rfl⟩, ⟨⟨by decide, hls⟩, ?_⟩, ⟨by decide, hls⟩, ?_⟩ <;>
  · refine aend_frz (x := .g [I n, .o 1]) ?_ ⟨by simp [frz, AV.sub, AV.subL, trapA, prsA_pure], rfl⟩
    show resA Try.prog [.cell 2 24] _ = _
    simp [resA, resL, resOne, ti24, loadA, AV.flat, AV.cells, AV.single]

theorem ok95 : okFn Try.prog 95 = true := by kernel_rfl
theorem s95 (k : Nat) (hk : k ≤ 1000000) : ASpec Try.prog 95 [.v (.slice none 0 0), I k] (fun r Ms => r = .o 0 ∧ Ms = [⟨none, 57, 2, []⟩]) := by
  refine aspec_of (own := [4, 1003, 1005]) Try.func95 rfl ok95 ?_
  simp only [w_move, w_assign, w_binOp, w_aop, w_some, w_asome, w_nil, w_cons, awp, binC, cmpC, asB, asI, asN, Aw.newRow, St.ev, St.step, setS, killS, AV.kill, AV.killL, Mem.kill, ACond_false, List.getD_cons_succ, List.getD_cons_zero, List.set_cons_succ, List.set_cons_zero, List.length_cons, List.length_nil, List.replicate_succ, List.replicate_zero, List.cons_append, List.nil_append, List.contains_nil, List.contains_cons, List.isEmpty_nil, Option.getD_some, Bool.false_eq_true, if_false, if_true, true_and, Bool.true_and, Nat.zero_add, Nat.add_zero, beq_self_eq_true, nbeq, decide_false, Bool.or_false, Nat.reduceAdd, Nat.reduceEqDiff, Nat.reduceSub, Int.reduceAdd, Int.reduceSub, ti22, ti57, Try.ntmps95]
  have h0 : ¬ (k : Int) < 0 := by omega
  simp only [awp, ACond_true, ACond_false, List.contains_nil, List.contains_cons, beq_self_eq_true, nbeq, decide_false, Bool.or_false, Bool.or_true, Nat.reduceAdd, Nat.reduceEqDiff, Int.reduceAdd, decide_eq_false h0]
  refine swp_cap (n := k) ti22 rfl rfl rfl (by unfold lim; omega) rfl ?_
  simp only [w_move, w_binOp, w_aop, w_some, w_asome, w_nil, w_cons, awp, binC, cmpC, asB, asI, St.ev, St.step, setS, killS, AV.kill, AV.killL, Mem.kill, ACond_false, List.getD_cons_succ, List.getD_cons_zero, List.set_cons_succ, List.set_cons_zero, List.replicate_succ, List.replicate_zero, List.contains_nil, List.contains_cons, List.isEmpty_nil, if_true, true_and, Bool.true_and, nbeq, decide_false, Bool.or_false, Nat.reduceAdd, Nat.reduceEqDiff, Int.reduceAdd, List.replicate_succ, List.replicate_zero, List.set_cons_zero, List.set_cons_succ]
  by_cases hk0 : (0 : Int) < k
  · simp only [awp, ACond_true, List.contains_nil, List.contains_cons, beq_self_eq_true, nbeq, decide_false, Bool.or_false, Bool.or_true, Nat.reduceAdd, Nat.reduceEqDiff, Int.reduceAdd, decide_eq_true hk0]
    refine swp_grow (n := k) (k := .i64) ti22 rfl ti57 (by kernel_rfl) rfl rfl (by omega) hk (by decide) (by decide) rfl ?_
    simp only [w_move, w_assign, w_aop, w_anone, w_nil, w_cons, awp, asN, St.ev, St.step, setS, killS, AV.kill, AV.killL, Mem.kill, ACond_false, List.getD_cons_succ, List.getD_cons_zero, List.set_cons_succ, List.set_cons_zero, List.length_cons, List.length_nil, List.replicate_succ, List.replicate_zero, List.cons_append, List.nil_append, List.contains_nil, List.contains_cons, List.isEmpty_nil, Option.getD_some, Bool.false_eq_true, if_false, if_true, Nat.zero_add, beq_self_eq_true, nbeq, decide_false, Bool.or_false, Nat.reduceAdd, Nat.reduceEqDiff, Int.reduceAdd, List.replicate_succ, List.replicate_zero, List.set_cons_zero, List.set_cons_succ]
    exact aend_exp 1 rfl rfl rfl ⟨rfl, rfl⟩
  · simp only [w_move, w_assign, w_aop, w_some, w_asome, w_nil, w_cons, awp, asN, Aw.newRow, St.ev, St.step, setS, killS, AV.kill, AV.killL, Mem.kill, ACond_false, List.getD_cons_succ, List.getD_cons_zero, List.set_cons_succ, List.set_cons_zero, List.length_cons, List.length_nil, List.cons_append, List.nil_append, List.contains_nil, List.contains_cons, List.isEmpty_nil, Option.getD_some, if_true, Nat.zero_add, beq_self_eq_true, nbeq, decide_false, Bool.or_false, Nat.reduceAdd, Nat.reduceEqDiff, Int.reduceAdd, ti22, ti57, decide_eq_false hk0]
    exact aend_exp 1 rfl rfl rfl ⟨rfl, rfl⟩

theorem ok38 : okFn Try.prog 38 = true := by kernel_rfl
theorem s38 (n m : Int) (ls ms : List (Int × Int)) (hls : ls.length ≤ 1000000) : ASpec Try.prog 38 [trapA n ls, trapA m ms] (fun r Ms => r = B (decide (n = m ∧ ls = ms)) ∧ Ms = []) := by
  refine aspec_of (own := []) Try.func38 rfl ok38 ?_
  simp only [w_move, w_assign, w_box, w_load, w_fieldAddr, w_binOp, w_aop, w_aopg, w_gdb, w_some, w_asome, w_anone, w_nil, w_cons, awp, binC, cmpC, asP, asI, asN, loadA, St.ev, St.step, setS, killS, AV.kill, AV.killL, Mem.kill, AV.cells, AV.flat, AV.single, AV.cellular, AV.pure, AV.pureL, ACond_false, List.getD_cons_succ, List.getD_cons_zero, List.set_cons_succ, List.set_cons_zero, List.getElem?_cons_succ, List.getElem?_cons_zero, List.length_cons, List.length_nil, List.replicate_succ, List.replicate_zero, List.cons_append, List.nil_append, List.contains_nil, List.isEmpty_nil, Option.getD_some, Bool.false_eq_true, if_false, if_true, true_and, and_true, List.all_cons, List.all_nil, Bool.and_true, Bool.true_and, Bool.not_true, Nat.zero_add, Nat.add_zero, beq_self_eq_true, decide_true, nbeq, decide_false, Bool.and_false, Nat.reduceAdd, Nat.reduceEqDiff, Nat.reduceSub, Nat.reduceLeDiff, Int.reduceAdd, Int.reduceSub, Option.bind_some, ne_eq, not_false_eq_true, w_bf, ti3, ti24, Try.ntmps38, trapA]
  by_cases h1 : n = m
  case neg =>
    simp only [w_assign, w_pick, w_aop, w_aopg, w_gdb, w_some, w_anone, w_nil, w_cons, awp, asB, asN, St.ev, St.step, setS, killS, AV.kill, AV.killL, Mem.kill, ACond_true, ACond_false, List.getD_cons_succ, List.getD_cons_zero, List.set_cons_succ, List.set_cons_zero, List.getElem?_cons_succ, List.getElem?_cons_zero, List.contains_nil, List.isEmpty_nil, Option.getD_some, Bool.false_eq_true, if_false, if_true, Bool.not_true, Bool.not_false, Nat.reduceAdd, Int.reduceAdd, Option.bind_some, w_bf, decide_eq_false h1]
    exact aend_frz rfl ⟨by rw [decide_eq_false (fun h => h1 h.1)]; rfl, rfl⟩
  simp only [w_pick, w_load, w_fieldAddr, w_binOp, w_len, w_aop, w_aopg, w_gdb, w_some, w_asome, w_nil, w_cons, awp, binC, cmpC, asP, asB, asI, lenA, loadA, St.ev, St.step, setS, killS, AV.kill, AV.killL, Mem.kill, AV.cells, AV.flat, AV.single, ACond_true, ACond_false, List.getD_cons_succ, List.getD_cons_zero, List.set_cons_succ, List.set_cons_zero, List.getElem?_cons_succ, List.getElem?_cons_zero, List.length_cons, List.length_nil, List.isEmpty_nil, Bool.false_eq_true, if_false, if_true, true_and, and_true, List.all_cons, List.all_nil, Bool.and_true, Bool.true_and, Bool.not_true, Bool.not_false, Option.isSome_some, Nat.zero_add, beq_self_eq_true, decide_true, nbeq, decide_false, Bool.and_false, Nat.reduceAdd, Nat.reduceEqDiff, Nat.reduceLeDiff, Int.reduceAdd, Option.bind_some, ne_eq, not_false_eq_true, ti22, ti24, decide_eq_true h1, prsA_len]
  by_cases h2 : (ls.length : Int) = ms.length
  case neg =>
    simp only [w_assign, w_aop, w_anone, w_nil, w_cons, awp, asN, St.ev, St.step, setS, killS, AV.kill, AV.killL, Mem.kill, ACond_true, ACond_false, List.set_cons_succ, List.set_cons_zero, List.contains_nil, List.isEmpty_nil, Option.getD_some, Bool.false_eq_true, if_false, if_true, Bool.not_false, Nat.reduceAdd, Int.reduceAdd, decide_eq_false h2]
    exact aend_frz rfl ⟨by rw [decide_eq_false (fun h => h2 (by rw [h.2]))]; rfl, rfl⟩
  simp only [w_assign, w_aop, w_anone, w_nil, w_cons, awp, asN, St.ev, St.step, setS, killS, AV.kill, AV.killL, Mem.kill, ACond_false, List.set_cons_succ, List.set_cons_zero, List.contains_nil, List.isEmpty_nil, Option.getD_some, Bool.false_eq_true, if_false, if_true, Bool.not_true, Nat.reduceAdd, Int.reduceAdd, decide_eq_true h2]
  refine swp_loop' (fun k : Nat => ⟨[.bot, .bot, .p (.g [I n, .s 2 (prsA ls)]) 0, .p (.g [I m, .s 2 (prsA ms)]) 0, .bot, I k, .bot, .bot, .bot, .bot, .bot, .bot, .bot, .bot, .bot, .bot, .bot, .bot, .bot, .bot, .bot, .bot, .bot, .bot, .bot, .bot, .bot, .bot, .bot, .bot, .bot, .bot, .bot, .bot, .bot, .bot, .bot, .bot], []⟩) (fun k => k ≤ ls.length ∧ ∀ j (h : j < ls.length) (h' : j < ms.length), j < k → ls[j] = ms[j]) (fun k => ls.length - k) 0 (le_sl (by simp [leSl])) ⟨Nat.zero_le _, by omega⟩ ?_
  rintro k ⟨hk, hno⟩
  refine awp_sound (own := []) _ _ _ _ _ ?_
  simp only [w_move, w_load, w_fieldAddr, w_binOp, w_len, w_aop, w_some, w_asome, w_nil, w_cons, awp, binC, cmpC, asP, asB, asI, lenA, loadA, St.ev, St.step, setS, killS, AV.kill, AV.killL, Mem.kill, AV.cells, AV.flat, AV.single, ACond_false, List.getD_cons_succ, List.getD_cons_zero, List.set_cons_succ, List.set_cons_zero, List.getElem?_cons_succ, List.getElem?_cons_zero, List.length_cons, List.length_nil, List.contains_nil, List.isEmpty_nil, Bool.false_eq_true, if_false, if_true, true_and, and_true, List.all_cons, List.all_nil, Bool.and_true, Bool.true_and, Bool.not_true, Option.isSome_some, Nat.zero_add, decide_true, nbeq, decide_false, Bool.and_false, Nat.reduceAdd, Nat.reduceEqDiff, Nat.reduceLeDiff, Int.reduceAdd, ne_eq, not_false_eq_true, ti22, ti24, prsA_len]
  by_cases h : k < ls.length
  · have h' : (k : Int) < (ls.length : Int) := by omega
    have h3 : k < ms.length := by omega
    simp only [awp, ACond_true, decide_eq_true h']
    refine swp_draw (own := []) (.take 0 .plain [] (.take 1 .reads [] (.take 2 .plain [] (.take 3 .reads [] (.take 4 .reads [] (.take 5 .plain [] (.take 6 .reads [] (.take 7 .plain [] (.take 8 .reads [] (.take 9 .reads [] (.take 10 .plain [] (.done)))))))))))) [⟨28, 4, 0, 0, true⟩, ⟨29, 134217728, 1, 0, true⟩, ⟨30, 32, 0, 0, true⟩, ⟨31, 805306368, 6, 0, true⟩, ⟨32, 1073741824, 8, 0, true⟩, ⟨33, 8, 0, 0, true⟩, ⟨34, 4294967296, 32, 0, true⟩, ⟨35, 32, 0, 0, true⟩, ⟨36, 25769803776, 192, 0, true⟩, ⟨37, 34359738368, 256, 0, true⟩, ⟨38, 70866960384, 528, 0, true⟩] mo (by kernel_rfl) ?_
    simp only [w_move, w_load, w_fieldAddr, w_indexAddr, w_binOp, w_take, w_some, w_asome, w_anone, awp, binC, idxC, eqC, asP, asS, asG, asB, asI, loadA, St.ev, setS, AV.cells, AV.flat, AV.single, ints, List.getD_cons_succ, List.getD_cons_zero, List.set_cons_succ, List.set_cons_zero, List.getElem?_cons_succ, List.getElem?_cons_zero, List.length_cons, List.length_nil, Bool.false_eq_true, if_false, if_true, true_and, and_true, List.all_cons, List.all_nil, Bool.and_true, Bool.true_and, Bool.not_true, Nat.zero_add, beq_self_eq_true, decide_true, nbeq, decide_false, Bool.and_false, Nat.reduceAdd, Nat.reduceEqDiff, Nat.reduceLeDiff, Int.reduceAdd, ASch, St.put, Md.mem, Md.need, ne_eq, not_false_eq_true, Option.map_some, ti22, ti24, ti57, aget_prs h, aget_prs h3, Int.toNat_natCast]
    refine ⟨by omega, by omega, ?_⟩
    by_cases hx : ls[k] = ms[k]
    · have hx' : [ls[k].1, ls[k].2] = [ms[k].1, ms[k].2] := by rw [hx]
      simp only [w_move, w_assign, w_binOp, w_aop, w_some, w_asome, w_anone, w_nil, w_cons, awp, binC, arithC, cmpC, asI, asN, St.ev, St.step, setS, killS, AV.kill, AV.killL, Mem.kill, ACond_false, List.getD_cons_succ, List.getD_cons_zero, List.set_cons_succ, List.set_cons_zero, List.contains_nil, List.isEmpty_nil, Option.getD_some, Bool.false_eq_true, if_false, if_true, true_and, and_true, Bool.and_true, Bool.true_and, Bool.not_true, Nat.reduceAdd, Int.reduceAdd, St.put, decide_eq_true hx']
      refine ⟨by unfold lim; omega, k + 1, le_sl (by simp [leSl]), ⟨h, fun j hj hj' hlt => ?_⟩, by omega⟩
      rcases Nat.lt_or_ge j k with h4 | h4
      · exact hno j hj hj' h4
      · obtain rfl : j = k := by omega
        exact hx
    · have hx' : ¬ [ls[k].1, ls[k].2] = [ms[k].1, ms[k].2] := fun e => hx (by simp at e; exact Prod.ext e.1 e.2)
      simp only [w_assign, w_aop, w_anone, w_nil, w_cons, awp, asN, St.ev, St.step, setS, killS, AV.kill, AV.killL, Mem.kill, ACond_true, ACond_false, List.set_cons_succ, List.set_cons_zero, List.contains_nil, List.isEmpty_nil, Option.getD_some, Bool.false_eq_true, if_false, if_true, Bool.not_false, Nat.reduceAdd, Int.reduceAdd, St.put, decide_eq_false hx']
      exact aend_frz rfl ⟨by rw [decide_eq_false (fun e => hx (by obtain ⟨_, e⟩ := e; subst e; rfl))]; rfl, rfl⟩
  · have h' : ¬ (k : Int) < (ls.length : Int) := by omega
    simp only [w_assign, w_aop, w_anone, w_nil, w_cons, awp, asN, St.ev, St.step, setS, killS, AV.kill, AV.killL, Mem.kill, ACond_false, List.set_cons_succ, List.set_cons_zero, List.contains_nil, List.isEmpty_nil, Option.getD_some, Bool.false_eq_true, if_false, if_true, Nat.reduceAdd, Int.reduceAdd, decide_eq_false h']
    have he : ls = ms := List.ext_getElem (by omega) fun j h1 h2 => hno j h1 h2 (by omega)
    exact aend_frz rfl ⟨by rw [decide_eq_true ⟨h1, he⟩]; rfl, rfl⟩

/-! slices of slices -/
def rowsA (lss : List (List (Int × Int))) : List AV := lss.map fun l => .s 2 (prsA l)
theorem rowsA_len (lss : List (List (Int × Int))) : (rowsA lss).length = lss.length := by simp [rowsA]
theorem rowsA_pure (lss : List (List (Int × Int))) : AV.pureL (rowsA lss) = true := pureL_map _ (fun _ => rfl) lss
theorem aget_rowsA {lss : List (List (Int × Int))} {j : Nat} (h : j < lss.length) (K : HK (AV → Prop)) : @AGet (rowsA lss) j K = K.k (.s 2 (prsA lss[j])) := by simp [AGet, rowsA, h]
theorem flat_take {α : Type} {lss : List (List α)} {j : Nat} (h : j < lss.length) : (lss.take (j + 1)).flatten = (lss.take j).flatten ++ lss[j] := by
  rw [List.take_succ_eq_append_getElem h, List.flatten_append]; simp
theorem flat_le {α : Type} (lss : List (List α)) (j : Nat) : (lss.take j).flatten.length ≤ lss.flatten.length := by
  have : lss.flatten = (lss.take j).flatten ++ (lss.drop j).flatten := by rw [← List.flatten_append, List.take_append_drop]
  rw [this, List.length_append]; omega

theorem ok75 : okFn Try.prog 75 = true := by kernel_rfl
theorem s75 (lss : List (List (Int × Int))) (hl : lss.length ≤ 1000000) (hf : lss.flatten.length ≤ 1000000) : ASpec Try.prog 75 [.s 1 (rowsA lss)] (fun r Ms => r = .o 0 ∧ Ms = [⟨none, 57, 2, prsA lss.flatten⟩]) := by
  refine aspec_of (own := []) Try.func75 rfl ok75 ?_
  simp only [w_move, w_assign, w_len, w_aop, w_some, w_asome, w_anone, w_nil, w_cons, awp, asN, lenA, St.ev, St.step, setS, killS, AV.kill, AV.killL, Mem.kill, ACond_false, List.getD_cons_succ, List.getD_cons_zero, List.set_cons_succ, List.set_cons_zero, List.length_cons, List.length_nil, List.replicate_succ, List.replicate_zero, List.cons_append, List.nil_append, List.contains_nil, List.isEmpty_nil, Option.getD_some, Bool.false_eq_true, if_false, if_true, true_and, Bool.true_and, Option.isSome_some, Nat.zero_add, Nat.add_zero, Nat.reduceAdd, Nat.reduceSub, Int.reduceAdd, Int.reduceSub, ti110, Try.ntmps75, rowsA_len]
  refine swp_loop' (fun i : Nat => ⟨[.s 1 (rowsA lss), .bot, .bot, I (lss.take i).flatten.length, .bot, .bot, .bot, .bot, .bot, .s 1 (rowsA lss), I lss.length, I i, .bot, .bot, .bot, .bot, .bot, .bot, .bot, .bot, .bot, .bot, .bot, .bot, .bot, .bot, .bot, .bot, .bot, .bot, .bot, .bot, .bot, .bot, .bot, .bot], []⟩) (fun i => i ≤ lss.length) (fun i => lss.length - i) 0 (le_sl (by simp [leSl])) (Nat.zero_le _) ?_
  intro i hi
  refine awp_sound (own := []) _ _ _ _ _ ?_
  simp only [w_binOp, w_aop, w_some, w_asome, w_nil, w_cons, awp, binC, cmpC, asB, asI, St.ev, St.step, setS, killS, AV.kill, AV.killL, Mem.kill, ACond_false, List.getD_cons_succ, List.getD_cons_zero, List.set_cons_succ, List.set_cons_zero, List.contains_nil, List.isEmpty_nil, if_true, true_and, Bool.true_and, Nat.reduceAdd, Int.reduceAdd]
  by_cases h : i < lss.length
  · have h' : (i : Int) < (lss.length : Int) := by omega
    have h1 := flat_le lss (i + 1)
    rw [flat_take h, List.length_append] at h1
    have h0 : ¬ ((lss.take i).flatten.length : Int) + (lss[i].length : Int) < 0 := by omega
    simp only [w_move, w_assign, w_load, w_indexAddr, w_binOp, w_len, w_aop, w_some, w_asome, w_anone, w_nil, w_cons, awp, binC, idxC, arithC, cmpC, asP, asS, asB, asI, asN, lenA, loadA, St.ev, St.step, setS, killS, AV.kill, AV.killL, Mem.kill, AV.cells, AV.flat, AV.single, ACond_true, ACond_false, List.getD_cons_succ, List.getD_cons_zero, List.set_cons_succ, List.set_cons_zero, List.getElem?_cons_zero, List.contains_nil, List.isEmpty_nil, Option.getD_some, Bool.false_eq_true, if_false, if_true, true_and, and_true, List.all_cons, List.all_nil, Bool.and_true, Bool.true_and, Bool.not_true, Option.isSome_some, Nat.reduceAdd, Int.reduceAdd, ti22, ti110, decide_eq_true h', aget_rowsA h, Int.toNat_natCast, prsA_len, decide_eq_false h0]
    refine ⟨by omega, by unfold lim; omega, by unfold lim; omega, i + 1, ?_, by omega, by omega⟩
    rw [flat_take h, List.length_append]
    exact le_sl (by simp [leSl])
  · have h' : ¬ (i : Int) < (lss.length : Int) := by omega
    obtain rfl : i = lss.length := by omega
    simp only [w_move, w_callF, w_aop, w_cons, awp, St.ev, St.step, setS, killS, AV.kill, AV.killL, Mem.kill, ACond_false, List.getD_cons_succ, List.getD_cons_zero, List.set_cons_succ, List.set_cons_zero, List.contains_nil, List.isEmpty_nil, if_true, List.map_cons, List.map_nil, Nat.reduceAdd, Int.reduceAdd, decide_eq_false h', List.take_length]
    refine acall_o (x := .o 0) (s95 lss.flatten.length hf) rfl rfl ?_
    simp only [w_move, w_assign, w_len, w_aop, w_some, w_asome, w_anone, w_nil, w_cons, awp, asN, lenA, St.ev, St.step, setS, killS, AV.kill, AV.killL, Mem.kill, ACond_false, List.getD_cons_succ, List.getD_cons_zero, List.set_cons_succ, List.set_cons_zero, List.length_nil, List.nil_append, List.contains_nil, List.isEmpty_nil, Option.getD_some, Bool.false_eq_true, if_false, if_true, true_and, Bool.true_and, Option.isSome_some, Nat.add_zero, Nat.reduceAdd, Int.reduceAdd, ti110, AV.up, AV.sub, rowsA_len]
    refine swp_loop' (fun i : Nat => ⟨[.bot, .bot, .bot, .bot, .bot, .bot, .o 0, .bot, .bot, .bot, .bot, .bot, .bot, .bot, .bot, .bot, .bot, .bot, .bot, .bot, .bot, .bot, .bot, .bot, .bot, .s 1 (rowsA lss), I lss.length, I i, .bot, .bot, .bot, .bot, .bot, .bot, .bot, .bot], [some ⟨none, 57, 2, prsA (lss.take i).flatten⟩]⟩) (fun i => i ≤ lss.length) (fun i => lss.length - i) 0 (le_sl (by simp [leSl])) (Nat.zero_le _) ?_
    intro i hi
    refine awp_sound (own := []) _ _ _ _ _ ?_
    simp only [w_binOp, w_aop, w_some, w_asome, w_nil, w_cons, awp, binC, cmpC, asB, asI, St.ev, St.step, setS, killS, AV.kill, AV.killL, Mem.kill, ACond_false, List.getD_cons_succ, List.getD_cons_zero, List.set_cons_succ, List.set_cons_zero, List.contains_nil, List.isEmpty_nil, Bool.false_eq_true, if_false, if_true, true_and, Bool.true_and, Nat.reduceAdd, Int.reduceAdd]
    by_cases h : i < lss.length
    · have h' : (i : Int) < (lss.length : Int) := by omega
      have h1 := flat_le lss (i + 1)
      rw [flat_take h, List.length_append] at h1
      simp only [w_move, w_assign, w_load, w_indexAddr, w_binOp, w_append, w_aop, w_some, w_asome, w_anone, w_nil, w_cons, awp, binC, idxC, arithC, cmpC, asP, asO, asS, asI, asN, obA, loadA, St.ev, St.step, setS, killS, AV.kill, AV.killL, Mem.kill, AV.cells, AV.flat, AV.single, ACond_true, ACond_false, List.getD_cons_succ, List.getD_cons_zero, List.set_cons_succ, List.set_cons_zero, List.getElem?_cons_zero, List.contains_nil, List.contains_cons, List.isEmpty_nil, List.isEmpty_cons, Option.getD_some, Bool.false_eq_true, if_false, if_true, true_and, and_true, List.all_cons, List.all_nil, Bool.and_true, Bool.true_and, Bool.not_true, beq_self_eq_true, List.map_cons, List.map_nil, Bool.or_false, Nat.reduceAdd, Nat.reduceLeDiff, Int.reduceAdd, Option.map_some, ti22, ti57, ti110, decide_eq_true h', aget_rowsA h, Int.toNat_natCast, prsA_len, prsA_kill]
      refine ⟨by omega, ⟨by decide, by omega⟩, by unfold lim; omega, i + 1, ?_, by omega, by omega⟩
      have e : prsA (lss.take i).flatten ++ prsA lss[i] = prsA (lss.take (i + 1)).flatten := by rw [flat_take h]; simp [prsA]
      rw [e]
      exact le_sl (by simp [leSl])
    · have h' : ¬ (i : Int) < (lss.length : Int) := by omega
      obtain rfl : i = lss.length := by omega
      simp only [w_move, w_assign, w_aop, w_anone, w_nil, w_cons, awp, asN, St.ev, St.step, setS, killS, AV.kill, AV.killL, Mem.kill, ACond_false, List.getD_cons_succ, List.getD_cons_zero, List.set_cons_succ, List.set_cons_zero, List.contains_nil, List.isEmpty_nil, Option.getD_some, Bool.false_eq_true, if_false, if_true, Nat.reduceAdd, Int.reduceAdd, decide_eq_false h', List.take_length]
      exact aend_exp 0 rfl rfl (prsA_pure _) ⟨rfl, rfl⟩

/-- the error of a link's number. -/
def wiE (n : Int) (ls : List (Int × Int)) (k : Int) : Int := if vT n ls ≠ 0 then vT n ls else if k < 0 ∨ ls.length ≤ k then 4 else 0

theorem ok36 : okFn Try.prog 36 = true := by kernel_rfl
theorem s36e (n : Int) (ls : List (Int × Int)) (k : Int) (hls : ls.length ≤ 1000000) (he : wiE n ls k ≠ 0) : ASpec Try.prog 36 [trapA n ls, I k] (fun r Ms => r = .t [.g [I 0, .v (.slice none 0 0)], I (wiE n ls k)] ∧ Ms = []) := by
  refine aspec_of (own := []) Try.func36 rfl ok36 ?_
  simp only [w_assign, w_box, w_alloc, w_load, w_callF, w_aop, w_some, w_asome, w_anone, w_nil, w_cons, awp, asP, asN, loadA, mkA, Aw.newRow, St.ev, St.step, setS, killS, AV.kill, AV.killL, Mem.kill, AV.cells, AV.flat, AV.single, AV.cellular, AV.pure, AV.pureL, ACond_false, List.getD_cons_succ, List.getD_cons_zero, List.set_cons_succ, List.set_cons_zero, List.getElem?_cons_zero, List.length_cons, List.length_nil, List.replicate_succ, List.replicate_zero, List.cons_append, List.nil_append, List.contains_nil, List.isEmpty_nil, Option.getD_some, Bool.false_eq_true, if_false, if_true, true_and, and_true, List.all_cons, List.all_nil, Bool.and_true, Bool.true_and, Bool.not_true, Nat.zero_add, Nat.add_zero, beq_self_eq_true, List.map_cons, List.map_nil, decide_true, nbeq, decide_false, Bool.or_false, Nat.reduceAdd, Nat.reduceEqDiff, Nat.reduceSub, Nat.reduceLeDiff, Int.reduceAdd, Int.reduceSub, ti24, Try.ntmps36, trapA]
  refine acall_v (s23 n ls hls) rfl rfl ?_
  by_cases h : ¬ vT n ls = 0
  · simp only [w_move, w_assign, w_store, w_binOp, w_build, w_aop, w_some, w_asome, w_anone, w_nil, w_cons, awp, binC, cmpC, asQ, asB, asI, asN, obA, AGet_zero, storeA, fillA, putsA, St.ev, St.step, setS, killS, AV.kill, AV.killL, Mem.kill, AV.cells, AV.flat, AV.single, AV.cellular, ACond_true, ACond_false, List.getD_cons_succ, List.getD_cons_zero, List.set_cons_succ, List.set_cons_zero, List.getElem?_cons_zero, List.length_cons, List.length_nil, List.contains_nil, List.isEmpty_nil, Option.getD_some, Bool.false_eq_true, if_false, if_true, true_and, and_true, List.all_cons, List.all_nil, Bool.and_true, Bool.true_and, Bool.not_false, Nat.zero_add, beq_self_eq_true, List.map_cons, List.map_nil, decide_true, Nat.reduceAdd, Nat.reduceLeDiff, Int.reduceAdd, ti24, decide_eq_true h, decide_eq_false h]
    have e : wiE n ls k = vT n ls := by rw [wiE, if_pos h]
    refine aend_frz (x := .t [.g [I 0, .v (.slice none 0 0)], I (vT n ls)]) ?_ ⟨by rw [e]; simp [frz, AV.sub, AV.subL], rfl⟩
    show resA Try.prog [.cell 4 24, .tmp 5] _ = _
    simp [resA, resL, resOne, ti24, loadA, AV.flat, AV.cells, AV.single]
  have hv : vT n ls = 0 := Decidable.not_not.1 h
  have e : wiE n ls k = 4 := by
    unfold wiE at he ⊢
    rw [if_neg h] at he ⊢
    split at he
    · rw [if_pos (by assumption)]
    · exact absurd rfl he
  have hk : k < 0 ∨ ls.length ≤ k := by
    unfold wiE at e
    rw [if_neg h] at e
    split at e
    · assumption
    · cases e
  simp only [w_move, w_assign, w_binOp, w_aop, w_aopg, w_gdb, w_some, w_asome, w_anone, w_nil, w_cons, awp, binC, cmpC, asB, asI, asN, St.ev, St.step, setS, killS, AV.kill, AV.killL, Mem.kill, ACond_false, List.getD_cons_succ, List.getD_cons_zero, List.set_cons_succ, List.set_cons_zero, List.getElem?_cons_succ, List.getElem?_cons_zero, List.contains_nil, List.isEmpty_nil, Option.getD_some, Bool.false_eq_true, if_false, if_true, true_and, Bool.true_and, Bool.not_true, Nat.reduceAdd, Int.reduceAdd, Option.bind_some, w_bf, decide_eq_true hv]
  by_cases h1 : k < 0
  · simp only [w_assign, w_pick, w_store, w_build, w_aop, w_aopg, w_gdb, w_some, w_anone, w_nil, w_cons, awp, asQ, asB, asN, obA, AGet_zero, storeA, fillA, putsA, St.ev, St.step, setS, killS, AV.kill, AV.killL, Mem.kill, AV.cells, AV.flat, AV.single, AV.cellular, ACond_true, ACond_false, List.getD_cons_succ, List.getD_cons_zero, List.set_cons_succ, List.set_cons_zero, List.getElem?_cons_succ, List.getElem?_cons_zero, List.length_cons, List.length_nil, List.contains_nil, List.isEmpty_nil, Option.getD_some, Bool.false_eq_true, if_false, if_true, true_and, and_true, List.all_cons, List.all_nil, Bool.and_true, Bool.true_and, Bool.not_true, Nat.zero_add, beq_self_eq_true, List.map_cons, List.map_nil, decide_true, Nat.reduceAdd, Nat.reduceLeDiff, Int.reduceAdd, Option.bind_some, w_bf, ti24, decide_eq_true h1]
    refine aend_frz (x := .t [.g [I 0, .v (.slice none 0 0)], I 4]) ?_ ⟨by rw [e]; simp [frz, AV.sub, AV.subL], rfl⟩
    show resA Try.prog [.cell 4 24, .tmp 5] _ = _
    simp [resA, resL, resOne, ti24, loadA, AV.flat, AV.cells, AV.single]
  · have h2 : (ls.length : Int) ≤ k := by omega
    simp only [w_move, w_assign, w_pick, w_load, w_store, w_fieldAddr, w_binOp, w_build, w_len, w_aop, w_aopg, w_gdb, w_some, w_asome, w_anone, w_nil, w_cons, awp, binC, cmpC, asP, asQ, asB, asI, asN, obA, AGet_zero, lenA, loadA, storeA, fillA, putsA, St.ev, St.step, setS, killS, AV.kill, AV.killL, Mem.kill, AV.cells, AV.flat, AV.single, AV.cellular, ACond_true, ACond_false, List.getD_cons_succ, List.getD_cons_zero, List.set_cons_succ, List.set_cons_zero, List.getElem?_cons_succ, List.getElem?_cons_zero, List.length_cons, List.length_nil, List.contains_nil, List.isEmpty_nil, Option.getD_some, Bool.false_eq_true, if_false, if_true, true_and, and_true, List.all_cons, List.all_nil, Bool.and_true, Bool.true_and, Bool.not_true, Bool.not_false, Option.isSome_some, Nat.zero_add, beq_self_eq_true, List.map_cons, List.map_nil, decide_true, nbeq, decide_false, Bool.and_false, Nat.reduceAdd, Nat.reduceEqDiff, Nat.reduceLeDiff, Int.reduceAdd, Option.bind_some, ne_eq, not_false_eq_true, ti22, ti24, decide_eq_false h1, prsA_len, decide_eq_true h2]
    refine aend_frz (x := .t [.g [I 0, .v (.slice none 0 0)], I 4]) ?_ ⟨by rw [e]; simp [frz, AV.sub, AV.subL], rfl⟩
    show resA Try.prog [.cell 4 24, .tmp 5] _ = _
    simp [resA, resL, resOne, ti24, loadA, AV.flat, AV.cells, AV.single]

theorem wiE_ok {n : Int} {ls : List (Int × Int)} {k : Int} (he : wiE n ls k = 0) : vT n ls = 0 ∧ 0 ≤ k ∧ k < ls.length := by
  unfold wiE at he
  split at he
  · rename_i h; exact absurd he h
  · rename_i h
    split at he
    · cases he
    · exact ⟨Decidable.not_not.1 h, by omega, by omega⟩

theorem s36 (n : Int) (ls : List (Int × Int)) (k : Int) (hls : ls.length ≤ 1000000) (he : wiE n ls k = 0) : ASpec Try.prog 36 [trapA n ls, I k] (fun r Ms => r = .t [.g [I n, .o 0], I 0] ∧ Ms = [⟨none, 57, 2, prsA (ls.eraseIdx k.toNat)⟩]) := by
  obtain ⟨hv, h1, h2⟩ := wiE_ok he
  refine aspec_of (own := []) Try.func36 rfl ok36 ?_
  simp only [w_assign, w_box, w_alloc, w_load, w_callF, w_aop, w_some, w_asome, w_anone, w_nil, w_cons, awp, asP, asN, loadA, mkA, Aw.newRow, St.ev, St.step, setS, killS, AV.kill, AV.killL, Mem.kill, AV.cells, AV.flat, AV.single, AV.cellular, AV.pure, AV.pureL, ACond_false, List.getD_cons_succ, List.getD_cons_zero, List.set_cons_succ, List.set_cons_zero, List.getElem?_cons_zero, List.length_cons, List.length_nil, List.replicate_succ, List.replicate_zero, List.cons_append, List.nil_append, List.contains_nil, List.isEmpty_nil, Option.getD_some, Bool.false_eq_true, if_false, if_true, true_and, and_true, List.all_cons, List.all_nil, Bool.and_true, Bool.true_and, Bool.not_true, Nat.zero_add, Nat.add_zero, beq_self_eq_true, List.map_cons, List.map_nil, decide_true, nbeq, decide_false, Bool.or_false, Nat.reduceAdd, Nat.reduceEqDiff, Nat.reduceSub, Nat.reduceLeDiff, Int.reduceAdd, Int.reduceSub, ti24, Try.ntmps36, trapA]
  refine acall_v (s23 n ls hls) rfl rfl ?_
  have n1 : ¬ k < 0 := by omega
  have n2 : ¬ (ls.length : Int) ≤ k := by omega
  simp only [w_move, w_assign, w_pick, w_load, w_fieldAddr, w_binOp, w_len, w_aop, w_aopg, w_gdb, w_some, w_asome, w_anone, w_nil, w_cons, awp, binC, cmpC, asP, asB, asI, asN, lenA, loadA, St.ev, St.step, setS, killS, AV.kill, AV.killL, Mem.kill, AV.cells, AV.flat, AV.single, ACond_true, ACond_false, List.getD_cons_succ, List.getD_cons_zero, List.set_cons_succ, List.set_cons_zero, List.getElem?_cons_succ, List.getElem?_cons_zero, List.length_cons, List.length_nil, List.contains_nil, List.isEmpty_nil, Option.getD_some, Bool.false_eq_true, if_false, if_true, true_and, and_true, List.all_cons, List.all_nil, Bool.and_true, Bool.true_and, Bool.not_true, Option.isSome_some, Nat.zero_add, beq_self_eq_true, decide_true, nbeq, decide_false, Bool.and_false, Nat.reduceAdd, Nat.reduceEqDiff, Nat.reduceLeDiff, Int.reduceAdd, Option.bind_some, ne_eq, not_false_eq_true, ti22, ti24, decide_eq_true hv, prsA_len, decide_eq_false n1, decide_eq_false n2]
  refine swp_draw (own := []) (.take 0 .plain [] (.take 1 .reads [] (.take 2 .plain [] (.take 3 .reads [] (.take 4 .plain [] (.take 5 .plain [] (.take 6 .plain [] (.take 7 .reads [] (.take 8 .plain [] (.take 9 .plain [] (.take 10 .plain [] (.take 11 .plain [] (.alt 12 (.take 13 .plain [] (.alt 14 (.take 15 .plain [] (.done)) (.nil))) (.nil)))))))))))))) [⟨24, 4, 0, 0, true⟩, ⟨25, 8388608, 1, 0, true⟩, ⟨26, 4, 0, 0, true⟩, ⟨27, 33554432, 4, 0, true⟩, ⟨28, 2, 0, 0, true⟩, ⟨29, 201326592, 24, 0, true⟩, ⟨30, 4, 0, 0, true⟩, ⟨31, 536870912, 64, 0, true⟩, ⟨32, 2, 0, 0, true⟩, ⟨33, 2147483648, 256, 0, true⟩, ⟨34, 5368709120, 640, 0, true⟩, ⟨35, 8858370048, 1056, 0, true⟩, ⟨36, 17179869184, 2048, 0, false⟩, ⟨37, 34376515584, 4098, 0, true⟩, ⟨0, 68719476752, 16383, 1, false⟩, ⟨6, 0, 32767, 0, true⟩] mo (by kernel_rfl) ?_
  simp only [w_move, w_load, w_fieldAddr, w_binOp, w_buildSlice, w_slice, w_callF, w_aop, w_take, w_some, w_asome, w_anone, binC, arithC, cmpC, asP, asS, asI, bndA, loadA, St.ev, setS, AV.cells, AV.flat, AV.single, AV.cellular, AV.size, AV.pure, AV.pureL, ACond_false, Value.oneCell', List.getD_cons_succ, List.getD_cons_zero, List.set_cons_succ, List.set_cons_zero, List.getElem?_cons_succ, List.getElem?_cons_zero, List.length_cons, List.length_nil, List.contains_nil, Option.getD_some, Option.getD_none, Bool.false_eq_true, if_false, if_true, true_and, and_true, List.all_cons, List.all_nil, Bool.and_true, Bool.true_and, Bool.not_true, Nat.zero_add, Nat.add_zero, beq_self_eq_true, List.map_cons, List.map_nil, decide_true, nbeq, decide_false, Bool.and_false, Nat.reduceAdd, Nat.reduceEqDiff, Nat.reduceMul, Nat.reduceLeDiff, Int.reduceAdd, Int.reduceMul, Int.reduceLE, Int.toNat_zero, ASch, St.put, Md.mem, Md.need, ne_eq, not_false_eq_true, ti3, ti22, ti24, ti57, ti110, prsA_len, prsA_take, prsA_drop]
  have e : [AV.s 2 (prsA ((ls.take k.toNat).drop 0)), AV.s 2 (prsA ((ls.take ((ls.length : Int)).toNat).drop (k + 1).toNat))] = rowsA [ls.take k.toNat, ls.drop (k.toNat + 1)] := by
    rw [Int.toNat_natCast, List.take_length, show (k + 1).toNat = k.toNat + 1 by omega]
    simp [rowsA]
  rw [e]
  have sc := s75 [ls.take k.toNat, ls.drop (k.toNat + 1)] (by simp) (by simp; omega)
  rw [show [ls.take k.toNat, ls.drop (k.toNat + 1)].flatten = ls.eraseIdx k.toNat by rw [List.eraseIdx_eq_take_drop_succ]; simp] at sc
  refine ⟨by omega, by unfold lim; omega, by omega, ⟨by decide, rfl⟩, ?_⟩
  refine acall_o (x := .o 0) sc (by simp [AV.pureL, AV.pure]) (prsA_pure _) ?_
  simp only [w_assign, w_store, w_build, w_aop, w_take, w_some, w_anone, awp, asQ, asN, obA, AGet_zero, storeA, fillA, putsA, St.ev, St.step, setS, killS, AV.kill, AV.killL, Mem.kill, AV.cells, AV.flat, AV.single, AV.cellular, Value.oneCell', List.getD_cons_succ, List.getD_cons_zero, List.set_cons_succ, List.set_cons_zero, List.getElem?_cons_succ, List.getElem?_cons_zero, List.length_cons, List.length_nil, List.cons_append, List.nil_append, List.contains_nil, List.isEmpty_nil, Option.getD_some, Bool.false_eq_true, if_false, if_true, true_and, and_true, List.all_cons, List.all_nil, Bool.and_true, Bool.true_and, Nat.zero_add, beq_self_eq_true, List.map_cons, List.map_nil, decide_true, Nat.reduceAdd, Nat.reduceLeDiff, Int.reduceAdd, ASch, St.put, Md.mem, Md.need, ti24, AV.up, AV.sub]
  refine aend_exp (x := .t [.g [I n, .o 1], I 0]) 1 ?_ rfl (prsA_pure _) ⟨?_, rfl⟩
  · show resA Try.prog [.cell 4 24, .tmp 5] _ = _
    simp [resA, resL, resOne, ti24, loadA, AV.flat, AV.cells, AV.single]
  · simp [exp1, AV.sub, AV.subL]

/-! the document's -/
theorem era_step {α : Type} {l : List α} {i k : Nat} (hi : i < l.length) (hne : i ≠ k) : (l.take (i + 1)).eraseIdx k = (l.take i).eraseIdx k ++ [l[i]] := by
  rw [List.take_succ_eq_append_getElem hi]
  rcases Nat.lt_or_ge k i with h | h
  · rw [List.eraseIdx_append_of_lt_length (by simp; omega)]
  · rw [List.eraseIdx_append_of_length_le (by simp; omega), List.eraseIdx_of_length_le (l := l.take i) (by simp; omega), List.eraseIdx_of_length_le (l := [l[i]]) (by simp; omega)]
theorem era_skip {α : Type} {l : List α} {k : Nat} (hi : k < l.length) : (l.take (k + 1)).eraseIdx k = (l.take k).eraseIdx k := by
  rw [List.take_succ_eq_append_getElem hi, List.eraseIdx_append_of_length_le (by simp; omega), List.eraseIdx_of_length_le (l := l.take k) (by simp; omega)]
  have : k - (l.take k).length = 0 := by simp; omega
  rw [this]
  simp

theorem ok37 : okFn Try.prog 37 = true := by kernel_rfl
theorem s37e (n : Int) (ls : List (Int × Int)) (k : Int) (hls : ls.length ≤ 1000000) (he : wiE n ls k ≠ 0) : ASpec Try.prog 37 [trapA n ls, I k] (fun r Ms => r = .t [.g [I 0, .v (.slice none 0 0)], I (wiE n ls k)] ∧ Ms = []) := by
  refine aspec_of (own := []) Try.func37 rfl ok37 ?_
  simp only [w_assign, w_box, w_alloc, w_load, w_callF, w_aop, w_some, w_asome, w_anone, w_nil, w_cons, awp, asP, asN, loadA, mkA, Aw.newRow, St.ev, St.step, setS, killS, AV.kill, AV.killL, Mem.kill, AV.cells, AV.flat, AV.single, AV.cellular, AV.pure, AV.pureL, ACond_false, List.getD_cons_succ, List.getD_cons_zero, List.set_cons_succ, List.set_cons_zero, List.getElem?_cons_zero, List.length_cons, List.length_nil, List.replicate_succ, List.replicate_zero, List.cons_append, List.nil_append, List.contains_nil, List.isEmpty_nil, Option.getD_some, Bool.false_eq_true, if_false, if_true, true_and, and_true, List.all_cons, List.all_nil, Bool.and_true, Bool.true_and, Bool.not_true, Nat.zero_add, Nat.add_zero, beq_self_eq_true, List.map_cons, List.map_nil, decide_true, nbeq, decide_false, Bool.or_false, Nat.reduceAdd, Nat.reduceEqDiff, Nat.reduceSub, Nat.reduceLeDiff, Int.reduceAdd, Int.reduceSub, ti24, Try.ntmps37, trapA]
  refine acall_v (s24 n ls hls) rfl rfl ?_
  by_cases h : ¬ vT n ls = 0
  · simp only [w_move, w_assign, w_store, w_binOp, w_build, w_aop, w_some, w_asome, w_anone, w_nil, w_cons, awp, binC, cmpC, asQ, asB, asI, asN, obA, AGet_zero, storeA, fillA, putsA, St.ev, St.step, setS, killS, AV.kill, AV.killL, Mem.kill, AV.cells, AV.flat, AV.single, AV.cellular, ACond_true, ACond_false, List.getD_cons_succ, List.getD_cons_zero, List.set_cons_succ, List.set_cons_zero, List.getElem?_cons_zero, List.length_cons, List.length_nil, List.contains_nil, List.isEmpty_nil, Option.getD_some, Bool.false_eq_true, if_false, if_true, true_and, and_true, List.all_cons, List.all_nil, Bool.and_true, Bool.true_and, Bool.not_false, Nat.zero_add, beq_self_eq_true, List.map_cons, List.map_nil, decide_true, Nat.reduceAdd, Nat.reduceLeDiff, Int.reduceAdd, ti24, decide_eq_true h, decide_eq_false h]
    have e : wiE n ls k = vT n ls := by rw [wiE, if_pos h]
    refine aend_frz (x := .t [.g [I 0, .v (.slice none 0 0)], I (vT n ls)]) ?_ ⟨by rw [e]; simp [frz, AV.sub, AV.subL], rfl⟩
    show resA Try.prog [.cell 4 24, .tmp 5] _ = _
    simp [resA, resL, resOne, ti24, loadA, AV.flat, AV.cells, AV.single]
  have hv : vT n ls = 0 := Decidable.not_not.1 h
  have e : wiE n ls k = 4 := by
    unfold wiE at he ⊢
    rw [if_neg h] at he ⊢
    split at he
    · rw [if_pos (by assumption)]
    · exact absurd rfl he
  have hk : k < 0 ∨ ls.length ≤ k := by
    unfold wiE at e
    rw [if_neg h] at e
    split at e
    · assumption
    · cases e
  simp only [w_move, w_assign, w_binOp, w_aop, w_aopg, w_gdb, w_some, w_asome, w_anone, w_nil, w_cons, awp, binC, cmpC, asB, asI, asN, St.ev, St.step, setS, killS, AV.kill, AV.killL, Mem.kill, ACond_false, List.getD_cons_succ, List.getD_cons_zero, List.set_cons_succ, List.set_cons_zero, List.getElem?_cons_succ, List.getElem?_cons_zero, List.contains_nil, List.isEmpty_nil, Option.getD_some, Bool.false_eq_true, if_false, if_true, true_and, Bool.true_and, Bool.not_true, Nat.reduceAdd, Int.reduceAdd, Option.bind_some, w_bf, decide_eq_true hv]
  by_cases h1 : k < 0
  · simp only [w_assign, w_pick, w_store, w_build, w_aop, w_aopg, w_gdb, w_some, w_anone, w_nil, w_cons, awp, asQ, asB, asN, obA, AGet_zero, storeA, fillA, putsA, St.ev, St.step, setS, killS, AV.kill, AV.killL, Mem.kill, AV.cells, AV.flat, AV.single, AV.cellular, ACond_true, ACond_false, List.getD_cons_succ, List.getD_cons_zero, List.set_cons_succ, List.set_cons_zero, List.getElem?_cons_succ, List.getElem?_cons_zero, List.length_cons, List.length_nil, List.contains_nil, List.isEmpty_nil, Option.getD_some, Bool.false_eq_true, if_false, if_true, true_and, and_true, List.all_cons, List.all_nil, Bool.and_true, Bool.true_and, Bool.not_true, Nat.zero_add, beq_self_eq_true, List.map_cons, List.map_nil, decide_true, Nat.reduceAdd, Nat.reduceLeDiff, Int.reduceAdd, Option.bind_some, w_bf, ti24, decide_eq_true h1]
    refine aend_frz (x := .t [.g [I 0, .v (.slice none 0 0)], I 4]) ?_ ⟨by rw [e]; simp [frz, AV.sub, AV.subL], rfl⟩
    show resA Try.prog [.cell 4 24, .tmp 5] _ = _
    simp [resA, resL, resOne, ti24, loadA, AV.flat, AV.cells, AV.single]
  · have h2 : (ls.length : Int) ≤ k := by omega
    simp only [w_move, w_assign, w_pick, w_load, w_store, w_fieldAddr, w_binOp, w_build, w_len, w_aop, w_aopg, w_gdb, w_some, w_asome, w_anone, w_nil, w_cons, awp, binC, cmpC, asP, asQ, asB, asI, asN, obA, AGet_zero, lenA, loadA, storeA, fillA, putsA, St.ev, St.step, setS, killS, AV.kill, AV.killL, Mem.kill, AV.cells, AV.flat, AV.single, AV.cellular, ACond_true, ACond_false, List.getD_cons_succ, List.getD_cons_zero, List.set_cons_succ, List.set_cons_zero, List.getElem?_cons_succ, List.getElem?_cons_zero, List.length_cons, List.length_nil, List.contains_nil, List.isEmpty_nil, Option.getD_some, Bool.false_eq_true, if_false, if_true, true_and, and_true, List.all_cons, List.all_nil, Bool.and_true, Bool.true_and, Bool.not_true, Bool.not_false, Option.isSome_some, Nat.zero_add, beq_self_eq_true, List.map_cons, List.map_nil, decide_true, nbeq, decide_false, Bool.and_false, Nat.reduceAdd, Nat.reduceEqDiff, Nat.reduceLeDiff, Int.reduceAdd, Option.bind_some, ne_eq, not_false_eq_true, ti22, ti24, decide_eq_false h1, prsA_len, decide_eq_true h2]
    refine aend_frz (x := .t [.g [I 0, .v (.slice none 0 0)], I 4]) ?_ ⟨by rw [e]; simp [frz, AV.sub, AV.subL], rfl⟩
    show resA Try.prog [.cell 4 24, .tmp 5] _ = _
    simp [resA, resL, resOne, ti24, loadA, AV.flat, AV.cells, AV.single]

theorem s37 (n : Int) (ls : List (Int × Int)) (k : Int) (hls : ls.length ≤ 1000000) (he : wiE n ls k = 0) : ASpec Try.prog 37 [trapA n ls, I k] (fun r Ms => r = .t [trapA n (ls.eraseIdx k.toNat), I 0] ∧ Ms = []) := by
  obtain ⟨hv, h1, h2⟩ := wiE_ok he
  refine aspec_of (own := []) Try.func37 rfl ok37 ?_
  simp only [w_assign, w_box, w_alloc, w_load, w_callF, w_aop, w_some, w_asome, w_anone, w_nil, w_cons, awp, asP, asN, loadA, mkA, Aw.newRow, St.ev, St.step, setS, killS, AV.kill, AV.killL, Mem.kill, AV.cells, AV.flat, AV.single, AV.cellular, AV.pure, AV.pureL, ACond_false, List.getD_cons_succ, List.getD_cons_zero, List.set_cons_succ, List.set_cons_zero, List.getElem?_cons_zero, List.length_cons, List.length_nil, List.replicate_succ, List.replicate_zero, List.cons_append, List.nil_append, List.contains_nil, List.isEmpty_nil, Option.getD_some, Bool.false_eq_true, if_false, if_true, true_and, and_true, List.all_cons, List.all_nil, Bool.and_true, Bool.true_and, Bool.not_true, Nat.zero_add, Nat.add_zero, beq_self_eq_true, List.map_cons, List.map_nil, decide_true, nbeq, decide_false, Bool.or_false, Nat.reduceAdd, Nat.reduceEqDiff, Nat.reduceSub, Nat.reduceLeDiff, Int.reduceAdd, Int.reduceSub, ti24, Try.ntmps37, trapA]
  refine acall_v (s24 n ls hls) rfl rfl ?_
  have n1 : ¬ k < 0 := by omega
  have n2 : ¬ (ls.length : Int) ≤ k := by omega
  simp only [w_move, w_assign, w_pick, w_alloc, w_load, w_store, w_fieldAddr, w_binOp, w_build, w_len, w_aop, w_aopg, w_gdb, w_some, w_asome, w_anone, w_nil, w_cons, awp, binC, cmpC, asP, asQ, asB, asI, asN, obA, AGet_zero, lenA, loadA, storeA, fillA, putsA, mkA, Aw.newRow, St.ev, St.step, setS, killS, AV.kill, AV.killL, Mem.kill, AV.cells, AV.flat, AV.single, AV.cellular, ACond_true, ACond_false, Value.oneCell', List.getD_cons_succ, List.getD_cons_zero, List.set_cons_succ, List.set_cons_zero, List.getElem?_cons_succ, List.getElem?_cons_zero, List.length_cons, List.length_nil, List.cons_append, List.nil_append, List.contains_nil, List.isEmpty_nil, Option.getD_some, Bool.false_eq_true, if_false, if_true, true_and, and_true, List.all_cons, List.all_nil, Bool.and_true, Bool.true_and, Bool.not_true, Option.isSome_some, Nat.zero_add, Nat.add_zero, beq_self_eq_true, List.map_cons, List.map_nil, decide_true, nbeq, decide_false, Bool.or_false, Bool.and_false, Nat.reduceAdd, Nat.reduceEqDiff, Nat.reduceLeDiff, Int.reduceAdd, Option.bind_some, ne_eq, not_false_eq_true, ti3, ti22, ti24, decide_eq_true hv, prsA_len, decide_eq_false n1, decide_eq_false n2]
  refine swp_loop' (fun i : Nat => ⟨[.bot, I k, .p (.g [I n, .s 2 (prsA ls)]) 0, .bot, .q 0 2 0 0, .bot, .bot, .q 1 2 0 0, I i, .bot, .bot, .bot, .bot, .bot, .bot, .bot, .bot, .bot, .bot, .bot, .bot, .bot, .bot, .bot, .bot, .bot, .bot, .bot, .bot, .bot, .bot, .bot, .bot, .bot, .bot, .bot, .bot, .bot, .bot, .bot, .bot, .bot, .bot, .bot, .bot, .bot, .bot, .bot, .bot], [some ⟨none, 24, 2, [.g [I 0, .v (.slice none 0 0)]]⟩, some ⟨none, 24, 2, [.g [I n, .o 2]]⟩, some ⟨none, 57, 2, prsA ((ls.take i).eraseIdx k.toNat)⟩]⟩) (fun i => i ≤ ls.length) (fun i => ls.length - i) 0 ?_ (Nat.zero_le _) ?_
  · exact Le.trans (le_nil 1 0 1 57 2 rfl rfl rfl rfl) (le_sl (by simp [leSl]))
  intro i hi
  refine awp_sound (own := []) _ _ _ _ _ ?_
  simp only [w_move, w_load, w_fieldAddr, w_binOp, w_len, w_aop, w_some, w_asome, w_nil, w_cons, awp, binC, cmpC, asP, asB, asI, lenA, loadA, St.ev, St.step, setS, killS, AV.kill, AV.killL, Mem.kill, AV.cells, AV.flat, AV.single, ACond_false, List.getD_cons_succ, List.getD_cons_zero, List.set_cons_succ, List.set_cons_zero, List.getElem?_cons_succ, List.getElem?_cons_zero, List.length_cons, List.length_nil, List.contains_nil, List.isEmpty_nil, Bool.false_eq_true, if_false, if_true, true_and, and_true, List.all_cons, List.all_nil, Bool.and_true, Bool.true_and, Bool.not_true, Option.isSome_some, Nat.zero_add, decide_true, nbeq, decide_false, Bool.and_false, Nat.reduceAdd, Nat.reduceEqDiff, Nat.reduceLeDiff, Int.reduceAdd, ne_eq, not_false_eq_true, ti22, ti24, prsA_len]
  by_cases h : i < ls.length
  · have h' : (i : Int) < (ls.length : Int) := by omega
    simp only [w_move, w_binOp, w_aop, w_some, w_asome, w_nil, w_cons, awp, binC, cmpC, asB, asI, St.ev, St.step, setS, killS, AV.kill, AV.killL, Mem.kill, ACond_true, ACond_false, List.getD_cons_succ, List.getD_cons_zero, List.set_cons_succ, List.set_cons_zero, List.contains_nil, List.isEmpty_nil, Bool.false_eq_true, if_false, if_true, true_and, Bool.true_and, Nat.reduceAdd, Int.reduceAdd, decide_eq_true h']
    by_cases hik : (i : Int) = k
    · simp only [w_move, w_assign, w_binOp, w_aop, w_some, w_asome, w_anone, w_nil, w_cons, awp, binC, arithC, cmpC, asI, asN, St.ev, St.step, setS, killS, AV.kill, AV.killL, Mem.kill, ACond_false, List.getD_cons_succ, List.getD_cons_zero, List.set_cons_succ, List.set_cons_zero, List.contains_nil, List.isEmpty_nil, Option.getD_some, Bool.false_eq_true, if_false, if_true, true_and, and_true, Bool.and_true, Bool.true_and, Bool.not_true, Nat.reduceAdd, Int.reduceAdd, decide_eq_true hik]
      have hk : k.toNat = i := by omega
      refine ⟨by unfold lim; omega, i + 1, ?_, by omega, by omega⟩
      rw [hk, era_skip h]
      exact le_sl (by simp [leSl])
    · simp only [awp, ACond_true, Bool.not_false, decide_eq_false hik]
      have hne : i ≠ k.toNat := by omega
      have hlen : ((ls.take i).eraseIdx k.toNat).length ≤ i := by
        have := List.length_eraseIdx_le (ls.take i) k.toNat
        simp at this ⊢; omega
      refine swp_draw (own := []) (.take 0 .plain [] (.take 1 .reads [] (.take 2 .plain [] (.take 3 .reads [] (.take 4 .plain [] (.take 5 .reads [] (.take 6 .reads [] (.take 7 .plain [] (.alt 8 (.take 9 .plain [] (.alt 10 (.done) (.nil))) (.nil)))))))))) [⟨39, 128, 0, 0, true⟩, ⟨40, 274877906944, 1, 0, true⟩, ⟨41, 4, 0, 0, true⟩, ⟨42, 1099511627776, 4, 0, true⟩, ⟨43, 256, 0, 0, true⟩, ⟨44, 6597069766656, 24, 0, true⟩, ⟨45, 8796093022208, 32, 0, true⟩, ⟨46, 17592186044416, 64, 0, true⟩, ⟨47, 35734127902720, 130, 2, false⟩, ⟨48, 128, 511, 0, true⟩, ⟨0, 211106232532992, 1023, 1, false⟩] mo (by kernel_rfl) ?_
      simp only [w_move, w_assign, w_load, w_store, w_fieldAddr, w_indexAddr, w_binOp, w_buildSlice, w_append, w_aop, w_take, w_some, w_asome, w_anone, w_nil, w_cons, awp, binC, idxC, arithC, cmpC, asP, asQ, asO, asS, asI, asN, obA, AGet_zero, loadA, storeA, putsA, St.ev, St.step, setS, killS, AV.kill, AV.killL, Mem.kill, AV.cells, AV.flat, AV.single, AV.cellular, AV.size, AV.sizeL, AV.pure, AV.pureL, ACond_false, Value.oneCell', List.getD_cons_succ, List.getD_cons_zero, List.set_cons_succ, List.set_cons_zero, List.getElem?_cons_succ, List.getElem?_cons_zero, List.length_cons, List.length_nil, List.contains_nil, List.contains_cons, List.isEmpty_nil, List.isEmpty_cons, Option.getD_some, Bool.false_eq_true, if_false, if_true, true_and, and_true, List.all_cons, List.all_nil, Bool.and_true, Bool.true_and, Bool.not_true, Nat.zero_add, Nat.add_zero, beq_self_eq_true, List.map_cons, List.map_nil, decide_true, nbeq, decide_false, Bool.or_false, Bool.and_false, Nat.reduceAdd, Nat.reduceEqDiff, Nat.reduceMul, Nat.reduceLeDiff, Int.reduceAdd, Int.reduceMul, ASch, St.put, Md.mem, Md.need, ne_eq, not_false_eq_true, Option.map_some, ti22, ti24, ti57, prsA_len, aget_prs h, Int.toNat_natCast, prsA_kill]
      refine ⟨by omega, ⟨by decide, rfl⟩, ⟨by decide, by omega⟩, by unfold lim; omega, i + 1, ?_, by omega, by omega⟩
      have e : prsA ((ls.take i).eraseIdx k.toNat) ++ [AV.g [I ls[i].1, I ls[i].2]] = prsA ((ls.take (i + 1)).eraseIdx k.toNat) := by rw [era_step h hne]; simp [prsA, prA]
      rw [e]
      exact le_sl (by simp [leSl])
  · have h' : ¬ (i : Int) < (ls.length : Int) := by omega
    obtain rfl : i = ls.length := by omega
    simp only [w_assign, w_load, w_store, w_aop, w_some, w_anone, w_nil, w_cons, awp, asP, asQ, asN, obA, AGet_zero, loadA, storeA, putsA, St.ev, St.step, setS, killS, AV.kill, AV.killL, Mem.kill, AV.cells, AV.flat, AV.single, AV.cellular, ACond_false, List.getD_cons_succ, List.getD_cons_zero, List.set_cons_succ, List.set_cons_zero, List.getElem?_cons_succ, List.getElem?_cons_zero, List.length_cons, List.length_nil, List.contains_nil, List.isEmpty_nil, Option.getD_some, Bool.false_eq_true, if_false, if_true, true_and, and_true, List.all_cons, List.all_nil, Bool.and_true, Bool.true_and, Bool.not_true, Nat.zero_add, beq_self_eq_true, decide_true, Nat.reduceAdd, Nat.reduceLeDiff, Int.reduceAdd, ti24, decide_eq_false h', List.take_length]
    refine aend_frz (x := .t [.g [I n, .o 2], I 0]) ?_ ⟨by simp [frz, AV.sub, AV.subL, trapA, prsA_pure], rfl⟩
    show resA Try.prog [.cell 4 24, .tmp 5] _ = _
    simp [resA, resL, resOne, ti24, loadA, AV.flat, AV.cells, AV.single]
end Go.Proofs.Ytkolpijhgcijbaa

namespace Go.Proofs.Ytkolpijhgcijbaa
open Aw Go.RowKit
set_option linter.unusedSimpArgs false

theorem s38n : ASpec Try.prog 38 [.g [I 0, .v (.slice none 0 0)], .g [I 0, .v (.slice none 0 0)]] (fun r Ms => r = B true ∧ Ms = []) := by
  refine aspec_of (own := []) Try.func38 rfl ok38 ?_
  simp only [w_move, w_assign, w_pick, w_box, w_load, w_fieldAddr, w_binOp, w_len, w_aop, w_aopg, w_gdb, w_some, w_asome, w_anone, w_nil, w_cons, awp, binC, cmpC, asP, asB, asI, asN, lenA, loadA, St.ev, St.step, setS, killS, AV.kill, AV.killL, Mem.kill, AV.cells, AV.flat, AV.single, AV.cellular, AV.pure, AV.pureL, ACond_true, ACond_false, List.getD_cons_succ, List.getD_cons_zero, List.set_cons_succ, List.set_cons_zero, List.getElem?_cons_succ, List.getElem?_cons_zero, List.length_cons, List.length_nil, List.replicate_succ, List.replicate_zero, List.cons_append, List.nil_append, List.contains_nil, List.isEmpty_nil, Option.getD_some, Bool.false_eq_true, if_false, if_true, true_and, and_true, List.all_cons, List.all_nil, Bool.and_true, Bool.true_and, Bool.not_true, Option.isSome_some, Nat.zero_add, Nat.add_zero, beq_self_eq_true, decide_true, nbeq, decide_false, Bool.and_false, Nat.reduceAdd, Nat.reduceEqDiff, Nat.reduceSub, Nat.reduceLeDiff, Int.reduceAdd, Int.reduceSub, Option.bind_some, ne_eq, not_false_eq_true, ti3, ti22, ti24, Try.ntmps38]
  refine swp_loop' (fun k : Unit => ⟨[.bot, .bot, .p (.g [I 0, .v (.slice none 0 0)]) 0, .bot, .bot, I 0, .bot, .bot, .bot, .bot, .bot, .bot, .bot, .bot, .bot, .bot, .bot, .bot, .bot, .bot, .bot, .bot, .bot, .bot, .bot, .bot, .bot, .bot, .bot, .bot, .bot, .bot, .bot, .bot, .bot, .bot, .bot, .bot], []⟩) (fun k => True) (fun k => 0) () (le_sl (by simp [leSl])) trivial ?_
  rintro ⟨⟩ _
  refine awp_sound (own := []) _ _ _ _ _ ?_
  simp only [w_move, w_assign, w_load, w_fieldAddr, w_binOp, w_len, w_aop, w_some, w_asome, w_anone, w_nil, w_cons, awp, binC, cmpC, asP, asB, asI, asN, lenA, loadA, St.ev, St.step, setS, killS, AV.kill, AV.killL, Mem.kill, AV.cells, AV.flat, AV.single, ACond_false, List.getD_cons_succ, List.getD_cons_zero, List.set_cons_succ, List.set_cons_zero, List.getElem?_cons_succ, List.getElem?_cons_zero, List.length_cons, List.length_nil, List.contains_nil, List.isEmpty_nil, Option.getD_some, Bool.false_eq_true, if_false, if_true, true_and, and_true, List.all_cons, List.all_nil, Bool.and_true, Bool.true_and, Bool.not_true, Option.isSome_some, Nat.zero_add, decide_true, nbeq, decide_false, Bool.and_false, Nat.reduceAdd, Nat.reduceEqDiff, Nat.reduceLeDiff, Int.reduceAdd, Int.reduceLT, ne_eq, not_false_eq_true, ti22, ti24]
  exact aend_frz rfl ⟨rfl, rfl⟩

/-! fewer links: fewer places -/
theorem memL_mono {α : Type} [DecidableEq α] {a b : List α} (h : ∀ x ∈ a, x ∈ b) {x : α} (hx : memL a x = true) : memL b x = true := by
  rw [memL_eq] at hx ⊢; exact h x hx
theorem refu_mono {n : Int} {ls ms : List (Int × Int)} (h : ∀ x ∈ ms, x ∈ ls) {p : List Int} {m : Int × Int} (hr : refu n ms p m = 0) : refu n ls p m = 0 := by
  obtain ⟨g1, g2, g3, g4, g5, g6⟩ := refu0 hr
  have : lnk ls (p.getD m.1.toNat 0) m.2 = true := by
    unfold lnk at g5 ⊢
    exact memL_mono h g5
  rw [refu, if_neg (by omega), if_neg (by rw [this]; decide), if_neg (by rw [g6]; decide)]
theorem Way.mono {n : Int} {ls ms : List (Int × Int)} (h : ∀ x ∈ ms, x ∈ ls) : ∀ (d : Nat) {p q : List Int}, Way n ms d p q → Way n ls d p q
  | 0, _, _, hw => hw
  | d + 1, _, _, ⟨q, m, h1, h2, h3⟩ => ⟨q, m, Way.mono h d h1, refu_mono h h2, h3⟩
theorem rch_sub {n m : Int} {ls ms : List (Int × Int)} {l t : List Int} (hv : vTP n ls l = 0) (hv' : vTP m ms t = 0) (h : ∀ (d : Nat) (q : List Int), Way m ms d t q → ∃ d' : Nat, Way n ls d' l q) : (rch m ms t).length ≤ (rch n ls l).length := by
  have hinv := rch_inv (ls := ms) (vTP_ok hv').2.2 (vTP_ok hv').1
  have h1 := way_rch (n := m) (ls := ms) (l := t)
  have h2 := fun (d : Nat) (q : List Int) => rch_way (n := n) (ls := ls) hv d (q := q)
  obtain ⟨R, hR⟩ : ∃ R, R = rch n ls l := ⟨_, rfl⟩
  obtain ⟨S, hS⟩ : ∃ S, S = rch m ms t := ⟨_, rfl⟩
  rw [← hS] at hinv h1 ⊢
  simp only [← hR] at h2 ⊢
  clear hR hS
  have := nodup_sub (pls S) (pls R) hinv.nd fun p hp => by
    simp only [pls, List.mem_map] at hp ⊢
    obtain ⟨x, hx, rfl⟩ := hp
    obtain ⟨d, _, hw⟩ := h1 x hx
    obtain ⟨d', hw'⟩ := h d _ hw
    obtain ⟨y, hy, e, _⟩ := h2 d' _ hw'
    exact ⟨y, hy, e⟩
  simpa [pls] using this
theorem vT_iff {n : Int} {ls : List (Int × Int)} : vT n ls = 0 ↔ (1 ≤ n ∧ n ≤ 6) ∧ (∀ l ∈ ls, okLn n l) ∧ ls.Nodup := by
  unfold vT
  split
  · constructor
    · intro h; cases h
    · rintro ⟨h, _⟩; omega
  · split
    · split
      · constructor
        · intro _; exact ⟨by omega, by assumption, by assumption⟩
        · intro _; rfl
      · constructor
        · intro h; cases h
        · rintro ⟨_, _, h⟩; contradiction
    · constructor
      · intro h; cases h
      · rintro ⟨_, h, _⟩; contradiction
theorem vTP_sub {n : Int} {ls ms : List (Int × Int)} {l : List Int} (hv : vTP n ls l = 0) (h : ms.Sublist ls) : vTP n ms l = 0 := by
  obtain ⟨g1, g2, g3, g4⟩ := vTP_iff.1 hv
  obtain ⟨a1, a2, a3⟩ := vT_iff.1 g1
  exact vTP_iff.2 ⟨vT_iff.2 ⟨a1, fun x hx => a2 x (h.subset hx), a3.sublist h⟩, g2, g3, g4⟩
theorem less_len {n : Int} {ls : List (Int × Int)} {l : List Int} (hv : vTP n ls l = 0) (k : Nat) : (rch n (ls.eraseIdx k) l).length ≤ (rch n ls l).length :=
  rch_sub hv (vTP_sub hv (List.eraseIdx_sublist ls k)) fun d q h => ⟨d, Way.mono (fun x hx => (List.eraseIdx_sublist ls k).subset hx) d h⟩

theorem ok7 : okFn Try.prog 7 = true := by kernel_rfl
theorem s7 (n : Int) (ls : List (Int × Int)) (l : List Int) (k : Int) : ASpec Try.prog 7 [trapA n ls, .s 1 (intsA l), I k] (fun r Ms => r = B true ∧ Ms = []) := by
  refine aspec_of (own := []) Try.func7 rfl ok7 ?_
  simp only [w_assign, w_box, w_load, w_callF, w_aop, w_some, w_asome, w_anone, w_nil, w_cons, awp, asP, asN, loadA, St.ev, St.step, setS, killS, AV.kill, AV.killL, Mem.kill, AV.cells, AV.flat, AV.single, AV.cellular, AV.pure, AV.pureL, ACond_false, List.getD_cons_succ, List.getD_cons_zero, List.set_cons_succ, List.set_cons_zero, List.getElem?_cons_zero, List.length_cons, List.length_nil, List.replicate_succ, List.replicate_zero, List.cons_append, List.nil_append, List.contains_nil, List.isEmpty_nil, Option.getD_some, Bool.false_eq_true, if_false, if_true, true_and, and_true, List.all_cons, List.all_nil, Bool.and_true, Bool.true_and, Bool.not_true, Nat.zero_add, Nat.add_zero, beq_self_eq_true, List.map_cons, List.map_nil, decide_true, Nat.reduceAdd, Nat.reduceSub, Nat.reduceLeDiff, Int.reduceAdd, Int.reduceSub, ti24, Try.ntmps7, trapA]
  have known : ∀ {M : Mem} {K : HK (AV → Mem → Prop)}, K.k (B true) M → ACall Try.prog 18 [] M (K := K) := fun h => acall_v s18 rfl rfl h
  refine acall_v (s16 n ls) rfl rfl ?_
  by_cases h1 : (60 : Int) < ls.length
  · simp only [w_move, w_pick, w_callF, w_aop, w_aopg, w_gdb, w_some, w_nil, w_cons, awp, asB, St.ev, St.step, setS, killS, AV.kill, AV.killL, Mem.kill, ACond_true, ACond_false, List.getD_cons_succ, List.getD_cons_zero, List.set_cons_succ, List.set_cons_zero, List.getElem?_cons_succ, List.getElem?_cons_zero, List.contains_nil, List.isEmpty_nil, if_true, Bool.not_true, List.map_nil, Nat.reduceAdd, Int.reduceAdd, Option.bind_some, w_bf, decide_eq_true h1]
    refine known ?_
    simp only [w_assign, w_aop, w_anone, w_nil, w_cons, awp, asN, St.ev, St.step, setS, killS, AV.kill, AV.killL, Mem.kill, List.getD_cons_succ, List.getD_cons_zero, List.set_cons_succ, List.set_cons_zero, List.contains_nil, List.isEmpty_nil, Option.getD_some, Bool.false_eq_true, if_false, if_true]
    exact aend_frz rfl ⟨rfl, rfl⟩
  simp only [w_move, w_callF, w_aop, w_aopg, w_gdb, w_some, w_cons, St.ev, St.step, setS, killS, AV.kill, AV.killL, Mem.kill, ACond_true, List.getD_cons_succ, List.getD_cons_zero, List.set_cons_succ, List.set_cons_zero, List.getElem?_cons_succ, List.getElem?_cons_zero, List.isEmpty_nil, if_true, beq_self_eq_true, List.map_cons, List.map_nil, Option.bind_some, decide_eq_false h1]
  refine acall_v (s17 l) rfl rfl ?_
  by_cases h2 : (40 : Int) < l.length
  · simp only [w_pick, w_callF, w_aop, w_some, w_nil, w_cons, awp, asB, St.ev, St.step, setS, killS, AV.kill, AV.killL, Mem.kill, ACond_true, ACond_false, List.getD_cons_succ, List.getD_cons_zero, List.set_cons_succ, List.set_cons_zero, List.contains_nil, List.isEmpty_nil, if_true, List.map_nil, Nat.reduceAdd, Int.reduceAdd, decide_eq_true h2]
    refine known ?_
    simp only [w_assign, w_aop, w_anone, w_nil, w_cons, awp, asN, St.ev, St.step, setS, killS, AV.kill, AV.killL, Mem.kill, List.getD_cons_succ, List.getD_cons_zero, List.set_cons_succ, List.set_cons_zero, List.contains_nil, List.isEmpty_nil, Option.getD_some, Bool.false_eq_true, if_false, if_true]
    exact aend_frz rfl ⟨rfl, rfl⟩
  simp only [w_pick, w_load, w_callF, w_aop, w_some, w_asome, w_nil, w_cons, awp, asP, asB, loadA, St.ev, St.step, setS, killS, AV.kill, AV.killL, Mem.kill, AV.cells, AV.flat, AV.single, ACond_false, List.getD_cons_succ, List.getD_cons_zero, List.set_cons_succ, List.set_cons_zero, List.getElem?_cons_zero, List.length_cons, List.length_nil, List.contains_nil, List.isEmpty_nil, Bool.false_eq_true, if_false, if_true, and_true, List.all_cons, List.all_nil, Bool.and_true, Bool.not_true, Nat.zero_add, beq_self_eq_true, List.map_cons, List.map_nil, decide_true, Nat.reduceAdd, Nat.reduceLeDiff, Int.reduceAdd, ti24, decide_eq_false h2]
  have hls : ls.length ≤ 1000000 := by omega
  have hl : l.length ≤ 1000000 := by omega
  have a39 := s39 n ls l hls hl
  obtain ⟨c, e, hr, hce⟩ : ∃ (c e : Int), (if vTP n ls l ≠ 0 then AV.t [I 0, I (vTP n ls l)] else .t [I (rch n ls l).length, I 0]) = .t [I c, I e] ∧ (e = 0 → vTP n ls l = 0 ∧ c = (rch n ls l).length) := by
    by_cases hv : vTP n ls l ≠ 0
    · rw [if_pos hv]; exact ⟨_, _, rfl, fun h => absurd h hv⟩
    · rw [if_neg hv]; exact ⟨_, _, rfl, fun _ => ⟨Decidable.not_not.1 hv, rfl⟩⟩
  rw [hr] at a39
  have ae : (ls.eraseIdx k.toNat).length ≤ 1000000 := Nat.le_trans (List.length_eraseIdx_le ls k.toNat) hls
  have a38 := s38 n n ls ls hls
  rw [decide_eq_true (show n = n ∧ ls = ls from ⟨rfl, rfl⟩)] at a38
  refine acall_v (s35 n ls hls) rfl rfl ?_
  simp only [w_move, w_alloc, w_load, w_store, w_callF, w_aop, w_some, w_anone, w_nil, w_cons, awp, asP, asQ, obA, AGet_zero, loadA, storeA, putsA, mkA, Aw.newRow, St.ev, St.step, setS, killS, AV.kill, AV.killL, Mem.kill, AV.cells, AV.flat, AV.single, AV.cellular, ACond_false, List.getD_cons_succ, List.getD_cons_zero, List.set_cons_succ, List.set_cons_zero, List.getElem?_cons_zero, List.length_cons, List.length_nil, List.nil_append, List.contains_nil, List.isEmpty_nil, Bool.false_eq_true, if_false, if_true, true_and, and_true, List.all_cons, List.all_nil, Bool.and_true, Bool.true_and, Bool.not_true, Nat.zero_add, beq_self_eq_true, List.map_cons, List.map_nil, decide_true, nbeq, decide_false, Bool.or_false, Nat.reduceAdd, Nat.reduceEqDiff, Nat.reduceLeDiff, Int.reduceAdd, ti24, trapA]
  by_cases hw : wiE n ls k = 0
  case neg =>
    refine acall_v (x := .t [.g [I 0, .v (.slice none 0 0)], I (wiE n ls k)]) (s36e n ls k hls hw) rfl rfl ?_
    simp only [w_move, w_assign, w_alloc, w_load, w_store, w_extract, w_callF, w_aop, w_some, w_asome, w_anone, w_nil, w_cons, awp, asP, asQ, asT, asN, obA, AGet_zero, loadA, storeA, putsA, mkA, Aw.newRow, St.ev, St.step, setS, killS, AV.kill, AV.killL, Mem.kill, AV.cells, AV.flat, AV.single, AV.cellular, ACond_false, List.getD_cons_succ, List.getD_cons_zero, List.set_cons_succ, List.set_cons_zero, List.getElem?_cons_succ, List.getElem?_cons_zero, List.length_cons, List.length_nil, List.cons_append, List.nil_append, List.contains_nil, List.isEmpty_nil, Option.getD_some, Bool.false_eq_true, if_false, if_true, true_and, and_true, List.all_cons, List.all_nil, Bool.and_true, Bool.true_and, Bool.not_true, Nat.zero_add, beq_self_eq_true, List.map_cons, List.map_nil, decide_true, nbeq, decide_false, Bool.or_false, Nat.reduceAdd, Nat.reduceEqDiff, Nat.reduceLeDiff, Int.reduceAdd, ti24]
    refine acall_v (x := .t [.g [I 0, .v (.slice none 0 0)], I (wiE n ls k)]) (s37e n ls k hls hw) rfl rfl ?_
    simp only [w_move, w_assign, w_alloc, w_load, w_store, w_extract, w_callF, w_aop, w_some, w_anone, w_nil, w_cons, awp, asP, asQ, asT, asN, obA, AGet_zero, loadA, storeA, putsA, mkA, Aw.newRow, St.ev, St.step, setS, killS, AV.kill, AV.killL, Mem.kill, AV.cells, AV.flat, AV.single, AV.cellular, ACond_false, List.getD_cons_succ, List.getD_cons_zero, List.set_cons_succ, List.set_cons_zero, List.getElem?_cons_succ, List.getElem?_cons_zero, List.length_cons, List.length_nil, List.cons_append, List.nil_append, List.contains_nil, List.isEmpty_nil, Option.getD_some, Bool.false_eq_true, if_false, if_true, true_and, and_true, List.all_cons, List.all_nil, Bool.and_true, Bool.true_and, Bool.not_true, Nat.zero_add, beq_self_eq_true, List.map_cons, List.map_nil, decide_true, nbeq, decide_false, Bool.or_false, Nat.reduceAdd, Nat.reduceEqDiff, Nat.reduceLeDiff, Int.reduceAdd, ti24]
    refine acall_v s38n rfl rfl ?_
    simp only [w_move, w_pick, w_load, w_binOp, w_not, w_callF, w_aop, w_aopg, w_gdb, w_some, w_asome, w_nil, w_cons, awp, binC, cmpC, asP, asB, asI, loadA, St.ev, St.step, setS, killS, AV.kill, AV.killL, Mem.kill, AV.cells, AV.flat, AV.single, ACond_true, ACond_false, List.getD_cons_succ, List.getD_cons_zero, List.set_cons_succ, List.set_cons_zero, List.getElem?_cons_succ, List.getElem?_cons_zero, List.length_cons, List.length_nil, List.contains_nil, List.isEmpty_nil, Bool.false_eq_true, if_false, if_true, true_and, and_true, List.all_cons, List.all_nil, Bool.and_true, Bool.true_and, Bool.not_true, Nat.zero_add, beq_self_eq_true, List.map_cons, List.map_nil, decide_true, Nat.reduceAdd, Nat.reduceLeDiff, Int.reduceAdd, Option.bind_some, ti24]
    refine acall_v a39 rfl rfl ?_
    simp only [w_move, w_assign, w_pick, w_binOp, w_extract, w_aop, w_aopg, w_gdb, w_some, w_asome, w_anone, w_nil, w_cons, awp, binC, cmpC, asT, asB, asI, asN, St.ev, St.step, setS, killS, AV.kill, AV.killL, Mem.kill, ACond_false, List.getD_cons_succ, List.getD_cons_zero, List.set_cons_succ, List.set_cons_zero, List.getElem?_cons_succ, List.getElem?_cons_zero, List.contains_nil, List.isEmpty_nil, Option.getD_some, Bool.false_eq_true, if_false, if_true, true_and, Bool.true_and, Nat.reduceAdd, Int.reduceAdd, Int.reduceNeg, Option.bind_some, w_bt, decide_eq_false hw]
    refine swp_loop' (fun i : Unit => ⟨[.bot, .bot, .bot, .p (.g [I n, .s 2 (prsA ls)]) 0, .bot, .bot, .bot, .q 0 2 0 0, .q 1 2 0 0, .bot, .bot, .bot, .bot, .bot, .bot, .bot, I 0, .bot, .bot, .bot, .bot, .bot, .bot, .bot, .bot, .bot, .bot, .bot, .bot, .bot, .bot, .bot, .bot, .bot, .bot, .bot, .bot, .bot, .bot, .bot, .bot, .bot, .bot, .bot, .bot, .bot, .bot, .bot, .bot, .bot, .bot, .bot, .bot, .bot, .bot, .bot, .bot, .bot, .bot, .bot, .bot, .bot, .bot, .bot, .bot, .bot, .bot, .bot, .bot, .bot, .bot, .bot, .bot, .bot, .bot, .bot, .bot, .bot, .bot, .bot, .bot, .bot, .bot, .bot, .bot, .bot, .bot, .bot, .bot, .bot], [some ⟨none, 24, 2, [.g [I n, .s 2 (prsA ls)]]⟩, some ⟨none, 24, 2, [.g [I 0, .v (.slice none 0 0)]]⟩, some ⟨none, 24, 2, [.g [I 0, .v (.slice none 0 0)]]⟩]⟩) (fun i => True) (fun i => 0) () (le_sl (by simp [leSl])) trivial ?_
    rintro ⟨⟩ _
    refine awp_sound (own := []) _ _ _ _ _ ?_
    simp only [w_move, w_load, w_fieldAddr, w_binOp, w_callF, w_len, w_aop, w_some, w_asome, w_anone, w_nil, w_cons, awp, binC, cmpC, asP, asQ, asB, asI, obA, AGet_zero, lenA, loadA, St.ev, St.step, setS, killS, AV.kill, AV.killL, Mem.kill, AV.cells, AV.flat, AV.single, ACond_false, List.getD_cons_succ, List.getD_cons_zero, List.set_cons_succ, List.set_cons_zero, List.getElem?_cons_succ, List.getElem?_cons_zero, List.length_cons, List.length_nil, List.contains_nil, List.isEmpty_nil, Bool.false_eq_true, if_false, if_true, true_and, and_true, List.all_cons, List.all_nil, Bool.and_true, Bool.true_and, Bool.not_true, Option.isSome_some, Nat.zero_add, beq_self_eq_true, List.map_cons, List.map_nil, decide_true, nbeq, decide_false, Bool.and_false, Nat.reduceAdd, Nat.reduceEqDiff, Nat.reduceLeDiff, Int.reduceAdd, Int.reduceLT, ne_eq, not_false_eq_true, ti22, ti24]
    refine acall_v a38 rfl rfl ?_
    simp only [w_move, w_callF, w_aop, w_aopg, w_gdb, w_some, w_cons, St.ev, St.step, setS, killS, AV.kill, AV.killL, Mem.kill, ACond_true, List.getD_cons_succ, List.getD_cons_zero, List.set_cons_succ, List.set_cons_zero, List.getElem?_cons_succ, List.getElem?_cons_zero, List.contains_nil, List.isEmpty_nil, Bool.false_eq_true, if_false, if_true, beq_self_eq_true, List.map_nil, Option.bind_some]
    refine known ?_
    simp only [w_assign, w_pick, w_aop, w_some, w_anone, w_nil, w_cons, awp, asB, asN, St.ev, St.step, setS, killS, AV.kill, AV.killL, Mem.kill, ACond_true, List.getD_cons_succ, List.getD_cons_zero, List.set_cons_succ, List.set_cons_zero, List.contains_nil, List.isEmpty_nil, Option.getD_some, Bool.false_eq_true, if_false, if_true]
    exact aend_frz rfl ⟨rfl, rfl⟩
  case pos =>
    refine acall_o (x := .t [.g [I n, .o 0], I 0]) (s36 n ls k hls hw) (by simp [trapA, AV.pureL, AV.pure]) (prsA_pure _) ?_
    simp only [w_move, w_assign, w_alloc, w_load, w_store, w_extract, w_callF, w_aop, w_some, w_asome, w_anone, w_nil, w_cons, awp, asP, asQ, asT, asN, obA, AGet_zero, loadA, storeA, putsA, mkA, Aw.newRow, St.ev, St.step, setS, killS, AV.kill, AV.killL, Mem.kill, AV.cells, AV.flat, AV.single, AV.cellular, ACond_false, List.getD_cons_succ, List.getD_cons_zero, List.set_cons_succ, List.set_cons_zero, List.getElem?_cons_succ, List.getElem?_cons_zero, List.length_cons, List.length_nil, List.cons_append, List.nil_append, List.contains_nil, List.isEmpty_nil, Option.getD_some, Bool.false_eq_true, if_false, if_true, true_and, and_true, List.all_cons, List.all_nil, Bool.and_true, Bool.true_and, Bool.not_true, Nat.zero_add, beq_self_eq_true, List.map_cons, List.map_nil, decide_true, nbeq, decide_false, Bool.or_false, Nat.reduceAdd, Nat.reduceEqDiff, Nat.reduceLeDiff, Int.reduceAdd, ti24, AV.up, AV.sub, AV.subL]
    refine acall_v (s37 n ls k hls hw) rfl rfl ?_
    simp only [w_move, w_assign, w_alloc, w_load, w_store, w_extract, w_callF, w_aop, w_some, w_anone, w_nil, w_cons, awp, asP, asQ, asT, asN, obA, AGet_zero, loadA, storeA, putsA, mkA, Aw.newRow, St.ev, St.step, setS, killS, AV.kill, AV.killL, Mem.kill, AV.cells, AV.flat, AV.single, AV.cellular, ACond_false, List.getD_cons_succ, List.getD_cons_zero, List.set_cons_succ, List.set_cons_zero, List.getElem?_cons_succ, List.getElem?_cons_zero, List.length_cons, List.length_nil, List.cons_append, List.nil_append, List.contains_nil, List.isEmpty_nil, Option.getD_some, Bool.false_eq_true, if_false, if_true, true_and, and_true, List.all_cons, List.all_nil, Bool.and_true, Bool.true_and, Bool.not_true, Nat.zero_add, beq_self_eq_true, List.map_cons, List.map_nil, decide_true, nbeq, decide_false, Bool.or_false, Nat.reduceAdd, Nat.reduceEqDiff, Nat.reduceLeDiff, Int.reduceAdd, ti24, trapA]
    have a38' := s38 n n (ls.eraseIdx k.toNat) (ls.eraseIdx k.toNat) ae
    rw [decide_eq_true (show n = n ∧ ls.eraseIdx k.toNat = ls.eraseIdx k.toNat from ⟨rfl, rfl⟩)] at a38'
    refine acall_l a38' (by simp [frz, AV.sub, AV.subL, trapA, intsA_pure, prsA_pure]) rfl rfl ?_
    simp only [w_move, w_pick, w_load, w_binOp, w_not, w_callF, w_aop, w_aopg, w_gdb, w_some, w_asome, w_nil, w_cons, awp, binC, cmpC, asP, asB, asI, loadA, St.ev, St.step, setS, killS, AV.kill, AV.killL, Mem.kill, AV.cells, AV.flat, AV.single, ACond_true, ACond_false, List.getD_cons_succ, List.getD_cons_zero, List.set_cons_succ, List.set_cons_zero, List.getElem?_cons_succ, List.getElem?_cons_zero, List.length_cons, List.length_nil, List.contains_nil, List.isEmpty_nil, Bool.false_eq_true, if_false, if_true, true_and, and_true, List.all_cons, List.all_nil, Bool.and_true, Bool.true_and, Bool.not_true, Nat.zero_add, beq_self_eq_true, List.map_cons, List.map_nil, decide_true, Nat.reduceAdd, Nat.reduceLeDiff, Int.reduceAdd, Option.bind_some, ti24]
    refine acall_v a39 rfl rfl ?_
    simp only [w_move, w_assign, w_pick, w_binOp, w_extract, w_aop, w_aopg, w_gdb, w_some, w_asome, w_anone, w_nil, w_cons, awp, binC, cmpC, asT, asB, asI, asN, St.ev, St.step, setS, killS, AV.kill, AV.killL, Mem.kill, ACond_true, ACond_false, List.getD_cons_succ, List.getD_cons_zero, List.set_cons_succ, List.set_cons_zero, List.getElem?_cons_succ, List.getElem?_cons_zero, List.contains_nil, List.isEmpty_nil, Option.getD_some, Bool.false_eq_true, if_false, if_true, true_and, Bool.true_and, beq_self_eq_true, decide_true, Nat.reduceAdd, Int.reduceAdd, Option.bind_some]
    by_cases he : e = 0
    case neg =>
      simp only [w_assign, w_aop, w_anone, w_nil, w_cons, awp, asN, St.ev, St.step, setS, killS, AV.kill, AV.killL, Mem.kill, ACond_false, List.set_cons_succ, List.set_cons_zero, List.contains_nil, List.isEmpty_nil, Option.getD_some, Bool.false_eq_true, if_false, if_true, Nat.reduceAdd, Int.reduceAdd, Int.reduceNeg, decide_eq_false he]
      refine swp_loop' (fun i : Nat × List (Int × Int) => ⟨[.bot, .bot, .bot, .p (.g [I n, .s 2 (prsA ls)]) 0, .bot, .bot, .bot, .q 0 2 0 0, .q 2 2 0 0, .bot, .bot, .bot, .bot, .bot, .bot, .bot, I i.1, .bot, .bot, .bot, .bot, .bot, .bot, .bot, .bot, .bot, .bot, .bot, .bot, .bot, .bot, .bot, .bot, .bot, .bot, .bot, .bot, .bot, .bot, .bot, .bot, .bot, .bot, .bot, .bot, .bot, .bot, .bot, .bot, .bot, .bot, .bot, .bot, .bot, .bot, .bot, .bot, .bot, .bot, .bot, .bot, .bot, .bot, .bot, .bot, .bot, .bot, .bot, .bot, .bot, .bot, .bot, .bot, .bot, .bot, .bot, .bot, .bot, .bot, .bot, .bot, .bot, .bot, .bot, .bot, .bot, .bot, .bot, .bot, .bot], [some ⟨none, 24, 2, [.g [I n, .s 2 (prsA ls)]]⟩, some ⟨none, 57, 2, prsA i.2⟩, some ⟨none, 24, 2, [.g [I n, .o 1]]⟩, some ⟨none, 24, 2, [.g [I n, .s 2 (prsA (ls.eraseIdx k.toNat))]]⟩]⟩) (fun i => i.1 ≤ i.2.length ∧ i.2.length ≤ 1000000) (fun i => i.2.length - i.1) (0, ls.eraseIdx k.toNat) (le_sl (by simp [leSl])) ⟨Nat.zero_le _, ae⟩ ?_
      rintro ⟨i, ps⟩ ⟨hi, hpl⟩
      simp only at hi hpl
      refine awp_sound (own := []) _ _ _ _ _ ?_
      simp only [w_move, w_load, w_fieldAddr, w_binOp, w_len, w_aop, w_some, w_asome, w_anone, w_nil, w_cons, awp, binC, cmpC, asP, asQ, asB, asI, obA, AGet_zero, lenA, loadA, St.ev, St.step, setS, killS, AV.kill, AV.killL, Mem.kill, AV.cells, AV.flat, AV.single, ACond_false, List.getD_cons_succ, List.getD_cons_zero, List.set_cons_succ, List.set_cons_zero, List.getElem?_cons_succ, List.getElem?_cons_zero, List.length_cons, List.length_nil, List.contains_nil, List.isEmpty_nil, Bool.false_eq_true, if_false, if_true, true_and, and_true, List.all_cons, List.all_nil, Bool.and_true, Bool.true_and, Bool.not_true, Option.isSome_some, Nat.zero_add, decide_true, nbeq, decide_false, Bool.and_false, Nat.reduceAdd, Nat.reduceEqDiff, Nat.reduceLeDiff, Int.reduceAdd, ne_eq, not_false_eq_true, ti22, ti24, prsA_len]
      by_cases h : i < ps.length
      · have h' : (i : Int) < (ps.length : Int) := by omega
        simp only [w_move, w_assign, w_load, w_store, w_fieldAddr, w_indexAddr, w_binOp, w_aop, w_some, w_asome, w_anone, w_nil, w_cons, awp, binC, idxC, arithC, cmpC, asP, asQ, asO, asS, asI, asN, obA, AGet_zero, loadA, storeA, putsA, St.ev, St.step, setS, killS, AV.kill, AV.killL, Mem.kill, AV.cells, AV.flat, AV.single, AV.cellular, ACond_true, ACond_false, Value.oneCell', List.getD_cons_succ, List.getD_cons_zero, List.set_cons_succ, List.set_cons_zero, List.getElem?_cons_succ, List.getElem?_cons_zero, List.length_cons, List.length_nil, List.contains_nil, List.isEmpty_nil, Option.getD_some, Bool.false_eq_true, if_false, if_true, true_and, and_true, List.all_cons, List.all_nil, Bool.and_true, Bool.true_and, Bool.not_true, Nat.zero_add, Nat.add_zero, beq_self_eq_true, decide_true, nbeq, decide_false, Bool.and_false, Nat.reduceAdd, Nat.reduceEqDiff, Nat.reduceLeDiff, Int.reduceAdd, Int.reduceNeg, ne_eq, not_false_eq_true, ti3, ti22, ti24, ti57, decide_eq_true h', prsA_len, aget_prs h, Int.toNat_natCast]
        have e2 : (prsA ps).set i (AV.g [AV.v (Value.int IntKind.i64 (-1)), I ps[i].2]) = prsA (ps.set i (-1, ps[i].2)) := prsA_set ps i (-1, ps[i].2)
        rw [e2]
        exact ⟨by omega, by unfold lim; omega, (i + 1, ps.set i (-1, ps[i].2)), le_sl (by simp [leSl]), ⟨by simp only [List.length_set]; omega, by simpa using hpl⟩, by simp only [List.length_set]; omega⟩
      · have h' : ¬ (i : Int) < (ps.length : Int) := by omega
        simp only [w_load, w_callF, w_aop, w_some, w_asome, w_anone, w_cons, awp, asP, asQ, obA, AGet_zero, loadA, St.ev, St.step, setS, killS, AV.kill, AV.killL, Mem.kill, AV.cells, AV.flat, AV.single, ACond_false, List.getD_cons_succ, List.getD_cons_zero, List.set_cons_succ, List.set_cons_zero, List.getElem?_cons_zero, List.length_cons, List.length_nil, List.contains_nil, List.isEmpty_nil, Bool.false_eq_true, if_false, if_true, true_and, and_true, List.all_cons, List.all_nil, Bool.and_true, Bool.true_and, Bool.not_true, Nat.zero_add, beq_self_eq_true, List.map_cons, List.map_nil, decide_true, Nat.reduceAdd, Nat.reduceLeDiff, Int.reduceAdd, ti24, decide_eq_false h']
        refine acall_v a38 rfl rfl ?_
        simp only [w_move, w_callF, w_aop, w_aopg, w_gdb, w_some, w_cons, St.ev, St.step, setS, killS, AV.kill, AV.killL, Mem.kill, ACond_true, List.getD_cons_succ, List.getD_cons_zero, List.set_cons_succ, List.set_cons_zero, List.getElem?_cons_succ, List.getElem?_cons_zero, List.contains_nil, List.isEmpty_nil, Bool.false_eq_true, if_false, if_true, beq_self_eq_true, List.map_nil, Option.bind_some]
        refine known ?_
        simp only [w_assign, w_pick, w_aop, w_some, w_anone, w_nil, w_cons, awp, asB, asN, St.ev, St.step, setS, killS, AV.kill, AV.killL, Mem.kill, ACond_true, List.getD_cons_succ, List.getD_cons_zero, List.set_cons_succ, List.set_cons_zero, List.contains_nil, List.isEmpty_nil, Option.getD_some, Bool.false_eq_true, if_false, if_true]
        exact aend_frz rfl ⟨rfl, rfl⟩
    case pos =>
      obtain ⟨hv, rfl⟩ := hce he
      have hlen := less_len hv k.toNat
      have a39' := s39 n (ls.eraseIdx k.toNat) l ae hl
      rw [if_neg (by rw [vTP_sub hv (List.eraseIdx_sublist ls k.toNat)]; decide)] at a39'
      generalize (rch n (ls.eraseIdx k.toNat) l).length = r' at *
      generalize (rch n ls l).length = r at *
      simp only [w_move, w_load, w_callF, w_aop, w_some, w_anone, w_cons, awp, asP, asQ, obA, AGet_zero, loadA, St.ev, St.step, setS, killS, AV.kill, AV.killL, Mem.kill, AV.cells, AV.flat, AV.single, ACond_true, ACond_false, List.getD_cons_succ, List.getD_cons_zero, List.set_cons_succ, List.set_cons_zero, List.getElem?_cons_succ, List.getElem?_cons_zero, List.length_cons, List.length_nil, List.contains_nil, List.isEmpty_nil, Bool.false_eq_true, if_false, if_true, true_and, and_true, List.all_cons, List.all_nil, Bool.and_true, Bool.true_and, Bool.not_true, Nat.zero_add, beq_self_eq_true, List.map_cons, List.map_nil, decide_true, Nat.reduceAdd, Nat.reduceLeDiff, Int.reduceAdd, ti24, decide_eq_true he]
      refine acall_l a39' (by simp [frz, AV.sub, AV.subL, trapA, intsA_pure, prsA_pure]) rfl rfl ?_
      have hgt : ¬ (r : Int) < (r' : Int) := by omega
      simp only [w_move, w_assign, w_pick, w_binOp, w_extract, w_aop, w_aopg, w_gdb, w_some, w_asome, w_anone, w_nil, w_cons, awp, binC, cmpC, asT, asB, asI, asN, St.ev, St.step, setS, killS, AV.kill, AV.killL, Mem.kill, ACond_true, ACond_false, List.getD_cons_succ, List.getD_cons_zero, List.set_cons_succ, List.set_cons_zero, List.getElem?_cons_succ, List.getElem?_cons_zero, List.contains_nil, List.isEmpty_nil, Option.getD_some, Bool.false_eq_true, if_false, if_true, true_and, Bool.true_and, Bool.not_true, beq_self_eq_true, decide_true, Nat.reduceAdd, Int.reduceAdd, Int.reduceNeg, Option.bind_some, decide_eq_false hgt]
      refine swp_loop' (fun i : Nat × List (Int × Int) => ⟨[.bot, .bot, .bot, .p (.g [I n, .s 2 (prsA ls)]) 0, .bot, .bot, .bot, .q 0 2 0 0, .q 2 2 0 0, .bot, .bot, .bot, .bot, .bot, .bot, .bot, I i.1, .bot, .bot, .bot, .bot, .bot, .bot, .bot, .bot, .bot, .bot, .bot, .bot, .bot, .bot, .bot, .bot, .bot, .bot, .bot, .bot, .bot, .bot, .bot, .bot, .bot, .bot, .bot, .bot, .bot, .bot, .bot, .bot, .bot, .bot, .bot, .bot, .bot, .bot, .bot, .bot, .bot, .bot, .bot, .bot, .bot, .bot, .bot, .bot, .bot, .bot, .bot, .bot, .bot, .bot, .bot, .bot, .bot, .bot, .bot, .bot, .bot, .bot, .bot, .bot, .bot, .bot, .bot, .bot, .bot, .bot, .bot, .bot, .bot], [some ⟨none, 24, 2, [.g [I n, .s 2 (prsA ls)]]⟩, some ⟨none, 57, 2, prsA i.2⟩, some ⟨none, 24, 2, [.g [I n, .o 1]]⟩, some ⟨none, 24, 2, [.g [I n, .s 2 (prsA (ls.eraseIdx k.toNat))]]⟩]⟩) (fun i => i.1 ≤ i.2.length ∧ i.2.length ≤ 1000000) (fun i => i.2.length - i.1) (0, ls.eraseIdx k.toNat) (le_sl (by simp [leSl])) ⟨Nat.zero_le _, ae⟩ ?_
      rintro ⟨i, ps⟩ ⟨hi, hpl⟩
      simp only at hi hpl
      refine awp_sound (own := []) _ _ _ _ _ ?_
      simp only [w_move, w_load, w_fieldAddr, w_binOp, w_len, w_aop, w_some, w_asome, w_anone, w_nil, w_cons, awp, binC, cmpC, asP, asQ, asB, asI, obA, AGet_zero, lenA, loadA, St.ev, St.step, setS, killS, AV.kill, AV.killL, Mem.kill, AV.cells, AV.flat, AV.single, ACond_false, List.getD_cons_succ, List.getD_cons_zero, List.set_cons_succ, List.set_cons_zero, List.getElem?_cons_succ, List.getElem?_cons_zero, List.length_cons, List.length_nil, List.contains_nil, List.isEmpty_nil, Bool.false_eq_true, if_false, if_true, true_and, and_true, List.all_cons, List.all_nil, Bool.and_true, Bool.true_and, Bool.not_true, Option.isSome_some, Nat.zero_add, decide_true, nbeq, decide_false, Bool.and_false, Nat.reduceAdd, Nat.reduceEqDiff, Nat.reduceLeDiff, Int.reduceAdd, ne_eq, not_false_eq_true, ti22, ti24, prsA_len]
      by_cases h : i < ps.length
      · have h' : (i : Int) < (ps.length : Int) := by omega
        simp only [w_move, w_assign, w_load, w_store, w_fieldAddr, w_indexAddr, w_binOp, w_aop, w_some, w_asome, w_anone, w_nil, w_cons, awp, binC, idxC, arithC, cmpC, asP, asQ, asO, asS, asI, asN, obA, AGet_zero, loadA, storeA, putsA, St.ev, St.step, setS, killS, AV.kill, AV.killL, Mem.kill, AV.cells, AV.flat, AV.single, AV.cellular, ACond_true, ACond_false, Value.oneCell', List.getD_cons_succ, List.getD_cons_zero, List.set_cons_succ, List.set_cons_zero, List.getElem?_cons_succ, List.getElem?_cons_zero, List.length_cons, List.length_nil, List.contains_nil, List.isEmpty_nil, Option.getD_some, Bool.false_eq_true, if_false, if_true, true_and, and_true, List.all_cons, List.all_nil, Bool.and_true, Bool.true_and, Bool.not_true, Nat.zero_add, Nat.add_zero, beq_self_eq_true, decide_true, nbeq, decide_false, Bool.and_false, Nat.reduceAdd, Nat.reduceEqDiff, Nat.reduceLeDiff, Int.reduceAdd, Int.reduceNeg, ne_eq, not_false_eq_true, ti3, ti22, ti24, ti57, decide_eq_true h', prsA_len, aget_prs h, Int.toNat_natCast]
        have e2 : (prsA ps).set i (AV.g [AV.v (Value.int IntKind.i64 (-1)), I ps[i].2]) = prsA (ps.set i (-1, ps[i].2)) := prsA_set ps i (-1, ps[i].2)
        rw [e2]
        exact ⟨by omega, by unfold lim; omega, (i + 1, ps.set i (-1, ps[i].2)), le_sl (by simp [leSl]), ⟨by simp only [List.length_set]; omega, by simpa using hpl⟩, by simp only [List.length_set]; omega⟩
      · have h' : ¬ (i : Int) < (ps.length : Int) := by omega
        simp only [w_load, w_callF, w_aop, w_some, w_asome, w_anone, w_cons, awp, asP, asQ, obA, AGet_zero, loadA, St.ev, St.step, setS, killS, AV.kill, AV.killL, Mem.kill, AV.cells, AV.flat, AV.single, ACond_false, List.getD_cons_succ, List.getD_cons_zero, List.set_cons_succ, List.set_cons_zero, List.getElem?_cons_zero, List.length_cons, List.length_nil, List.contains_nil, List.isEmpty_nil, Bool.false_eq_true, if_false, if_true, true_and, and_true, List.all_cons, List.all_nil, Bool.and_true, Bool.true_and, Bool.not_true, Nat.zero_add, beq_self_eq_true, List.map_cons, List.map_nil, decide_true, Nat.reduceAdd, Nat.reduceLeDiff, Int.reduceAdd, ti24, decide_eq_false h']
        refine acall_v a38 rfl rfl ?_
        simp only [w_move, w_callF, w_aop, w_aopg, w_gdb, w_some, w_cons, St.ev, St.step, setS, killS, AV.kill, AV.killL, Mem.kill, ACond_true, List.getD_cons_succ, List.getD_cons_zero, List.set_cons_succ, List.set_cons_zero, List.getElem?_cons_succ, List.getElem?_cons_zero, List.contains_nil, List.isEmpty_nil, Bool.false_eq_true, if_false, if_true, beq_self_eq_true, List.map_nil, Option.bind_some]
        refine known ?_
        simp only [w_assign, w_pick, w_aop, w_some, w_anone, w_nil, w_cons, awp, asB, asN, St.ev, St.step, setS, killS, AV.kill, AV.killL, Mem.kill, ACond_true, List.getD_cons_succ, List.getD_cons_zero, List.set_cons_succ, List.set_cons_zero, List.contains_nil, List.isEmpty_nil, Option.getD_some, Bool.false_eq_true, if_false, if_true]
        exact aend_frz rfl ⟨rfl, rfl⟩
end Go.Proofs.Ytkolpijhgcijbaa
