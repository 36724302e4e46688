/-
  Several texts in one: FnAK, FnAL, FnAM, FnAO.
-/
import Derived.Test.YtkolpijhgcijbaaMw
import Derived.Test.YtkolpijhgcijbaaMe
import Derived.Test.YtkolpijhgcijbaaMd
set_option linter.unusedSimpArgs false
set_option linter.unusedVariables false
namespace Go.Proofs.Ytkolpijhgcijbaa
open Aw Go.RowKit
set_option linter.unusedSimpArgs false

theorem ok80 : okFn Try.prog 80 = true := by kernel_rfl
theorem s80 (n : Int) (hn : n ≤ 100) : ASpec Try.prog 80 [I n] (fun r Ms => r = .s 1 (intsA (upL n.toNat fun _ => true)) ∧ Ms = []) := by
  refine aspec_of (own := [3]) Try.func80 rfl ok80 ?_
  simp only [w_assign, w_aop, w_some, w_asome, w_anone, w_nil, w_cons, awp, asN, Aw.newRow, St.ev, St.step, setS, killS, AV.kill, AV.killL, Mem.kill, ACond_false, List.set_cons_succ, List.set_cons_zero, List.length_cons, List.length_nil, List.replicate_succ, List.replicate_zero, List.cons_append, List.nil_append, List.contains_nil, List.contains_cons, List.isEmpty_nil, Option.getD_some, Bool.false_eq_true, if_false, if_true, Nat.zero_add, Nat.add_zero, beq_self_eq_true, nbeq, decide_false, Bool.or_false, Nat.reduceAdd, Nat.reduceEqDiff, Nat.reduceSub, Int.reduceAdd, Int.reduceSub, ti3, ti25, Try.ntmps80]
  refine swp_loop' (fun k : Nat => ⟨[I n, .bot, .bot, .o 0, I k, .bot, .bot, .bot, .bot, .bot, .bot, .bot, .bot, .bot, .bot], [some ⟨none, 3, 1, intsA (upL k fun _ => true)⟩]⟩) (fun k => k ≤ n.toNat) (fun k => n.toNat - k) 0 (le_sl (by simp [leSl])) (Nat.zero_le _) ?_
  intro k hk
  refine awp_sound (own := [3]) _ _ _ _ _ ?_
  simp only [w_move, w_binOp, w_aop, w_some, w_asome, w_nil, w_cons, awp, binC, cmpC, asB, asI, St.ev, St.step, setS, killS, AV.kill, AV.killL, Mem.kill, ACond_false, List.getD_cons_succ, List.getD_cons_zero, List.set_cons_succ, List.set_cons_zero, List.contains_nil, List.contains_cons, List.isEmpty_nil, Bool.false_eq_true, if_false, if_true, true_and, Bool.true_and, nbeq, decide_false, Bool.or_false, Nat.reduceAdd, Nat.reduceEqDiff, Int.reduceAdd]
  by_cases h : (k : Int) < n
  · simp only [w_move, w_assign, w_binOp, w_buildSlice, w_append, w_aop, w_some, w_asome, w_anone, w_nil, w_cons, awp, binC, arithC, cmpC, asO, asS, asI, asN, obA, St.ev, St.step, setS, killS, AV.kill, AV.killL, Mem.kill, AV.cells, AV.flat, AV.single, AV.cellular, AV.size, AV.pure, AV.pureL, ACond_true, ACond_false, Value.oneCell', List.getD_cons_succ, List.getD_cons_zero, List.set_cons_succ, List.set_cons_zero, List.getElem?_cons_zero, List.length_cons, List.length_nil, List.contains_nil, List.contains_cons, List.isEmpty_nil, List.isEmpty_cons, Option.getD_some, Bool.false_eq_true, if_false, if_true, true_and, and_true, List.all_cons, List.all_nil, Bool.and_true, Bool.true_and, Nat.zero_add, beq_self_eq_true, List.map_cons, List.map_nil, decide_true, nbeq, decide_false, Bool.or_false, Nat.reduceAdd, Nat.reduceEqDiff, Nat.reduceMul, Nat.reduceLeDiff, Int.reduceAdd, Int.reduceMul, Option.map_some, ti3, ti25, decide_eq_true h, intsA_len, intsA_kill]
    have := upL_len k (fun _ => true)
    exact ⟨⟨by omega, by decide⟩, ⟨by omega, by omega⟩, by unfold lim; omega, k + 1, by rw [upL_true rfl, ← intsA_app]; exact le_sl (by simp [leSl]), by omega, by omega⟩
  · simp only [w_move, w_assign, w_aop, w_anone, w_nil, w_cons, awp, asN, St.ev, St.step, setS, killS, AV.kill, AV.killL, Mem.kill, ACond_false, List.getD_cons_succ, List.getD_cons_zero, List.set_cons_succ, List.set_cons_zero, List.contains_nil, List.contains_cons, List.isEmpty_nil, Option.getD_some, Bool.false_eq_true, if_false, if_true, nbeq, decide_false, Bool.or_false, Nat.reduceAdd, Nat.reduceEqDiff, Int.reduceAdd, decide_eq_false h]
    refine aend_frz rfl ⟨?_, rfl⟩
    have : k = n.toNat := by omega
    subst this
    simp [frz, AV.sub, intsA_pure]

/-- all orders of some numbers. -/
def ordF : Nat → List Int → List (List Int)
  | 0, _ => [[]]
  | k + 1, l => (List.range (k + 1)).flatMap fun i => (ordF k (l.eraseIdx i)).map (l.getD i 0 :: ·)
def ordP (k : Nat) (l : List Int) (i : Nat) : List (List Int) := (List.range i).flatMap fun i => (ordF k (l.eraseIdx i)).map (l.getD i 0 :: ·)
theorem ordP_succ (k : Nat) (l : List Int) (i : Nat) : ordP k l (i + 1) = ordP k l i ++ (ordF k (l.eraseIdx i)).map (l.getD i 0 :: ·) := by
  simp [ordP, List.range_succ]
def fct : Nat → Nat
  | 0 => 1
  | k + 1 => (k + 1) * fct k
theorem ordF_len : ∀ (k : Nat) (l : List Int), (ordF k l).length = fct k
  | 0, _ => rfl
  | k + 1, l => by
    have key : ∀ m, (ordP k l m).length = m * fct k := by
      intro m
      induction m with
      | zero => simp [ordP]
      | succ m ih => rw [ordP_succ, List.length_append, ih, List.length_map, ordF_len k, Nat.succ_mul]
    exact key (k + 1)
theorem ordP_len (k : Nat) (l : List Int) (i : Nat) : (ordP k l i).length = i * fct k := by
  induction i with
  | zero => simp [ordP]
  | succ m ih => rw [ordP_succ, List.length_append, ih, List.length_map, ordF_len k, Nat.succ_mul]
theorem ordF_mem_len : ∀ (k : Nat) (l : List Int), ∀ o ∈ ordF k l, o.length = k
  | 0, _, o, h => by simp [ordF] at h; subst h; rfl
  | k + 1, l, o, h => by
    simp only [ordF, List.mem_flatMap, List.mem_map] at h
    obtain ⟨i, _, o', h', rfl⟩ := h
    simp [ordF_mem_len k _ o' h']
theorem fct_le {k : Nat} (h : k ≤ 6) : fct k ≤ 720 := by
  match k, h with
  | 0, _ | 1, _ | 2, _ | 3, _ | 4, _ | 5, _ | 6, _ => decide

def rowI (L : List (List Int)) : List AV := L.map fun x => .s 1 (intsA x)
theorem rowI_len (L : List (List Int)) : (rowI L).length = L.length := by simp [rowI]
theorem rowI_pure (L : List (List Int)) : AV.pureL (rowI L) = true := pureL_map _ (fun _ => rfl) L
theorem rowI_kill (Z : List Nat) (L : List (List Int)) : AV.killL Z (rowI L) = rowI L := killL_pure Z _ (rowI_pure L)
theorem aget_rowI {L : List (List Int)} {j : Nat} (h : j < L.length) (K : HK (AV → Prop)) : @AGet (rowI L) j K = K.k (.s 1 (intsA L[j])) := by simp [AGet, rowI, h]

/-- a row with the nil slice reads as a row with the empty list. -/
theorem ret_nils (M : Mem) : Ret M (.s 1 [.v (.slice none 0 0)]) (.s 1 [.s 1 []]) [] := by
  intro A w hv v hM hA hx
  have hx' : RV w (OwnA A hv) hv (.s 1 [.s 1 []]) v := by
    simp only [RV, R] at hx ⊢
    obtain ⟨A', c, ws, h1, h2, h3, h4, h5, h6⟩ := hx
    refine ⟨A', c, ws, h1, h2, h3, fun x hx => ?_, ?_, fun _ => h6 (by simp)⟩
    · simp only [List.mem_singleton] at hx; subst hx; rfl
    · simp only [RL, R] at h5 ⊢
      obtain ⟨u1, u2, rfl, ⟨rfl, _⟩, rfl⟩ := h5
      exact ⟨[.slice none 0 0], [], rfl, ⟨none, 0, [], by simp, Nat.le_refl _, Nat.zero_le _, by simp, rfl, fun h => absurd rfl h⟩, rfl⟩
  exact ret_frz M (.s 1 [.s 1 []]) A w hv v hM hA hx'

theorem ok79 : okFn Try.prog 79 = true := by kernel_rfl
set_option maxRecDepth 20000 in
theorem s79 : ∀ (k : Nat) (l : List Int), l.length = k → k ≤ 6 → ASpec Try.prog 79 [.s 1 (intsA l)] (fun r Ms => r = .s 1 (rowI (ordF k l)) ∧ Ms = [])
  | 0, l, hl, _ => by
    refine aspec_of (own := []) Try.func79 rfl ok79 ?_
    have h0 : (l.length : Int) = 0 := by omega
    simp only [w_move, w_assign, w_binOp, w_buildSlice, w_len, w_aop, w_some, w_asome, w_anone, w_nil, w_cons, awp, binC, cmpC, asB, asI, asN, lenA, St.ev, St.step, setS, killS, AV.kill, AV.killL, Mem.kill, AV.cells, AV.flat, AV.single, AV.cellular, AV.size, AV.pure, AV.pureL, ACond_true, ACond_false, Value.oneCell', List.getD_cons_succ, List.getD_cons_zero, List.set_cons_succ, List.set_cons_zero, List.length_cons, List.length_nil, List.replicate_succ, List.replicate_zero, List.cons_append, List.nil_append, List.contains_nil, List.isEmpty_nil, Option.getD_some, Bool.false_eq_true, if_false, if_true, true_and, and_true, List.all_cons, List.all_nil, Bool.and_true, Bool.true_and, Option.isSome_some, Nat.zero_add, Nat.add_zero, List.map_cons, List.map_nil, decide_true, nbeq, Nat.reduceAdd, Nat.reduceMul, Nat.reduceSub, Nat.reduceLeDiff, Int.reduceAdd, Int.reduceSub, Int.reduceMul, ti25, ti96, Try.ntmps79, intsA_len, decide_eq_true h0]
    refine ⟨by decide, ⟨_, rfl, _, _, ret_nils _, rfl, rfl⟩⟩
  | k + 1, l, hl, hk => by
    have ih := s79 k
    refine aspec_of (own := [3, 17, 39, 45]) Try.func79 rfl ok79 ?_
    have h0 : ¬ (l.length : Int) = 0 := by omega
    simp only [w_move, w_assign, w_binOp, w_len, w_aop, w_some, w_asome, w_anone, w_nil, w_cons, awp, binC, cmpC, asB, asI, asN, lenA, Aw.newRow, St.ev, St.step, setS, killS, AV.kill, AV.killL, Mem.kill, ACond_false, List.getD_cons_succ, List.getD_cons_zero, List.set_cons_succ, List.set_cons_zero, List.length_cons, List.length_nil, List.replicate_succ, List.replicate_zero, List.cons_append, List.nil_append, List.contains_nil, List.contains_cons, List.isEmpty_nil, Option.getD_some, Bool.false_eq_true, if_false, if_true, true_and, Bool.true_and, Option.isSome_some, Nat.zero_add, Nat.add_zero, beq_self_eq_true, nbeq, decide_false, Bool.or_false, Nat.reduceAdd, Nat.reduceEqDiff, Nat.reduceSub, Int.reduceAdd, Int.reduceSub, ti25, ti96, Try.ntmps79, intsA_len, decide_eq_false h0]
    have hfk := fct_le (k := k) (by omega)
    refine swp_loop' (fun i : Nat => ⟨[.s 1 (intsA l), .bot, .bot, .o 0, I i, .bot, .bot, .bot, .bot, .bot, .bot, .bot, .bot, .bot, .bot, .bot, .bot, .bot, .bot, .bot, .bot, .bot, .bot, .bot, .bot, .bot, .bot, .bot, .bot, .bot, .bot, .bot, .bot, .bot, .bot, .bot, .bot, .bot, .bot, .bot, .bot, .bot, .bot, .bot, .bot, .bot, .bot, .bot], [some ⟨none, 25, 1, rowI (ordP k l i)⟩]⟩) (fun i => i ≤ l.length) (fun i => l.length - i) 0 (le_sl (by simp [leSl, ordP, rowI])) (Nat.zero_le _) ?_
    intro i hi
    refine awp_sound (own := [3, 17, 39, 45]) _ _ _ _ _ ?_
    simp only [w_move, w_binOp, w_len, w_aop, w_some, w_asome, w_nil, w_cons, awp, binC, cmpC, asB, asI, lenA, St.ev, St.step, setS, killS, AV.kill, AV.killL, Mem.kill, ACond_false, List.getD_cons_succ, List.getD_cons_zero, List.set_cons_succ, List.set_cons_zero, List.contains_nil, List.contains_cons, List.isEmpty_nil, Bool.false_eq_true, if_false, if_true, true_and, Bool.true_and, Option.isSome_some, nbeq, decide_false, Bool.or_false, Nat.reduceAdd, Nat.reduceEqDiff, Int.reduceAdd, ti25, intsA_len]
    by_cases h : i < l.length
    case neg =>
      have h' : ¬ (i : Int) < (l.length : Int) := by omega
      simp only [w_move, w_assign, w_aop, w_anone, w_nil, w_cons, awp, asN, St.ev, St.step, setS, killS, AV.kill, AV.killL, Mem.kill, ACond_false, List.getD_cons_succ, List.getD_cons_zero, List.set_cons_succ, List.set_cons_zero, List.contains_nil, List.contains_cons, List.isEmpty_nil, Option.getD_some, Bool.false_eq_true, if_false, if_true, nbeq, decide_false, Bool.or_false, Nat.reduceAdd, Nat.reduceEqDiff, Int.reduceAdd, decide_eq_false h']
      obtain rfl : i = k + 1 := by omega
      refine aend_frz rfl ⟨?_, rfl⟩
      simp [frz, AV.sub, rowI_pure]
      rfl
    have h' : (i : Int) < (l.length : Int) := by omega
    simp only [awp, ACond_true, decide_eq_true h']
    refine swp_split (own := [3, 17, 39, 45]) (pre := #[_, _, _, _, _, _, _, _, _, _]) [_, _] rfl (.take 1 .plain [] (.take 2 .plain [] (.take 3 .plain [] (.take 5 .over [0] (.take 6 .over [4] (.take 7 .over [23] (.take 8 .over [22, 24] (.alt 0 (.alt 4 (.alt 9 (.done) (.nil)) (.nil)) (.nil))))))))) [⟨18, 0, 0, 0, false⟩, ⟨19, 1, 0, 0, true⟩, ⟨20, 16, 0, 0, true⟩, ⟨21, 786432, 6, 0, true⟩, ⟨22, 1179648, 9, 2, false⟩, ⟨23, 1, 0, 0, true⟩, ⟨24, 16, 0, 0, true⟩, ⟨25, 8388608, 64, 0, true⟩, ⟨26, 20971520, 160, 0, true⟩, ⟨27, 35651584, 272, 2, false⟩] mo (by kernel_rfl) (by kernel_rfl) ?_
    have hdr : List.drop (i + 1) (intsA l) = intsA (l.drop (i + 1)) := by simp [intsA, List.map_drop]
    have hap : intsA (l.take i) ++ intsA (l.drop (i + 1)) = intsA (l.eraseIdx i) := by rw [List.eraseIdx_eq_take_drop_succ]; simp [intsA]
    have htn : ((i : Int) + 1).toNat = i + 1 := by omega
    have hel : (l.eraseIdx i).length = k := by rw [List.length_eraseIdx]; simp [h]; omega
    have hpl := ordP_len k l i
    have hib : i * fct k ≤ 6 * 720 := Nat.mul_le_mul (by omega) hfk
    simp only [w_move, w_binOp, w_buildSlice, w_slice, w_callF, w_append, w_aop, w_take, w_some, w_asome, w_anone, w_cons, binC, arithC, cmpC, asO, asS, asI, obA, bndA, Aw.newRow, St.ev, St.step, setS, killS, AV.kill, AV.killL, Mem.kill, AV.cells, AV.flat, AV.single, AV.cellular, AV.pure, ACond_true, Value.oneCell', List.getD_cons_succ, List.getD_cons_zero, List.set_cons_succ, List.set_cons_zero, List.getElem?_cons_succ, List.getElem?_cons_zero, List.length_cons, List.length_nil, List.cons_append, List.nil_append, List.contains_nil, List.contains_cons, List.isEmpty_nil, List.isEmpty_cons, Option.getD_some, Option.getD_none, Bool.false_eq_true, if_false, if_true, true_and, and_true, List.all_cons, List.all_nil, Bool.and_true, Bool.true_and, Nat.zero_add, beq_self_eq_true, List.map_cons, List.map_nil, nbeq, decide_false, Bool.or_false, Bool.or_true, Nat.reduceEqDiff, Nat.reduceMul, Nat.reduceLeDiff, Int.reduceMul, Int.reduceLE, Int.toNat_zero, ASch, St.put, Md.mem, Md.need, Option.map_some, ti3, ti25, intsA_len, bndA, intsA_take, List.drop_zero, Int.toNat_natCast, intsA_kill, rowI_kill, htn, List.take_length, hdr, hap]
    have ht1 : (l.take i).length ≤ 6 := by rw [List.length_take]; omega
    have ht2 : (l.drop (i + 1)).length ≤ 6 := by rw [List.length_drop]; omega
    refine ⟨by omega, by unfold lim; omega, by omega, ⟨by decide, rfl⟩, ⟨by decide, by omega⟩, ⟨by decide, by omega⟩, ⟨[.s 1 (intsA l), .bot, .bot, .o 0, I i, .bot, .bot, .bot, .bot, .bot, .bot, .bot, .bot, .bot, .bot, .bot, .bot, .bot, .bot, .bot, .bot, .bot, .bot, .bot, .bot, .bot, .s 1 (intsA (l.eraseIdx i)), .bot, .bot, .bot, .bot, .bot, .bot, .bot, .bot, .bot, .bot, .bot, .bot, .bot, .bot, .bot, .bot, .bot, .bot, .bot, .bot, .bot], [some ⟨none, 25, 1, rowI (ordP k l i)⟩]⟩, ?_, ?_⟩
    · refine Le.trans (le_frz 1 (ty := 3) (k := 1) (xs := intsA (l.eraseIdx i)) rfl (intsA_pure _)) ?_
      refine le_cut (Mx := [none]) ?_ ?_ rfl ?_
      · simp [leSl, frz1, AV.sub, AV.subL]
      · simp [frzM, AV.subL, AV.sub, subL_pure, rowI_pure]
      · simp [freeM, AV.freeL, freeL_pure, rowI_pure]
    simp only [List.getD_cons_succ, List.getD_cons_zero]
    refine acall_v (ih _ hel (by omega)) rfl rfl ?_
    simp only [w_assign, w_aop, w_anone, w_nil, w_cons, awp, asN, St.ev, St.step, setS, killS, AV.kill, AV.killL, Mem.kill, ACond_false, List.getD_cons_succ, List.getD_cons_zero, List.set_cons_succ, List.set_cons_zero, List.contains_nil, List.contains_cons, List.isEmpty_nil, Option.getD_some, Bool.false_eq_true, if_false, if_true, nbeq, decide_false, Bool.or_false, Nat.reduceAdd, Nat.reduceEqDiff, Int.reduceAdd]
    have hll := ordF_len k (l.eraseIdx i)
    generalize hL : ordF k (l.eraseIdx i) = L at *
    have hstep : ordP k l (i + 1) = ordP k l i ++ L.map (l.getD i 0 :: ·) := by rw [ordP_succ, hL]
    generalize hO : ordP k l i = O at *
    have hgd : l.getD i 0 = l[i] := by rw [List.getD_eq_getElem?_getD, List.getElem?_eq_getElem h]; rfl
    rw [hgd] at hstep
    refine swp_loop' (fun q : Nat => ⟨[.s 1 (intsA l), .bot, .bot, .o 0, I i, .s 1 (rowI L), I q, .bot, .bot, .bot, .bot, .bot, .bot, .bot, .bot, .bot, .bot, .bot, .bot, .bot, .bot, .bot, .bot, .bot, .bot, .bot, .bot, .bot, .bot, .bot, .bot, .bot, .bot, .bot, .bot, .bot, .bot, .bot, .bot, .bot, .bot, .bot, .bot, .bot, .bot, .bot, .bot, .bot], [some ⟨none, 25, 1, rowI (O ++ (L.take q).map (l[i] :: ·))⟩]⟩) (fun q => q ≤ L.length) (fun q => L.length - q) 0 (by simp only [List.take_zero, List.map_nil, List.append_nil]; exact le_sl (by simp [leSl])) (Nat.zero_le _) ?_
    intro q hq
    refine awp_sound (own := [3, 17, 39, 45]) _ _ _ _ _ ?_
    simp only [w_move, w_binOp, w_len, w_aop, w_some, w_asome, w_nil, w_cons, awp, binC, cmpC, asB, asI, lenA, St.ev, St.step, setS, killS, AV.kill, AV.killL, Mem.kill, ACond_false, List.getD_cons_succ, List.getD_cons_zero, List.set_cons_succ, List.set_cons_zero, List.contains_nil, List.contains_cons, List.isEmpty_nil, Bool.false_eq_true, if_false, if_true, true_and, Bool.true_and, Option.isSome_some, nbeq, decide_false, Bool.or_false, Nat.reduceAdd, Nat.reduceEqDiff, Int.reduceAdd, ti96, rowI_len]
    by_cases h2 : q < L.length
    case neg =>
      have h2' : ¬ (q : Int) < (L.length : Int) := by omega
      simp only [w_move, w_assign, w_binOp, w_aop, w_some, w_asome, w_anone, w_nil, w_cons, awp, binC, arithC, cmpC, asI, asN, St.ev, St.step, setS, killS, AV.kill, AV.killL, Mem.kill, ACond_false, List.getD_cons_succ, List.getD_cons_zero, List.set_cons_succ, List.set_cons_zero, List.contains_nil, List.contains_cons, List.isEmpty_nil, Option.getD_some, Bool.false_eq_true, if_false, if_true, true_and, and_true, Bool.and_true, Bool.true_and, nbeq, decide_false, Bool.or_false, Nat.reduceAdd, Nat.reduceEqDiff, Int.reduceAdd, decide_eq_false h2']
      refine ⟨by unfold lim; omega, i + 1, ?_, by omega, by omega⟩
      rw [hstep, List.take_of_length_le (by omega)]
      exact le_sl (by simp [leSl])
    have h2' : (q : Int) < (L.length : Int) := by omega
    simp only [awp, ACond_true, decide_eq_true h2']
    refine swp_draw (own := [3, 17, 39, 45]) (.take 1 .plain [] (.take 2 .plain [] (.take 3 .reads [] (.take 4 .reads [] (.take 6 .plain [] (.take 7 .plain [] (.take 8 .reads [] (.take 9 .reads [] (.alt 0 (.alt 5 (.alt 10 (.alt 11 (.alt 12 (.alt 13 (.done) (.nil)) (.nil)) (.nil)) (.nil)) (.nil)) (.alt 5 (.alt 0 (.alt 10 (.alt 11 (.alt 12 (.alt 13 (.done) (.nil)) (.nil)) (.nil)) (.nil)) (.alt 10 (.alt 0 (.alt 11 (.alt 12 (.alt 13 (.done) (.nil)) (.nil)) (.nil)) (.alt 11 (.alt 0 (.alt 12 (.alt 13 (.done) (.nil)) (.nil)) (.nil)) (.nil))) (.nil))) (.nil))))))))))) [⟨35, 8, 0, 0, true⟩, ⟨36, 1, 0, 0, true⟩, ⟨37, 16, 0, 0, true⟩, ⟨38, 103079215104, 6, 0, true⟩, ⟨39, 137438953472, 8, 0, true⟩, ⟨40, 274877906944, 16, 0, false⟩, ⟨41, 32, 0, 0, true⟩, ⟨42, 64, 0, 0, true⟩, ⟨43, 3298534883328, 192, 0, true⟩, ⟨44, 4398046511104, 256, 0, true⟩, ⟨45, 9345848836096, 544, 2, false⟩, ⟨46, 17592186044416, 1024, 0, false⟩, ⟨47, 35201551958016, 3073, 2, false⟩, ⟨4, 70368744177664, 8191, 0, false⟩] mo (by kernel_rfl) ?_
    have hql : L[q].length = k := ordF_mem_len k (l.eraseIdx i) _ (by rw [hL]; exact List.getElem_mem h2)
    have f1 : 0 < 1 ∧ [0] = List.range 1 := ⟨by decide, rfl⟩
    have f2 : 0 < 1 ∧ 1 + L[q].length ≤ 1000000 := ⟨by decide, by omega⟩
    have hOl : (rowI (O ++ List.map (fun x => l[i] :: x) (List.take q L))).length ≤ 999999 := by
      rw [rowI_len, List.length_append, List.length_map, List.length_take]; omega
    have f3 : 0 < 1 ∧ (rowI (O ++ List.map (fun x => l[i] :: x) (List.take q L))).length ≤ 999999 := ⟨by decide, hOl⟩
    have f4 : lim ((q : Int) + 1) := by unfold lim; omega
    simp only [w_move, w_assign, w_load, w_indexAddr, w_binOp, w_buildSlice, w_append, w_aop, w_take, w_some, w_asome, w_anone, w_nil, w_cons, awp, binC, idxC, arithC, cmpC, asP, asO, asS, asI, asN, obA, loadA, Aw.newRow, St.ev, St.step, setS, killS, AV.kill, AV.killL, Mem.kill, AV.cells, AV.flat, AV.single, AV.cellular, AV.size, ACond_true, ACond_false, Value.oneCell', List.getD_cons_succ, List.getD_cons_zero, List.set_cons_succ, List.set_cons_zero, List.getElem?_cons_succ, List.getElem?_cons_zero, List.length_cons, List.length_nil, List.cons_append, List.nil_append, List.contains_nil, List.contains_cons, List.isEmpty_nil, List.isEmpty_cons, Option.getD_some, Bool.false_eq_true, if_false, if_true, true_and, and_true, List.all_cons, List.all_nil, Bool.and_true, Bool.true_and, Bool.not_true, Nat.zero_add, beq_self_eq_true, List.map_cons, List.map_nil, decide_true, nbeq, decide_false, Bool.or_false, Bool.or_true, List.length_append, Nat.reduceAdd, Nat.reduceEqDiff, Nat.reduceMul, Nat.reduceLeDiff, Int.reduceAdd, Int.reduceMul, ASch, St.put, Md.mem, Md.need, ne_eq, not_false_eq_true, Option.map_some, ti3, ti25, ti96, intsA_len, rowI_len, aget_ints h, aget_rowI h2, Int.toNat_natCast, rowI_kill, intsA_kill]
    refine ⟨by omega, by omega, ?_⟩
    rw [rowI_len] at f3
    simp only [List.length_append] at f3
    have hrow : rowI (O ++ List.map (fun x => l[i] :: x) (List.take (q + 1) L)) = rowI (O ++ List.map (fun x => l[i] :: x) (List.take q L)) ++ [.s 1 (intsA (l[i] :: L[q]))] := by
      rw [← List.take_append_getElem h2]; simp only [rowI, List.map_append, List.map_cons, List.map_nil, List.append_assoc]
    have hcons : I l[i] :: intsA L[q] = intsA (l[i] :: L[q]) := rfl
    rw [hcons]
    repeat' (first | exact f1 | exact f2 | exact f3 | exact f4 | apply And.intro)
    all_goals
      refine ⟨q + 1, ?_, by omega, by omega⟩
      rw [hrow]
      refine Le.trans (le_frz 1 (ty := 3) (k := 1) (xs := intsA (l[i] :: L[q])) rfl (intsA_pure _)) ?_
      refine le_cut (Mx := [none, some ⟨none, 25, 1, [.s 1 (intsA (l[i] :: L[q]))]⟩]) ?_ ?_ rfl ?_
      · simp [leSl, frz1, AV.sub, AV.subL]
      · simp [frzM, AV.subL, AV.sub, subL_app, subL_pure, rowI_pure]
      · simp [freeM, AV.freeL, AV.free, freeL_app, freeL_pure, intsA_pure, rowI_pure]
end Go.Proofs.Ytkolpijhgcijbaa

namespace Go.Proofs.Ytkolpijhgcijbaa
open Aw Go.RowKit
set_option linter.unusedSimpArgs false

theorem ok102 : okFn Try.prog 102 = true := by kernel_rfl
theorem s102 (z : Int) (l : List Int) (hl : l.length ≤ 1000000) : ASpec Try.prog 102 [I z, .p (.s 1 (intsA l)) 0] (fun r Ms => r = B (!memL l z) ∧ Ms = []) := by
  refine aspec_of (own := []) Try.func102 rfl ok102 ?_
  simp only [w_move, w_assign, w_load, w_callF, w_aop, w_some, w_asome, w_anone, w_nil, w_cons, awp, asP, asN, loadA, St.ev, St.step, setS, killS, AV.kill, AV.killL, Mem.kill, AV.cells, AV.flat, AV.single, ACond_false, List.getD_cons_succ, List.getD_cons_zero, List.set_cons_succ, List.set_cons_zero, List.getElem?_cons_zero, List.length_cons, List.length_nil, List.replicate_succ, List.replicate_zero, List.cons_append, List.nil_append, List.contains_nil, List.isEmpty_nil, Option.getD_some, Bool.false_eq_true, if_false, if_true, and_true, List.all_cons, List.all_nil, Bool.and_true, Bool.not_true, Nat.zero_add, Nat.add_zero, List.map_cons, List.map_nil, Nat.reduceAdd, Nat.reduceSub, Int.reduceAdd, Int.reduceSub, ti25, Try.ntmps102]
  refine acall_v (s71 l z hl) rfl rfl ?_
  simp only [w_assign, w_not, w_aop, w_some, w_anone, w_nil, w_cons, awp, asB, asN, St.ev, St.step, setS, killS, AV.kill, AV.killL, Mem.kill, List.getD_cons_succ, List.getD_cons_zero, List.set_cons_succ, List.set_cons_zero, List.contains_nil, List.isEmpty_nil, Option.getD_some, Bool.false_eq_true, if_false, if_true]
  exact aend_frz rfl ⟨rfl, rfl⟩

/-- the zones that have a link with a zone. -/
def nr (n : Int) (ls : List (Int × Int)) (z : Int) : List Int := upL n.toNat (lnk ls z)
/-- links are followed to new zones, at most f times. -/
def chK (n : Int) (ls : List (Int × Int)) : Nat → List Int → List Int
  | 0, out => out
  | f + 1, out => match (nr n ls (out.getLastD 0)).find? (fun z => !memL out z) with | none => out | some z => chK n ls f (out ++ [z])

theorem mem_upL {k : Nat} {p : Int → Bool} {z : Int} : z ∈ upL k p ↔ (0 ≤ z ∧ z < k) ∧ p z = true := by
  simp only [upL, List.mem_filter, List.mem_map, List.mem_range]
  constructor
  · rintro ⟨⟨i, hi, rfl⟩, h⟩; exact ⟨by omega, h⟩
  · rintro ⟨h1, h2⟩; exact ⟨⟨z.toNat, by omega, by omega⟩, h2⟩
theorem mem_nr {n : Int} {ls : List (Int × Int)} {z y : Int} (hn : 0 ≤ n) : y ∈ nr n ls z ↔ (0 ≤ y ∧ y < n) ∧ lnk ls z y = true := by
  rw [nr, mem_upL]
  constructor <;> rintro ⟨h1, h2⟩ <;> exact ⟨by omega, h2⟩

theorem nodup_rng {n : Int} : ∀ (l : List Int), l.Nodup → (∀ x ∈ l, 0 ≤ x ∧ x < n) → l.length ≤ n.toNat := by
  intro l hnd h
  have h1 : (l.map Int.toNat).Nodup := by
    rw [List.Nodup, List.pairwise_iff_getElem] at hnd ⊢
    intro i j hi hj hij
    simp only [List.length_map] at hi hj
    have := hnd i j hi hj hij
    have g1 := h l[i] (List.getElem_mem hi)
    have g2 := h l[j] (List.getElem_mem hj)
    simp only [List.getElem_map]
    omega
  have := nodup_lt' n.toNat (l.map Int.toNat) h1 (fun x hx => by
    obtain ⟨y, hy, rfl⟩ := List.mem_map.1 hx
    have := h y hy; omega)
  simpa using this

theorem idxP_find {l : List Int} {p : Int → Bool} : (l.find? p = none ∧ idxP l p = -1) ∨ ∃ (k : Nat) (h : k < l.length), l.find? p = some l[k] ∧ idxP l p = k := by
  cases hf : l.findIdx? p with
  | none =>
    left
    refine ⟨?_, by simp [idxP, hf]⟩
    rw [List.findIdx?_eq_none_iff] at hf
    rw [List.find?_eq_none]
    intro x hx; simp [hf x hx]
  | some k =>
    right
    have hf' := hf
    rw [List.findIdx?_eq_some_iff_getElem] at hf
    obtain ⟨h, h1, h2⟩ := hf
    refine ⟨k, h, ?_, by simp [idxP, hf']⟩
    rw [List.find?_eq_some_iff_getElem]
    exact ⟨h1, k, h, rfl, fun j hj => by simpa using h2 j hj⟩

structure ChI (n : Int) (out : List Int) : Prop where
  pos : 0 < out.length
  nd : out.Nodup
  rng : ∀ x ∈ out, 0 ≤ x ∧ x < n
theorem ChI.le {n : Int} {out : List Int} (h : ChI n out) : out.length ≤ n.toNat := nodup_rng out h.nd h.rng
theorem ChI.add {n : Int} {ls : List (Int × Int)} {out : List Int} (hn : 0 ≤ n) (h : ChI n out) {z y : Int} (hz : z ∈ nr n ls y) (hm : memL out z = false) : ChI n (out ++ [z]) := by
  refine ⟨by simp, ?_, fun x hx => ?_⟩
  · rw [List.nodup_append]
    refine ⟨h.nd, by simp, fun a ha b hb => ?_⟩
    simp only [List.mem_singleton] at hb
    subst hb
    rintro rfl
    rw [Bool.eq_false_iff, ne_eq, memL_eq] at hm
    exact hm ha
  · rcases List.mem_append.1 hx with hx | hx
    · exact h.rng x hx
    · simp only [List.mem_singleton] at hx
      subst hx
      exact ((mem_nr hn).1 hz).1

theorem getLast_at {out : List Int} (h : 0 < out.length) : out.getLastD 0 = out[out.length - 1] := by
  rw [List.getLastD_eq_getLast?, List.getLast?_eq_getElem?, List.getElem?_eq_getElem (by omega)]; rfl

theorem ok96 : okFn Try.prog 96 = true := by kernel_rfl
set_option maxRecDepth 20000 in
theorem s96 (n : Int) (ls : List (Int × Int)) (z : Int) (hn : n ≤ 6) (hls : ls.length ≤ 1000000) (hz : 0 ≤ z ∧ z < n) : ASpec Try.prog 96 [trapA n ls, I z] (fun r Ms => r = .s 1 (intsA (chK n ls n.toNat [z])) ∧ Ms = []) := by
  refine aspec_of (own := [9]) Try.func96 rfl ok96 ?_
  simp only [w_move, w_assign, w_box, w_alloc, w_store, w_buildSlice, w_aop, w_some, w_anone, w_nil, w_cons, awp, asQ, asN, obA, AGet_zero, storeA, putsA, mkA, Aw.newRow, St.ev, St.step, setS, killS, AV.kill, AV.killL, Mem.kill, AV.cells, AV.flat, AV.single, AV.cellular, AV.size, AV.pure, AV.pureL, ACond_true, ACond_false, Value.oneCell', List.getD_cons_succ, List.getD_cons_zero, List.set_cons_succ, List.set_cons_zero, List.getElem?_cons_succ, List.getElem?_cons_zero, List.length_cons, List.head?_cons, List.length_nil, List.replicate_succ, List.replicate_zero, List.cons_append, List.nil_append, List.contains_nil, List.contains_cons, List.isEmpty_nil, Option.getD_some, Bool.false_eq_true, if_false, if_true, true_and, and_true, List.all_cons, List.all_nil, Bool.and_true, Bool.true_and, Nat.zero_add, Nat.add_zero, beq_self_eq_true, List.map_cons, List.map_nil, decide_true, nbeq, decide_false, Bool.or_false, Bool.or_true, Nat.reduceAdd, Nat.reduceEqDiff, Nat.reduceMul, Nat.reduceSub, Nat.reduceLeDiff, Int.reduceAdd, Int.reduceSub, Int.reduceMul, ti3, ti25, Try.ntmps96, trapA]
  have f1 : 0 < 1 ∧ [0] = List.range 1 := ⟨by decide, rfl⟩
  refine ⟨by decide, ?_⟩
  refine swp_loop' (fun out : List Int => ⟨[.bot, .bot, .p (.g [I n, .s 2 (prsA ls)]) 0, .bot, .bot, .q 1 1 0 0, .bot, .bot, .bot, .bot, .bot, .bot, .bot, .bot, .bot, .bot, .bot, .bot, .bot, .bot, .bot, .bot, .bot, .bot, .bot, .bot, .bot, .bot, .bot, .bot, .bot], [some ⟨none, 3, 1, intsA out⟩, some ⟨none, 25, 1, [.o 0]⟩]⟩) (fun out => ChI n out ∧ chK n ls (n.toNat + 1 - out.length) out = chK n ls n.toNat [z]) (fun out => 10 - out.length) [z] (le_sl (by simp [leSl])) ⟨⟨by simp, by simp, by simp; exact hz⟩, by simp⟩ ?_
  rintro out ⟨hci, hch⟩
  refine awp_sound (own := [9]) _ _ _ _ _ ?_
  simp only [awp]
  refine swp_draw (own := [9]) (.take 0 .reads [] (.take 1 .reads [] (.take 2 .reads [] (.take 3 .reads [] (.take 4 .plain [] (.take 5 .reads [] (.take 6 .reads [] (.alt 7 (.take 8 .plain [] (.done)) (.nil))))))))) [⟨11, 4, 0, 0, true⟩, ⟨12, 32, 0, 0, true⟩, ⟨13, 32, 0, 0, true⟩, ⟨14, 4096, 4, 0, true⟩, ⟨15, 8192, 8, 0, true⟩, ⟨16, 18432, 18, 0, true⟩, ⟨17, 32768, 32, 0, true⟩, ⟨18, 66560, 65, 0, false⟩, ⟨7, 131072, 255, 0, true⟩] mo (by kernel_rfl) ?_
  have hle := hci.le
  have hpos := hci.pos
  have hix : ((out.length : Int) - 1).toNat = out.length - 1 := by omega
  have hlt : out.length - 1 < out.length := by omega
  simp only [w_load, w_indexAddr, w_binOp, w_callF, w_len, w_aop, w_take, w_some, w_asome, w_anone, binC, idxC, arithC, cmpC, asP, asQ, asO, asS, asI, obA, AGet_zero, lenA, loadA, St.ev, setS, AV.cells, AV.flat, AV.single, List.getD_cons_succ, List.getD_cons_zero, List.set_cons_succ, List.set_cons_zero, List.getElem?_cons_succ, List.getElem?_cons_zero, List.length_cons, List.length_nil, Bool.false_eq_true, if_false, if_true, true_and, and_true, List.all_cons, List.all_nil, Bool.and_true, Bool.true_and, Bool.not_true, Option.isSome_some, Nat.zero_add, beq_self_eq_true, List.map_cons, List.map_nil, decide_true, Nat.reduceAdd, Nat.reduceLeDiff, Int.reduceAdd, ASch, St.put, Md.mem, Md.need, ti3, ti24, ti25, intsA_len, hix, aget_ints hlt]
  rw [← getLast_at hpos]
  refine ⟨by unfold lim; omega, by omega, acall_v (s65 n ls _ (by omega) hls) rfl rfl ?_⟩
  simp only [w_move, w_assign, w_makeFunc, w_callF, w_aop, w_take, w_some, w_anone, w_cons, awp, asN, St.ev, St.step, setS, killS, AV.kill, AV.killL, Mem.kill, AV.single, AV.cellular, ACond_false, Value.oneCell', List.getD_cons_succ, List.getD_cons_zero, List.set_cons_succ, List.set_cons_zero, List.getElem?_cons_succ, List.getElem?_cons_zero, List.contains_nil, List.contains_cons, List.isEmpty_nil, Option.getD_some, Bool.false_eq_true, if_false, if_true, true_and, and_true, List.all_cons, List.all_nil, Bool.and_true, Bool.true_and, List.map_cons, List.map_nil, nbeq, decide_false, Bool.or_false, Nat.reduceAdd, Nat.reduceEqDiff, Int.reduceAdd, ASch, St.put, Md.mem, Md.need]
  have hcl : ∀ y, ASpec Try.prog 102 (I y :: [.p (.s 1 (intsA out)) 0]) (fun r Ms => r = B (!memL out y) ∧ Ms = []) := fun y => s102 y out (by omega)
  have hnl := upL_len n.toNat (lnk ls (out.getLastD 0))
  have hs := s101 (nr n ls (out.getLastD 0)) (fun y => !memL out y) 102 [.p (.s 1 (intsA out)) 0] (by unfold nr; omega) rfl hcl
  have hnr : upL n.toNat (lnk ls (out.getLastD 0)) = nr n ls (out.getLastD 0) := rfl
  rw [hnr] at hnl ⊢
  refine ⟨rfl, acall_l2 hs ?_ rfl rfl ?_⟩
  · simp [frz2, frz, AV.sub, AV.subL, subL_pure, intsA_pure]
  rcases idxP_find (l := nr n ls (out.getLastD 0)) (p := fun y => !memL out y) with ⟨h1, h2⟩ | ⟨k, hk, h1, h2⟩
  · rw [h2]
    simp only [w_move, w_assign, w_load, w_binOp, w_aop, w_some, w_asome, w_anone, w_nil, w_cons, awp, binC, cmpC, asP, asQ, asB, asI, asN, obA, AGet_zero, loadA, St.ev, St.step, setS, killS, AV.kill, AV.killL, Mem.kill, AV.cells, AV.flat, AV.single, ACond_true, ACond_false, List.getD_cons_succ, List.getD_cons_zero, List.set_cons_succ, List.set_cons_zero, List.getElem?_cons_succ, List.getElem?_cons_zero, List.contains_nil, List.contains_cons, List.isEmpty_nil, Option.getD_some, Bool.false_eq_true, if_false, if_true, true_and, and_true, List.all_cons, List.all_nil, Bool.and_true, Bool.true_and, Bool.not_true, decide_true, nbeq, decide_false, Bool.or_false, Nat.reduceAdd, Nat.reduceEqDiff, Int.reduceAdd, Int.reduceNeg, Int.reduceLT, ti25]
    have hend : ∀ f, chK n ls f out = out := fun f => by cases f with | zero => rfl | succ f => simp only [chK, h1]
    rw [hend] at hch
    refine aend_frz rfl ⟨?_, rfl⟩
    rw [← hch]
    simp [frz, AV.sub, intsA_pure]
  · rw [h2]
    have hk0 : ¬ (k : Int) < 0 := by omega
    simp only [w_move, w_assign, w_binOp, w_aop, w_some, w_asome, w_anone, w_nil, w_cons, awp, binC, cmpC, asB, asI, asN, St.ev, St.step, setS, killS, AV.kill, AV.killL, Mem.kill, ACond_false, List.getD_cons_succ, List.getD_cons_zero, List.set_cons_succ, List.set_cons_zero, List.contains_nil, List.contains_cons, List.isEmpty_nil, Option.getD_some, Bool.false_eq_true, if_false, if_true, true_and, Bool.true_and, nbeq, decide_false, Bool.or_false, Nat.reduceAdd, Nat.reduceEqDiff, Int.reduceAdd, decide_eq_false hk0]
    refine swp_draw (own := [9]) (.take 0 .reads [] (.take 1 .plain [] (.take 2 .plain [] (.take 3 .reads [] (.take 4 .reads [] (.take 5 .plain [] (.alt 6 (.alt 7 (.done) (.nil)) (.nil)))))))) [⟨25, 32, 0, 0, true⟩, ⟨26, 64, 0, 0, true⟩, ⟨27, 128, 0, 0, true⟩, ⟨28, 100663296, 6, 0, true⟩, ⟨29, 134217728, 8, 0, true⟩, ⟨30, 268435456, 16, 0, true⟩, ⟨31, 553648128, 33, 2, false⟩, ⟨0, 1073741856, 127, 1, false⟩] mo (by kernel_rfl) ?_
    have hz' : memL out (nr n ls (out.getLastD 0))[k] = false := by
      have := List.find?_some h1
      simpa using this
    have hadd := hci.add (by omega) (List.getElem_mem hk) hz'
    have hle' := hadd.le
    simp only [List.length_append, List.length_singleton] at hle'
    generalize hR : nr n ls (out.getLastD 0) = R at *
    simp only [w_move, w_load, w_store, w_indexAddr, w_buildSlice, w_append, w_aop, w_take, w_some, w_asome, w_anone, idxC, asP, asQ, asO, asS, asI, obA, AGet_zero, loadA, storeA, putsA, St.ev, St.step, setS, killS, AV.kill, AV.killL, Mem.kill, AV.cells, AV.flat, AV.single, AV.cellular, AV.size, AV.pure, AV.pureL, ACond_false, Value.oneCell', List.getD_cons_succ, List.getD_cons_zero, List.set_cons_succ, List.set_cons_zero, List.getElem?_cons_succ, List.getElem?_cons_zero, List.length_cons, List.head?_cons, List.length_nil, List.contains_nil, List.contains_cons, List.isEmpty_nil, List.isEmpty_cons, Option.getD_some, Bool.false_eq_true, if_false, if_true, true_and, and_true, List.all_cons, List.all_nil, Bool.and_true, Bool.true_and, Bool.not_true, Nat.zero_add, beq_self_eq_true, List.map_cons, List.map_nil, decide_true, nbeq, decide_false, Bool.or_false, Nat.reduceEqDiff, Nat.reduceMul, Nat.reduceLeDiff, Int.reduceMul, ASch, St.put, Md.mem, Md.need, Option.map_some, ti3, ti25, intsA_len, aget_ints hk, Int.toNat_natCast, intsA_kill]
    have hlast : chK n ls (n.toNat + 1 - out.length) out = chK n ls (n.toNat + 1 - (out ++ [R[k]]).length) (out ++ [R[k]]) := by
      rw [show n.toNat + 1 - out.length = (n.toNat + 1 - (out ++ [R[k]]).length) + 1 by simp; omega]
      conv => lhs; unfold chK
      rw [hR, h1]
    refine ⟨by omega, f1, ⟨by decide, by omega⟩, out ++ [R[k]], ?_, ⟨hadd, hlast ▸ hch⟩, by simp only [List.length_append, List.length_singleton]; omega⟩
    rw [← intsA_app]
    exact le_sl (by simp [leSl])

theorem range_any {n : Int} {ls : List (Int × Int)} : (nr n ls 0).length ≤ n.toNat := upL_len _ _

/-- the order of the zones of a line. -/
def firL (n : Int) (ls : List (Int × Int)) : Option Int := (upL n.toNat fun _ => true).find? fun z => decide ((nr n ls z).length ≤ 1)
def lineP (n : Int) (ls : List (Int × Int)) : List Int × Bool :=
  if (ls.length : Int) ≠ n - 1 then ([], false) else match firL n ls with | none => ([], false) | some z => (chK n ls n.toNat [z], decide (((chK n ls n.toNat [z]).length : Int) = n))

theorem upL_rng (k : Nat) : (upL k fun _ => true) = (List.range k).map fun (i : Nat) => (i : Int) := by rw [upL, List.filter_eq_self.2]; simp
theorem upL_all {k i : Nat} (h : i < (upL k fun _ => true).length) : (upL k fun _ => true)[i] = (i : Int) := by simp only [upL_rng, List.getElem_map, List.getElem_range]
theorem upL_all_len (k : Nat) : (upL k fun _ => true).length = k := by rw [upL_rng]; simp
theorem vT_pos {n : Int} {ls : List (Int × Int)} (h : vT n ls = 0) : 1 ≤ n := by
  unfold vT at h
  split at h <;> omega
theorem firL_some {n : Int} {ls : List (Int × Int)} {k : Nat} (hk : (k : Int) < n) (h : (nr n ls k).length ≤ 1) (hno : ∀ j, j < k → ¬ (nr n ls j).length ≤ 1) : firL n ls = some (k : Int) := by
  have hkl : k < (upL n.toNat fun _ => true).length := by rw [upL_all_len]; omega
  rw [firL, List.find?_eq_some_iff_getElem]
  refine ⟨by simpa using h, k, hkl, upL_all hkl, fun j hj => ?_⟩
  rw [upL_all]
  simpa using hno j hj
theorem firL_none {n : Int} {ls : List (Int × Int)} (hno : ∀ j : Nat, (j : Int) < n → ¬ (nr n ls j).length ≤ 1) : firL n ls = none := by
  rw [firL, List.find?_eq_none]
  intro x hx
  rw [mem_upL] at hx
  have := hno x.toNat (by omega)
  rw [show ((x.toNat : Nat) : Int) = x by omega] at this
  simpa using this

theorem upto' {p : Nat → Prop} {k : Nat} (h : ∀ j, j < k → p j) (hk : k = k → p k) : ∀ j, j < k + 1 → p j := fun j hj => by
  rcases Nat.lt_or_ge j k with h1 | h1
  · exact h j h1
  · obtain rfl : j = k := by omega
    exact hk rfl

theorem ok78 : okFn Try.prog 78 = true := by kernel_rfl
set_option maxRecDepth 20000 in
theorem s78 (n : Int) (ls : List (Int × Int)) (hv : vT n ls = 0) (hls : ls.length ≤ 1000000) : ASpec Try.prog 78 [trapA n ls] (fun r Ms => r = .t [.s 1 (intsA (lineP n ls).1), B (lineP n ls).2] ∧ Ms = []) := by
  have hn := vT_le hv
  have hn1 := vT_pos hv
  refine aspec_of (own := [2]) Try.func78 rfl ok78 ?_
  simp only [w_assign, w_box, w_load, w_fieldAddr, w_binOp, w_len, w_aop, w_some, w_asome, w_anone, w_nil, w_cons, awp, binC, arithC, cmpC, asP, asB, asI, asN, lenA, loadA, Aw.newRow, St.ev, St.step, setS, killS, AV.kill, AV.killL, Mem.kill, AV.cells, AV.flat, AV.single, AV.cellular, AV.pure, AV.pureL, ACond_false, List.getD_cons_succ, List.getD_cons_zero, List.set_cons_succ, List.set_cons_zero, List.getElem?_cons_succ, List.getElem?_cons_zero, List.length_cons, List.length_nil, List.replicate_succ, List.replicate_zero, List.cons_append, List.nil_append, List.contains_nil, List.contains_cons, List.isEmpty_nil, Option.getD_some, Bool.false_eq_true, if_false, if_true, true_and, and_true, List.all_cons, List.all_nil, Bool.and_true, Bool.true_and, Bool.not_true, Option.isSome_some, Nat.zero_add, Nat.add_zero, beq_self_eq_true, decide_true, nbeq, decide_false, Bool.or_false, Bool.and_false, Nat.reduceAdd, Nat.reduceEqDiff, Nat.reduceSub, Nat.reduceLeDiff, Int.reduceAdd, Int.reduceSub, ne_eq, not_false_eq_true, ti3, ti22, ti24, ti25, Try.ntmps78, trapA, prsA_len]
  refine ⟨by unfold lim; omega, ?_⟩
  by_cases h0 : (ls.length : Int) = n - 1
  case neg =>
    simp only [w_assign, w_aop, w_some, w_asome, w_anone, w_nil, w_cons, awp, asN, Aw.newRow, St.ev, St.step, setS, killS, AV.kill, AV.killL, Mem.kill, ACond_true, ACond_false, List.set_cons_succ, List.set_cons_zero, List.length_cons, List.length_nil, List.cons_append, List.nil_append, List.contains_nil, List.contains_cons, List.isEmpty_nil, Option.getD_some, Bool.false_eq_true, if_false, if_true, Bool.not_false, Nat.zero_add, beq_self_eq_true, nbeq, decide_false, Bool.or_false, Nat.reduceAdd, Nat.reduceEqDiff, Int.reduceAdd, ti3, ti25, decide_eq_false h0]
    refine aend_frz rfl ⟨?_, rfl⟩
    rw [lineP, if_pos h0]
    simp [frz, AV.sub, AV.subL, AV.pureL]; rfl
  simp only [w_move, w_load, w_fieldAddr, w_aop, w_some, w_asome, w_nil, w_cons, awp, asP, loadA, St.ev, St.step, setS, killS, AV.kill, AV.killL, Mem.kill, AV.cells, AV.flat, AV.single, ACond_false, List.getD_cons_succ, List.getD_cons_zero, List.set_cons_succ, List.set_cons_zero, List.getElem?_cons_zero, List.length_cons, List.length_nil, List.contains_nil, List.contains_cons, List.isEmpty_nil, Bool.false_eq_true, if_false, if_true, true_and, and_true, List.all_cons, List.all_nil, Bool.and_true, Bool.true_and, Bool.not_true, Nat.zero_add, Nat.add_zero, beq_self_eq_true, decide_true, nbeq, decide_false, Bool.or_false, Bool.and_false, Nat.reduceAdd, Nat.reduceEqDiff, Nat.reduceLeDiff, Int.reduceAdd, ne_eq, not_false_eq_true, ti3, ti24, decide_eq_true h0]
  refine swp_loop' (fun k : Nat => ⟨[.bot, .p (.g [I n, .s 2 (prsA ls)]) 0, .bot, .bot, .bot, .bot, .bot, .bot, .bot, .bot, .bot, .bot, .bot, .bot, I n, I k, .bot, .bot, .bot, .bot, .bot, .bot, .bot, .bot, .bot, .bot, .bot, .bot, .bot, .bot, .bot, .bot, .bot], [some ⟨none, 3, 1, []⟩]⟩) (fun k => k ≤ n.toNat ∧ ∀ j, j < k → ¬ (nr n ls j).length ≤ 1) (fun k => n.toNat - k) 0 (le_sl (by simp [leSl])) ⟨Nat.zero_le _, by omega⟩ ?_
  rintro k ⟨hk, hno⟩
  refine awp_sound (own := [2]) _ _ _ _ _ ?_
  simp only [w_binOp, w_aop, w_some, w_asome, w_nil, w_cons, awp, binC, cmpC, asB, asI, St.ev, St.step, setS, killS, AV.kill, AV.killL, Mem.kill, ACond_false, List.getD_cons_succ, List.getD_cons_zero, List.set_cons_succ, List.set_cons_zero, List.contains_nil, List.contains_cons, List.isEmpty_nil, if_true, true_and, Bool.true_and, nbeq, decide_false, Bool.or_false, Nat.reduceAdd, Nat.reduceEqDiff, Int.reduceAdd]
  by_cases h : (k : Int) < n
  case neg =>
    simp only [w_assign, w_aop, w_some, w_asome, w_anone, w_nil, w_cons, awp, asN, Aw.newRow, St.ev, St.step, setS, killS, AV.kill, AV.killL, Mem.kill, ACond_false, List.set_cons_succ, List.set_cons_zero, List.length_cons, List.length_nil, List.cons_append, List.nil_append, List.contains_nil, List.contains_cons, List.isEmpty_nil, Option.getD_some, Bool.false_eq_true, if_false, if_true, Nat.zero_add, beq_self_eq_true, nbeq, decide_false, Bool.or_false, Nat.reduceAdd, Nat.reduceEqDiff, Int.reduceAdd, ti3, ti25, decide_eq_false h]
    refine aend_frz rfl ⟨?_, rfl⟩
    rw [lineP, if_neg (by simpa using h0), firL_none fun j hj => hno j (by omega)]
    simp [frz, AV.sub, AV.subL, AV.pureL]; rfl
  simp only [w_move, w_assign, w_load, w_callF, w_aop, w_some, w_asome, w_anone, w_nil, w_cons, awp, asP, asN, loadA, St.ev, St.step, setS, killS, AV.kill, AV.killL, Mem.kill, AV.cells, AV.flat, AV.single, ACond_true, ACond_false, List.getD_cons_succ, List.getD_cons_zero, List.set_cons_succ, List.set_cons_zero, List.getElem?_cons_zero, List.length_cons, List.length_nil, List.contains_nil, List.contains_cons, List.isEmpty_nil, Option.getD_some, Bool.false_eq_true, if_false, if_true, and_true, List.all_cons, List.all_nil, Bool.and_true, Bool.not_true, Nat.zero_add, beq_self_eq_true, List.map_cons, List.map_nil, decide_true, nbeq, decide_false, Bool.or_false, Nat.reduceAdd, Nat.reduceEqDiff, Nat.reduceLeDiff, Int.reduceAdd, ti24, decide_eq_true h]
  have hs := s65 n ls k (by omega) hls
  have hnr : upL n.toNat (lnk ls k) = nr n ls k := rfl
  rw [hnr] at hs
  refine acall_v hs rfl rfl ?_
  simp only [w_binOp, w_len, w_aop, w_some, w_asome, w_nil, w_cons, awp, binC, cmpC, asB, asI, lenA, St.ev, St.step, setS, killS, AV.kill, AV.killL, Mem.kill, List.getD_cons_succ, List.getD_cons_zero, List.set_cons_succ, List.set_cons_zero, List.isEmpty_nil, if_true, true_and, Bool.true_and, Option.isSome_some, ti25, intsA_len]
  by_cases h1 : ((nr n ls k).length : Int) ≤ 1
  case neg =>
    simp only [w_move, w_binOp, w_aop, w_some, w_asome, w_anone, w_nil, w_cons, awp, binC, arithC, cmpC, asI, St.ev, St.step, setS, killS, AV.kill, AV.killL, Mem.kill, ACond_false, List.getD_cons_succ, List.getD_cons_zero, List.set_cons_succ, List.set_cons_zero, List.contains_nil, List.contains_cons, List.isEmpty_nil, if_true, true_and, and_true, Bool.and_true, Bool.true_and, nbeq, decide_false, Bool.or_false, Nat.reduceAdd, Nat.reduceEqDiff, Int.reduceAdd, decide_eq_false h1]
    exact ⟨by unfold lim; omega, k + 1, le_sl (by simp [leSl]), ⟨by omega, upto' hno fun _ => by omega⟩, by omega⟩
  simp only [w_move, w_load, w_callF, w_aop, w_some, w_asome, w_cons, awp, asP, loadA, St.ev, St.step, setS, killS, AV.kill, AV.killL, Mem.kill, AV.cells, AV.flat, AV.single, ACond_true, ACond_false, List.getD_cons_succ, List.getD_cons_zero, List.set_cons_succ, List.set_cons_zero, List.getElem?_cons_zero, List.length_cons, List.length_nil, List.contains_nil, List.contains_cons, List.isEmpty_nil, Bool.false_eq_true, if_false, if_true, and_true, List.all_cons, List.all_nil, Bool.and_true, Bool.not_true, Nat.zero_add, beq_self_eq_true, List.map_cons, List.map_nil, decide_true, nbeq, decide_false, Bool.or_false, Nat.reduceAdd, Nat.reduceEqDiff, Nat.reduceLeDiff, Int.reduceAdd, ti24, decide_eq_true h1]
  refine acall_v (s96 n ls k hn hls ⟨by omega, h⟩) rfl rfl ?_
  simp only [w_assign, w_aop, w_anone, w_nil, w_cons, awp, asN, St.ev, St.step, setS, killS, AV.kill, AV.killL, Mem.kill, List.getD_cons_succ, List.getD_cons_zero, List.set_cons_succ, List.set_cons_zero, List.contains_nil, List.contains_cons, List.isEmpty_nil, Option.getD_some, Bool.false_eq_true, if_false, if_true, nbeq, decide_false, Bool.or_false, Nat.reduceEqDiff]
  have e : lineP n ls = (chK n ls n.toNat [(k : Int)], decide (((chK n ls n.toNat [(k : Int)]).length : Int) = n)) := by
    rw [lineP, if_neg (by simpa using h0), firL_some h (by omega) hno]
  rw [e]
  generalize chK n ls n.toNat [(k : Int)] = out
  refine swp_draw (own := [2]) (.take 0 .plain [] (.take 1 .plain [] (.take 2 .reads [] (.take 3 .plain [] (.take 4 .reads [] (.take 5 .plain [] (.alt 6 (.take 7 .plain [] (.done)) (.nil)))))))) [⟨27, 32, 0, 0, true⟩, ⟨28, 32, 0, 0, true⟩, ⟨29, 134217728, 2, 0, true⟩, ⟨30, 2, 0, 0, true⟩, ⟨31, 536870912, 8, 0, true⟩, ⟨32, 1342177280, 20, 0, true⟩, ⟨3, 67108864, 1, 0, false⟩, ⟨4, 2147483648, 127, 0, true⟩] mo (by kernel_rfl) ?_
  simp only [w_move, w_assign, w_load, w_fieldAddr, w_binOp, w_len, w_aop, w_take, w_some, w_asome, w_anone, awp, binC, cmpC, asP, asI, asN, lenA, loadA, St.ev, St.step, setS, killS, AV.kill, AV.killL, Mem.kill, AV.cells, AV.flat, AV.single, List.getD_cons_succ, List.getD_cons_zero, List.set_cons_succ, List.set_cons_zero, List.getElem?_cons_succ, List.getElem?_cons_zero, List.length_cons, List.length_nil, List.contains_nil, List.contains_cons, List.isEmpty_nil, Option.getD_some, Bool.false_eq_true, if_false, if_true, true_and, and_true, List.all_cons, List.all_nil, Bool.and_true, Bool.true_and, Bool.not_true, Option.isSome_some, Nat.zero_add, Nat.add_zero, beq_self_eq_true, decide_true, nbeq, decide_false, Bool.or_false, Bool.and_false, Nat.reduceAdd, Nat.reduceEqDiff, Nat.reduceLeDiff, Int.reduceAdd, ASch, St.put, Md.mem, Md.need, ne_eq, not_false_eq_true, ti3, ti24, ti25, intsA_len]
  exact aend_frz rfl ⟨by simp [frz, AV.sub, AV.subL], rfl⟩

/-- the order of the zones of a ring. -/
def ringP (n : Int) (ls : List (Int × Int)) : List Int × Bool :=
  if n < 3 ∨ (ls.length : Int) ≠ n then ([], false) else if (upL n.toNat fun _ => true).any (fun z => decide ((nr n ls z).length ≠ 2)) = true then ([], false) else
    if ((chK n ls n.toNat [0]).length : Int) < n then ([], false) else (chK n ls n.toNat [0], true)

theorem ok82 : okFn Try.prog 82 = true := by kernel_rfl
set_option maxRecDepth 20000 in
theorem s82 (n : Int) (ls : List (Int × Int)) (hv : vT n ls = 0) (hls : ls.length ≤ 1000000) : ASpec Try.prog 82 [trapA n ls] (fun r Ms => r = .t [.s 1 (intsA (ringP n ls).1), B (ringP n ls).2] ∧ Ms = []) := by
  have hn := vT_le hv
  have hn1 := vT_pos hv
  refine aspec_of (own := [2]) Try.func82 rfl ok82 ?_
  simp only [w_move, w_assign, w_box, w_load, w_fieldAddr, w_binOp, w_aop, w_aopg, w_gdb, w_some, w_asome, w_anone, w_nil, w_cons, awp, binC, cmpC, asP, asI, asN, loadA, Aw.newRow, St.ev, St.step, setS, killS, AV.kill, AV.killL, Mem.kill, AV.cells, AV.flat, AV.single, AV.cellular, AV.pure, AV.pureL, ACond_false, List.getD_cons_succ, List.getD_cons_zero, List.set_cons_succ, List.set_cons_zero, List.getElem?_cons_succ, List.getElem?_cons_zero, List.length_cons, List.length_nil, List.replicate_succ, List.replicate_zero, List.cons_append, List.nil_append, List.contains_nil, List.contains_cons, List.isEmpty_nil, Option.getD_some, Bool.false_eq_true, if_false, if_true, true_and, and_true, List.all_cons, List.all_nil, Bool.and_true, Bool.true_and, Bool.not_true, Nat.zero_add, Nat.add_zero, beq_self_eq_true, decide_true, nbeq, decide_false, Bool.or_false, Bool.and_false, Nat.reduceAdd, Nat.reduceEqDiff, Nat.reduceSub, Nat.reduceLeDiff, Int.reduceAdd, Int.reduceSub, Option.bind_some, ne_eq, not_false_eq_true, w_bf, ti3, ti24, ti25, Try.ntmps82, trapA]
  by_cases h3 : n < 3
  · simp only [w_assign, w_pick, w_aop, w_aopg, w_gdb, w_some, w_asome, w_anone, w_nil, w_cons, awp, asB, asN, Aw.newRow, St.ev, St.step, setS, killS, AV.kill, AV.killL, Mem.kill, ACond_true, ACond_false, List.getD_cons_succ, List.getD_cons_zero, List.set_cons_succ, List.set_cons_zero, List.getElem?_cons_succ, List.getElem?_cons_zero, List.length_cons, List.length_nil, List.cons_append, List.nil_append, List.contains_nil, List.contains_cons, List.isEmpty_nil, Option.getD_some, Bool.false_eq_true, if_false, if_true, Bool.not_true, Nat.zero_add, beq_self_eq_true, nbeq, decide_false, Bool.or_false, Nat.reduceAdd, Nat.reduceEqDiff, Int.reduceAdd, Option.bind_some, w_bf, ti3, ti25, decide_eq_true h3]
    refine aend_frz rfl ⟨?_, rfl⟩
    rw [ringP, if_pos (.inl h3)]
    simp [frz, AV.sub, AV.subL, AV.pureL]; rfl
  simp only [w_pick, w_load, w_fieldAddr, w_binOp, w_len, w_aop, w_aopg, w_gdb, w_some, w_asome, w_nil, w_cons, awp, binC, cmpC, asP, asB, asI, lenA, loadA, St.ev, St.step, setS, killS, AV.kill, AV.killL, Mem.kill, AV.cells, AV.flat, AV.single, ACond_true, ACond_false, List.getD_cons_succ, List.getD_cons_zero, List.set_cons_succ, List.set_cons_zero, List.getElem?_cons_succ, List.getElem?_cons_zero, List.length_cons, List.length_nil, List.contains_nil, List.isEmpty_nil, Bool.false_eq_true, if_false, if_true, true_and, and_true, List.all_cons, List.all_nil, Bool.and_true, Bool.true_and, Bool.not_true, Bool.not_false, Option.isSome_some, Nat.zero_add, Nat.add_zero, beq_self_eq_true, decide_true, nbeq, decide_false, Bool.and_false, Nat.reduceAdd, Nat.reduceEqDiff, Nat.reduceLeDiff, Int.reduceAdd, Option.bind_some, ne_eq, not_false_eq_true, ti3, ti22, ti24, decide_eq_false h3, prsA_len]
  by_cases h0 : (ls.length : Int) = n
  case neg =>
    simp only [w_assign, w_aop, w_some, w_asome, w_anone, w_nil, w_cons, awp, asN, Aw.newRow, St.ev, St.step, setS, killS, AV.kill, AV.killL, Mem.kill, ACond_true, ACond_false, List.set_cons_succ, List.set_cons_zero, List.length_cons, List.length_nil, List.cons_append, List.nil_append, List.contains_nil, List.contains_cons, List.isEmpty_nil, Option.getD_some, Bool.false_eq_true, if_false, if_true, Bool.not_false, Nat.zero_add, beq_self_eq_true, nbeq, decide_false, Bool.or_false, Nat.reduceAdd, Nat.reduceEqDiff, Int.reduceAdd, ti3, ti25, decide_eq_false h0]
    refine aend_frz rfl ⟨?_, rfl⟩
    rw [ringP, if_pos (.inr h0)]
    simp [frz, AV.sub, AV.subL, AV.pureL]; rfl
  simp only [w_move, w_load, w_fieldAddr, w_aop, w_some, w_asome, w_nil, w_cons, awp, asP, loadA, St.ev, St.step, setS, killS, AV.kill, AV.killL, Mem.kill, AV.cells, AV.flat, AV.single, ACond_false, List.getD_cons_succ, List.getD_cons_zero, List.set_cons_succ, List.set_cons_zero, List.getElem?_cons_zero, List.length_cons, List.length_nil, List.contains_nil, List.contains_cons, List.isEmpty_nil, Bool.false_eq_true, if_false, if_true, true_and, and_true, List.all_cons, List.all_nil, Bool.and_true, Bool.true_and, Bool.not_true, Nat.zero_add, Nat.add_zero, beq_self_eq_true, decide_true, nbeq, decide_false, Bool.or_false, Bool.and_false, Nat.reduceAdd, Nat.reduceEqDiff, Nat.reduceLeDiff, Int.reduceAdd, ne_eq, not_false_eq_true, ti3, ti24, decide_eq_true h0]
  have hc : ¬ (n < 3 ∨ (ls.length : Int) ≠ n) := by omega
  refine swp_loop' (fun k : Nat => ⟨[.bot, .p (.g [I n, .s 2 (prsA ls)]) 0, .bot, .bot, .bot, .bot, .bot, .bot, .bot, .bot, .bot, .bot, .bot, .bot, .bot, .bot, .bot, .bot, I n, I k, .bot, .bot, .bot, .bot, .bot, .bot, .bot, .bot, .bot, .bot, .bot, .bot, .bot, .bot, .bot, .bot], [some ⟨none, 3, 1, []⟩]⟩) (fun k => k ≤ n.toNat ∧ ∀ j : Nat, j < k → (nr n ls j).length = 2) (fun k => n.toNat - k) 0 (le_sl (by simp [leSl])) ⟨Nat.zero_le _, by omega⟩ ?_
  rintro k ⟨hk, hno⟩
  refine awp_sound (own := [2]) _ _ _ _ _ ?_
  simp only [w_binOp, w_aop, w_some, w_asome, w_nil, w_cons, awp, binC, cmpC, asB, asI, St.ev, St.step, setS, killS, AV.kill, AV.killL, Mem.kill, ACond_false, List.getD_cons_succ, List.getD_cons_zero, List.set_cons_succ, List.set_cons_zero, List.contains_nil, List.contains_cons, List.isEmpty_nil, if_true, true_and, Bool.true_and, nbeq, decide_false, Bool.or_false, Nat.reduceAdd, Nat.reduceEqDiff, Int.reduceAdd]
  by_cases h : (k : Int) < n
  case pos =>
    simp only [w_move, w_assign, w_load, w_callF, w_aop, w_some, w_asome, w_anone, w_nil, w_cons, awp, asP, asN, loadA, St.ev, St.step, setS, killS, AV.kill, AV.killL, Mem.kill, AV.cells, AV.flat, AV.single, ACond_true, ACond_false, List.getD_cons_succ, List.getD_cons_zero, List.set_cons_succ, List.set_cons_zero, List.getElem?_cons_zero, List.length_cons, List.length_nil, List.contains_nil, List.contains_cons, List.isEmpty_nil, Option.getD_some, Bool.false_eq_true, if_false, if_true, and_true, List.all_cons, List.all_nil, Bool.and_true, Bool.not_true, Nat.zero_add, beq_self_eq_true, List.map_cons, List.map_nil, decide_true, nbeq, decide_false, Bool.or_false, Nat.reduceAdd, Nat.reduceEqDiff, Nat.reduceLeDiff, Int.reduceAdd, ti24, decide_eq_true h]
    have hs := s65 n ls k (by omega) hls
    have hnr : upL n.toNat (lnk ls k) = nr n ls k := rfl
    rw [hnr] at hs
    refine acall_v hs rfl rfl ?_
    simp only [w_binOp, w_len, w_aop, w_some, w_asome, w_nil, w_cons, awp, binC, cmpC, asB, asI, lenA, St.ev, St.step, setS, killS, AV.kill, AV.killL, Mem.kill, List.getD_cons_succ, List.getD_cons_zero, List.set_cons_succ, List.set_cons_zero, List.isEmpty_nil, if_true, true_and, Bool.true_and, Option.isSome_some, ti25, intsA_len]
    by_cases h1 : ((nr n ls k).length : Int) = 2
    · simp only [w_move, w_binOp, w_aop, w_some, w_asome, w_anone, w_nil, w_cons, awp, binC, arithC, cmpC, asI, St.ev, St.step, setS, killS, AV.kill, AV.killL, Mem.kill, ACond_false, List.getD_cons_succ, List.getD_cons_zero, List.set_cons_succ, List.set_cons_zero, List.contains_nil, List.contains_cons, List.isEmpty_nil, if_true, true_and, and_true, Bool.and_true, Bool.true_and, Bool.not_true, nbeq, decide_false, Bool.or_false, Nat.reduceAdd, Nat.reduceEqDiff, Int.reduceAdd, decide_eq_true h1]
      exact ⟨by unfold lim; omega, k + 1, le_sl (by simp [leSl]), ⟨by omega, upto' hno fun _ => by omega⟩, by omega⟩
    · simp only [w_assign, w_aop, w_some, w_asome, w_anone, w_nil, w_cons, awp, asN, Aw.newRow, St.ev, St.step, setS, killS, AV.kill, AV.killL, Mem.kill, ACond_true, ACond_false, List.set_cons_succ, List.set_cons_zero, List.length_cons, List.length_nil, List.cons_append, List.nil_append, List.contains_nil, List.contains_cons, List.isEmpty_nil, Option.getD_some, Bool.false_eq_true, if_false, if_true, Bool.not_false, Nat.zero_add, beq_self_eq_true, nbeq, decide_false, Bool.or_false, Nat.reduceAdd, Nat.reduceEqDiff, Int.reduceAdd, ti3, ti25, decide_eq_false h1]
      refine aend_frz rfl ⟨?_, rfl⟩
      rw [ringP, if_neg hc, if_pos]
      · simp [frz, AV.sub, AV.subL, AV.pureL]; rfl
      · rw [List.any_eq_true]
        exact ⟨k, mem_upL.2 ⟨⟨by omega, by omega⟩, rfl⟩, by simp; omega⟩
  simp only [w_load, w_callF, w_aop, w_some, w_asome, w_cons, awp, asP, loadA, St.ev, St.step, setS, killS, AV.kill, AV.killL, Mem.kill, AV.cells, AV.flat, AV.single, ACond_false, List.getD_cons_succ, List.getD_cons_zero, List.set_cons_succ, List.set_cons_zero, List.getElem?_cons_zero, List.length_cons, List.length_nil, List.contains_nil, List.contains_cons, List.isEmpty_nil, Bool.false_eq_true, if_false, if_true, and_true, List.all_cons, List.all_nil, Bool.and_true, Bool.not_true, Nat.zero_add, beq_self_eq_true, List.map_cons, List.map_nil, decide_true, nbeq, decide_false, Bool.or_false, Nat.reduceAdd, Nat.reduceEqDiff, Nat.reduceLeDiff, Int.reduceAdd, ti24, decide_eq_false h]
  refine acall_v (s96 n ls 0 hn hls ⟨by omega, by omega⟩) rfl rfl ?_
  have hall : ¬ (upL n.toNat fun _ => true).any (fun z => decide ((nr n ls z).length ≠ 2)) = true := by
    rw [List.any_eq_true]
    rintro ⟨z, hz, h2⟩
    rw [mem_upL] at hz
    have := hno z.toNat (by omega)
    rw [show ((z.toNat : Nat) : Int) = z by omega] at this
    simp [this] at h2
  rw [ringP, if_neg hc, if_neg hall]
  generalize chK n ls n.toNat [0] = out
  simp only [w_move, w_assign, w_load, w_fieldAddr, w_binOp, w_len, w_aop, w_some, w_asome, w_anone, w_nil, w_cons, awp, binC, cmpC, asP, asB, asI, asN, lenA, loadA, St.ev, St.step, setS, killS, AV.kill, AV.killL, Mem.kill, AV.cells, AV.flat, AV.single, ACond_false, List.getD_cons_succ, List.getD_cons_zero, List.set_cons_succ, List.set_cons_zero, List.getElem?_cons_zero, List.length_cons, List.length_nil, List.contains_nil, List.contains_cons, List.isEmpty_nil, Option.getD_some, Bool.false_eq_true, if_false, if_true, true_and, and_true, List.all_cons, List.all_nil, Bool.and_true, Bool.true_and, Bool.not_true, Option.isSome_some, Nat.zero_add, Nat.add_zero, beq_self_eq_true, decide_true, nbeq, decide_false, Bool.or_false, Bool.and_false, Nat.reduceAdd, Nat.reduceEqDiff, Nat.reduceLeDiff, Int.reduceAdd, ne_eq, not_false_eq_true, ti3, ti24, ti25, intsA_len]
  by_cases h4 : (out.length : Int) < n
  · simp only [w_assign, w_aop, w_some, w_asome, w_anone, w_nil, w_cons, awp, asN, Aw.newRow, St.ev, St.step, setS, killS, AV.kill, AV.killL, Mem.kill, ACond_true, ACond_false, List.set_cons_succ, List.set_cons_zero, List.length_cons, List.length_nil, List.cons_append, List.nil_append, List.contains_nil, List.contains_cons, List.isEmpty_nil, Option.getD_some, Bool.false_eq_true, if_false, if_true, Nat.zero_add, beq_self_eq_true, nbeq, decide_false, Bool.or_false, Nat.reduceAdd, Nat.reduceEqDiff, Int.reduceAdd, ti3, ti25, decide_eq_true h4]
    refine aend_frz rfl ⟨?_, rfl⟩
    rw [if_pos h4]
    simp [frz, AV.sub, AV.subL, AV.pureL]; rfl
  · simp only [w_move, w_assign, w_aop, w_anone, w_nil, w_cons, awp, asN, St.ev, St.step, setS, killS, AV.kill, AV.killL, Mem.kill, ACond_false, List.getD_cons_succ, List.getD_cons_zero, List.set_cons_succ, List.set_cons_zero, List.contains_nil, List.contains_cons, List.isEmpty_nil, Option.getD_some, Bool.false_eq_true, if_false, if_true, beq_self_eq_true, nbeq, decide_false, Bool.or_false, Nat.reduceAdd, Nat.reduceEqDiff, Int.reduceAdd, decide_eq_false h4]
    refine aend_frz rfl ⟨?_, rfl⟩
    rw [if_neg h4]
    simp [frz, AV.sub, AV.subL]
end Go.Proofs.Ytkolpijhgcijbaa

namespace Go.Proofs.Ytkolpijhgcijbaa
open Aw Go.RowKit
set_option linter.unusedSimpArgs false

/-- two places of an order that are to have a link. -/
def nbr (m : Nat) (round : Bool) (k i : Nat) : Bool := decide ((k : Int) = (i : Int) - 1) || (round && decide ((k : Int) = 0) && decide ((i : Int) = (m : Int) - 1))
def chRow (ls : List (Int × Int)) (o : List Int) (round : Bool) (i : Nat) : Bool := (List.range i).all fun k => lnk ls (o.getD k 0) (o.getD i 0) == nbr o.length round k i
def chR (ls : List (Int × Int)) (o : List Int) (round : Bool) : Bool := (List.range o.length).all (chRow ls o round)

theorem all_range_false {p : Nat → Bool} {m k : Nat} (hk : k < m) (h : p k = false) : (List.range m).all p = false := by
  rw [List.all_eq_false]; exact ⟨k, List.mem_range.2 hk, by simp [h]⟩
theorem all_range_true {p : Nat → Bool} {m : Nat} (h : ∀ k, k < m → p k = true) : (List.range m).all p = true := by
  rw [List.all_eq_true]; exact fun k hk => h k (List.mem_range.1 hk)

theorem ok81 : okFn Try.prog 81 = true := by kernel_rfl
set_option maxRecDepth 20000 in
theorem s81 (n : Int) (ls : List (Int × Int)) (o : List Int) (round : Bool) (hls : ls.length ≤ 1000000) (ho : o.length ≤ 1000000) : ASpec Try.prog 81 [trapA n ls, .s 1 (intsA o), B round] (fun r Ms => r = B (chR ls o round) ∧ Ms = []) := by
  refine aspec_of (own := []) Try.func81 rfl ok81 ?_
  simp only [w_move, w_assign, w_box, w_len, w_aop, w_some, w_asome, w_anone, w_nil, w_cons, awp, asN, lenA, St.ev, St.step, setS, killS, AV.kill, AV.killL, Mem.kill, AV.cellular, AV.pure, AV.pureL, ACond_false, List.getD_cons_succ, List.getD_cons_zero, List.set_cons_succ, List.set_cons_zero, List.length_cons, List.length_nil, List.replicate_succ, List.replicate_zero, List.cons_append, List.nil_append, List.contains_nil, List.isEmpty_nil, Option.getD_some, Bool.false_eq_true, if_false, if_true, true_and, and_true, Bool.and_true, Bool.true_and, Option.isSome_some, Nat.zero_add, Nat.add_zero, Nat.reduceAdd, Nat.reduceSub, Int.reduceAdd, Int.reduceSub, ti25, Try.ntmps81, trapA, intsA_len]
  refine swp_loop' (fun i : Nat => ⟨[.bot, .s 1 (intsA o), B round, .p (.g [I n, .s 2 (prsA ls)]) 0, .bot, .bot, .bot, I o.length, I i, .bot, .bot, .bot, .bot, .bot, .bot, .bot, .bot, .bot, .bot, .bot, .bot, .bot, .bot, .bot, .bot, .bot, .bot, .bot, .bot, .bot, .bot, .bot, .bot, .bot, .bot, .bot, .bot, .bot, .bot, .bot, .bot, .bot, .bot, .bot, .bot, .bot, .bot, .bot, .bot, .bot, .bot, .bot], []⟩) (fun i => i ≤ o.length ∧ ∀ j, j < i → chRow ls o round j = true) (fun i => o.length - i) 0 (le_sl (by simp [leSl])) ⟨Nat.zero_le _, by omega⟩ ?_
  rintro i ⟨hi, hall⟩
  refine awp_sound (own := []) _ _ _ _ _ ?_
  simp only [w_move, w_binOp, w_aop, w_some, w_asome, w_nil, w_cons, awp, binC, cmpC, asB, asI, St.ev, St.step, setS, killS, AV.kill, AV.killL, Mem.kill, ACond_false, List.getD_cons_succ, List.getD_cons_zero, List.set_cons_succ, List.set_cons_zero, List.contains_nil, List.isEmpty_nil, if_true, true_and, Bool.true_and, Nat.reduceAdd, Int.reduceAdd]
  by_cases h : i < o.length
  case neg =>
    have h' : ¬ (i : Int) < (o.length : Int) := by omega
    simp only [w_assign, w_aop, w_anone, w_nil, w_cons, awp, asN, St.ev, St.step, setS, killS, AV.kill, AV.killL, Mem.kill, ACond_false, List.set_cons_succ, List.set_cons_zero, List.contains_nil, List.isEmpty_nil, Option.getD_some, Bool.false_eq_true, if_false, if_true, Nat.reduceAdd, Int.reduceAdd, decide_eq_false h']
    refine aend_frz rfl ⟨?_, rfl⟩
    rw [chR, all_range_true fun k hk => hall k (by omega)]; rfl
  have h' : (i : Int) < (o.length : Int) := by omega
  simp only [w_assign, w_aop, w_anone, w_nil, w_cons, awp, asN, St.ev, St.step, setS, killS, AV.kill, AV.killL, Mem.kill, ACond_true, ACond_false, List.set_cons_succ, List.set_cons_zero, List.contains_nil, List.isEmpty_nil, Option.getD_some, Bool.false_eq_true, if_false, if_true, Nat.reduceAdd, Int.reduceAdd, decide_eq_true h']
  refine swp_loop' (fun k : Nat => ⟨[.bot, .s 1 (intsA o), B round, .p (.g [I n, .s 2 (prsA ls)]) 0, .bot, .bot, .bot, I o.length, I i, I k, .bot, .bot, .bot, .bot, .bot, .bot, .bot, .bot, .bot, .bot, .bot, .bot, .bot, .bot, .bot, .bot, .bot, .bot, .bot, .bot, .bot, .bot, .bot, .bot, .bot, .bot, .bot, .bot, .bot, .bot, .bot, .bot, .bot, .bot, .bot, .bot, .bot, .bot, .bot, .bot, .bot, .bot], []⟩) (fun k => k ≤ i ∧ ∀ j, j < k → (lnk ls (o.getD j 0) (o.getD i 0) == nbr o.length round j i) = true) (fun k => i - k) 0 (le_sl (by simp [leSl])) ⟨Nat.zero_le _, by omega⟩ ?_
  rintro k ⟨hk, hrow⟩
  refine awp_sound (own := []) _ _ _ _ _ ?_
  simp only [w_move, w_binOp, w_aop, w_some, w_asome, w_nil, w_cons, awp, binC, cmpC, asB, asI, St.ev, St.step, setS, killS, AV.kill, AV.killL, Mem.kill, ACond_false, List.getD_cons_succ, List.getD_cons_zero, List.set_cons_succ, List.set_cons_zero, List.contains_nil, List.isEmpty_nil, if_true, true_and, Bool.true_and, Nat.reduceAdd, Int.reduceAdd]
  by_cases h2 : k < i
  case neg =>
    have h2' : ¬ (k : Int) < (i : Int) := by omega
    simp only [w_move, w_assign, w_binOp, w_aop, w_some, w_asome, w_anone, w_nil, w_cons, awp, binC, arithC, cmpC, asI, asN, St.ev, St.step, setS, killS, AV.kill, AV.killL, Mem.kill, ACond_false, List.getD_cons_succ, List.getD_cons_zero, List.set_cons_succ, List.set_cons_zero, List.contains_nil, List.isEmpty_nil, Option.getD_some, Bool.false_eq_true, if_false, if_true, true_and, and_true, Bool.and_true, Bool.true_and, Nat.reduceAdd, Nat.reduceEqDiff, Int.reduceAdd, decide_eq_false h2']
    refine ⟨by unfold lim; omega, i + 1, le_sl (by simp [leSl]), ⟨by omega, upto' hall fun _ => ?_⟩, by omega⟩
    exact all_range_true fun j hj => hrow j (by omega)
  have h2' : (k : Int) < (i : Int) := by omega
  have hko : k < o.length := by omega
  have hgk : o.getD k 0 = o[k] := by rw [List.getD_eq_getElem?_getD, List.getElem?_eq_getElem hko]; rfl
  have hgi : o.getD i 0 = o[i] := by rw [List.getD_eq_getElem?_getD, List.getElem?_eq_getElem h]; rfl
  have hlim : lim ((i : Int) - 1) := by unfold lim; omega
  have hlim2 : lim ((o.length : Int) - 1) := by unfold lim; omega
  have hcs : ((k : Int) = (i : Int) - 1 ∧ nbr o.length round k i = true) ∨ (¬ (k : Int) = (i : Int) - 1 ∧ round = false ∧ nbr o.length round k i = false) ∨ (¬ (k : Int) = (i : Int) - 1 ∧ round = true ∧ (k : Int) = 0 ∧ (i : Int) = (o.length : Int) - 1 ∧ nbr o.length round k i = true) ∨
      (¬ (k : Int) = (i : Int) - 1 ∧ round = true ∧ (k : Int) = 0 ∧ ¬ (i : Int) = (o.length : Int) - 1 ∧ nbr o.length round k i = false) ∨ (¬ (k : Int) = (i : Int) - 1 ∧ round = true ∧ ¬ (k : Int) = 0 ∧ nbr o.length round k i = false) := by
    by_cases h1 : (k : Int) = (i : Int) - 1
    · exact .inl ⟨h1, by simp [nbr, h1]⟩
    cases round with
    | false => exact .inr (.inl ⟨h1, rfl, by simp [nbr, h1]⟩)
    | true =>
      by_cases h3 : (k : Int) = 0
      · by_cases h4 : (i : Int) = (o.length : Int) - 1
        · exact .inr (.inr (.inl ⟨h1, rfl, h3, h4, by simp [nbr, h1, h3, h4]⟩))
        · exact .inr (.inr (.inr (.inl ⟨h1, rfl, h3, h4, by simp only [nbr, decide_eq_false h1, decide_eq_false h4, Bool.and_false, Bool.or_false]⟩)))
      · exact .inr (.inr (.inr (.inr ⟨h1, rfl, h3, by simp only [nbr, decide_eq_false h1, decide_eq_false h3, Bool.and_false, Bool.false_and, Bool.or_false]⟩)))
  rcases hcs with ⟨c1, hnb⟩ | ⟨c1, rfl, hnb⟩ | ⟨c1, rfl, c3, c4, hnb⟩ | ⟨c1, rfl, c3, c4, hnb⟩ | ⟨c1, rfl, c3, hnb⟩
  · simp only [w_move, w_assign, w_pick, w_binOp, w_aop, w_aopg, w_gdb, w_gdu, w_some, w_asome, w_anone, w_nil, w_cons, awp, binC, arithC, cmpC, asB, asI, asN, St.ev, St.step, setS, killS, AV.kill, AV.killL, Mem.kill, ACond_true, ACond_false, List.getD_cons_succ, List.getD_cons_zero, List.set_cons_succ, List.set_cons_zero, List.getElem?_cons_succ, List.getElem?_cons_zero, List.contains_nil, List.isEmpty_nil, Option.getD_some, Bool.false_eq_true, if_false, if_true, true_and, and_true, Bool.and_true, Bool.true_and, Bool.not_true, Nat.reduceAdd, Int.reduceAdd, Option.bind_some, w_bf, decide_eq_true h2', decide_eq_true c1]
    refine ⟨hlim, ?_⟩
    refine swp_draw (own := []) (.take 0 .reads [] (.take 1 .plain [] (.take 2 .plain [] (.take 3 .reads [] (.take 4 .reads [] (.take 5 .plain [] (.take 6 .plain [] (.take 7 .reads [] (.take 8 .reads [] (.take 10 .plain [] (.alt 9 (.take 11 .plain [] (.done)) (.nil)))))))))))) [⟨41, 8, 0, 0, true⟩, ⟨42, 2, 0, 0, true⟩, ⟨43, 512, 0, 0, true⟩, ⟨44, 6597069766656, 6, 0, true⟩, ⟨45, 8796093022208, 8, 0, true⟩, ⟨46, 2, 0, 0, true⟩, ⟨47, 256, 0, 0, true⟩, ⟨48, 105553116266496, 96, 0, true⟩, ⟨49, 140737488355328, 128, 0, true⟩, ⟨50, 300166674382848, 273, 0, false⟩, ⟨51, 1024, 0, 0, true⟩, ⟨52, 1688849860263936, 1536, 0, true⟩] mo (by kernel_rfl) ?_
    simp only [w_move, w_load, w_indexAddr, w_callF, w_aop, w_take, w_some, w_asome, idxC, asP, asS, asI, loadA, St.ev, setS, AV.cells, AV.flat, AV.single, List.getD_cons_succ, List.getD_cons_zero, List.set_cons_succ, List.set_cons_zero, List.getElem?_cons_succ, List.getElem?_cons_zero, List.length_cons, List.length_nil, Bool.false_eq_true, if_false, if_true, true_and, and_true, List.all_cons, List.all_nil, Bool.and_true, Bool.true_and, Bool.not_true, Nat.zero_add, beq_self_eq_true, List.map_cons, List.map_nil, decide_true, Nat.reduceAdd, Nat.reduceLeDiff, Int.reduceAdd, ASch, St.put, Md.mem, Md.need, ti3, ti24, ti25, aget_ints hko, aget_ints h, Int.toNat_natCast]
    refine ⟨by omega, by omega, acall_v (s73 n ls _ _ hls) rfl rfl ?_⟩
    cases hl : lnk ls o[k] o[i] with
    | true =>
      simp only [w_move, w_assign, w_binOp, w_aop, w_take, w_some, w_asome, w_anone, w_nil, w_cons, awp, binC, arithC, cmpC, eqC, asB, asI, asN, St.ev, St.step, setS, killS, AV.kill, AV.killL, Mem.kill, ACond_false, List.getD_cons_succ, List.getD_cons_zero, List.set_cons_succ, List.set_cons_zero, List.getElem?_cons_succ, List.getElem?_cons_zero, List.contains_nil, List.isEmpty_nil, Option.getD_some, Bool.false_eq_true, if_false, if_true, true_and, and_true, Bool.and_true, Bool.true_and, Bool.not_true, beq_self_eq_true, Nat.reduceAdd, Int.reduceAdd, ASch, St.put, Md.mem, Md.need, ti4]
      refine ⟨by unfold lim; omega, k + 1, le_sl (by simp [leSl]), ⟨by omega, upto' hrow fun _ => ?_⟩, by omega⟩
      rw [hgk, hgi, hl, hnb]; rfl
    | false =>
      simp only [w_assign, w_binOp, w_aop, w_take, w_some, w_asome, w_anone, w_nil, w_cons, awp, binC, eqC, asB, asI, asN, St.ev, St.step, setS, killS, AV.kill, AV.killL, Mem.kill, ACond_true, ACond_false, List.getD_cons_succ, List.getD_cons_zero, List.set_cons_succ, List.set_cons_zero, List.getElem?_cons_succ, List.getElem?_cons_zero, List.contains_nil, List.isEmpty_nil, Option.getD_some, Bool.false_eq_true, if_false, if_true, true_and, Bool.true_and, Bool.not_false, Nat.reduceAdd, Int.reduceAdd, ASch, St.put, Md.mem, Md.need, w_bt, ti4]
      refine aend_frz rfl ⟨?_, rfl⟩
      have hf := all_range_false (p := fun k => lnk ls (o.getD k 0) (o.getD i 0) == nbr o.length _ k i) h2 (by rw [hgk, hgi, hl, hnb]; rfl)
      rw [chR, all_range_false (p := chRow ls o _) h hf]; rfl
  · simp only [w_move, w_assign, w_pick, w_binOp, w_aop, w_aopg, w_gdb, w_some, w_asome, w_anone, w_nil, w_cons, awp, binC, arithC, cmpC, asB, asI, asN, St.ev, St.step, setS, killS, AV.kill, AV.killL, Mem.kill, ACond_true, ACond_false, List.getD_cons_succ, List.getD_cons_zero, List.set_cons_succ, List.set_cons_zero, List.getElem?_cons_succ, List.getElem?_cons_zero, List.contains_nil, List.isEmpty_nil, Option.getD_some, Bool.false_eq_true, if_false, if_true, true_and, and_true, Bool.and_true, Bool.true_and, beq_self_eq_true, Nat.reduceAdd, Int.reduceAdd, Option.bind_some, w_bt, decide_eq_true h2', decide_eq_false c1]
    refine ⟨hlim, ?_⟩
    refine swp_draw (own := []) (.take 0 .reads [] (.take 1 .plain [] (.take 2 .plain [] (.take 3 .reads [] (.take 4 .reads [] (.take 5 .plain [] (.take 6 .plain [] (.take 7 .reads [] (.take 8 .reads [] (.take 10 .plain [] (.alt 9 (.take 11 .plain [] (.done)) (.nil)))))))))))) [⟨41, 8, 0, 0, true⟩, ⟨42, 2, 0, 0, true⟩, ⟨43, 512, 0, 0, true⟩, ⟨44, 6597069766656, 6, 0, true⟩, ⟨45, 8796093022208, 8, 0, true⟩, ⟨46, 2, 0, 0, true⟩, ⟨47, 256, 0, 0, true⟩, ⟨48, 105553116266496, 96, 0, true⟩, ⟨49, 140737488355328, 128, 0, true⟩, ⟨50, 300166674382848, 273, 0, false⟩, ⟨51, 1024, 0, 0, true⟩, ⟨52, 1688849860263936, 1536, 0, true⟩] mo (by kernel_rfl) ?_
    simp only [w_move, w_load, w_indexAddr, w_callF, w_aop, w_take, w_some, w_asome, idxC, asP, asS, asI, loadA, St.ev, setS, AV.cells, AV.flat, AV.single, List.getD_cons_succ, List.getD_cons_zero, List.set_cons_succ, List.set_cons_zero, List.getElem?_cons_succ, List.getElem?_cons_zero, List.length_cons, List.length_nil, Bool.false_eq_true, if_false, if_true, true_and, and_true, List.all_cons, List.all_nil, Bool.and_true, Bool.true_and, Bool.not_true, Nat.zero_add, beq_self_eq_true, List.map_cons, List.map_nil, decide_true, Nat.reduceAdd, Nat.reduceLeDiff, Int.reduceAdd, ASch, St.put, Md.mem, Md.need, ti3, ti24, ti25, aget_ints hko, aget_ints h, Int.toNat_natCast]
    refine ⟨by omega, by omega, acall_v (s73 n ls _ _ hls) rfl rfl ?_⟩
    cases hl : lnk ls o[k] o[i] with
    | false =>
      simp only [w_move, w_assign, w_binOp, w_aop, w_take, w_some, w_asome, w_anone, w_nil, w_cons, awp, binC, arithC, cmpC, eqC, asB, asI, asN, St.ev, St.step, setS, killS, AV.kill, AV.killL, Mem.kill, ACond_false, List.getD_cons_succ, List.getD_cons_zero, List.set_cons_succ, List.set_cons_zero, List.getElem?_cons_succ, List.getElem?_cons_zero, List.contains_nil, List.isEmpty_nil, Option.getD_some, Bool.false_eq_true, if_false, if_true, true_and, and_true, Bool.and_true, Bool.true_and, Bool.not_true, beq_self_eq_true, Nat.reduceAdd, Int.reduceAdd, ASch, St.put, Md.mem, Md.need, ti4]
      refine ⟨by unfold lim; omega, k + 1, le_sl (by simp [leSl]), ⟨by omega, upto' hrow fun _ => ?_⟩, by omega⟩
      rw [hgk, hgi, hl, hnb]; rfl
    | true =>
      simp only [w_assign, w_binOp, w_aop, w_take, w_some, w_asome, w_anone, w_nil, w_cons, awp, binC, eqC, asB, asI, asN, St.ev, St.step, setS, killS, AV.kill, AV.killL, Mem.kill, ACond_true, ACond_false, List.getD_cons_succ, List.getD_cons_zero, List.set_cons_succ, List.set_cons_zero, List.getElem?_cons_succ, List.getElem?_cons_zero, List.contains_nil, List.isEmpty_nil, Option.getD_some, Bool.false_eq_true, if_false, if_true, true_and, Bool.true_and, Bool.not_true, Bool.not_false, Nat.reduceAdd, Int.reduceAdd, ASch, St.put, Md.mem, Md.need, w_bf, ti4]
      refine aend_frz rfl ⟨?_, rfl⟩
      have hf := all_range_false (p := fun k => lnk ls (o.getD k 0) (o.getD i 0) == nbr o.length _ k i) h2 (by rw [hgk, hgi, hl, hnb]; rfl)
      rw [chR, all_range_false (p := chRow ls o _) h hf]; rfl
  · simp only [w_move, w_assign, w_pick, w_binOp, w_aop, w_aopg, w_gdb, w_some, w_asome, w_anone, w_nil, w_cons, awp, binC, arithC, cmpC, asB, asI, asN, St.ev, St.step, setS, killS, AV.kill, AV.killL, Mem.kill, ACond_true, ACond_false, List.getD_cons_succ, List.getD_cons_zero, List.set_cons_succ, List.set_cons_zero, List.getElem?_cons_succ, List.getElem?_cons_zero, List.contains_nil, List.isEmpty_nil, Option.getD_some, Bool.false_eq_true, if_false, if_true, true_and, and_true, Bool.and_true, Bool.true_and, beq_self_eq_true, Nat.reduceAdd, Int.reduceAdd, Option.bind_some, decide_eq_true h2', decide_eq_false c1, decide_eq_true c3, decide_eq_true c4]
    refine ⟨hlim, hlim2, ?_⟩
    refine swp_draw (own := []) (.take 0 .reads [] (.take 1 .plain [] (.take 2 .plain [] (.take 3 .reads [] (.take 4 .reads [] (.take 5 .plain [] (.take 6 .plain [] (.take 7 .reads [] (.take 8 .reads [] (.take 10 .plain [] (.alt 9 (.take 11 .plain [] (.done)) (.nil)))))))))))) [⟨41, 8, 0, 0, true⟩, ⟨42, 2, 0, 0, true⟩, ⟨43, 512, 0, 0, true⟩, ⟨44, 6597069766656, 6, 0, true⟩, ⟨45, 8796093022208, 8, 0, true⟩, ⟨46, 2, 0, 0, true⟩, ⟨47, 256, 0, 0, true⟩, ⟨48, 105553116266496, 96, 0, true⟩, ⟨49, 140737488355328, 128, 0, true⟩, ⟨50, 300166674382848, 273, 0, false⟩, ⟨51, 1024, 0, 0, true⟩, ⟨52, 1688849860263936, 1536, 0, true⟩] mo (by kernel_rfl) ?_
    simp only [w_move, w_load, w_indexAddr, w_callF, w_aop, w_take, w_some, w_asome, idxC, asP, asS, asI, loadA, St.ev, setS, AV.cells, AV.flat, AV.single, List.getD_cons_succ, List.getD_cons_zero, List.set_cons_succ, List.set_cons_zero, List.getElem?_cons_succ, List.getElem?_cons_zero, List.length_cons, List.length_nil, Bool.false_eq_true, if_false, if_true, true_and, and_true, List.all_cons, List.all_nil, Bool.and_true, Bool.true_and, Bool.not_true, Nat.zero_add, beq_self_eq_true, List.map_cons, List.map_nil, decide_true, Nat.reduceAdd, Nat.reduceLeDiff, Int.reduceAdd, ASch, St.put, Md.mem, Md.need, ti3, ti24, ti25, aget_ints hko, aget_ints h, Int.toNat_natCast]
    refine ⟨by omega, by omega, acall_v (s73 n ls _ _ hls) rfl rfl ?_⟩
    cases hl : lnk ls o[k] o[i] with
    | true =>
      simp only [w_move, w_assign, w_binOp, w_aop, w_take, w_some, w_asome, w_anone, w_nil, w_cons, awp, binC, arithC, cmpC, eqC, asB, asI, asN, St.ev, St.step, setS, killS, AV.kill, AV.killL, Mem.kill, ACond_false, List.getD_cons_succ, List.getD_cons_zero, List.set_cons_succ, List.set_cons_zero, List.getElem?_cons_succ, List.getElem?_cons_zero, List.contains_nil, List.isEmpty_nil, Option.getD_some, Bool.false_eq_true, if_false, if_true, true_and, and_true, Bool.and_true, Bool.true_and, Bool.not_true, beq_self_eq_true, Nat.reduceAdd, Int.reduceAdd, ASch, St.put, Md.mem, Md.need, ti4]
      refine ⟨by unfold lim; omega, k + 1, le_sl (by simp [leSl]), ⟨by omega, upto' hrow fun _ => ?_⟩, by omega⟩
      rw [hgk, hgi, hl, hnb]; rfl
    | false =>
      simp only [w_assign, w_binOp, w_aop, w_take, w_some, w_asome, w_anone, w_nil, w_cons, awp, binC, eqC, asB, asI, asN, St.ev, St.step, setS, killS, AV.kill, AV.killL, Mem.kill, ACond_true, ACond_false, List.getD_cons_succ, List.getD_cons_zero, List.set_cons_succ, List.set_cons_zero, List.getElem?_cons_succ, List.getElem?_cons_zero, List.contains_nil, List.isEmpty_nil, Option.getD_some, Bool.false_eq_true, if_false, if_true, true_and, Bool.true_and, Bool.not_false, Nat.reduceAdd, Int.reduceAdd, ASch, St.put, Md.mem, Md.need, w_bt, ti4]
      refine aend_frz rfl ⟨?_, rfl⟩
      have hf := all_range_false (p := fun k => lnk ls (o.getD k 0) (o.getD i 0) == nbr o.length _ k i) h2 (by rw [hgk, hgi, hl, hnb]; rfl)
      rw [chR, all_range_false (p := chRow ls o _) h hf]; rfl
  · simp only [w_move, w_assign, w_pick, w_binOp, w_aop, w_aopg, w_gdb, w_some, w_asome, w_anone, w_nil, w_cons, awp, binC, arithC, cmpC, asB, asI, asN, St.ev, St.step, setS, killS, AV.kill, AV.killL, Mem.kill, ACond_true, ACond_false, List.getD_cons_succ, List.getD_cons_zero, List.set_cons_succ, List.set_cons_zero, List.getElem?_cons_succ, List.getElem?_cons_zero, List.contains_nil, List.isEmpty_nil, Option.getD_some, Bool.false_eq_true, if_false, if_true, true_and, and_true, Bool.and_true, Bool.true_and, beq_self_eq_true, Nat.reduceAdd, Int.reduceAdd, Option.bind_some, decide_eq_true h2', decide_eq_false c1, decide_eq_true c3, decide_eq_false c4]
    refine ⟨hlim, hlim2, ?_⟩
    refine swp_draw (own := []) (.take 0 .reads [] (.take 1 .plain [] (.take 2 .plain [] (.take 3 .reads [] (.take 4 .reads [] (.take 5 .plain [] (.take 6 .plain [] (.take 7 .reads [] (.take 8 .reads [] (.take 10 .plain [] (.alt 9 (.take 11 .plain [] (.done)) (.nil)))))))))))) [⟨41, 8, 0, 0, true⟩, ⟨42, 2, 0, 0, true⟩, ⟨43, 512, 0, 0, true⟩, ⟨44, 6597069766656, 6, 0, true⟩, ⟨45, 8796093022208, 8, 0, true⟩, ⟨46, 2, 0, 0, true⟩, ⟨47, 256, 0, 0, true⟩, ⟨48, 105553116266496, 96, 0, true⟩, ⟨49, 140737488355328, 128, 0, true⟩, ⟨50, 300166674382848, 273, 0, false⟩, ⟨51, 1024, 0, 0, true⟩, ⟨52, 1688849860263936, 1536, 0, true⟩] mo (by kernel_rfl) ?_
    simp only [w_move, w_load, w_indexAddr, w_callF, w_aop, w_take, w_some, w_asome, idxC, asP, asS, asI, loadA, St.ev, setS, AV.cells, AV.flat, AV.single, List.getD_cons_succ, List.getD_cons_zero, List.set_cons_succ, List.set_cons_zero, List.getElem?_cons_succ, List.getElem?_cons_zero, List.length_cons, List.length_nil, Bool.false_eq_true, if_false, if_true, true_and, and_true, List.all_cons, List.all_nil, Bool.and_true, Bool.true_and, Bool.not_true, Nat.zero_add, beq_self_eq_true, List.map_cons, List.map_nil, decide_true, Nat.reduceAdd, Nat.reduceLeDiff, Int.reduceAdd, ASch, St.put, Md.mem, Md.need, ti3, ti24, ti25, aget_ints hko, aget_ints h, Int.toNat_natCast]
    refine ⟨by omega, by omega, acall_v (s73 n ls _ _ hls) rfl rfl ?_⟩
    cases hl : lnk ls o[k] o[i] with
    | false =>
      simp only [w_move, w_assign, w_binOp, w_aop, w_take, w_some, w_asome, w_anone, w_nil, w_cons, awp, binC, arithC, cmpC, eqC, asB, asI, asN, St.ev, St.step, setS, killS, AV.kill, AV.killL, Mem.kill, ACond_false, List.getD_cons_succ, List.getD_cons_zero, List.set_cons_succ, List.set_cons_zero, List.getElem?_cons_succ, List.getElem?_cons_zero, List.contains_nil, List.isEmpty_nil, Option.getD_some, Bool.false_eq_true, if_false, if_true, true_and, and_true, Bool.and_true, Bool.true_and, Bool.not_true, beq_self_eq_true, Nat.reduceAdd, Int.reduceAdd, ASch, St.put, Md.mem, Md.need, ti4]
      refine ⟨by unfold lim; omega, k + 1, le_sl (by simp [leSl]), ⟨by omega, upto' hrow fun _ => ?_⟩, by omega⟩
      rw [hgk, hgi, hl, hnb]; rfl
    | true =>
      simp only [w_assign, w_binOp, w_aop, w_take, w_some, w_asome, w_anone, w_nil, w_cons, awp, binC, eqC, asB, asI, asN, St.ev, St.step, setS, killS, AV.kill, AV.killL, Mem.kill, ACond_true, ACond_false, List.getD_cons_succ, List.getD_cons_zero, List.set_cons_succ, List.set_cons_zero, List.getElem?_cons_succ, List.getElem?_cons_zero, List.contains_nil, List.isEmpty_nil, Option.getD_some, Bool.false_eq_true, if_false, if_true, true_and, Bool.true_and, Bool.not_true, Bool.not_false, Nat.reduceAdd, Int.reduceAdd, ASch, St.put, Md.mem, Md.need, w_bf, ti4]
      refine aend_frz rfl ⟨?_, rfl⟩
      have hf := all_range_false (p := fun k => lnk ls (o.getD k 0) (o.getD i 0) == nbr o.length _ k i) h2 (by rw [hgk, hgi, hl, hnb]; rfl)
      rw [chR, all_range_false (p := chRow ls o _) h hf]; rfl
  · simp only [w_move, w_assign, w_pick, w_binOp, w_aop, w_aopg, w_gdb, w_some, w_asome, w_anone, w_nil, w_cons, awp, binC, arithC, cmpC, asB, asI, asN, St.ev, St.step, setS, killS, AV.kill, AV.killL, Mem.kill, ACond_true, ACond_false, List.getD_cons_succ, List.getD_cons_zero, List.set_cons_succ, List.set_cons_zero, List.getElem?_cons_succ, List.getElem?_cons_zero, List.contains_nil, List.isEmpty_nil, Option.getD_some, Bool.false_eq_true, if_false, if_true, true_and, and_true, Bool.and_true, Bool.true_and, beq_self_eq_true, Nat.reduceAdd, Int.reduceAdd, Option.bind_some, w_bt, decide_eq_true h2', decide_eq_false c1, decide_eq_false c3]
    refine ⟨hlim, ?_⟩
    refine swp_draw (own := []) (.take 0 .reads [] (.take 1 .plain [] (.take 2 .plain [] (.take 3 .reads [] (.take 4 .reads [] (.take 5 .plain [] (.take 6 .plain [] (.take 7 .reads [] (.take 8 .reads [] (.take 10 .plain [] (.alt 9 (.take 11 .plain [] (.done)) (.nil)))))))))))) [⟨41, 8, 0, 0, true⟩, ⟨42, 2, 0, 0, true⟩, ⟨43, 512, 0, 0, true⟩, ⟨44, 6597069766656, 6, 0, true⟩, ⟨45, 8796093022208, 8, 0, true⟩, ⟨46, 2, 0, 0, true⟩, ⟨47, 256, 0, 0, true⟩, ⟨48, 105553116266496, 96, 0, true⟩, ⟨49, 140737488355328, 128, 0, true⟩, ⟨50, 300166674382848, 273, 0, false⟩, ⟨51, 1024, 0, 0, true⟩, ⟨52, 1688849860263936, 1536, 0, true⟩] mo (by kernel_rfl) ?_
    simp only [w_move, w_load, w_indexAddr, w_callF, w_aop, w_take, w_some, w_asome, idxC, asP, asS, asI, loadA, St.ev, setS, AV.cells, AV.flat, AV.single, List.getD_cons_succ, List.getD_cons_zero, List.set_cons_succ, List.set_cons_zero, List.getElem?_cons_succ, List.getElem?_cons_zero, List.length_cons, List.length_nil, Bool.false_eq_true, if_false, if_true, true_and, and_true, List.all_cons, List.all_nil, Bool.and_true, Bool.true_and, Bool.not_true, Nat.zero_add, beq_self_eq_true, List.map_cons, List.map_nil, decide_true, Nat.reduceAdd, Nat.reduceLeDiff, Int.reduceAdd, ASch, St.put, Md.mem, Md.need, ti3, ti24, ti25, aget_ints hko, aget_ints h, Int.toNat_natCast]
    refine ⟨by omega, by omega, acall_v (s73 n ls _ _ hls) rfl rfl ?_⟩
    cases hl : lnk ls o[k] o[i] with
    | false =>
      simp only [w_move, w_assign, w_binOp, w_aop, w_take, w_some, w_asome, w_anone, w_nil, w_cons, awp, binC, arithC, cmpC, eqC, asB, asI, asN, St.ev, St.step, setS, killS, AV.kill, AV.killL, Mem.kill, ACond_false, List.getD_cons_succ, List.getD_cons_zero, List.set_cons_succ, List.set_cons_zero, List.getElem?_cons_succ, List.getElem?_cons_zero, List.contains_nil, List.isEmpty_nil, Option.getD_some, Bool.false_eq_true, if_false, if_true, true_and, and_true, Bool.and_true, Bool.true_and, Bool.not_true, beq_self_eq_true, Nat.reduceAdd, Int.reduceAdd, ASch, St.put, Md.mem, Md.need, ti4]
      refine ⟨by unfold lim; omega, k + 1, le_sl (by simp [leSl]), ⟨by omega, upto' hrow fun _ => ?_⟩, by omega⟩
      rw [hgk, hgi, hl, hnb]; rfl
    | true =>
      simp only [w_assign, w_binOp, w_aop, w_take, w_some, w_asome, w_anone, w_nil, w_cons, awp, binC, eqC, asB, asI, asN, St.ev, St.step, setS, killS, AV.kill, AV.killL, Mem.kill, ACond_true, ACond_false, List.getD_cons_succ, List.getD_cons_zero, List.set_cons_succ, List.set_cons_zero, List.getElem?_cons_succ, List.getElem?_cons_zero, List.contains_nil, List.isEmpty_nil, Option.getD_some, Bool.false_eq_true, if_false, if_true, true_and, Bool.true_and, Bool.not_true, Bool.not_false, Nat.reduceAdd, Int.reduceAdd, ASch, St.put, Md.mem, Md.need, w_bf, ti4]
      refine aend_frz rfl ⟨?_, rfl⟩
      have hf := all_range_false (p := fun k => lnk ls (o.getD k 0) (o.getD i 0) == nbr o.length _ k i) h2 (by rw [hgk, hgi, hl, hnb]; rfl)
      rw [chR, all_range_false (p := chRow ls o _) h hf]; rfl

def lineR (n : Int) (ls : List (Int × Int)) : List Int × Bool := match (ordF n.toNat (upL n.toNat fun _ => true)).find? (fun o => chR ls o false) with | some o => (o, true) | none => ([], false)
theorem find_at {α : Type} {l : List α} {p : α → Bool} {i : Nat} (h : i < l.length) (hp : p l[i] = true) (hno : ∀ j, j < i → ∀ h : j < l.length, p l[j] = false) : l.find? p = some l[i] := by
  rw [List.find?_eq_some_iff_getElem]
  exact ⟨hp, i, h, rfl, fun j hj => by rw [hno j hj (by omega)]; rfl⟩
theorem find_no {α : Type} {l : List α} {p : α → Bool} (hno : ∀ j, ∀ h : j < l.length, p l[j] = false) : l.find? p = none := by
  rw [List.find?_eq_none]
  intro x hx
  obtain ⟨j, hj, rfl⟩ := List.mem_iff_getElem.1 hx
  simp [hno j hj]

theorem ok49 : okFn Try.prog 49 = true := by kernel_rfl
set_option maxRecDepth 20000 in
theorem s49 (n : Int) (ls : List (Int × Int)) (hls : ls.length ≤ 1000000) : ASpec Try.prog 49 [trapA n ls] (fun r Ms => r = (if vT n ls ≠ 0 then .t [.s 1 [], B false, I (vT n ls)] else .t [.s 1 (intsA (lineR n ls).1), B (lineR n ls).2, I 0]) ∧ Ms = []) := by
  refine aspec_of (own := [2]) Try.func49 rfl ok49 ?_
  simp only [w_assign, w_box, w_load, w_callF, w_aop, w_some, w_asome, w_anone, w_nil, w_cons, awp, asP, asN, loadA, Aw.newRow, St.ev, St.step, setS, killS, AV.kill, AV.killL, Mem.kill, AV.cells, AV.flat, AV.single, AV.cellular, AV.pure, AV.pureL, ACond_false, List.getD_cons_succ, List.getD_cons_zero, List.set_cons_succ, List.set_cons_zero, List.getElem?_cons_zero, List.length_cons, List.length_nil, List.replicate_succ, List.replicate_zero, List.cons_append, List.nil_append, List.contains_nil, List.contains_cons, List.isEmpty_nil, Option.getD_some, Bool.false_eq_true, if_false, if_true, true_and, and_true, List.all_cons, List.all_nil, Bool.and_true, Bool.true_and, Bool.not_true, Nat.zero_add, Nat.add_zero, beq_self_eq_true, List.map_cons, List.map_nil, decide_true, nbeq, decide_false, Bool.or_false, Nat.reduceAdd, Nat.reduceEqDiff, Nat.reduceSub, Nat.reduceLeDiff, Int.reduceAdd, Int.reduceSub, ti3, ti24, ti25, Try.ntmps49, trapA]
  refine acall_v (s24 n ls hls) rfl rfl ?_
  by_cases hv : vT n ls = 0
  case neg =>
    simp only [w_move, w_assign, w_binOp, w_aop, w_some, w_asome, w_anone, w_nil, w_cons, awp, binC, cmpC, asB, asI, asN, Aw.newRow, St.ev, St.step, setS, killS, AV.kill, AV.killL, Mem.kill, ACond_true, ACond_false, List.getD_cons_succ, List.getD_cons_zero, List.set_cons_succ, List.set_cons_zero, List.length_cons, List.length_nil, List.cons_append, List.nil_append, List.contains_nil, List.contains_cons, List.isEmpty_nil, Option.getD_some, Bool.false_eq_true, if_false, if_true, true_and, Bool.true_and, Bool.not_false, Nat.zero_add, beq_self_eq_true, nbeq, decide_false, Bool.or_false, Nat.reduceAdd, Nat.reduceEqDiff, Int.reduceAdd, ne_eq, ti3, ti25, decide_eq_false hv]
    exact aend_frz rfl ⟨by rw [if_pos hv]; simp [frz, AV.sub, AV.subL, AV.pureL], rfl⟩
  have hn := vT_le hv
  have hn1 := vT_pos hv
  simp only [w_move, w_assign, w_load, w_fieldAddr, w_binOp, w_callF, w_aop, w_some, w_asome, w_anone, w_nil, w_cons, awp, binC, cmpC, asP, asB, asI, asN, loadA, St.ev, St.step, setS, killS, AV.kill, AV.killL, Mem.kill, AV.cells, AV.flat, AV.single, ACond_false, List.getD_cons_succ, List.getD_cons_zero, List.set_cons_succ, List.set_cons_zero, List.getElem?_cons_zero, List.length_cons, List.length_nil, List.contains_nil, List.contains_cons, List.isEmpty_nil, Option.getD_some, Bool.false_eq_true, if_false, if_true, true_and, and_true, List.all_cons, List.all_nil, Bool.and_true, Bool.true_and, Bool.not_true, Nat.zero_add, Nat.add_zero, beq_self_eq_true, List.map_cons, List.map_nil, decide_true, nbeq, decide_false, Bool.or_false, Bool.and_false, Nat.reduceAdd, Nat.reduceEqDiff, Nat.reduceLeDiff, Int.reduceAdd, ne_eq, not_false_eq_true, ti3, ti24, decide_eq_true hv]
  refine acall_v (s80 n (by omega)) rfl rfl ?_
  simp only [w_callF, w_aop, w_cons, St.ev, St.step, setS, killS, AV.kill, AV.killL, Mem.kill, List.getD_cons_succ, List.getD_cons_zero, List.set_cons_succ, List.set_cons_zero, List.contains_nil, List.isEmpty_nil, Bool.false_eq_true, if_false, if_true, List.map_cons, List.map_nil]
  refine acall_v (s79 n.toNat (upL n.toNat fun _ => true) (upL_all_len _) (by omega)) rfl rfl ?_
  have hol := ordF_len n.toNat (upL n.toNat fun _ => true)
  have hml := ordF_mem_len n.toNat (upL n.toNat fun _ => true)
  have hfl := fct_le (k := n.toNat) (by omega)
  rw [if_neg (by simpa using hv), lineR]
  generalize ordF n.toNat (upL n.toNat fun _ => true) = L at *
  simp only [w_assign, w_aop, w_anone, w_nil, w_cons, awp, asN, St.ev, St.step, setS, killS, AV.kill, AV.killL, Mem.kill, ACond_false, List.getD_cons_succ, List.getD_cons_zero, List.set_cons_succ, List.set_cons_zero, List.contains_nil, List.contains_cons, List.isEmpty_nil, Option.getD_some, Bool.false_eq_true, if_false, if_true, nbeq, decide_false, Bool.or_false, Nat.reduceAdd, Nat.reduceEqDiff, Int.reduceAdd]
  refine swp_loop' (fun i : Nat => ⟨[.bot, .p (.g [I n, .s 2 (prsA ls)]) 0, .bot, .bot, .bot, .bot, .s 1 (rowI L), I i, .bot, .bot, .bot, .bot, .bot, .bot, .bot, .bot, .bot, .bot, .bot, .bot, .bot, .bot, .bot, .bot, .bot, .bot, .bot, .bot, .bot, .bot, .bot, .bot, .bot], [some ⟨none, 3, 1, []⟩]⟩) (fun i => i ≤ L.length ∧ ∀ j, j < i → ∀ h : j < L.length, chR ls L[j] false = false) (fun i => L.length - i) 0 (le_sl (by simp [leSl])) ⟨Nat.zero_le _, by omega⟩ ?_
  rintro i ⟨hi, hno⟩
  refine awp_sound (own := [2]) _ _ _ _ _ ?_
  simp only [w_move, w_binOp, w_len, w_aop, w_some, w_asome, w_nil, w_cons, awp, binC, cmpC, asB, asI, lenA, St.ev, St.step, setS, killS, AV.kill, AV.killL, Mem.kill, ACond_false, List.getD_cons_succ, List.getD_cons_zero, List.set_cons_succ, List.set_cons_zero, List.contains_nil, List.contains_cons, List.isEmpty_nil, if_true, true_and, Bool.true_and, Option.isSome_some, nbeq, decide_false, Bool.or_false, Nat.reduceAdd, Nat.reduceEqDiff, Int.reduceAdd, ti96, rowI_len]
  by_cases h : i < L.length
  case neg =>
    have h' : ¬ (i : Int) < (L.length : Int) := by omega
    simp only [w_assign, w_aop, w_some, w_asome, w_anone, w_nil, w_cons, awp, asN, Aw.newRow, St.ev, St.step, setS, killS, AV.kill, AV.killL, Mem.kill, ACond_false, List.set_cons_succ, List.set_cons_zero, List.length_cons, List.length_nil, List.cons_append, List.nil_append, List.contains_nil, List.contains_cons, List.isEmpty_nil, Option.getD_some, Bool.false_eq_true, if_false, if_true, Nat.zero_add, beq_self_eq_true, nbeq, decide_false, Bool.or_false, Nat.reduceAdd, Nat.reduceEqDiff, Int.reduceAdd, ti3, ti25, decide_eq_false h']
    refine aend_frz rfl ⟨?_, rfl⟩
    rw [find_no fun j hj => hno j (by omega) hj]
    simp [frz, AV.sub, AV.subL, AV.pureL]; rfl
  have h' : (i : Int) < (L.length : Int) := by omega
  have hil := hml L[i] (List.getElem_mem h)
  simp only [awp, ACond_true, decide_eq_true h']
  refine swp_draw (own := [2]) (.take 0 .reads [] (.take 1 .plain [] (.take 2 .plain [] (.take 3 .reads [] (.take 4 .reads [] (.alt 5 (.done) (.nil))))))) [⟨24, 2, 0, 0, true⟩, ⟨25, 64, 0, 0, true⟩, ⟨26, 128, 0, 0, true⟩, ⟨27, 50331648, 6, 0, true⟩, ⟨28, 67108864, 8, 0, true⟩, ⟨29, 142606336, 17, 0, false⟩] mo (by kernel_rfl) ?_
  simp only [w_move, w_load, w_indexAddr, w_callF, w_aop, w_take, w_some, w_asome, idxC, asP, asS, asI, loadA, St.ev, setS, AV.cells, AV.flat, AV.single, List.getD_cons_succ, List.getD_cons_zero, List.set_cons_succ, List.set_cons_zero, List.getElem?_cons_succ, List.getElem?_cons_zero, List.length_cons, List.length_nil, Bool.false_eq_true, if_false, if_true, true_and, and_true, List.all_cons, List.all_nil, Bool.and_true, Bool.true_and, Bool.not_true, Nat.zero_add, beq_self_eq_true, List.map_cons, List.map_nil, decide_true, Nat.reduceAdd, Nat.reduceLeDiff, Int.reduceAdd, ASch, St.put, Md.mem, Md.need, ti24, ti25, ti96, aget_rowI h, Int.toNat_natCast]
  refine ⟨by omega, acall_v (s81 n ls L[i] false hls (by omega)) rfl rfl ?_⟩
  cases hc : chR ls L[i] false with
  | true =>
    simp only [w_move, w_assign, w_load, w_indexAddr, w_aop, w_some, w_asome, w_anone, w_nil, w_cons, awp, idxC, asP, asS, asB, asI, asN, loadA, St.ev, St.step, setS, killS, AV.kill, AV.killL, Mem.kill, AV.cells, AV.flat, AV.single, ACond_true, ACond_false, List.getD_cons_succ, List.getD_cons_zero, List.set_cons_succ, List.set_cons_zero, List.getElem?_cons_zero, List.contains_nil, List.contains_cons, List.isEmpty_nil, Option.getD_some, Bool.false_eq_true, if_false, if_true, true_and, and_true, List.all_cons, List.all_nil, Bool.and_true, Bool.true_and, Bool.not_true, beq_self_eq_true, nbeq, decide_false, Bool.or_false, Nat.reduceAdd, Nat.reduceEqDiff, Int.reduceAdd, ASch, ti25, ti96, aget_rowI h, Int.toNat_natCast]
    refine ⟨by omega, aend_frz rfl ⟨?_, rfl⟩⟩
    rw [find_at h hc hno]
    simp [frz, AV.sub, AV.subL]
  | false =>
    simp only [w_move, w_assign, w_binOp, w_aop, w_some, w_asome, w_anone, w_nil, w_cons, awp, binC, arithC, cmpC, asB, asI, asN, St.ev, St.step, setS, killS, AV.kill, AV.killL, Mem.kill, ACond_false, List.getD_cons_succ, List.getD_cons_zero, List.set_cons_succ, List.set_cons_zero, List.contains_nil, List.contains_cons, List.isEmpty_nil, Option.getD_some, Bool.false_eq_true, if_false, if_true, true_and, and_true, Bool.and_true, Bool.true_and, nbeq, decide_false, Bool.or_false, Nat.reduceAdd, Nat.reduceEqDiff, Int.reduceAdd, ASch]
    refine ⟨by unfold lim; omega, i + 1, le_sl (by simp [leSl]), ⟨by omega, fun j hj hjl => ?_⟩, by omega⟩
    rcases Nat.lt_or_ge j i with h1 | h1
    · exact hno j h1 hjl
    · obtain rfl : j = i := by omega
      exact hc
end Go.Proofs.Ytkolpijhgcijbaa

namespace Go.Proofs.Ytkolpijhgcijbaa
open Aw Go.RowKit
set_option linter.unusedSimpArgs false

def ringR (n : Int) (ls : List (Int × Int)) : List Int × Bool := if n < 3 then ([], false) else match (ordF n.toNat (upL n.toNat fun _ => true)).find? (fun o => decide (o.getD 0 0 = 0) && chR ls o true) with | some o => (o, true) | none => ([], false)

theorem ok51 : okFn Try.prog 51 = true := by kernel_rfl
set_option maxRecDepth 20000 in
theorem s51 (n : Int) (ls : List (Int × Int)) (hls : ls.length ≤ 1000000) : ASpec Try.prog 51 [trapA n ls] (fun r Ms => r = (if vT n ls ≠ 0 then .t [.s 1 [], B false, I (vT n ls)] else .t [.s 1 (intsA (ringR n ls).1), B (ringR n ls).2, I 0]) ∧ Ms = []) := by
  refine aspec_of (own := [2]) Try.func51 rfl ok51 ?_
  simp only [w_assign, w_box, w_load, w_callF, w_aop, w_some, w_asome, w_anone, w_nil, w_cons, awp, asP, asN, loadA, Aw.newRow, St.ev, St.step, setS, killS, AV.kill, AV.killL, Mem.kill, AV.cells, AV.flat, AV.single, AV.cellular, AV.pure, AV.pureL, ACond_false, List.getD_cons_succ, List.getD_cons_zero, List.set_cons_succ, List.set_cons_zero, List.getElem?_cons_zero, List.length_cons, List.length_nil, List.replicate_succ, List.replicate_zero, List.cons_append, List.nil_append, List.contains_nil, List.contains_cons, List.isEmpty_nil, Option.getD_some, Bool.false_eq_true, if_false, if_true, true_and, and_true, List.all_cons, List.all_nil, Bool.and_true, Bool.true_and, Bool.not_true, Nat.zero_add, Nat.add_zero, beq_self_eq_true, List.map_cons, List.map_nil, decide_true, nbeq, decide_false, Bool.or_false, Nat.reduceAdd, Nat.reduceEqDiff, Nat.reduceSub, Nat.reduceLeDiff, Int.reduceAdd, Int.reduceSub, ti3, ti24, ti25, Try.ntmps51, trapA]
  refine acall_v (s24 n ls hls) rfl rfl ?_
  by_cases hv : vT n ls = 0
  case neg =>
    simp only [w_move, w_assign, w_binOp, w_aop, w_some, w_asome, w_anone, w_nil, w_cons, awp, binC, cmpC, asB, asI, asN, Aw.newRow, St.ev, St.step, setS, killS, AV.kill, AV.killL, Mem.kill, ACond_true, ACond_false, List.getD_cons_succ, List.getD_cons_zero, List.set_cons_succ, List.set_cons_zero, List.length_cons, List.length_nil, List.cons_append, List.nil_append, List.contains_nil, List.contains_cons, List.isEmpty_nil, Option.getD_some, Bool.false_eq_true, if_false, if_true, true_and, Bool.true_and, Bool.not_false, Nat.zero_add, beq_self_eq_true, nbeq, decide_false, Bool.or_false, Nat.reduceAdd, Nat.reduceEqDiff, Int.reduceAdd, ne_eq, ti3, ti25, decide_eq_false hv]
    exact aend_frz rfl ⟨by rw [if_pos hv]; simp [frz, AV.sub, AV.subL, AV.pureL], rfl⟩
  have hn := vT_le hv
  have hn1 := vT_pos hv
  rw [if_neg (by simpa using hv), ringR]
  by_cases h3 : n < 3
  · simp only [w_move, w_assign, w_load, w_fieldAddr, w_binOp, w_aop, w_some, w_asome, w_anone, w_nil, w_cons, awp, binC, cmpC, asP, asB, asI, asN, loadA, Aw.newRow, St.ev, St.step, setS, killS, AV.kill, AV.killL, Mem.kill, AV.cells, AV.flat, AV.single, ACond_true, ACond_false, List.getD_cons_succ, List.getD_cons_zero, List.set_cons_succ, List.set_cons_zero, List.getElem?_cons_zero, List.length_cons, List.length_nil, List.cons_append, List.nil_append, List.contains_nil, List.contains_cons, List.isEmpty_nil, Option.getD_some, Bool.false_eq_true, if_false, if_true, true_and, and_true, List.all_cons, List.all_nil, Bool.and_true, Bool.true_and, Bool.not_true, Nat.zero_add, Nat.add_zero, beq_self_eq_true, decide_true, nbeq, decide_false, Bool.or_false, Bool.and_false, Nat.reduceAdd, Nat.reduceEqDiff, Nat.reduceLeDiff, Int.reduceAdd, ne_eq, not_false_eq_true, ti3, ti24, ti25, decide_eq_true hv, decide_eq_true h3]
    refine aend_frz rfl ⟨?_, rfl⟩
    rw [if_pos h3]
    simp [frz, AV.sub, AV.subL, AV.pureL]; rfl
  simp only [w_move, w_assign, w_load, w_fieldAddr, w_binOp, w_callF, w_aop, w_some, w_asome, w_anone, w_nil, w_cons, awp, binC, cmpC, asP, asB, asI, asN, loadA, St.ev, St.step, setS, killS, AV.kill, AV.killL, Mem.kill, AV.cells, AV.flat, AV.single, ACond_false, List.getD_cons_succ, List.getD_cons_zero, List.set_cons_succ, List.set_cons_zero, List.getElem?_cons_zero, List.length_cons, List.length_nil, List.contains_nil, List.contains_cons, List.isEmpty_nil, Option.getD_some, Bool.false_eq_true, if_false, if_true, true_and, and_true, List.all_cons, List.all_nil, Bool.and_true, Bool.true_and, Bool.not_true, Nat.zero_add, Nat.add_zero, beq_self_eq_true, List.map_cons, List.map_nil, decide_true, nbeq, decide_false, Bool.or_false, Bool.and_false, Nat.reduceAdd, Nat.reduceEqDiff, Nat.reduceLeDiff, Int.reduceAdd, ne_eq, not_false_eq_true, ti3, ti24, decide_eq_true hv, decide_eq_false h3]
  refine acall_v (s80 n (by omega)) rfl rfl ?_
  simp only [w_callF, w_aop, w_cons, St.ev, St.step, setS, killS, AV.kill, AV.killL, Mem.kill, List.getD_cons_succ, List.getD_cons_zero, List.set_cons_succ, List.set_cons_zero, List.contains_nil, List.isEmpty_nil, Bool.false_eq_true, if_false, if_true, List.map_cons, List.map_nil]
  refine acall_v (s79 n.toNat (upL n.toNat fun _ => true) (upL_all_len _) (by omega)) rfl rfl ?_
  have hol := ordF_len n.toNat (upL n.toNat fun _ => true)
  have hml := ordF_mem_len n.toNat (upL n.toNat fun _ => true)
  have hfl := fct_le (k := n.toNat) (by omega)
  rw [if_neg h3]
  generalize ordF n.toNat (upL n.toNat fun _ => true) = L at *
  simp only [w_assign, w_aop, w_anone, w_nil, w_cons, awp, asN, St.ev, St.step, setS, killS, AV.kill, AV.killL, Mem.kill, ACond_false, List.getD_cons_succ, List.getD_cons_zero, List.set_cons_succ, List.set_cons_zero, List.contains_nil, List.contains_cons, List.isEmpty_nil, Option.getD_some, Bool.false_eq_true, if_false, if_true, nbeq, decide_false, Bool.or_false, Nat.reduceAdd, Nat.reduceEqDiff, Int.reduceAdd]
  refine swp_loop' (fun i : Nat => ⟨[.bot, .p (.g [I n, .s 2 (prsA ls)]) 0, .bot, .bot, .bot, .bot, .s 1 (rowI L), I i, .bot, .bot, .bot, .bot, .bot, .bot, .bot, .bot, .bot, .bot, .bot, .bot, .bot, .bot, .bot, .bot, .bot, .bot, .bot, .bot, .bot, .bot, .bot, .bot, .bot, .bot, .bot, .bot, .bot, .bot, .bot, .bot, .bot, .bot, .bot, .bot, .bot], [some ⟨none, 3, 1, []⟩]⟩) (fun i => i ≤ L.length ∧ ∀ j, j < i → ∀ h : j < L.length, (decide (L[j].getD 0 0 = 0) && chR ls L[j] true) = false) (fun i => L.length - i) 0 (le_sl (by simp [leSl])) ⟨Nat.zero_le _, by omega⟩ ?_
  rintro i ⟨hi, hno⟩
  refine awp_sound (own := [2]) _ _ _ _ _ ?_
  simp only [w_move, w_binOp, w_len, w_aop, w_some, w_asome, w_nil, w_cons, awp, binC, cmpC, asB, asI, lenA, St.ev, St.step, setS, killS, AV.kill, AV.killL, Mem.kill, ACond_false, List.getD_cons_succ, List.getD_cons_zero, List.set_cons_succ, List.set_cons_zero, List.contains_nil, List.contains_cons, List.isEmpty_nil, if_true, true_and, Bool.true_and, Option.isSome_some, nbeq, decide_false, Bool.or_false, Nat.reduceAdd, Nat.reduceEqDiff, Int.reduceAdd, ti96, rowI_len]
  by_cases h : i < L.length
  case neg =>
    have h' : ¬ (i : Int) < (L.length : Int) := by omega
    simp only [w_assign, w_aop, w_some, w_asome, w_anone, w_nil, w_cons, awp, asN, Aw.newRow, St.ev, St.step, setS, killS, AV.kill, AV.killL, Mem.kill, ACond_false, List.set_cons_succ, List.set_cons_zero, List.length_cons, List.length_nil, List.cons_append, List.nil_append, List.contains_nil, List.contains_cons, List.isEmpty_nil, Option.getD_some, Bool.false_eq_true, if_false, if_true, Nat.zero_add, beq_self_eq_true, nbeq, decide_false, Bool.or_false, Nat.reduceAdd, Nat.reduceEqDiff, Int.reduceAdd, ti3, ti25, decide_eq_false h']
    refine aend_frz rfl ⟨?_, rfl⟩
    rw [find_no fun j hj => hno j (by omega) hj]
    simp [frz, AV.sub, AV.subL, AV.pureL]; rfl
  have h' : (i : Int) < (L.length : Int) := by omega
  have hil := hml L[i] (List.getElem_mem h)
  have h0l : 0 < L[i].length := by omega
  have hg0 : L[i].getD 0 0 = L[i][0] := by rw [List.getD_eq_getElem?_getD, List.getElem?_eq_getElem h0l]; rfl
  simp only [awp, ACond_true, decide_eq_true h']
  by_cases hz : L[i][0] = 0
  · refine swp_draw (own := [2]) (.take 0 .plain [] (.take 1 .plain [] (.take 2 .reads [] (.take 3 .reads [] (.take 4 .reads [] (.take 5 .reads [] (.take 6 .plain [] (.take 7 .plain [] (.take 8 .reads [] (.take 9 .plain [] (.take 10 .plain [] (.take 11 .reads [] (.take 12 .reads [] (.alt 13 (.take 14 .plain [] (.done)) (.nil))))))))))))))) [⟨27, 64, 0, 0, true⟩, ⟨28, 128, 0, 0, true⟩, ⟨29, 201326592, 3, 0, true⟩, ⟨30, 268435456, 4, 0, true⟩, ⟨31, 536870912, 8, 0, true⟩, ⟨32, 1073741824, 16, 0, true⟩, ⟨33, 2147483648, 32, 0, true⟩, ⟨34, 4294967296, 64, 0, true⟩, ⟨35, 8589934594, 128, 0, true⟩, ⟨36, 8589934656, 128, 0, true⟩, ⟨37, 8589934720, 128, 0, true⟩, ⟨38, 111669149696, 1664, 0, true⟩, ⟨39, 146028888064, 2176, 0, true⟩, ⟨40, 300647710720, 4480, 0, false⟩, ⟨41, 558345748480, 8320, 0, true⟩] mo (by kernel_rfl) ?_
    simp only [w_move, w_load, w_indexAddr, w_binOp, w_callF, w_aopg, w_gdb, w_take, w_takeg, w_some, w_asome, binC, idxC, cmpC, asP, asS, asI, loadA, St.ev, setS, AV.cells, AV.flat, AV.single, ACond_true, List.getD_cons_succ, List.getD_cons_zero, List.set_cons_succ, List.set_cons_zero, List.getElem?_cons_succ, List.getElem?_cons_zero, List.length_cons, List.length_nil, Bool.false_eq_true, if_false, if_true, true_and, and_true, List.all_cons, List.all_nil, Bool.and_true, Bool.true_and, Bool.not_true, Nat.zero_add, beq_self_eq_true, List.map_cons, List.map_nil, decide_true, Nat.reduceAdd, Nat.reduceLeDiff, Int.reduceAdd, Int.reduceLE, Int.toNat_zero, Option.bind_some, ASch, St.put, Md.mem, Md.need, ti3, ti24, ti25, ti96, aget_rowI h, Int.toNat_natCast, aget_ints h0l, decide_eq_true hz]
    refine ⟨by omega, by omega, acall_v (s81 n ls L[i] true hls (by omega)) rfl rfl ?_⟩
    cases hc : chR ls L[i] true with
    | true =>
      simp only [w_move, w_assign, w_pick, w_load, w_indexAddr, w_aop, w_take, w_some, w_asome, w_anone, w_nil, w_cons, awp, idxC, asP, asS, asB, asI, asN, loadA, St.ev, St.step, setS, killS, AV.kill, AV.killL, Mem.kill, AV.cells, AV.flat, AV.single, ACond_true, ACond_false, List.getD_cons_succ, List.getD_cons_zero, List.set_cons_succ, List.set_cons_zero, List.getElem?_cons_succ, List.getElem?_cons_zero, List.contains_nil, List.contains_cons, List.isEmpty_nil, Option.getD_some, Bool.false_eq_true, if_false, if_true, true_and, and_true, List.all_cons, List.all_nil, Bool.and_true, Bool.true_and, Bool.not_true, beq_self_eq_true, nbeq, decide_false, Bool.or_false, Nat.reduceAdd, Nat.reduceEqDiff, Int.reduceAdd, ASch, St.put, Md.mem, Md.need, ti25, ti96, aget_rowI h, Int.toNat_natCast]
      refine ⟨by omega, aend_frz rfl ⟨?_, rfl⟩⟩
      rw [find_at h (by rw [hg0, decide_eq_true hz, hc]; rfl) hno]
      simp [frz, AV.sub, AV.subL]
    | false =>
      simp only [w_move, w_assign, w_pick, w_binOp, w_aop, w_take, w_some, w_asome, w_anone, w_nil, w_cons, awp, binC, arithC, cmpC, asB, asI, asN, St.ev, St.step, setS, killS, AV.kill, AV.killL, Mem.kill, ACond_true, ACond_false, List.getD_cons_succ, List.getD_cons_zero, List.set_cons_succ, List.set_cons_zero, List.getElem?_cons_succ, List.getElem?_cons_zero, List.contains_nil, List.contains_cons, List.isEmpty_nil, Option.getD_some, Bool.false_eq_true, if_false, if_true, true_and, and_true, Bool.and_true, Bool.true_and, nbeq, decide_false, Bool.or_false, Nat.reduceAdd, Nat.reduceEqDiff, Int.reduceAdd, ASch, St.put, Md.mem, Md.need]
      refine ⟨by unfold lim; omega, i + 1, le_sl (by simp [leSl]), ⟨by omega, fun j hj hjl => ?_⟩, by omega⟩
      rcases Nat.lt_or_ge j i with h1 | h1
      · exact hno j h1 hjl
      · obtain rfl : j = i := by omega
        exact by rw [hc]; exact Bool.and_false _
  · refine swp_draw (own := [2]) (.take 0 .plain [] (.take 1 .plain [] (.take 2 .reads [] (.take 3 .reads [] (.take 4 .reads [] (.take 5 .reads [] (.take 6 .plain [] (.take 7 .plain [] (.take 8 .reads [] (.take 9 .plain [] (.take 10 .plain [] (.take 11 .reads [] (.take 12 .reads [] (.alt 13 (.take 14 .plain [] (.done)) (.nil))))))))))))))) [⟨27, 64, 0, 0, true⟩, ⟨28, 128, 0, 0, true⟩, ⟨29, 201326592, 3, 0, true⟩, ⟨30, 268435456, 4, 0, true⟩, ⟨31, 536870912, 8, 0, true⟩, ⟨32, 1073741824, 16, 0, true⟩, ⟨33, 2147483648, 32, 0, true⟩, ⟨34, 4294967296, 64, 0, true⟩, ⟨35, 8589934594, 128, 0, true⟩, ⟨36, 8589934656, 128, 0, true⟩, ⟨37, 8589934720, 128, 0, true⟩, ⟨38, 111669149696, 1664, 0, true⟩, ⟨39, 146028888064, 2176, 0, true⟩, ⟨40, 300647710720, 4480, 0, false⟩, ⟨41, 558345748480, 8320, 0, true⟩] mo (by kernel_rfl) ?_
    simp only [w_move, w_assign, w_pick, w_load, w_indexAddr, w_binOp, w_aop, w_aopg, w_gdb, w_take, w_takeg, w_some, w_asome, w_anone, w_nil, w_cons, awp, binC, idxC, arithC, cmpC, asP, asS, asB, asI, asN, loadA, St.ev, St.step, setS, killS, AV.kill, AV.killL, Mem.kill, AV.cells, AV.flat, AV.single, ACond_false, List.getD_cons_succ, List.getD_cons_zero, List.set_cons_succ, List.set_cons_zero, List.getElem?_cons_succ, List.getElem?_cons_zero, List.contains_nil, List.contains_cons, List.isEmpty_nil, Option.getD_some, Bool.false_eq_true, if_false, if_true, true_and, and_true, List.all_cons, List.all_nil, Bool.and_true, Bool.true_and, Bool.not_true, nbeq, decide_false, Bool.or_false, Nat.reduceAdd, Nat.reduceEqDiff, Int.reduceAdd, Int.reduceLE, Int.toNat_zero, Option.bind_some, ASch, St.put, Md.mem, Md.need, w_bt, ti3, ti25, ti96, aget_rowI h, Int.toNat_natCast, aget_ints h0l, decide_eq_false hz]
    refine ⟨by omega, ?_⟩
    refine ⟨by unfold lim; omega, i + 1, le_sl (by simp [leSl]), ⟨by omega, fun j hj hjl => ?_⟩, by omega⟩
    rcases Nat.lt_or_ge j i with h1 | h1
    · exact hno j h1 hjl
    · obtain rfl : j = i := by omega
      exact by rw [hg0, decide_eq_false hz]; rfl

theorem ok48 : okFn Try.prog 48 = true := by kernel_rfl
theorem s48 (n : Int) (ls : List (Int × Int)) (hls : ls.length ≤ 1000000) : ASpec Try.prog 48 [trapA n ls] (fun r Ms => r = (if vT n ls ≠ 0 then .t [.s 1 [], B false, I (vT n ls)] else if (lineP n ls).2 = true then .t [.s 1 (intsA (lineP n ls).1), B true, I 0] else .t [.s 1 [], B false, I 0]) ∧ Ms = []) := by
  refine aspec_of (own := [2]) Try.func48 rfl ok48 ?_
  simp only [w_assign, w_box, w_load, w_callF, w_aop, w_some, w_asome, w_anone, w_nil, w_cons, awp, asP, asN, loadA, Aw.newRow, St.ev, St.step, setS, killS, AV.kill, AV.killL, Mem.kill, AV.cells, AV.flat, AV.single, AV.cellular, AV.pure, AV.pureL, ACond_false, List.getD_cons_succ, List.getD_cons_zero, List.set_cons_succ, List.set_cons_zero, List.getElem?_cons_zero, List.length_cons, List.length_nil, List.replicate_succ, List.replicate_zero, List.cons_append, List.nil_append, List.contains_nil, List.contains_cons, List.isEmpty_nil, Option.getD_some, Bool.false_eq_true, if_false, if_true, true_and, and_true, List.all_cons, List.all_nil, Bool.and_true, Bool.true_and, Bool.not_true, Nat.zero_add, Nat.add_zero, beq_self_eq_true, List.map_cons, List.map_nil, decide_true, nbeq, decide_false, Bool.or_false, Nat.reduceAdd, Nat.reduceEqDiff, Nat.reduceSub, Nat.reduceLeDiff, Int.reduceAdd, Int.reduceSub, ti3, ti24, ti25, Try.ntmps48, trapA]
  refine acall_v (s23 n ls hls) rfl rfl ?_
  by_cases hv : vT n ls = 0
  case neg =>
    simp only [w_move, w_assign, w_binOp, w_aop, w_some, w_asome, w_anone, w_nil, w_cons, awp, binC, cmpC, asB, asI, asN, Aw.newRow, St.ev, St.step, setS, killS, AV.kill, AV.killL, Mem.kill, ACond_true, ACond_false, List.getD_cons_succ, List.getD_cons_zero, List.set_cons_succ, List.set_cons_zero, List.length_cons, List.length_nil, List.cons_append, List.nil_append, List.contains_nil, List.contains_cons, List.isEmpty_nil, Option.getD_some, Bool.false_eq_true, if_false, if_true, true_and, Bool.true_and, Bool.not_false, Nat.zero_add, beq_self_eq_true, nbeq, decide_false, Bool.or_false, Nat.reduceAdd, Nat.reduceEqDiff, Int.reduceAdd, ne_eq, ti3, ti25, decide_eq_false hv]
    exact aend_frz rfl ⟨by rw [if_pos hv]; simp [frz, AV.sub, AV.subL, AV.pureL], rfl⟩
  simp only [w_move, w_assign, w_load, w_binOp, w_callF, w_aop, w_some, w_asome, w_anone, w_nil, w_cons, awp, binC, cmpC, asP, asB, asI, asN, loadA, St.ev, St.step, setS, killS, AV.kill, AV.killL, Mem.kill, AV.cells, AV.flat, AV.single, ACond_false, List.getD_cons_succ, List.getD_cons_zero, List.set_cons_succ, List.set_cons_zero, List.getElem?_cons_zero, List.length_cons, List.length_nil, List.contains_nil, List.contains_cons, List.isEmpty_nil, Option.getD_some, Bool.false_eq_true, if_false, if_true, true_and, and_true, List.all_cons, List.all_nil, Bool.and_true, Bool.true_and, Bool.not_true, Nat.zero_add, beq_self_eq_true, List.map_cons, List.map_nil, decide_true, nbeq, decide_false, Bool.or_false, Nat.reduceAdd, Nat.reduceEqDiff, Nat.reduceLeDiff, Int.reduceAdd, ti24, decide_eq_true hv]
  have hs := s78 n ls hv hls
  rw [if_neg (by simpa using hv)]
  rcases hL : lineP n ls with ⟨o, b⟩
  rw [hL] at hs
  refine acall_v hs rfl rfl ?_
  cases b with
  | true =>
    simp only [w_move, w_assign, w_not, w_extract, w_aop, w_some, w_anone, w_nil, w_cons, awp, asT, asB, asN, St.ev, St.step, setS, killS, AV.kill, AV.killL, Mem.kill, ACond_false, List.getD_cons_succ, List.getD_cons_zero, List.set_cons_succ, List.set_cons_zero, List.getElem?_cons_succ, List.getElem?_cons_zero, List.contains_nil, List.contains_cons, List.isEmpty_nil, Option.getD_some, Bool.false_eq_true, if_false, if_true, Bool.not_true, beq_self_eq_true, nbeq, decide_false, Bool.or_false, Nat.reduceAdd, Nat.reduceEqDiff, Int.reduceAdd]
    exact aend_frz rfl ⟨by simp [frz, AV.sub, AV.subL], rfl⟩
  | false =>
    simp only [w_move, w_assign, w_not, w_extract, w_aop, w_some, w_asome, w_anone, w_nil, w_cons, awp, asT, asB, asN, Aw.newRow, St.ev, St.step, setS, killS, AV.kill, AV.killL, Mem.kill, ACond_true, ACond_false, List.getD_cons_succ, List.getD_cons_zero, List.set_cons_succ, List.set_cons_zero, List.getElem?_cons_succ, List.getElem?_cons_zero, List.length_cons, List.length_nil, List.cons_append, List.nil_append, List.contains_nil, List.contains_cons, List.isEmpty_nil, Option.getD_some, Bool.false_eq_true, if_false, if_true, Bool.not_false, Nat.zero_add, beq_self_eq_true, nbeq, decide_false, Bool.or_false, Nat.reduceAdd, Nat.reduceEqDiff, Int.reduceAdd, ti3, ti25]
    exact aend_frz rfl ⟨by simp [frz, AV.sub, AV.subL, AV.pureL], rfl⟩

theorem ok50 : okFn Try.prog 50 = true := by kernel_rfl
theorem s50 (n : Int) (ls : List (Int × Int)) (hls : ls.length ≤ 1000000) : ASpec Try.prog 50 [trapA n ls] (fun r Ms => r = (if vT n ls ≠ 0 then .t [.s 1 [], B false, I (vT n ls)] else .t [.s 1 (intsA (ringP n ls).1), B (ringP n ls).2, I 0]) ∧ Ms = []) := by
  refine aspec_of (own := [2]) Try.func50 rfl ok50 ?_
  simp only [w_assign, w_box, w_load, w_callF, w_aop, w_some, w_asome, w_anone, w_nil, w_cons, awp, asP, asN, loadA, Aw.newRow, St.ev, St.step, setS, killS, AV.kill, AV.killL, Mem.kill, AV.cells, AV.flat, AV.single, AV.cellular, AV.pure, AV.pureL, ACond_false, List.getD_cons_succ, List.getD_cons_zero, List.set_cons_succ, List.set_cons_zero, List.getElem?_cons_zero, List.length_cons, List.length_nil, List.replicate_succ, List.replicate_zero, List.cons_append, List.nil_append, List.contains_nil, List.contains_cons, List.isEmpty_nil, Option.getD_some, Bool.false_eq_true, if_false, if_true, true_and, and_true, List.all_cons, List.all_nil, Bool.and_true, Bool.true_and, Bool.not_true, Nat.zero_add, Nat.add_zero, beq_self_eq_true, List.map_cons, List.map_nil, decide_true, nbeq, decide_false, Bool.or_false, Nat.reduceAdd, Nat.reduceEqDiff, Nat.reduceSub, Nat.reduceLeDiff, Int.reduceAdd, Int.reduceSub, ti3, ti24, ti25, Try.ntmps50, trapA]
  refine acall_v (s23 n ls hls) rfl rfl ?_
  by_cases hv : vT n ls = 0
  case neg =>
    simp only [w_move, w_assign, w_binOp, w_aop, w_some, w_asome, w_anone, w_nil, w_cons, awp, binC, cmpC, asB, asI, asN, Aw.newRow, St.ev, St.step, setS, killS, AV.kill, AV.killL, Mem.kill, ACond_true, ACond_false, List.getD_cons_succ, List.getD_cons_zero, List.set_cons_succ, List.set_cons_zero, List.length_cons, List.length_nil, List.cons_append, List.nil_append, List.contains_nil, List.contains_cons, List.isEmpty_nil, Option.getD_some, Bool.false_eq_true, if_false, if_true, true_and, Bool.true_and, Bool.not_false, Nat.zero_add, beq_self_eq_true, nbeq, decide_false, Bool.or_false, Nat.reduceAdd, Nat.reduceEqDiff, Int.reduceAdd, ne_eq, ti3, ti25, decide_eq_false hv]
    exact aend_frz rfl ⟨by rw [if_pos hv]; simp [frz, AV.sub, AV.subL, AV.pureL], rfl⟩
  simp only [w_move, w_assign, w_load, w_binOp, w_callF, w_aop, w_some, w_asome, w_anone, w_nil, w_cons, awp, binC, cmpC, asP, asB, asI, asN, loadA, St.ev, St.step, setS, killS, AV.kill, AV.killL, Mem.kill, AV.cells, AV.flat, AV.single, ACond_false, List.getD_cons_succ, List.getD_cons_zero, List.set_cons_succ, List.set_cons_zero, List.getElem?_cons_zero, List.length_cons, List.length_nil, List.contains_nil, List.contains_cons, List.isEmpty_nil, Option.getD_some, Bool.false_eq_true, if_false, if_true, true_and, and_true, List.all_cons, List.all_nil, Bool.and_true, Bool.true_and, Bool.not_true, Nat.zero_add, beq_self_eq_true, List.map_cons, List.map_nil, decide_true, nbeq, decide_false, Bool.or_false, Nat.reduceAdd, Nat.reduceEqDiff, Nat.reduceLeDiff, Int.reduceAdd, ti24, decide_eq_true hv]
  have hs := s82 n ls hv hls
  rw [if_neg (by simpa using hv)]
  rcases hL : ringP n ls with ⟨o, b⟩
  rw [hL] at hs
  refine acall_v hs rfl rfl ?_
  simp only [w_move, w_assign, w_extract, w_aop, w_some, w_anone, w_nil, w_cons, awp, asT, asN, St.ev, St.step, setS, killS, AV.kill, AV.killL, Mem.kill, ACond_false, List.getD_cons_succ, List.getD_cons_zero, List.set_cons_succ, List.set_cons_zero, List.getElem?_cons_succ, List.getElem?_cons_zero, List.contains_nil, List.contains_cons, List.isEmpty_nil, Option.getD_some, Bool.false_eq_true, if_false, if_true, beq_self_eq_true, nbeq, decide_false, Bool.or_false, Nat.reduceAdd, Nat.reduceEqDiff, Int.reduceAdd]
  exact aend_frz rfl ⟨by simp [frz, AV.sub, AV.subL], rfl⟩

/-- the zones with three or more links. -/
def junL (n : Int) (ls : List (Int × Int)) : List Int := upL n.toNat fun z => decide (3 ≤ ((nr n ls z).length : Int))
def junA (n : Int) (ls : List (Int × Int)) : AV := if vT n ls ≠ 0 then .t [.s 1 [], I (vT n ls)] else .t [.s 1 (intsA (junL n ls)), I 0]

theorem ok52 : okFn Try.prog 52 = true := by kernel_rfl
theorem s52 (n : Int) (ls : List (Int × Int)) (hls : ls.length ≤ 1000000) : ASpec Try.prog 52 [trapA n ls] (fun r Ms => r = junA n ls ∧ Ms = []) := by
  refine aspec_of (own := [2, 5]) Try.func52 rfl ok52 ?_
  simp only [w_assign, w_box, w_load, w_callF, w_aop, w_some, w_asome, w_anone, w_nil, w_cons, awp, asP, asN, loadA, Aw.newRow, St.ev, St.step, setS, killS, AV.kill, AV.killL, Mem.kill, AV.cells, AV.flat, AV.single, AV.cellular, AV.pure, AV.pureL, ACond_false, List.getD_cons_succ, List.getD_cons_zero, List.set_cons_succ, List.set_cons_zero, List.getElem?_cons_zero, List.length_cons, List.length_nil, List.replicate_succ, List.replicate_zero, List.cons_append, List.nil_append, List.contains_nil, List.contains_cons, List.isEmpty_nil, Option.getD_some, Bool.false_eq_true, if_false, if_true, true_and, and_true, List.all_cons, List.all_nil, Bool.and_true, Bool.true_and, Bool.not_true, Nat.zero_add, Nat.add_zero, beq_self_eq_true, List.map_cons, List.map_nil, decide_true, nbeq, decide_false, Bool.or_false, Nat.reduceAdd, Nat.reduceEqDiff, Nat.reduceSub, Nat.reduceLeDiff, Int.reduceAdd, Int.reduceSub, ti3, ti24, ti25, Try.ntmps52, trapA]
  refine acall_v (s23 n ls hls) rfl rfl ?_
  by_cases hv : vT n ls = 0
  case neg =>
    simp only [w_move, w_assign, w_binOp, w_aop, w_some, w_asome, w_anone, w_nil, w_cons, awp, binC, cmpC, asB, asI, asN, Aw.newRow, St.ev, St.step, setS, killS, AV.kill, AV.killL, Mem.kill, ACond_true, ACond_false, List.getD_cons_succ, List.getD_cons_zero, List.set_cons_succ, List.set_cons_zero, List.length_cons, List.length_nil, List.cons_append, List.nil_append, List.contains_nil, List.contains_cons, List.isEmpty_nil, Option.getD_some, Bool.false_eq_true, if_false, if_true, true_and, Bool.true_and, Bool.not_false, Nat.zero_add, beq_self_eq_true, nbeq, decide_false, Bool.or_false, Nat.reduceAdd, Nat.reduceEqDiff, Int.reduceAdd, ti3, ti25, decide_eq_false hv]
    exact aend_frz rfl ⟨by rw [junA, if_pos hv]; simp [frz, AV.sub, AV.subL, AV.pureL], rfl⟩
  have hn := vT_le hv
  have hn1 := vT_pos hv
  simp only [w_move, w_assign, w_load, w_fieldAddr, w_binOp, w_aop, w_some, w_asome, w_anone, w_nil, w_cons, awp, binC, cmpC, asP, asB, asI, asN, loadA, Aw.newRow, St.ev, St.step, setS, killS, AV.kill, AV.killL, Mem.kill, AV.cells, AV.flat, AV.single, ACond_false, List.getD_cons_succ, List.getD_cons_zero, List.set_cons_succ, List.set_cons_zero, List.getElem?_cons_zero, List.length_cons, List.length_nil, List.cons_append, List.nil_append, List.contains_nil, List.contains_cons, List.isEmpty_nil, Option.getD_some, Bool.false_eq_true, if_false, if_true, true_and, and_true, List.all_cons, List.all_nil, Bool.and_true, Bool.true_and, Bool.not_true, Nat.zero_add, Nat.add_zero, beq_self_eq_true, decide_true, nbeq, decide_false, Bool.or_false, Bool.or_true, Bool.and_false, Nat.reduceAdd, Nat.reduceEqDiff, Nat.reduceLeDiff, Int.reduceAdd, ne_eq, not_false_eq_true, ti3, ti24, ti25, decide_eq_true hv]
  rw [junA, if_neg (by simpa using hv), junL]
  refine swp_loop' (fun k : Nat => ⟨[.bot, .p (.g [I n, .s 2 (prsA ls)]) 0, .bot, .bot, .bot, .o 1, .bot, .bot, .bot, .bot, .bot, .bot, .bot, I n, I k, .bot, .bot, .bot, .bot, .bot, .bot, .bot, .bot, .bot, .bot, .bot, .bot, .bot], [some ⟨none, 3, 1, []⟩, some ⟨none, 3, 1, intsA (upL k fun z => decide (3 ≤ ((nr n ls z).length : Int)))⟩]⟩) (fun k => k ≤ n.toNat) (fun k => n.toNat - k) 0 (le_sl (by simp [leSl])) (Nat.zero_le _) ?_
  intro k hk
  refine awp_sound (own := [2, 5]) _ _ _ _ _ ?_
  simp only [w_binOp, w_aop, w_some, w_asome, w_nil, w_cons, awp, binC, cmpC, asB, asI, St.ev, St.step, setS, killS, AV.kill, AV.killL, Mem.kill, ACond_false, List.getD_cons_succ, List.getD_cons_zero, List.set_cons_succ, List.set_cons_zero, List.contains_nil, List.contains_cons, List.isEmpty_nil, Bool.false_eq_true, if_false, if_true, true_and, Bool.true_and, nbeq, decide_false, Bool.or_false, Nat.reduceAdd, Nat.reduceEqDiff, Int.reduceAdd]
  by_cases h : (k : Int) < n
  · simp only [w_move, w_assign, w_load, w_callF, w_aop, w_some, w_asome, w_anone, w_nil, w_cons, awp, asP, asN, loadA, St.ev, St.step, setS, killS, AV.kill, AV.killL, Mem.kill, AV.cells, AV.flat, AV.single, ACond_true, ACond_false, List.getD_cons_succ, List.getD_cons_zero, List.set_cons_succ, List.set_cons_zero, List.getElem?_cons_zero, List.length_cons, List.length_nil, List.contains_nil, List.contains_cons, List.isEmpty_nil, Option.getD_some, Bool.false_eq_true, if_false, if_true, and_true, List.all_cons, List.all_nil, Bool.and_true, Bool.not_true, Nat.zero_add, beq_self_eq_true, List.map_cons, List.map_nil, decide_true, nbeq, decide_false, Bool.or_false, Nat.reduceAdd, Nat.reduceEqDiff, Nat.reduceLeDiff, Int.reduceAdd, ti24, decide_eq_true h]
    have hs := s65 n ls k (by omega) hls
    have hnr : upL n.toNat (lnk ls k) = nr n ls k := rfl
    rw [hnr] at hs
    refine acall_v hs rfl rfl ?_
    simp only [w_binOp, w_len, w_aop, w_some, w_asome, w_nil, w_cons, awp, binC, cmpC, asB, asI, lenA, St.ev, St.step, setS, killS, AV.kill, AV.killL, Mem.kill, List.getD_cons_succ, List.getD_cons_zero, List.set_cons_succ, List.set_cons_zero, List.contains_nil, List.isEmpty_nil, Bool.false_eq_true, if_false, if_true, true_and, Bool.true_and, Option.isSome_some, ti25, intsA_len]
    have hul := upL_len k (fun z => decide (3 ≤ ((nr n ls z).length : Int)))
    by_cases h3 : (3 : Int) ≤ ((nr n ls k).length : Int)
    · simp only [w_move, w_assign, w_binOp, w_buildSlice, w_append, w_aop, w_some, w_asome, w_anone, w_nil, w_cons, awp, binC, arithC, cmpC, asO, asS, asI, asN, obA, St.ev, St.step, setS, killS, AV.kill, AV.killL, Mem.kill, AV.cells, AV.flat, AV.single, AV.cellular, AV.size, AV.pure, AV.pureL, ACond_true, ACond_false, Value.oneCell', List.getD_cons_succ, List.getD_cons_zero, List.set_cons_succ, List.set_cons_zero, List.getElem?_cons_succ, List.getElem?_cons_zero, List.length_cons, List.length_nil, List.contains_nil, List.contains_cons, List.isEmpty_nil, List.isEmpty_cons, Option.getD_some, Bool.false_eq_true, if_false, if_true, true_and, and_true, List.all_cons, List.all_nil, Bool.and_true, Bool.true_and, Nat.zero_add, beq_self_eq_true, List.map_cons, List.map_nil, decide_true, nbeq, decide_false, Bool.or_false, Bool.or_true, Nat.reduceAdd, Nat.reduceEqDiff, Nat.reduceMul, Nat.reduceLeDiff, Int.reduceAdd, Int.reduceMul, Option.map_some, ti3, ti25, decide_eq_true h3, intsA_len, intsA_kill]
      exact ⟨⟨by omega, by decide⟩, ⟨by omega, by omega⟩, by unfold lim; omega, k + 1, by rw [upL_true (decide_eq_true h3), ← intsA_app]; exact le_sl (by simp [leSl]), by omega, by omega⟩
    · simp only [w_move, w_binOp, w_aop, w_some, w_asome, w_anone, w_nil, w_cons, awp, binC, arithC, cmpC, asI, St.ev, St.step, setS, killS, AV.kill, AV.killL, Mem.kill, ACond_false, List.getD_cons_succ, List.getD_cons_zero, List.set_cons_succ, List.set_cons_zero, List.contains_nil, List.contains_cons, List.isEmpty_nil, Bool.false_eq_true, if_false, if_true, true_and, and_true, Bool.and_true, Bool.true_and, nbeq, decide_false, Bool.or_false, Nat.reduceAdd, Nat.reduceEqDiff, Int.reduceAdd, decide_eq_false h3]
      exact ⟨by unfold lim; omega, k + 1, by rw [upL_false (decide_eq_false h3)]; exact le_sl (by simp [leSl]), by omega, by omega⟩
  · simp only [w_move, w_assign, w_aop, w_anone, w_nil, w_cons, awp, asN, St.ev, St.step, setS, killS, AV.kill, AV.killL, Mem.kill, ACond_false, List.getD_cons_succ, List.getD_cons_zero, List.set_cons_succ, List.set_cons_zero, List.contains_nil, List.contains_cons, List.isEmpty_nil, Option.getD_some, Bool.false_eq_true, if_false, if_true, beq_self_eq_true, nbeq, decide_false, Bool.or_false, Nat.reduceAdd, Nat.reduceEqDiff, Int.reduceAdd, decide_eq_false h]
    refine aend_frz rfl ⟨?_, rfl⟩
    have : k = n.toNat := by omega
    subst this
    simp [frz, AV.sub, AV.subL, intsA_pure]

theorem ok53 : okFn Try.prog 53 = true := by kernel_rfl
theorem s53 (n : Int) (ls : List (Int × Int)) (hls : ls.length ≤ 1000000) : ASpec Try.prog 53 [trapA n ls] (fun r Ms => r = junA n ls ∧ Ms = []) := by
  refine aspec_of (own := [2, 5]) Try.func53 rfl ok53 ?_
  simp only [w_assign, w_box, w_load, w_callF, w_aop, w_some, w_asome, w_anone, w_nil, w_cons, awp, asP, asN, loadA, Aw.newRow, St.ev, St.step, setS, killS, AV.kill, AV.killL, Mem.kill, AV.cells, AV.flat, AV.single, AV.cellular, AV.pure, AV.pureL, ACond_false, List.getD_cons_succ, List.getD_cons_zero, List.set_cons_succ, List.set_cons_zero, List.getElem?_cons_zero, List.length_cons, List.length_nil, List.replicate_succ, List.replicate_zero, List.cons_append, List.nil_append, List.contains_nil, List.contains_cons, List.isEmpty_nil, Option.getD_some, Bool.false_eq_true, if_false, if_true, true_and, and_true, List.all_cons, List.all_nil, Bool.and_true, Bool.true_and, Bool.not_true, Nat.zero_add, Nat.add_zero, beq_self_eq_true, List.map_cons, List.map_nil, decide_true, nbeq, decide_false, Bool.or_false, Nat.reduceAdd, Nat.reduceEqDiff, Nat.reduceSub, Nat.reduceLeDiff, Int.reduceAdd, Int.reduceSub, ti3, ti24, ti25, Try.ntmps53, trapA]
  refine acall_v (s24 n ls hls) rfl rfl ?_
  by_cases hv : vT n ls = 0
  case neg =>
    simp only [w_move, w_assign, w_binOp, w_aop, w_some, w_asome, w_anone, w_nil, w_cons, awp, binC, cmpC, asB, asI, asN, Aw.newRow, St.ev, St.step, setS, killS, AV.kill, AV.killL, Mem.kill, ACond_true, ACond_false, List.getD_cons_succ, List.getD_cons_zero, List.set_cons_succ, List.set_cons_zero, List.length_cons, List.length_nil, List.cons_append, List.nil_append, List.contains_nil, List.contains_cons, List.isEmpty_nil, Option.getD_some, Bool.false_eq_true, if_false, if_true, true_and, Bool.true_and, Bool.not_false, Nat.zero_add, beq_self_eq_true, nbeq, decide_false, Bool.or_false, Nat.reduceAdd, Nat.reduceEqDiff, Int.reduceAdd, ti3, ti25, decide_eq_false hv]
    exact aend_frz rfl ⟨by rw [junA, if_pos hv]; simp [frz, AV.sub, AV.subL, AV.pureL], rfl⟩
  have hn := vT_le hv
  have hn1 := vT_pos hv
  simp only [w_move, w_assign, w_binOp, w_aop, w_some, w_asome, w_anone, w_nil, w_cons, awp, binC, cmpC, asB, asI, asN, Aw.newRow, St.ev, St.step, setS, killS, AV.kill, AV.killL, Mem.kill, ACond_false, List.getD_cons_succ, List.getD_cons_zero, List.set_cons_succ, List.set_cons_zero, List.length_cons, List.length_nil, List.cons_append, List.nil_append, List.contains_nil, List.contains_cons, List.isEmpty_nil, Option.getD_some, Bool.false_eq_true, if_false, if_true, true_and, Bool.true_and, Bool.not_true, Nat.zero_add, beq_self_eq_true, nbeq, decide_false, Bool.or_false, Bool.or_true, Nat.reduceAdd, Nat.reduceEqDiff, Int.reduceAdd, ti3, ti25, decide_eq_true hv]
  rw [junA, if_neg (by simpa using hv), junL]
  refine swp_loop' (fun k : Nat => ⟨[.bot, .p (.g [I n, .s 2 (prsA ls)]) 0, .bot, .bot, .bot, .o 1, I k, .bot, .bot, .bot, .bot, .bot, .bot, .bot, .bot, .bot, .bot, .bot, .bot, .bot, .bot, .bot, .bot, .bot, .bot, .bot, .bot, .bot], [some ⟨none, 3, 1, []⟩, some ⟨none, 3, 1, intsA (upL k fun z => decide (3 ≤ ((nr n ls z).length : Int)))⟩]⟩) (fun k => k ≤ n.toNat) (fun k => n.toNat - k) 0 (le_sl (by simp [leSl])) (Nat.zero_le _) ?_
  intro k hk
  refine awp_sound (own := [2, 5]) _ _ _ _ _ ?_
  simp only [w_move, w_load, w_fieldAddr, w_binOp, w_aop, w_some, w_asome, w_nil, w_cons, awp, binC, cmpC, asP, asB, asI, loadA, St.ev, St.step, setS, killS, AV.kill, AV.killL, Mem.kill, AV.cells, AV.flat, AV.single, ACond_false, List.getD_cons_succ, List.getD_cons_zero, List.set_cons_succ, List.set_cons_zero, List.getElem?_cons_zero, List.length_cons, List.length_nil, List.contains_nil, List.contains_cons, List.isEmpty_nil, Bool.false_eq_true, if_false, if_true, true_and, and_true, List.all_cons, List.all_nil, Bool.and_true, Bool.true_and, Bool.not_true, Nat.zero_add, Nat.add_zero, beq_self_eq_true, decide_true, nbeq, decide_false, Bool.or_false, Bool.and_false, Nat.reduceAdd, Nat.reduceEqDiff, Nat.reduceLeDiff, Int.reduceAdd, ne_eq, not_false_eq_true, ti3, ti24]
  by_cases h : (k : Int) < n
  · simp only [w_move, w_load, w_callF, w_aop, w_some, w_asome, w_cons, awp, asP, loadA, St.ev, St.step, setS, killS, AV.kill, AV.killL, Mem.kill, AV.cells, AV.flat, AV.single, ACond_true, ACond_false, List.getD_cons_succ, List.getD_cons_zero, List.set_cons_succ, List.set_cons_zero, List.getElem?_cons_zero, List.length_cons, List.length_nil, List.contains_nil, List.contains_cons, List.isEmpty_nil, Bool.false_eq_true, if_false, if_true, and_true, List.all_cons, List.all_nil, Bool.and_true, Bool.not_true, Nat.zero_add, beq_self_eq_true, List.map_cons, List.map_nil, decide_true, nbeq, decide_false, Bool.or_false, Nat.reduceAdd, Nat.reduceEqDiff, Nat.reduceLeDiff, Int.reduceAdd, ti24, decide_eq_true h]
    have hs := s66 n ls k (by omega) hls
    have hnr : upL n.toNat (lnk ls k) = nr n ls k := rfl
    rw [hnr] at hs
    refine acall_v hs rfl rfl ?_
    simp only [w_binOp, w_len, w_aop, w_some, w_asome, w_nil, w_cons, awp, binC, cmpC, asB, asI, lenA, St.ev, St.step, setS, killS, AV.kill, AV.killL, Mem.kill, List.getD_cons_succ, List.getD_cons_zero, List.set_cons_succ, List.set_cons_zero, List.contains_nil, List.isEmpty_nil, Bool.false_eq_true, if_false, if_true, true_and, Bool.true_and, Option.isSome_some, ti25, intsA_len]
    have hul := upL_len k (fun z => decide (3 ≤ ((nr n ls z).length : Int)))
    by_cases h3 : (3 : Int) ≤ ((nr n ls k).length : Int)
    · simp only [w_move, w_assign, w_binOp, w_buildSlice, w_append, w_aop, w_some, w_asome, w_anone, w_nil, w_cons, awp, binC, arithC, cmpC, asO, asS, asI, asN, obA, St.ev, St.step, setS, killS, AV.kill, AV.killL, Mem.kill, AV.cells, AV.flat, AV.single, AV.cellular, AV.size, AV.pure, AV.pureL, ACond_true, ACond_false, Value.oneCell', List.getD_cons_succ, List.getD_cons_zero, List.set_cons_succ, List.set_cons_zero, List.getElem?_cons_succ, List.getElem?_cons_zero, List.length_cons, List.length_nil, List.contains_nil, List.contains_cons, List.isEmpty_nil, List.isEmpty_cons, Option.getD_some, Bool.false_eq_true, if_false, if_true, true_and, and_true, List.all_cons, List.all_nil, Bool.and_true, Bool.true_and, Nat.zero_add, beq_self_eq_true, List.map_cons, List.map_nil, decide_true, nbeq, decide_false, Bool.or_false, Bool.or_true, Nat.reduceAdd, Nat.reduceEqDiff, Nat.reduceMul, Nat.reduceLeDiff, Int.reduceAdd, Int.reduceMul, Option.map_some, ti3, ti25, decide_eq_true h3, intsA_len, intsA_kill]
      exact ⟨⟨by omega, by decide⟩, ⟨by omega, by omega⟩, by unfold lim; omega, k + 1, by rw [upL_true (decide_eq_true h3), ← intsA_app]; exact le_sl (by simp [leSl]), by omega, by omega⟩
    · simp only [w_move, w_assign, w_binOp, w_aop, w_some, w_asome, w_anone, w_nil, w_cons, awp, binC, arithC, cmpC, asI, asN, St.ev, St.step, setS, killS, AV.kill, AV.killL, Mem.kill, ACond_false, List.getD_cons_succ, List.getD_cons_zero, List.set_cons_succ, List.set_cons_zero, List.contains_nil, List.contains_cons, List.isEmpty_nil, Option.getD_some, Bool.false_eq_true, if_false, if_true, true_and, and_true, Bool.and_true, Bool.true_and, nbeq, decide_false, Bool.or_false, Nat.reduceAdd, Nat.reduceEqDiff, Int.reduceAdd, decide_eq_false h3]
      exact ⟨by unfold lim; omega, k + 1, by rw [upL_false (decide_eq_false h3)]; exact le_sl (by simp [leSl]), by omega, by omega⟩
  · simp only [w_move, w_assign, w_aop, w_anone, w_nil, w_cons, awp, asN, St.ev, St.step, setS, killS, AV.kill, AV.killL, Mem.kill, ACond_false, List.getD_cons_succ, List.getD_cons_zero, List.set_cons_succ, List.set_cons_zero, List.contains_nil, List.contains_cons, List.isEmpty_nil, Option.getD_some, Bool.false_eq_true, if_false, if_true, beq_self_eq_true, nbeq, decide_false, Bool.or_false, Nat.reduceAdd, Nat.reduceEqDiff, Int.reduceAdd, decide_eq_false h]
    refine aend_frz rfl ⟨?_, rfl⟩
    have : k = n.toNat := by omega
    subst this
    simp [frz, AV.sub, AV.subL, intsA_pure]
end Go.Proofs.Ytkolpijhgcijbaa
