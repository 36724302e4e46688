/-
  Several texts in one: FnBA, FnBB, FnBC, FnBD, FnBE.
-/
import Derived.Test.YtkolpijhgcijbaaMc
import Derived.Test.YtkolpijhgcijbaaMv
import Derived.Lib.QuietBelow
import Derived.Shelf.GgSortFunc.InsertionK
import Derived.Shelf.SlSortCmp.InsertionK
import Derived.Test.YtkolpijhgcijbaaMd
import Derived.Shelf.SlSortCmp.NoneTotal
set_option linter.unusedSimpArgs false
set_option linter.unusedVariables false
namespace Go.Proofs.Ytkolpijhgcijbaa
open Aw Go.RowKit
set_option linter.unusedSimpArgs false

def cmpI (x y : Int) : Int := if x < y then -1 else if y < x then 1 else 0
def orL : List Int → Int
  | [] => 0
  | x :: l => if x = 0 then orL l else x
def cmpK (g h : Int × Int) : Int := orL [cmpI g.1 h.1, cmpI g.2 h.2]

theorem ok100 : okFn Try.prog 100 = true := by kernel_rfl
theorem s100 (x : Int) : ASpec Try.prog 100 [I x] (fun r Ms => r = B false ∧ Ms = []) := by
  refine aspec_of (own := []) Try.func100 rfl ok100 ?_
  simp only [w_move, w_assign, w_binOp, w_aop, w_some, w_asome, w_anone, w_nil, w_cons, awp, binC, cmpC, asI, asN, St.ev, St.step, setS, killS, AV.kill, AV.killL, Mem.kill, ACond_false, List.getD_cons_succ, List.getD_cons_zero, List.set_cons_succ, List.set_cons_zero, List.length_cons, List.length_nil, List.replicate_succ, List.replicate_zero, List.cons_append, List.nil_append, List.contains_nil, List.isEmpty_nil, Option.getD_some, Bool.false_eq_true, if_false, if_true, true_and, Bool.true_and, Bool.not_true, Nat.zero_add, Nat.add_zero, decide_true, Nat.reduceAdd, Nat.reduceSub, Int.reduceAdd, Int.reduceSub, Try.ntmps100]
  exact aend_frz rfl ⟨by simp; rfl, rfl⟩
theorem ok88 : okFn Try.prog 88 = true := by kernel_rfl
theorem s88 (x y : Int) : ASpec Try.prog 88 [I x, I y] (fun r Ms => r = I (cmpI x y) ∧ Ms = []) := by
  refine aspec_of (own := []) Try.func88 rfl ok88 ?_
  simp only [w_move, w_assign, w_callF, w_aop, w_anone, w_nil, w_cons, awp, asN, St.ev, St.step, setS, killS, AV.kill, AV.killL, Mem.kill, ACond_false, List.getD_cons_succ, List.getD_cons_zero, List.set_cons_succ, List.set_cons_zero, List.length_cons, List.length_nil, List.replicate_succ, List.replicate_zero, List.cons_append, List.nil_append, List.contains_nil, List.isEmpty_nil, Option.getD_some, Bool.false_eq_true, if_false, if_true, Nat.zero_add, Nat.add_zero, List.map_cons, List.map_nil, Nat.reduceAdd, Nat.reduceSub, Int.reduceAdd, Int.reduceSub, Try.ntmps88]
  refine acall_v (s100 x) rfl rfl ?_
  simp only [w_move, w_assign, w_callF, w_aop, w_anone, w_nil, w_cons, awp, asN, St.ev, St.step, setS, killS, AV.kill, AV.killL, Mem.kill, ACond_false, List.getD_cons_succ, List.getD_cons_zero, List.set_cons_succ, List.set_cons_zero, List.contains_nil, List.isEmpty_nil, Option.getD_some, Bool.false_eq_true, if_false, if_true, List.map_cons, List.map_nil, Nat.reduceAdd, Int.reduceAdd]
  refine acall_v (s100 y) rfl rfl ?_
  simp only [w_move, w_assign, w_binOp, w_aop, w_some, w_asome, w_anone, w_nil, w_cons, awp, binC, cmpC, asB, asI, asN, St.ev, St.step, setS, killS, AV.kill, AV.killL, Mem.kill, ACond_false, List.getD_cons_succ, List.getD_cons_zero, List.set_cons_succ, List.set_cons_zero, List.contains_nil, List.isEmpty_nil, Option.getD_some, Bool.false_eq_true, if_false, if_true, true_and, Bool.true_and, Nat.reduceAdd, Int.reduceAdd]
  by_cases h1 : x < y
  · simp only [w_assign, w_aop, w_anone, w_nil, w_cons, awp, asN, St.ev, St.step, setS, killS, AV.kill, AV.killL, Mem.kill, ACond_true, ACond_false, List.set_cons_succ, List.set_cons_zero, List.contains_nil, List.isEmpty_nil, Option.getD_some, Bool.false_eq_true, if_false, if_true, Nat.reduceAdd, Int.reduceAdd, Int.reduceNeg, decide_eq_true h1]
    exact aend_frz rfl ⟨by simp [cmpI, h1]; rfl, rfl⟩
  simp only [w_move, w_binOp, w_aop, w_some, w_asome, w_nil, w_cons, awp, binC, cmpC, asB, asI, St.ev, St.step, setS, killS, AV.kill, AV.killL, Mem.kill, ACond_false, List.getD_cons_succ, List.getD_cons_zero, List.set_cons_succ, List.set_cons_zero, List.contains_nil, List.isEmpty_nil, if_true, true_and, Bool.true_and, Nat.reduceAdd, Int.reduceAdd, decide_eq_false h1]
  by_cases h2 : y < x
  · simp only [w_assign, w_aop, w_anone, w_nil, w_cons, awp, asN, St.ev, St.step, setS, killS, AV.kill, AV.killL, Mem.kill, ACond_true, ACond_false, List.set_cons_succ, List.set_cons_zero, List.contains_nil, List.isEmpty_nil, Option.getD_some, Bool.false_eq_true, if_false, if_true, Nat.reduceAdd, Int.reduceAdd, decide_eq_true h2]
    exact aend_frz rfl ⟨by simp [cmpI, h1, h2]; rfl, rfl⟩
  simp only [w_assign, w_aop, w_anone, w_nil, w_cons, awp, asN, St.ev, St.step, setS, killS, AV.kill, AV.killL, Mem.kill, ACond_false, List.set_cons_succ, List.set_cons_zero, List.contains_nil, List.isEmpty_nil, Option.getD_some, Bool.false_eq_true, if_false, if_true, Nat.reduceAdd, Int.reduceAdd, decide_eq_false h2]
  exact aend_frz rfl ⟨by simp [cmpI, h1, h2]; rfl, rfl⟩

theorem orL_skip (l : List Int) (k : Nat) (h : ∀ j, j < k → ∀ hj : j < l.length, l[j] = 0) : orL l = orL (l.drop k) := by
  induction k generalizing l with
  | zero => rfl
  | succ k ih =>
    cases l with
    | nil => rfl
    | cons x l =>
      have h0 := h 0 (by omega) (by simp)
      simp only [List.getElem_cons_zero] at h0
      rw [orL, if_pos h0, List.drop_succ_cons]
      exact ih l fun j hj hl => by have := h (j + 1) (by omega) (by simp; omega); simpa using this

theorem ok87 : okFn Try.prog 87 = true := by kernel_rfl
theorem s87 (l : List Int) (hl : l.length ≤ 1000000) : ASpec Try.prog 87 [.s 1 (intsA l)] (fun r Ms => r = I (orL l) ∧ Ms = []) := by
  refine aspec_of (own := []) Try.func87 rfl ok87 ?_
  simp only [w_move, w_assign, w_len, w_aop, w_some, w_asome, w_anone, w_nil, w_cons, awp, asN, lenA, St.ev, St.step, setS, killS, AV.kill, AV.killL, Mem.kill, ACond_false, List.getD_cons_succ, List.getD_cons_zero, List.set_cons_succ, List.set_cons_zero, List.length_cons, List.length_nil, List.replicate_succ, List.replicate_zero, List.cons_append, List.nil_append, List.contains_nil, List.isEmpty_nil, Option.getD_some, Bool.false_eq_true, if_false, if_true, true_and, Bool.true_and, Option.isSome_some, Nat.zero_add, Nat.add_zero, Nat.reduceAdd, Nat.reduceSub, Int.reduceAdd, Int.reduceSub, ti25, Try.ntmps87]
  refine swp_loop' (fun k : Nat => ⟨[.bot, .bot, .bot, I 0, .bot, .bot, .s 1 (intsA l), I l.length, I k, .bot, .bot, .bot, .bot, .bot, .bot, .bot, .bot, .bot], []⟩) (fun k => k ≤ l.length ∧ ∀ j, j < k → ∀ hj : j < l.length, l[j] = 0) (fun k => l.length - k) 0 (le_sl (by simp [leSl, intsA_len])) ⟨Nat.zero_le _, by omega⟩ ?_
  rintro k ⟨hk, hno⟩
  refine awp_sound (own := []) _ _ _ _ _ ?_
  simp only [w_binOp, w_aop, w_some, w_asome, w_nil, w_cons, awp, binC, cmpC, asB, asI, St.ev, St.step, setS, killS, AV.kill, AV.killL, Mem.kill, ACond_false, List.getD_cons_succ, List.getD_cons_zero, List.set_cons_succ, List.set_cons_zero, List.contains_nil, List.isEmpty_nil, if_true, true_and, Bool.true_and, Nat.reduceAdd, Int.reduceAdd]
  by_cases h : k < l.length
  · have h' : (k : Int) < (l.length : Int) := by omega
    simp only [w_move, w_assign, w_load, w_indexAddr, w_binOp, w_aop, w_some, w_asome, w_anone, w_nil, w_cons, awp, binC, idxC, cmpC, asP, asS, asB, asI, asN, loadA, St.ev, St.step, setS, killS, AV.kill, AV.killL, Mem.kill, AV.cells, AV.flat, AV.single, ACond_true, ACond_false, List.getD_cons_succ, List.getD_cons_zero, List.set_cons_succ, List.set_cons_zero, List.getElem?_cons_zero, List.contains_nil, List.isEmpty_nil, Option.getD_some, Bool.false_eq_true, if_false, if_true, true_and, and_true, List.all_cons, List.all_nil, Bool.and_true, Bool.true_and, Bool.not_true, Nat.reduceAdd, Int.reduceAdd, ti3, ti25, decide_eq_true h', aget_ints h, Int.toNat_natCast]
    refine ⟨by omega, ?_⟩
    by_cases hx : l[k] = 0
    · simp only [w_move, w_binOp, w_aop, w_some, w_asome, w_anone, w_nil, w_cons, awp, binC, arithC, cmpC, asI, St.ev, St.step, setS, killS, AV.kill, AV.killL, Mem.kill, ACond_false, List.getD_cons_succ, List.getD_cons_zero, List.set_cons_succ, List.set_cons_zero, List.contains_nil, List.isEmpty_nil, if_true, true_and, and_true, Bool.and_true, Bool.true_and, Bool.not_true, Nat.reduceAdd, Int.reduceAdd, decide_eq_true hx]
      exact ⟨by unfold lim; omega, k + 1, le_sl (by simp [leSl, intsA_len]), ⟨h, fun j hj hl => by
        rcases Nat.lt_or_ge j k with h1 | h1
        · exact hno j h1 hl
        · obtain rfl : j = k := by omega
          exact hx⟩, by omega⟩
    · simp only [w_move, w_assign, w_aop, w_anone, w_nil, w_cons, awp, asN, St.ev, St.step, setS, killS, AV.kill, AV.killL, Mem.kill, ACond_true, ACond_false, List.getD_cons_succ, List.getD_cons_zero, List.set_cons_succ, List.set_cons_zero, List.contains_nil, List.isEmpty_nil, Option.getD_some, Bool.false_eq_true, if_false, if_true, Bool.not_false, Nat.reduceAdd, Int.reduceAdd, decide_eq_false hx]
      exact aend_frz rfl ⟨by rw [orL_skip l k hno, List.drop_eq_getElem_cons h, orL, if_neg hx]; rfl, rfl⟩
  · have h' : ¬ (k : Int) < (l.length : Int) := by omega
    simp only [w_move, w_assign, w_aop, w_anone, w_nil, w_cons, awp, asN, St.ev, St.step, setS, killS, AV.kill, AV.killL, Mem.kill, ACond_false, List.getD_cons_succ, List.getD_cons_zero, List.set_cons_succ, List.set_cons_zero, List.contains_nil, List.isEmpty_nil, Option.getD_some, Bool.false_eq_true, if_false, if_true, Nat.reduceAdd, Int.reduceAdd, decide_eq_false h']
    exact aend_frz rfl ⟨by rw [orL_skip l l.length (fun j hj hl => hno j (by omega) hl), List.drop_length]; rfl, rfl⟩

theorem ok86 : okFn Try.prog 86 = true := by kernel_rfl
theorem s86 (g h : Int × Int) : ASpec Try.prog 86 [.g [I g.1, I g.2], .g [I h.1, I h.2]] (fun r Ms => r = I (cmpK g h) ∧ Ms = []) := by
  refine aspec_of (own := []) Try.func86 rfl ok86 ?_
  simp only [w_assign, w_box, w_aop, w_anone, w_nil, w_cons, awp, asN, St.ev, St.step, setS, killS, AV.kill, AV.killL, Mem.kill, AV.cellular, AV.pure, AV.pureL, ACond_false, List.getD_cons_succ, List.getD_cons_zero, List.set_cons_succ, List.set_cons_zero, List.length_cons, List.length_nil, List.replicate_succ, List.replicate_zero, List.cons_append, List.nil_append, List.contains_nil, List.isEmpty_nil, Option.getD_some, Bool.false_eq_true, if_false, if_true, true_and, and_true, Bool.and_true, Bool.true_and, Nat.zero_add, Nat.add_zero, Nat.reduceAdd, Nat.reduceSub, Int.reduceAdd, Int.reduceSub, Try.ntmps86]
  refine swp_draw (own := []) (.take 0 .plain [] (.take 1 .reads [] (.take 2 .plain [] (.take 3 .reads [] (.take 5 .plain [] (.take 6 .reads [] (.take 7 .plain [] (.take 8 .reads [] (.alt 4 (.alt 9 (.take 10 .plain [] (.alt 11 (.take 12 .plain [] (.done)) (.nil))) (.nil)) (.nil)))))))))) [⟨6, 4, 0, 0, true⟩, ⟨7, 32, 1, 0, true⟩, ⟨8, 8, 0, 0, true⟩, ⟨9, 128, 4, 0, true⟩, ⟨10, 320, 10, 0, false⟩, ⟨11, 4, 0, 0, true⟩, ⟨12, 1024, 32, 0, true⟩, ⟨13, 8, 0, 0, true⟩, ⟨14, 4096, 128, 0, true⟩, ⟨15, 10240, 336, 0, false⟩, ⟨16, 16896, 528, 0, true⟩, ⟨17, 32768, 1536, 0, false⟩, ⟨5, 65536, 4095, 0, true⟩] mo (by kernel_rfl) ?_
  simp only [w_load, w_fieldAddr, w_callF, w_aop, w_take, w_some, w_asome, asP, loadA, St.ev, setS, AV.cells, AV.flat, AV.single, List.getD_cons_succ, List.getD_cons_zero, List.set_cons_succ, List.set_cons_zero, List.getElem?_cons_succ, List.getElem?_cons_zero, List.length_cons, List.length_nil, Bool.false_eq_true, if_false, if_true, true_and, and_true, List.all_cons, List.all_nil, Bool.and_true, Bool.true_and, Bool.not_true, Nat.zero_add, Nat.add_zero, beq_self_eq_true, List.map_cons, List.map_nil, decide_true, nbeq, decide_false, Bool.and_false, Nat.reduceAdd, Nat.reduceEqDiff, Nat.reduceLeDiff, Int.reduceAdd, ASch, St.put, Md.mem, Md.need, ne_eq, not_false_eq_true, ti3, ti57]
  refine acall_v (s88 g.1 h.1) rfl rfl ?_
  simp only [w_callF, w_aop, w_some, St.ev, St.step, setS, killS, AV.kill, AV.killL, Mem.kill, List.getD_cons_succ, List.getD_cons_zero, List.set_cons_succ, List.set_cons_zero, List.getElem?_cons_succ, List.getElem?_cons_zero, List.isEmpty_nil, if_true, and_true, Bool.and_true, List.map_cons, List.map_nil, ASch]
  refine acall_v (s88 g.2 h.2) rfl rfl ?_
  simp only [w_buildSlice, w_callF, w_aop, w_take, w_some, St.ev, St.step, setS, killS, AV.kill, AV.killL, Mem.kill, AV.cells, AV.flat, AV.single, AV.cellular, AV.size, AV.pure, AV.pureL, ACond_false, Value.oneCell', List.getD_cons_succ, List.getD_cons_zero, List.set_cons_succ, List.set_cons_zero, List.getElem?_cons_succ, List.getElem?_cons_zero, List.contains_nil, List.isEmpty_nil, Option.getD_some, if_true, true_and, and_true, List.all_cons, List.all_nil, Bool.and_true, Bool.true_and, List.map_cons, List.map_nil, decide_true, nbeq, Nat.reduceMul, Nat.reduceLeDiff, Int.reduceMul, ASch, St.put, Md.mem, Md.need, ti3, ti25]
  refine ⟨⟨by decide, rfl⟩, acall_v (s87 [cmpI g.1 h.1, cmpI g.2 h.2] (by simp)) rfl rfl ?_⟩
  simp only [w_assign, w_take, w_some, w_anone, awp, asN, St.ev, St.step, setS, killS, AV.kill, AV.killL, Mem.kill, List.getD_cons_succ, List.getD_cons_zero, List.set_cons_succ, List.set_cons_zero, List.getElem?_cons_succ, List.getElem?_cons_zero, List.contains_nil, List.isEmpty_nil, Option.getD_some, Bool.false_eq_true, if_false, if_true, true_and, Bool.true_and, ASch, St.put, Md.mem, Md.need]
  exact aend_frz rfl ⟨rfl, rfl⟩
end Go.Proofs.Ytkolpijhgcijbaa

namespace Go.Proofs.Ytkolpijhgcijbaa
open Aw Go.RowKit Go.Sort
set_option linter.unusedSimpArgs false

def encP (p : Int × Int) : List Value := [.int .i64 p.1, .int .i64 p.2]
def enc2 (l : List (Int × Int)) : List Value := l.flatMap encP
theorem enc2_len (l : List (Int × Int)) : (enc2 l).length = l.length * 2 := by
  induction l with
  | nil => rfl
  | cons x l ih => simp only [enc2, encP, List.flatMap_cons, List.length_append, List.length_cons, List.length_nil] at ih ⊢; omega
theorem rl_enc2 {w : World} {T : Nat → Prop} {hv : Nat → Option Value} : ∀ (l : List (Int × Int)), RL w T hv (prsA l) (enc2 l)
  | [] => by simp [prsA, enc2, RL]
  | x :: l => by
    have ih := rl_enc2 (w := w) (T := T) (hv := hv) l
    simp only [prsA, List.map_cons, RL] at ih ⊢
    refine ⟨[.int .i64 x.1, .int .i64 x.2], enc2 l, rfl, ?_, ih⟩
    simp [prA, R, RL, Value.oneCell']
theorem enc2_rl {w : World} {T : Nat → Prop} {hv : Nat → Option Value} : ∀ (l : List (Int × Int)) (us : List Value), RL w T hv (prsA l) us → us = enc2 l
  | [], us, h => by simpa [prsA, RL, enc2] using h
  | x :: l, us, h => by
    simp only [prsA, List.map_cons, RL] at h
    obtain ⟨u, us', rfl, h1, h2⟩ := h
    rw [enc2_rl l us' h2]
    simp only [prA, R, RL] at h1
    obtain ⟨u1, r1, rfl, ⟨rfl, _⟩, u2, r2, rfl, ⟨rfl, _⟩, rfl⟩ := h1
    rfl

/-- a contract of the calculus gives a world that has but grown. -/
theorem grow_of_bel {w w' : World} (h : Bel w.heap.size w w') : ∃ q os, w' = grow (w.drewN q) os := by
  obtain ⟨⟨d, os⟩, e⟩ := regrown_of_below h.toBelow
  have hd : w'.drawn = d := by rw [e]; rfl
  have hle := h.drawn
  refine ⟨d - w.drawn, os, ?_⟩
  rw [e]
  unfold redrawn World.drewN
  rw [show w.drawn + (d - w.drawn) = d by omega]

theorem cmp_calls (x y : Int × Int) (W : World) : Calls Try.prog 86 #[.agg (encP x).toArray, .agg (encP y).toArray] W fun e w' => e = .returned (.int .i64 (cmpK x y)) ∧ ∃ q os', w' = grow (W.drewN q) os' := by
  have h := (s86 x y).2 W [.agg (encP x).toArray, .agg (encP y).toArray] (fun _ => False) (fun _ h => h.elim) (by
    simp only [RVL, RV, RL, R]
    refine ⟨_, _, rfl, ⟨_, rfl, ?_⟩, _, _, rfl, ⟨_, rfl, ?_⟩, rfl⟩ <;> simp [encP, RL, R, Value.oneCell'])
  refine h.mono ?_
  rintro e w' ⟨r, Ms, v, hv, rfl, ⟨rfl, rfl⟩, _, h1, _, hb⟩
  simp only [RV] at h1
  exact ⟨by rw [h1], grow_of_bel hb⟩
theorem cmp_lays (blk off size : Nat) (w : World) : CmpLays Try.prog 86 #[] encP 2 cmpK blk off size w := fun _ _ _ _ x y => cmp_calls x y _
end Go.Proofs.Ytkolpijhgcijbaa

namespace Go.Proofs.Ytkolpijhgcijbaa
open Aw Go.RowKit Go.Sort
set_option linter.unusedSimpArgs false

theorem enc2_get : ∀ (l : List (Int × Int)) (t : Nat), t < l.length * 2 → (enc2 l)[t]? = some ((encP (l.getD (t / 2) default)).getD (t % 2) undef)
  | [], t, h => by simp at h
  | x :: l, 0, h => rfl
  | x :: l, 1, h => rfl
  | x :: l, t + 2, h => by
    have ih := enc2_get l t (by simp at h; omega)
    have e1 : (t + 2) / 2 = t / 2 + 1 := by omega
    have e2 : (t + 2) % 2 = t % 2 := by omega
    rw [e1, e2, List.getD_cons_succ, ← ih]
    rfl
theorem flat_enc (l : List (Int × Int)) : flatK encP 2 l.toArray = (enc2 l).toArray := by
  apply Array.ext_getElem?
  intro t
  by_cases h : t < l.length * 2
  · have h1 : t < (flatK encP 2 l.toArray).size := by simpa using h
    have e := get_flatK encP 2 l.toArray t (by simpa using h)
    rw [getElem!_pos _ t h1] at e
    rw [Array.getElem?_eq_getElem h1, e, List.getElem?_toArray, enc2_get l t h]
    have h2 : t / 2 < l.length := by omega
    have h3 : l.toArray[t / 2]! = l.getD (t / 2) default := by
      rw [getElem!_pos _ _ (by simpa using h2), List.getD_eq_getElem?_getD, List.getElem?_eq_getElem h2]
      simp
    rw [h3]
    have h4 : t % 2 = 0 ∨ t % 2 = 1 := by omega
    rcases h4 with h4 | h4 <;> rw [h4] <;> rfl
  · rw [Array.getElem?_eq_none (by simp; omega), Array.getElem?_eq_none (by simp [enc2_len]; omega)]
theorem holds_of {w : World} {b : Nat} {cur : Array Value} {l : List (Int × Int)} (hgb : w.heap[b]? = some (.cells cur 57 (0, 0))) (htk : cur.toList.take (l.length * 2) = enc2 l) : HoldsK encP 2 w b 0 l.toArray := by
  unfold HoldsK Holds
  rw [flat_enc]
  intro j hj
  have hj' : j < l.length * 2 := by simpa [enc2_len] using hj
  have hc : cur[j]? = some (enc2 l).toArray[j]! := by
    have e := congrArg (fun x : List Value => x[j]?) htk
    simp only [List.getElem?_take, if_pos hj'] at e
    rw [getElem!_pos _ j hj, ← Array.getElem?_eq_getElem hj]
    simpa using e
  refine ⟨?_, ?_⟩
  · simp [World.cell?, hgb, hc]
  · simp [World.frozen?, hgb]
/-- the sorted row. -/
theorem sort_row {w : World} {b n : Nat} {cur : Array Value} {l m : List (Int × Int)} {os : Array Obj} (hb : b < w.heap.size) (hgb : w.heap[b]? = some (.cells cur 57 (0, 0))) (hlm : m.length = l.length) (hc : l.length * 2 ≤ cur.size) :
    ∃ cur', (sortWorldK encP 2 w b 0 n m.toArray os).heap[b]? = some (.cells cur' 57 (0, 0)) ∧ cur'.size = cur.size ∧ cur'.toList.take (l.length * 2) = enc2 m := by
  refine ⟨putCells id 0 (enc2 m).toArray cur, ?_, by simp [putCells], ?_⟩
  · unfold sortWorldK grow putRowK putRow mapBlock
    rw [flat_enc]
    show (Array.modify w.heap b _ ++ os)[b]? = _
    rw [Array.getElem?_append_left (by simpa using hb), Array.getElem?_modify, if_pos rfl, hgb]
    rfl
  · apply List.ext_getElem?
    intro j
    rw [List.getElem?_take]
    by_cases hj : j < l.length * 2
    · rw [if_pos hj, Array.getElem?_toList]
      unfold putCells
      rw [Array.getElem?_mapIdx, Array.getElem?_eq_getElem (by omega)]
      have hjm : j < (enc2 m).toArray.size := by simp [enc2_len]; omega
      simp only [Option.map_some, Nat.zero_le, true_and, Nat.zero_add, if_pos hjm, Nat.sub_zero, id]
      rw [getElem!_pos _ j hjm, ← Array.getElem?_eq_getElem hjm, List.getElem?_toArray]
    · rw [if_neg hj, List.getElem?_eq_none (by rw [enc2_len]; omega)]
theorem sort_grown {w : World} {b n : Nat} {m : List (Int × Int)} {os : Array Obj} : w.grownBy (sortWorldK encP 2 w b 0 n m.toArray os) (some b) ∧ w.drawn ≤ (sortWorldK encP 2 w b 0 n m.toArray os).drawn := by
  refine ⟨⟨rfl, rfl, rfl, ?_, fun k hk hne => ?_⟩, ?_⟩
  · unfold sortWorldK grow putRowK putRow mapBlock
    show w.heap.size ≤ (Array.modify w.heap b _ ++ os).size
    simp
  · unfold sortWorldK grow putRowK putRow mapBlock
    show (Array.modify w.heap b _ ++ os)[k]? = _
    have hkb : ¬ b = k := fun e => hne (by rw [e])
    rw [Array.getElem?_append_left (by simpa using hk), Array.getElem?_modify, if_neg hkb]
  · show w.drawn ≤ w.drawn + n
    omega

def srtL (l : List (Int × Int)) : List (Int × Int) := l.mergeSort fun x y => !(ltOf cmpK) y x
theorem ok85 : okFn Try.prog 85 = true := by kernel_rfl
theorem m85_of (hsort : ∀ (blk off cap : Nat) (d : Array (Int × Int)) (w : World), HoldsK encP 2 w blk off d → blk < w.heap.size → d.size < 4611686018427387904 →
      Calls Try.prog 85 #[.slice (some ⟨blk, off, none⟩) d.size cap, .func (.func 86) #[] #[]] w fun e w' => e = .returned (.tuple #[]) ∧ ∃ n os, w' = sortWorldK encP 2 w blk off n (d.toList.mergeSort fun x y => !(ltOf cmpK) y x).toArray os)
    (hnone : ∀ (p : Option Addr) (cap : Nat) (w : World), Calls Try.prog 85 #[.slice p 0 cap, .func (.func 86) #[] #[]] w fun e w' => e = .returned (.tuple #[]) ∧ w' = w)
    (l : List (Int × Int)) (hl : l.length ≤ 1000000) (M : Mem) (i : Nat) (hi : M[i]? = some (some ⟨none, 57, 2, prsA l⟩)) :
    MSpec Try.prog 85 [.o i, .f (.func 86) []] M (fun r N => r = .t [] ∧ N = (Mem.kill [i] M).set i (some ⟨none, 57, 2, prsA (srtL l)⟩)) := by
  refine ⟨ok85, fun w vs A hv hM hsep hvs => ?_⟩
  simp only [RVL, RV, R, RL] at hvs
  obtain ⟨v, vs1, rfl, ⟨v', hv1, he, h1c⟩, v2, vs2, rfl, ⟨cs, he2, _, hcs⟩, rfl⟩ := hvs
  simp only [List.cons.injEq, and_true] at he he2
  subst he
  subst he2
  have hcs' : cs = #[] := by cases cs; simp at hcs; subst hcs; rfl
  subst hcs'
  obtain ⟨us, hrow, hks, hus⟩ := (hM_ob hM hi hv1).row rfl
  have husE : us = enc2 l := enc2_rl l us hus
  subst husE
  have hlen : (srtL l).length = l.length := by unfold srtL; simp
  have hmlen : (prsA l).length = l.length := prsA_len l
  rcases hrow.2 with ⟨rfl, h0⟩ | ⟨b, cap, cur, rfl, hb0, hgb, hnc, hcm, hcs, htk⟩
  · rw [hmlen] at h0
    have hle : l = [] := List.eq_nil_of_length_eq_zero h0
    refine (hnone none 0 w).mono ?_
    rintro e w' ⟨rfl, rfl⟩
    obtain ⟨m1, m2⟩ := mem_row (ys := prsA (srtL l)) (news := enc2 (srtL l)) hM hi rfl (v := .slice none 0 0) (v' := .slice none 0 0) rfl rfl hv1
      ⟨by rw [enc2_len, prsA_len], .inl ⟨rfl, by rw [prsA_len, hlen, hle]; rfl⟩⟩ (World.grownBy.refl w' _) (Nat.le_refl _) (.inl rfl) (by intro y hy; obtain ⟨z, _, rfl⟩ := List.mem_map.1 hy; rfl) (fun _ => rl_enc2 _)
    refine ⟨_, _, _, _, rfl, ⟨rfl, rfl⟩, m1, by simp only [RV, RVL]; exact ⟨#[], rfl, rfl⟩, ?_, m2.kp, m2.os, m2.tape, m2.output, m2.drawn⟩
    simp only [RVL, RV, R, RL]
    exact ⟨_, _, rfl, ⟨_, by simp [hvSet], rfl, rfl⟩, _, _, rfl, ⟨#[], rfl, by simp, rfl⟩, rfl⟩
  · rw [hmlen] at hnc htk
    have hlt : b < w.heap.size := (Array.getElem?_eq_some_iff.1 hgb).1
    have hC := hsort b 0 cap l.toArray w (holds_of hgb htk) hlt (by simp; omega)
    simp only [List.size_toArray] at hC
    rw [hmlen]
    refine hC.mono ?_
    rintro e w' ⟨rfl, n, os, rfl⟩
    have hsz : l.length * 2 ≤ cur.size := by rw [hcs]; exact Nat.mul_le_mul_right 2 hnc
    obtain ⟨cur', g1, g2, g3⟩ := sort_row (n := n) (os := os) hlt hgb hlen hsz
    obtain ⟨g4, g5⟩ := sort_grown (w := w) (b := b) (n := n) (m := srtL l) (os := os)
    obtain ⟨m1, m2⟩ := mem_row (ys := prsA (srtL l)) (news := enc2 (srtL l)) (w' := sortWorldK encP 2 w b 0 n (srtL l).toArray os) hM hi rfl (v := .slice (some ⟨b, 0, none⟩) (prsA l).length cap) (v' := .slice (some ⟨b, 0, none⟩) (prsA l).length cap) rfl rfl hv1
      ⟨by rw [enc2_len, prsA_len], .inr ⟨b, cap, cur', by rw [prsA_len, prsA_len, hlen], hb0, g1, by rw [prsA_len, hlen]; exact hnc, hcm, by rw [g2]; exact hcs, by rw [prsA_len, hlen]; exact g3⟩⟩ g4 g5 (.inl rfl) (by intro y hy; obtain ⟨z, _, rfl⟩ := List.mem_map.1 hy; rfl) (fun _ => rl_enc2 _)
    refine ⟨_, _, _, _, rfl, ⟨rfl, rfl⟩, m1, by simp only [RV, RVL]; exact ⟨#[], rfl, rfl⟩, ?_, m2.kp, m2.os, m2.tape, m2.output, m2.drawn⟩
    simp only [RVL, RV, R, RL]
    exact ⟨_, _, rfl, ⟨.slice (some ⟨b, 0, none⟩) (prsA l).length cap, by simp [hvSet], by rw [prsA_len], rfl⟩, _, _, rfl, ⟨#[], rfl, by simp, rfl⟩, rfl⟩
end Go.Proofs.Ytkolpijhgcijbaa

namespace Go.Proofs.Ytkolpijhgcijbaa
open Aw Go.RowKit Go.Sort
set_option linter.unusedSimpArgs false

/-- each number from 0 to n - 1 stands in the list, which has n. -/
def ordB (l : List Int) (n : Int) : Bool := decide ((l.length : Int) = n) && (List.range l.length).all fun k => memL l (k : Int)
theorem ordB_false {l : List Int} {n : Int} {k : Nat} (hk : k < l.length) (h : memL l (k : Int) = false) : ordB l n = false := by
  unfold ordB
  have : ((List.range l.length).all fun k => memL l (k : Int)) = false := by
    rw [List.all_eq_false]
    exact ⟨k, by simpa using hk, by simp [h]⟩
  rw [this, Bool.and_false]
theorem ordB_true {l : List Int} {n : Int} (hn : (l.length : Int) = n) (h : ∀ k, k < l.length → memL l (k : Int) = true) : ordB l n = true := by
  unfold ordB
  rw [decide_eq_true hn, Bool.true_and, List.all_eq_true]
  intro k hk
  exact h k (by simpa using hk)
def reE (n : Int) (ls : List (Int × Int)) (to : List Int) : Int := if vT n ls = 0 then (if ordB to n = true then 0 else 1) else vT n ls
def fT (to : List Int) (p : Int) : Int := to.getD p.toNat 0
def rnK (to : List Int) (k : Int × Int) : Int × Int := (min (fT to k.1) (fT to k.2), max (fT to k.1) (fT to k.2))
def renA (n : Int) (e : Int) (l : List (Int × Int)) : AV := if e = 0 then .t [trapA n l, I 0] else .t [.g [I 0, .v (.slice none 0 0)], I e]
theorem getD_to {to : List Int} {j : Nat} (h : j < to.length) : to[j] = to.getD j 0 := by
  rw [List.getD_eq_getElem?_getD, List.getElem?_eq_getElem h]
  rfl

def M85 : Prop := ∀ (l : List (Int × Int)) (_ : l.length ≤ 1000000) (M : Mem) (i : Nat) (_ : M[i]? = some (some ⟨none, 57, 2, prsA l⟩)), MSpec Try.prog 85 [.o i, .f (.func 86) []] M (fun r N => r = .t [] ∧ N = (Mem.kill [i] M).set i (some ⟨none, 57, 2, prsA (srtL l)⟩))
theorem f85 (m85 : M85) (l : List (Int × Int)) (hl : l.length ≤ 1000000) (x : Int) : FSpec Try.prog 85 [.o 2, .f (.func 86) []] [none, none, some ⟨none, 57, 2, prsA l⟩]
    [some ⟨none, 24, 2, [.g [I 0, .v (.slice none 0 0)]]⟩, some ⟨none, 24, 2, [.g [I x, .o 2]]⟩, some ⟨none, 57, 2, prsA l⟩] (.t [])
    [some ⟨none, 24, 2, [.g [I 0, .v (.slice none 0 0)]]⟩, some ⟨none, 24, 2, [.g [I x, .o 2]]⟩, some ⟨none, 57, 2, prsA (srtL l)⟩] := by
  have h := m85 l hl [none, none, some ⟨none, 57, 2, prsA l⟩] 2 rfl
  have e0 : (Mem.kill [2] [none, none, some ⟨none, 57, 2, prsA l⟩]).set 2 (some ⟨none, 57, 2, prsA (srtL l)⟩) = [none, none, some ⟨none, 57, 2, prsA (srtL l)⟩] := rfl
  rw [e0] at h
  have := MSpec.frame h (fun i hi => by
      match i, hi with
      | 0, _ => rfl
      | 1, _ => rfl
      | 2, hi => simp [liveI] at hi
      | i + 3, _ => simp [liveI])
    (Mc := [some ⟨none, 24, 2, [.g [I 0, .v (.slice none 0 0)]]⟩, some ⟨none, 24, 2, [.g [I x, .o 2]]⟩, some ⟨none, 57, 2, prsA l⟩]) (fun i o hi => by
      match i, hi with
      | 0, hi => simp at hi
      | 1, hi => simp at hi
      | 2, hi => simpa using hi
      | i + 3, hi => simp at hi) (Z := [0, 1]) (fun i hi hn => by
      match i, hi, hn with
      | 0, _, _ => simp
      | 1, _, _ => simp
      | 2, _, hn => simp [liveI] at hn
      | i + 3, hi, _ => simp at hi; omega) (by simp [AV.freeL, AV.free]) (by simp [freeM, freeL_pure, prsA_pure])
  have e : combM [none, none, some ⟨none, 57, 2, prsA l⟩] [.o 2, .f (.func 86) []] [some ⟨none, 24, 2, [.g [I 0, .v (.slice none 0 0)]]⟩, some ⟨none, 24, 2, [.g [I x, .o 2]]⟩, some ⟨none, 57, 2, prsA l⟩] [none, none, some ⟨none, 57, 2, prsA (srtL l)⟩]
      = [some ⟨none, 24, 2, [.g [I 0, .v (.slice none 0 0)]]⟩, some ⟨none, 24, 2, [.g [I x, .o 2]]⟩, some ⟨none, 57, 2, prsA (srtL l)⟩] := by
    simp [combM, liveI, List.range_succ, keepF, keepG, AV.subL, AV.sub, AV.isO]
  rw [e] at this
  exact this

theorem ok56 : okFn Try.prog 56 = true := by kernel_rfl
set_option maxRecDepth 20000 in
set_option maxHeartbeats 1000000 in
theorem s56_of (m85 : M85)
    (n : Int) (ls : List (Int × Int)) (to : List Int) (hls : ls.length ≤ 10000) (hto : to.length ≤ 10000) :
    ASpec Try.prog 56 [trapA n ls, .s 1 (intsA to)] (fun r Ms => r = renA n (reE n ls to) (srtL (ls.map (rnK to))) ∧ Ms = []) := by
  refine aspec_of (own := [1018]) Try.func56 rfl ok56 ?_
  simp only [w_assign, w_box, w_alloc, w_load, w_callF, w_aop, w_some, w_asome, w_anone, w_nil, w_cons, awp, asP, asN, loadA, mkA, Aw.newRow, St.ev, St.step, setS, killS, AV.kill, AV.killL, Mem.kill, AV.cells, AV.flat, AV.single, AV.cellular, AV.pure, AV.pureL, ACond_false, List.getD_cons_succ, List.getD_cons_zero, List.set_cons_succ, List.set_cons_zero, List.getElem?_cons_zero, List.length_cons, List.length_nil, List.replicate_succ, List.replicate_zero, List.cons_append, List.nil_append, List.contains_nil, List.contains_cons, List.isEmpty_nil, Option.getD_some, Bool.false_eq_true, if_false, if_true, true_and, and_true, List.all_cons, List.all_nil, Bool.and_true, Bool.true_and, Bool.not_true, Nat.zero_add, Nat.add_zero, beq_self_eq_true, List.map_cons, List.map_nil, decide_true, nbeq, decide_false, Bool.or_false, Nat.reduceAdd, Nat.reduceEqDiff, Nat.reduceSub, Nat.reduceLeDiff, Int.reduceAdd, Int.reduceSub, ti24, Try.ntmps56, trapA]
  refine acall_v (s23 n ls (by omega)) rfl rfl ?_
  simp only [w_move, w_assign, w_binOp, w_aop, w_some, w_asome, w_anone, w_nil, w_cons, awp, binC, cmpC, asB, asI, asN, St.ev, St.step, setS, killS, AV.kill, AV.killL, Mem.kill, ACond_false, List.getD_cons_succ, List.getD_cons_zero, List.set_cons_succ, List.set_cons_zero, List.contains_nil, List.contains_cons, List.isEmpty_nil, Option.getD_some, Bool.false_eq_true, if_false, if_true, true_and, Bool.true_and, nbeq, decide_false, Bool.or_false, Nat.reduceAdd, Nat.reduceEqDiff, Int.reduceAdd]
  by_cases hv : vT n ls = 0
  · simp only [w_move, w_load, w_fieldAddr, w_binOp, w_len, w_aop, w_some, w_asome, w_nil, w_cons, awp, binC, cmpC, asP, asB, asI, lenA, loadA, St.ev, St.step, setS, killS, AV.kill, AV.killL, Mem.kill, AV.cells, AV.flat, AV.single, ACond_false, List.getD_cons_succ, List.getD_cons_zero, List.set_cons_succ, List.set_cons_zero, List.getElem?_cons_zero, List.length_cons, List.length_nil, List.contains_nil, List.contains_cons, List.isEmpty_nil, Bool.false_eq_true, if_false, if_true, true_and, and_true, List.all_cons, List.all_nil, Bool.and_true, Bool.true_and, Bool.not_true, Option.isSome_some, Nat.zero_add, Nat.add_zero, beq_self_eq_true, decide_true, nbeq, decide_false, Bool.or_false, Bool.and_false, Nat.reduceAdd, Nat.reduceEqDiff, Nat.reduceLeDiff, Int.reduceAdd, ne_eq, not_false_eq_true, ti3, ti24, ti25, decide_eq_true hv, intsA_len]
    by_cases hlen : (to.length : Int) = n
    · simp only [w_move, w_load, w_fieldAddr, w_aop, w_some, w_asome, w_nil, w_cons, awp, asP, loadA, St.ev, St.step, setS, killS, AV.kill, AV.killL, Mem.kill, AV.cells, AV.flat, AV.single, ACond_false, List.getD_cons_succ, List.getD_cons_zero, List.set_cons_succ, List.set_cons_zero, List.getElem?_cons_zero, List.length_cons, List.length_nil, List.contains_nil, List.contains_cons, List.isEmpty_nil, Bool.false_eq_true, if_false, if_true, true_and, and_true, List.all_cons, List.all_nil, Bool.and_true, Bool.true_and, Bool.not_true, Nat.zero_add, Nat.add_zero, beq_self_eq_true, decide_true, nbeq, decide_false, Bool.or_false, Bool.and_false, Nat.reduceAdd, Nat.reduceEqDiff, Nat.reduceLeDiff, Int.reduceAdd, ne_eq, not_false_eq_true, ti3, ti24, decide_eq_true hlen]
      have hn6 : 1 ≤ n ∧ n ≤ 6 ∧ ∀ k ∈ ls, okLn n k := by
        unfold vT at hv
        split at hv
        · cases hv
        · split at hv
          · rename_i h1 h2; exact ⟨by omega, by omega, h2⟩
          · cases hv
      obtain ⟨hn1, hn2, hok⟩ := hn6
      subst hlen
      refine swp_loop' (fun z : Nat => ⟨[.bot, .s 1 (intsA to), .p (.g [I to.length, .s 2 (prsA ls)]) 0, .bot, .q 0 2 0 0, .bot, .bot, .bot, .bot, .bot, .bot, .bot, .bot, .bot, .bot, .bot, .bot, .bot, .bot, .bot, .bot, .bot, .bot, .bot, I to.length, I z, .bot, .bot, .bot, .bot, .bot, .bot, .bot, .bot, .bot, .bot, .bot, .bot, .bot, .bot, .bot, .bot, .bot, .bot, .bot, .bot, .bot, .bot, .bot, .bot, .bot, .bot, .bot, .bot, .bot, .bot, .bot, .bot, .bot, .bot, .bot, .bot, .bot, .bot, .bot, .bot, .bot, .bot, .bot, .bot, .bot, .bot, .bot, .bot, .bot, .bot, .bot], [some ⟨none, 24, 2, [.g [I 0, .v (.slice none 0 0)]]⟩]⟩)
        (fun z => z ≤ to.length ∧ ∀ j, j < z → memL to (j : Int) = true) (fun z => to.length - z) 0 (le_sl (by simp [leSl])) ⟨Nat.zero_le _, fun j hj => by omega⟩ ?_
      rintro z ⟨hz, hno⟩
      refine awp_sound (own := [1018]) _ _ _ _ _ ?_
      simp only [w_binOp, w_aop, w_some, w_asome, w_nil, w_cons, awp, binC, cmpC, asB, asI, St.ev, St.step, setS, killS, AV.kill, AV.killL, Mem.kill, ACond_false, List.getD_cons_succ, List.getD_cons_zero, List.set_cons_succ, List.set_cons_zero, List.contains_nil, List.contains_cons, List.isEmpty_nil, Bool.false_eq_true, if_false, if_true, true_and, Bool.true_and, nbeq, decide_false, Bool.or_false, Nat.reduceAdd, Nat.reduceEqDiff, Int.reduceAdd]
      by_cases h : z < to.length
      · have h' : (z : Int) < (to.length : Int) := by omega
        simp only [w_move, w_assign, w_callF, w_aop, w_anone, w_nil, w_cons, awp, asN, St.ev, St.step, setS, killS, AV.kill, AV.killL, Mem.kill, ACond_true, ACond_false, List.getD_cons_succ, List.getD_cons_zero, List.set_cons_succ, List.set_cons_zero, List.contains_nil, List.contains_cons, List.isEmpty_nil, Option.getD_some, Bool.false_eq_true, if_false, if_true, List.map_cons, List.map_nil, nbeq, decide_false, Bool.or_false, Nat.reduceAdd, Nat.reduceEqDiff, Int.reduceAdd, decide_eq_true h']
        refine acall_v (s71 to z (by omega)) rfl rfl ?_
        cases hm : memL to (z : Int) with
        | true =>
          simp only [w_move, w_binOp, w_not, w_aop, w_some, w_asome, w_anone, w_nil, w_cons, awp, binC, arithC, cmpC, asB, asI, St.ev, St.step, setS, killS, AV.kill, AV.killL, Mem.kill, ACond_false, List.getD_cons_succ, List.getD_cons_zero, List.set_cons_succ, List.set_cons_zero, List.contains_nil, List.contains_cons, List.isEmpty_nil, Bool.false_eq_true, if_false, if_true, true_and, and_true, Bool.and_true, Bool.true_and, Bool.not_true, nbeq, decide_false, Bool.or_false, Nat.reduceAdd, Nat.reduceEqDiff, Int.reduceAdd]
          exact ⟨by unfold lim; omega, z + 1, le_sl (by simp [leSl]), ⟨h, fun j hj => by
            rcases Nat.lt_or_ge j z with h1 | h1
            · exact hno j h1
            · obtain rfl : j = z := by omega
              exact hm⟩, by omega⟩
        | false =>
          simp only [w_assign, w_store, w_not, w_build, w_aop, w_some, w_anone, w_nil, w_cons, awp, asQ, asB, asN, obA, AGet_zero, storeA, fillA, putsA, St.ev, St.step, setS, killS, AV.kill, AV.killL, Mem.kill, AV.cells, AV.flat, AV.single, AV.cellular, ACond_true, ACond_false, List.getD_cons_succ, List.getD_cons_zero, List.set_cons_succ, List.set_cons_zero, List.getElem?_cons_zero, List.length_cons, List.length_nil, List.contains_nil, List.contains_cons, List.isEmpty_nil, Option.getD_some, Bool.false_eq_true, if_false, if_true, true_and, and_true, List.all_cons, List.all_nil, Bool.and_true, Bool.true_and, Bool.not_false, Nat.zero_add, beq_self_eq_true, List.map_cons, List.map_nil, decide_true, nbeq, decide_false, Bool.or_false, Nat.reduceAdd, Nat.reduceEqDiff, Nat.reduceLeDiff, Int.reduceAdd, ti24]
          have e : reE to.length ls to = 1 := by
            unfold reE
            rw [if_pos hv, ordB_false h hm]
            rfl
          refine aend_frz (x := .t [.g [I 0, .v (.slice none 0 0)], I 1]) ?_ ⟨by rw [e]; simp [frz, AV.sub, AV.subL, renA], rfl⟩
          show resA Try.prog [.cell 4 24, .tmp 5] _ = _
          simp [resA, resL, resOne, ti24, loadA, AV.flat, AV.cells, AV.single]
      · have h' : ¬ (z : Int) < (to.length : Int) := by omega
        have hze : z = to.length := by omega
        have e : reE to.length ls to = 0 := by
          unfold reE
          rw [if_pos hv, ordB_true rfl fun k hk => hno k (by omega)]
          rfl
        simp only [w_move, w_alloc, w_load, w_store, w_fieldAddr, w_build, w_len, w_aop, w_some, w_asome, w_nil, w_cons, awp, asP, asQ, obA, AGet_zero, lenA, loadA, storeA, fillA, putsA, mkA, Aw.newRow, St.ev, St.step, setS, killS, AV.kill, AV.killL, Mem.kill, AV.cells, AV.flat, AV.single, AV.cellular, ACond_false, Value.oneCell', List.getD_cons_succ, List.getD_cons_zero, List.set_cons_succ, List.set_cons_zero, List.getElem?_cons_succ, List.getElem?_cons_zero, List.length_cons, List.length_nil, List.cons_append, List.nil_append, List.contains_nil, List.contains_cons, List.isEmpty_nil, Bool.false_eq_true, if_false, if_true, true_and, and_true, List.all_cons, List.all_nil, Bool.and_true, Bool.true_and, Bool.not_true, Option.isSome_some, Nat.zero_add, Nat.add_zero, beq_self_eq_true, List.map_cons, List.map_nil, decide_true, nbeq, decide_false, Bool.or_false, Bool.and_false, Nat.reduceAdd, Nat.reduceEqDiff, Nat.reduceLeDiff, Int.reduceAdd, ne_eq, not_false_eq_true, ti3, ti22, ti24, decide_eq_false h', prsA_len]
        refine swp_loop' (fun i : Nat => ⟨[.bot, .s 1 (intsA to), .p (.g [I to.length, .s 2 (prsA ls)]) 0, .bot, .q 0 2 0 0, .bot, .bot, .bot, .q 1 2 0 0, .bot, .bot, .bot, .bot, .bot, .bot, .bot, .bot, .bot, .bot, .bot, .bot, .bot, .bot, .bot, .bot, .bot, .bot, .bot, .bot, .bot, .bot, .bot, .bot, .bot, .bot, .bot, .bot, .bot, .s 2 (prsA ls), I ls.length, I i, .bot, .bot, .bot, .bot, .bot, .bot, .bot, .bot, .bot, .bot, .bot, .bot, .bot, .bot, .bot, .bot, .bot, .bot, .bot, .bot, .bot, .bot, .bot, .bot, .bot, .bot, .bot, .bot, .bot, .bot, .bot, .bot, .bot, .bot, .bot, .bot], [some ⟨none, 24, 2, [.g [I 0, .v (.slice none 0 0)]]⟩, some ⟨none, 24, 2, [.g [I to.length, .o 2]]⟩, some ⟨none, 57, 2, prsA ((ls.take i).map (rnK to))⟩]⟩)
          (fun i => i ≤ ls.length) (fun i => ls.length - i) 0 ?_ (Nat.zero_le _) ?_
        · exact Le.trans (le_nil 1 0 1 57 2 rfl rfl rfl rfl) (le_sl (by simp [leSl]))
        intro i hi
        refine awp_sound (own := [1018]) _ _ _ _ _ ?_
        simp only [w_binOp, w_aop, w_some, w_asome, w_nil, w_cons, awp, binC, cmpC, asB, asI, St.ev, St.step, setS, killS, AV.kill, AV.killL, Mem.kill, ACond_false, List.getD_cons_succ, List.getD_cons_zero, List.set_cons_succ, List.set_cons_zero, List.contains_nil, List.contains_cons, List.isEmpty_nil, Bool.false_eq_true, if_false, if_true, true_and, Bool.true_and, nbeq, decide_false, Bool.or_false, Nat.reduceAdd, Nat.reduceEqDiff, Int.reduceAdd]
        by_cases hil : i < ls.length
        · have hil' : (i : Int) < (ls.length : Int) := by omega
          simp only [w_alloc, w_load, w_store, w_indexAddr, w_aop, w_some, w_asome, w_nil, w_cons, awp, idxC, asP, asQ, asS, asI, obA, AGet_zero, loadA, storeA, putsA, mkA, Aw.newRow, St.ev, St.step, setS, killS, AV.kill, AV.killL, Mem.kill, AV.cells, AV.flat, AV.single, AV.cellular, ACond_true, ACond_false, List.getD_cons_succ, List.getD_cons_zero, List.set_cons_succ, List.set_cons_zero, List.getElem?_cons_succ, List.getElem?_cons_zero, List.length_cons, List.length_nil, List.cons_append, List.nil_append, List.contains_nil, List.contains_cons, List.isEmpty_nil, Bool.false_eq_true, if_false, if_true, true_and, and_true, List.all_cons, List.all_nil, Bool.and_true, Bool.true_and, Bool.not_true, Nat.zero_add, beq_self_eq_true, List.map_cons, List.map_nil, decide_true, nbeq, decide_false, Bool.or_false, Nat.reduceAdd, Nat.reduceEqDiff, Nat.reduceLeDiff, Int.reduceAdd, ti22, ti57, decide_eq_true hil', aget_prs hil, Int.toNat_natCast]
          have hk := hok _ (List.getElem_mem hil)
          unfold okLn at hk
          have ha1 : (ls[i].1).toNat < to.length := by omega
          have ha2 : (ls[i].2).toNat < to.length := by omega
          refine ⟨by omega, ?_⟩
          refine swp_draw (own := [1018]) (.take 0 .plain [] (.take 1 .reads [] (.take 2 .plain [] (.take 3 .plain [] (.take 4 .reads [] (.take 5 .reads [] (.take 6 .reads [] (.take 7 .plain [] (.take 8 .plain [] (.take 9 .reads [] (.take 10 .reads [] (.take 11 .reads [] (.take 12 .reads [] (.take 13 .plain [] (.take 14 .plain [] (.take 15 .reads [] (.take 16 .reads [] (.take 17 .reads [] (.take 18 .plain [] (.take 19 .plain [] (.take 20 .reads [] (.take 21 .reads [] (.take 22 .reads [] (.take 23 .reads [] (.take 24 .plain [] (.take 25 .plain [] (.alt 26 (.take 27 .plain [] (.alt 28 (.done) (.nil))) (.nil)))))))))))))))))))))))))))) [⟨45, 256, 0, 0, true⟩, ⟨46, 17592186044416, 1, 0, true⟩, ⟨47, 2, 0, 0, true⟩, ⟨48, 1024, 0, 0, true⟩, ⟨49, 140737488355328, 8, 0, true⟩, ⟨50, 351843720888320, 20, 0, true⟩, ⟨51, 562949953421312, 32, 0, true⟩, ⟨52, 2, 0, 0, true⟩, ⟨53, 1024, 0, 0, true⟩, ⟨54, 4503599627370496, 256, 0, true⟩, ⟨55, 11258999068426240, 640, 0, true⟩, ⟨56, 18014398509481984, 1024, 0, true⟩, ⟨57, 37154696925806592, 2112, 0, true⟩, ⟨58, 2, 0, 0, true⟩, ⟨59, 1024, 0, 0, true⟩, ⟨60, 288230376151711744, 16384, 0, true⟩, ⟨61, 720575940379279360, 40960, 0, true⟩, ⟨62, 1152921504606846976, 65536, 0, true⟩, ⟨63, 2, 0, 0, true⟩, ⟨64, 1024, 0, 0, true⟩, ⟨65, 9223372036854775808, 524288, 0, true⟩, ⟨66, 23058430092136939520, 1310720, 0, true⟩, ⟨67, 36893488147419103232, 2097152, 0, true⟩, ⟨68, 76092819304051900416, 4325376, 0, true⟩, ⟨69, 147646010183714340864, 8392704, 0, true⟩, ⟨70, 295147905179352825856, 16777216, 0, true⟩, ⟨71, 590295845543077740544, 33554434, 2, false⟩, ⟨72, 256, 134217727, 0, true⟩, ⟨0, 3541774862152233910272, 268435455, 1, false⟩] mo (by kernel_rfl) ?_
          have hlt : ((ls.take i).map (rnK to)).length ≤ i := by simp; omega
          have hap : prsA ((ls.take i).map (rnK to)) ++ [AV.g [I (min to[(ls[i].1).toNat] to[(ls[i].2).toNat]), I (max to[(ls[i].1).toNat] to[(ls[i].2).toNat])]] = prsA ((ls.take (i + 1)).map (rnK to)) := by
            rw [List.take_add_one, List.getElem?_eq_getElem hil, List.map_append, getD_to ha1, getD_to ha2]
            simp [prsA, prA, rnK, fT]
          simp only [w_move, w_load, w_store, w_fieldAddr, w_indexAddr, w_binOp, w_build, w_buildSlice, w_min, w_max, w_append, w_aop, w_take, w_some, w_asome, w_anone, w_nil, w_cons, awp, binC, idxC, arithC, cmpC, asP, asQ, asO, asS, asI, obA, AGet_zero, minmaxA, loadA, storeA, fillA, putsA, St.ev, St.step, setS, killS, AV.kill, AV.killL, Mem.kill, AV.cells, AV.flat, AV.single, AV.cellular, AV.size, AV.sizeL, AV.pure, AV.pureL, ACond_false, Value.oneCell', List.getD_cons_succ, List.getD_cons_zero, List.set_cons_succ, List.set_cons_zero, List.getElem?_cons_succ, List.getElem?_cons_zero, List.length_cons, List.length_nil, List.contains_nil, List.contains_cons, List.isEmpty_nil, List.isEmpty_cons, Option.getD_some, Bool.false_eq_true, if_false, if_true, true_and, and_true, List.all_cons, List.all_nil, Bool.and_true, Bool.true_and, Bool.not_true, Nat.zero_add, Nat.add_zero, beq_self_eq_true, List.map_cons, List.map_nil, decide_true, nbeq, decide_false, Bool.or_false, Bool.and_false, Nat.reduceAdd, Nat.reduceEqDiff, Nat.reduceMul, Nat.reduceLeDiff, Int.reduceAdd, Int.reduceMul, ASch, St.put, Md.mem, Md.need, ne_eq, not_false_eq_true, Option.map_some, ti3, ti22, ti24, ti25, ti57, aget_ints ha1, aget_ints ha2, prsA_kill, hap, prsA_len]
          refine ⟨by omega, by omega, by omega, by omega, ⟨by decide, rfl⟩, ⟨by decide, by omega⟩, by unfold lim; omega, i + 1, ?_, by omega, by omega⟩
          exact le_cut (Mx := [_]) (M' := [_, _, _]) (by simp [leSl]) rfl (by simp [AV.freeL, AV.free, freeL_pure, prsA_pure, intsA_pure]) (by simp [freeM, AV.freeL, AV.free, freeL_pure, prsA_pure])
        · have hil' : ¬ (i : Int) < (ls.length : Int) := by omega
          have hie : i = ls.length := by omega
          subst hie
          simp only [awp, ACond_true, ACond_false, List.contains_nil, List.contains_cons, if_true, beq_self_eq_true, Bool.or_false, Nat.reduceAdd, Int.reduceAdd, decide_eq_false hil', List.take_length]
          refine swp_fm (own := []) 2 rfl rfl rfl ?_
          simp only [w_load, w_fieldAddr, w_aop, w_some, w_anone, w_nil, w_cons, asP, asQ, obA, AGet_zero, loadA, St.ev, St.step, setS, killS, AV.kill, AV.killL, Mem.kill, AV.cells, AV.flat, AV.single, List.getD_cons_succ, List.getD_cons_zero, List.set_cons_succ, List.set_cons_zero, List.getElem?_cons_succ, List.getElem?_cons_zero, List.length_cons, List.length_nil, List.contains_nil, List.isEmpty_nil, Bool.false_eq_true, if_false, if_true, true_and, and_true, List.all_cons, List.all_nil, Bool.and_true, Bool.true_and, Bool.not_true, Nat.zero_add, List.map_cons, List.map_nil, decide_true, nbeq, decide_false, Bool.and_false, Nat.reduceAdd, Nat.reduceEqDiff, Nat.reduceLeDiff, Int.reduceAdd, ne_eq, not_false_eq_true, ti22, ti24, List.take_succ_cons, List.take_zero, List.drop_succ_cons, List.drop_zero]
          refine acall_f (f85 m85 (ls.map (rnK to)) (by simp; omega) to.length) ?_
          simp only [w_assign, w_load, w_store, w_aop, w_some, w_anone, w_nil, w_cons, awp, asP, asQ, asN, obA, AGet_zero, loadA, storeA, putsA, St.ev, St.step, setS, killS, AV.kill, AV.killL, Mem.kill, AV.cells, AV.flat, AV.single, AV.cellular, ACond_false, List.getD_cons_succ, List.getD_cons_zero, List.set_cons_succ, List.set_cons_zero, List.getElem?_cons_succ, List.getElem?_cons_zero, List.length_cons, List.length_nil, List.contains_nil, List.contains_cons, List.isEmpty_nil, Option.getD_some, Bool.false_eq_true, if_false, if_true, true_and, and_true, List.all_cons, List.all_nil, Bool.and_true, Bool.true_and, Bool.not_true, Nat.zero_add, beq_self_eq_true, List.map_cons, List.map_nil, decide_true, nbeq, decide_false, Bool.or_false, Nat.reduceAdd, Nat.reduceEqDiff, Nat.reduceLeDiff, Int.reduceAdd, ti24, keepF, keepG, liveI, AV.sub, AV.isO, AV.isQ, List.any_cons, List.any_nil, List.take_succ_cons, List.take_zero, List.drop_succ_cons, List.drop_zero]
          refine aend_frz (x := .t [.g [I to.length, .o 2], I 0]) ?_ ⟨by rw [e]; simp [frz, AV.sub, AV.subL, trapA, prsA_pure, renA], rfl⟩
          show resA Try.prog [.cell 4 24, .tmp 5] _ = _
          simp [resA, resL, resOne, ti24, loadA, AV.flat, AV.cells, AV.single]
    · simp only [w_assign, w_store, w_build, w_aop, w_some, w_anone, w_nil, w_cons, awp, asQ, asN, obA, AGet_zero, storeA, fillA, putsA, St.ev, St.step, setS, killS, AV.kill, AV.killL, Mem.kill, AV.cells, AV.flat, AV.single, AV.cellular, ACond_true, ACond_false, List.getD_cons_succ, List.getD_cons_zero, List.set_cons_succ, List.set_cons_zero, List.getElem?_cons_zero, List.length_cons, List.length_nil, List.contains_nil, List.contains_cons, List.isEmpty_nil, Option.getD_some, Bool.false_eq_true, if_false, if_true, true_and, and_true, List.all_cons, List.all_nil, Bool.and_true, Bool.true_and, Bool.not_false, Nat.zero_add, beq_self_eq_true, List.map_cons, List.map_nil, decide_true, nbeq, decide_false, Bool.or_false, Nat.reduceAdd, Nat.reduceEqDiff, Nat.reduceLeDiff, Int.reduceAdd, ti24, decide_eq_false hlen]
      have e : reE n ls to = 1 := by
        unfold reE ordB
        rw [if_pos hv, decide_eq_false hlen]
        rfl
      refine aend_frz (x := .t [.g [I 0, .v (.slice none 0 0)], I 1]) ?_ ⟨by rw [e]; simp [frz, AV.sub, AV.subL, renA], rfl⟩
      show resA Try.prog [.cell 4 24, .tmp 5] _ = _
      simp [resA, resL, resOne, ti24, loadA, AV.flat, AV.cells, AV.single]
  · simp only [w_move, w_assign, w_store, w_build, w_aop, w_some, w_anone, w_nil, w_cons, awp, asQ, asN, obA, AGet_zero, storeA, fillA, putsA, St.ev, St.step, setS, killS, AV.kill, AV.killL, Mem.kill, AV.cells, AV.flat, AV.single, AV.cellular, ACond_true, ACond_false, List.getD_cons_succ, List.getD_cons_zero, List.set_cons_succ, List.set_cons_zero, List.getElem?_cons_zero, List.length_cons, List.length_nil, List.contains_nil, List.contains_cons, List.isEmpty_nil, Option.getD_some, Bool.false_eq_true, if_false, if_true, true_and, and_true, List.all_cons, List.all_nil, Bool.and_true, Bool.true_and, Bool.not_false, Nat.zero_add, beq_self_eq_true, List.map_cons, List.map_nil, decide_true, nbeq, decide_false, Bool.or_false, Nat.reduceAdd, Nat.reduceEqDiff, Nat.reduceLeDiff, Int.reduceAdd, ti24, decide_eq_false hv]
    have e : reE n ls to = vT n ls := by unfold reE; rw [if_neg hv]
    refine aend_frz (x := .t [.g [I 0, .v (.slice none 0 0)], I (vT n ls)]) ?_ ⟨by rw [e]; simp [frz, AV.sub, AV.subL, renA, hv], rfl⟩
    show resA Try.prog [.cell 4 24, .tmp 5] _ = _
    simp [resA, resL, resOne, ti24, loadA, AV.flat, AV.cells, AV.single]
end Go.Proofs.Ytkolpijhgcijbaa

namespace Go.Proofs.Ytkolpijhgcijbaa
open Aw Go.RowKit Go.Sort Go.Shelf
set_option linter.unusedSimpArgs false

def sortLinks_ren : Go.Shelf.Ren := ⟨fun | 6 => 85 | 15 => 99 | 14 => 98 | 28 => 111 | 29 => 112 | 20 => 103 | 21 => 104 | 22 => 105 | 23 => 106 | 24 => 107 | 25 => 108 | 26 => 109 | 27 => 110 | 46 => 113 | 47 => 114 | 48 => 115 | 49 => 116 | 50 => 117 | 57 => 118 | n => n, fun | 22 => 22 | 24 => 57 | 25 => 105 | 3 => 3 | 39 => 115 | 0 => 0 | 53 => 126 | 55 => 128 | 4 => 4 | 46 => 119 | 45 => 118 | 50 => 123 | 5 => 5 | 9 => 9 | 66 => 129 | 70 => 133 | 76 => 135 | 77 => 136 | n => n, fun | n => n⟩
theorem sortLinks : Go.Proofs.SlLaysF0.n6 Try.prog sortLinks_ren := {
  mixed := by kernel_rfl
  f6 := ⟨Try.f85.name, by decide, Try.func85.trans (congrArg some (by kernel_rfl))⟩
  f14 := ⟨Try.f98.name, by decide, Try.func98.trans (congrArg some (by kernel_rfl))⟩
  f15 := Try.func99.trans (congrArg some (by kernel_rfl))
  f20 := ⟨Try.f103.name, by decide, Try.func103.trans (congrArg some (by kernel_rfl))⟩
  f21 := ⟨Try.f104.name, by decide, Try.func104.trans (congrArg some (by kernel_rfl))⟩
  f22 := ⟨Try.f105.name, by decide, Try.func105.trans (congrArg some (by kernel_rfl))⟩
  f23 := ⟨Try.f106.name, by decide, Try.func106.trans (congrArg some (by kernel_rfl))⟩
  f24 := ⟨Try.f107.name, by decide, Try.func107.trans (congrArg some (by kernel_rfl))⟩
  f25 := ⟨Try.f108.name, by decide, Try.func108.trans (congrArg some (by kernel_rfl))⟩
  f26 := ⟨Try.f109.name, by decide, Try.func109.trans (congrArg some (by kernel_rfl))⟩
  f27 := ⟨Try.f110.name, by decide, Try.func110.trans (congrArg some (by kernel_rfl))⟩
  f28 := Try.func111.trans (congrArg some (by kernel_rfl))
  f29 := Try.func112.trans (congrArg some (by kernel_rfl))
  f46 := ⟨Try.f113.name, by decide, Try.func113.trans (congrArg some (by kernel_rfl))⟩
  f47 := Try.func114.trans (congrArg some (by kernel_rfl))
  f48 := Try.func115.trans (congrArg some (by kernel_rfl))
  f49 := ⟨Try.f116.name, by decide, Try.func116.trans (congrArg some (by kernel_rfl))⟩
  f50 := ⟨Try.f117.name, by decide, Try.func117.trans (congrArg some (by kernel_rfl))⟩
  f57 := ⟨Try.f118.name, by decide, Try.func118.trans (congrArg some (by kernel_rfl))⟩
  t0 := Try.underlying0
  a0 := Try.isAgg0
  z0 := Try.sizeOf0
  v0 := Try.zeroValue0
  t3 := Try.underlying3
  a3 := Try.isAgg3
  z3 := Try.sizeOf3
  v3 := Try.zeroValue3
  t4 := Try.underlying4
  a4 := Try.isAgg4
  z4 := Try.sizeOf4
  v4 := Try.zeroValue4
  t5 := Try.underlying5
  a5 := Try.isAgg5
  z5 := Try.sizeOf5
  v5 := Try.zeroValue5
  t9 := Try.underlying9
  a9 := Try.isAgg9
  z9 := Try.sizeOf9
  v9 := Try.zeroValue9
  t22 := Try.underlying22
  a22 := Try.isAgg22
  z22 := Try.sizeOf22
  v22 := Try.zeroValue22
  t25 := Try.underlying105
  a25 := Try.isAgg105
  z25 := Try.sizeOf105
  v25 := Try.zeroValue105
  t39 := Try.underlying115
  a39 := Try.isAgg115
  z39 := Try.sizeOf115
  v39 := Try.zeroValue115
  t45 := Try.underlying118
  a45 := Try.isAgg118
  z45 := Try.sizeOf118
  v45 := Try.zeroValue118
  t46 := Try.underlying119
  a46 := Try.isAgg119
  z46 := Try.sizeOf119
  v46 := Try.zeroValue119
  t50 := Try.underlying123
  a50 := Try.isAgg123
  z50 := Try.sizeOf123
  v50 := Try.zeroValue123
  t53 := Try.underlying126
  a53 := Try.isAgg126
  z53 := Try.sizeOf126
  v53 := Try.zeroValue126
  t55 := Try.underlying128
  a55 := Try.isAgg128
  z55 := Try.sizeOf128
  v55 := Try.zeroValue128
  t66 := Try.underlying129
  a66 := Try.isAgg129
  z66 := Try.sizeOf129
  v66 := Try.zeroValue129
  t70 := Try.underlying133
  a70 := Try.isAgg133
  z70 := Try.sizeOf133
  v70 := Try.zeroValue133
  t76 := Try.underlying135
  a76 := Try.isAgg135
  z76 := Try.sizeOf135
  v76 := Try.zeroValue135
  t77 := Try.underlying136
  a77 := Try.isAgg136
  z77 := Try.sizeOf136
  v77 := Try.zeroValue136 }

theorem ltK_iff (x y : Int × Int) : ltOf cmpK x y = true ↔ x.1 < y.1 ∨ (x.1 = y.1 ∧ x.2 < y.2) := by
  unfold ltOf cmpK orL orL orL cmpI
  rw [decide_eq_true_eq]
  repeat' split
  all_goals omega
theorem ltK_not (x y : Int × Int) : ltOf cmpK x y = false ↔ ¬ (x.1 < y.1 ∨ (x.1 = y.1 ∧ x.2 < y.2)) := by
  rw [← ltK_iff]
  simp
theorem swoK : SWO (ltOf cmpK) where
  irrefl := fun x => (ltK_not x x).2 (by omega)
  trans := fun x y z h1 h2 => by rw [ltK_iff] at *; omega
  ntrans := fun x y z h1 h2 => by rw [ltK_not] at *; omega
theorem totK (x y : Int × Int) (h1 : ltOf cmpK x y = false) (h2 : ltOf cmpK y x = false) : x = y := by
  rw [ltK_not] at *
  exact Prod.ext (by omega) (by omega)
theorem m85 : M85 := fun l hl M i hi => m85_of
  (fun blk off cap d w hH hblk hsz => AnyQ.slices_SortFunc_total sortLinks 2 Try.isAgg57 Try.sizeOf57 encP (fun _ => rfl) (fun x v hv => by simp [encP] at hv; rcases hv with rfl | rfl <;> rfl) cmpK swoK 86 #[] blk off cap d w
    (enters_of Try.func86 (by kernel_rfl) rfl) (cmp_lays blk off d.size w) hH hblk hsz totK)
  (fun p cap w => AnyF.slices_SortFunc_none { sortLinks with } p cap (.func (.func 86) #[] #[]) w) l hl M i hi
theorem s56 (n : Int) (ls : List (Int × Int)) (to : List Int) (hls : ls.length ≤ 10000) (hto : to.length ≤ 10000) :
    ASpec Try.prog 56 [trapA n ls, .s 1 (intsA to)] (fun r Ms => r = renA n (reE n ls to) (srtL (ls.map (rnK to))) ∧ Ms = []) := s56_of m85 n ls to hls hto
end Go.Proofs.Ytkolpijhgcijbaa
