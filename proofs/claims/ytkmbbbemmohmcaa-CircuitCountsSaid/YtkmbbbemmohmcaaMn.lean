/-
  Several texts in one: PlG, PlH, CuN.
-/
import Derived.Test.YtkmbbbemmohmcaaMf
import Derived.Test.YtkmbbbemmohmcaaMc
set_option linter.unusedSimpArgs false
set_option linter.unusedVariables false
namespace Go.Proofs.Ytkmbbbemmohmcaa
set_option linter.unusedSectionVars false
namespace Cn

section
variable {α : Type}
/-- the sum over the places of a list. -/
def ss (f : List α → α → List α → Nat) : List α → List α → Nat
  | _, [] => 0
  | p, x :: q => f p x q + ss f (p ++ [x]) q

theorem ss_congr {f g : List α → α → List α → Nat} : ∀ (q p : List α), (∀ u x v, p ++ q = u ++ x :: v → f u x v = g u x v) → ss f p q = ss g p q
  | [], _, _ => rfl
  | x :: q, p, h => by
    show f p x q + ss f (p ++ [x]) q = g p x q + ss g (p ++ [x]) q
    rw [h p x q rfl, ss_congr q (p ++ [x]) fun u y v e => h u y v (by rw [← e]; simp)]
theorem ss_le {f : List α → α → List α → Nat} {B : Nat} : ∀ (q p : List α), (∀ u x v, p ++ q = u ++ x :: v → f u x v ≤ B) → ss f p q ≤ q.length * B
  | [], _, _ => by simp [ss]
  | x :: q, p, h => by
    show f p x q + ss f (p ++ [x]) q ≤ (q.length + 1) * B
    have h1 := h p x q rfl
    have h2 := ss_le q (p ++ [x]) fun u y v e => h u y v (by rw [← e]; simp)
    rw [Nat.add_mul]
    omega
theorem ss_map {β : Type} (r : α → β) (f : List β → β → List β → Nat) : ∀ (q p : List α), ss f (p.map r) (q.map r) = ss (fun u x v => f (u.map r) (r x) (v.map r)) p q
  | [], _ => rfl
  | x :: q, p => by
    show f (p.map r) (r x) (q.map r) + ss f (p.map r ++ [r x]) (q.map r) = f (p.map r) (r x) (q.map r) + ss _ (p ++ [x]) q
    rw [← ss_map r f q (p ++ [x])]
    simp

variable (b : α → α → Bool)
/-- nothing before is bound to it. -/
def fr (p : List α) (x : α) : Bool := p.all fun y => !b x y
def cntF : Nat → List α → Nat
  | 0, _ => 1
  | n + 1, c => if c.isEmpty then 1 else ss (fun p x q => if fr b p x then cntF n (p ++ q) else 0) [] c
/-- how many orders a list has. -/
def cnt (c : List α) : Nat := cntF b c.length c
def fcn (p : List α) (x : α) (q : List α) : Nat := if fr b p x then cnt b (p ++ q) else 0
theorem cnt_nil : cnt b [] = 1 := rfl
theorem cnt_ss {c : List α} (h : c ≠ []) : cnt b c = ss (fcn b) [] c := by
  cases hc : c with
  | nil => exact (h hc).elim
  | cons y t =>
    show cntF b (t.length + 1) (y :: t) = _
    unfold cntF
    rw [if_neg (by simp)]
    refine ss_congr _ _ fun u x v e => ?_
    have hl : (u ++ v).length = t.length := by
      have := congrArg List.length e
      simp at this ⊢
      omega
    unfold fcn cnt
    rw [hl]
theorem cnt_cons (x : α) (c : List α) : cnt b (x :: c) = cnt b c + ss (fcn b) [x] c := by
  rw [cnt_ss b (by simp)]
  show fcn b [] x c + ss (fcn b) ([] ++ [x]) c = _
  simp [fcn, fr]
theorem cnt_pos : ∀ c : List α, 0 < cnt b c
  | [] => by simp [cnt_nil]
  | x :: c => by
    rw [cnt_cons]
    have := cnt_pos c
    omega
theorem cnt_le : ∀ (n : Nat) (c : List α), c.length ≤ n → n ≤ 10 → cnt b c ≤ 10 ^ n
  | 0, c, h, _ => by
    have : c = [] := List.eq_nil_of_length_eq_zero (by omega)
    subst this
    simp [cnt_nil]
  | n + 1, [], _, _ => by
    rw [cnt_nil]
    exact Nat.one_le_pow _ _ (by omega)
  | n + 1, y :: t, h, hn => by
    rw [cnt_ss b (by simp)]
    have := ss_le (f := fcn b) (B := 10 ^ n) (y :: t) [] fun u x v e => by
      unfold fcn
      split
      · refine cnt_le n _ ?_ (by omega)
        have := congrArg List.length e
        simp at this h ⊢
        omega
      · exact Nat.zero_le _
    refine Nat.le_trans this ?_
    rw [Nat.pow_succ, Nat.mul_comm]
    exact Nat.mul_le_mul_left _ (Nat.le_trans h hn)
theorem cnt_congr {b b' : α → α → Bool} : ∀ (n : Nat) (c : List α), c.length ≤ n → (∀ x ∈ c, ∀ y ∈ c, b x y = b' x y) → cnt b c = cnt b' c
  | _, [], _, _ => rfl
  | 0, y :: t, h, _ => by simp at h
  | n + 1, y :: t, h, hb => by
    rw [cnt_ss b (by simp), cnt_ss b' (by simp)]
    refine ss_congr _ _ fun u x v e => ?_
    simp only [List.nil_append] at e
    have hm : ∀ z, z ∈ u ++ v → z ∈ y :: t := fun z hz => by
      rw [e]
      simp only [List.mem_append, List.mem_cons] at hz ⊢
      rcases hz with h | h
      · exact .inl h
      · exact .inr (.inr h)
    have hx : x ∈ y :: t := by rw [e]; simp
    have hl : (u ++ v).length ≤ n := by
      have := congrArg List.length e
      simp at this h ⊢
      omega
    have h1 : fr b u x = fr b' u x := by
      unfold fr
      rw [Bool.eq_iff_iff, List.all_eq_true, List.all_eq_true]
      exact ⟨fun H z hz => by rw [← hb x hx z (hm z (by simp [hz]))]; exact H z hz, fun H z hz => by rw [hb x hx z (hm z (by simp [hz]))]; exact H z hz⟩
    unfold fcn
    rw [h1, cnt_congr n (u ++ v) hl fun p hp q hq => hb p (hm p hp) q (hm q hq)]
theorem cnt_map {β : Type} (r : α → β) (b' : β → β → Bool) : ∀ (n : Nat) (c : List α), c.length ≤ n → cnt b' (c.map r) = cnt (fun x y => b' (r x) (r y)) c
  | _, [], _ => rfl
  | 0, y :: t, h => by simp at h
  | n + 1, y :: t, h => by
    rw [cnt_ss b' (by simp), cnt_ss _ (by simp)]
    have := ss_map r (fcn b') (y :: t) []
    simp only [List.map_nil] at this
    rw [this]
    refine ss_congr _ _ fun u x v e => ?_
    have hl : (u ++ v).length ≤ n := by
      have := congrArg List.length e
      simp at this h ⊢
      omega
    have h1 : fr b' (u.map r) (r x) = fr (fun x y => b' (r x) (r y)) u x := by
      unfold fr
      rw [List.all_map]
      rfl
    unfold fcn
    rw [h1, ← List.map_append, cnt_map r b' n _ hl]

/-- two neighbors that are not bound. -/
theorem fr_two {p w : List α} {g h x : α} : fr b (p ++ g :: h :: w) x = fr b (p ++ h :: g :: w) x := by
  unfold fr
  simp only [List.all_append, List.all_cons]
  cases (!b x g) <;> cases (!b x h) <;> simp
theorem cnt_swap {g h : α} (hgh : b g h = false) (hhg : b h g = false) : ∀ (n : Nat) (u v : List α), u.length + v.length ≤ n → cnt b (u ++ g :: h :: v) = cnt b (u ++ h :: g :: v) := by
  intro n
  induction n with
  | zero =>
    intro u v hn
    have hu : u = [] := List.eq_nil_of_length_eq_zero (by omega)
    have hv : v = [] := List.eq_nil_of_length_eq_zero (by omega)
    subst hu; subst hv
    simp only [List.nil_append, cnt_cons, cnt_nil, ss, fcn, fr, List.all_cons, List.all_nil, hgh, hhg]
    simp [cnt_cons, cnt_nil, ss]
  | succ n ih =>
    intro u v hn
    rw [cnt_ss b (by simp), cnt_ss b (by simp)]
    have hv : ∀ (v' w p : List α), p.length + w.length + v'.length ≤ n + 1 → ss (fcn b) (p ++ g :: h :: w) v' = ss (fcn b) (p ++ h :: g :: w) v' := by
      intro v'
      induction v' with
      | nil => intros; rfl
      | cons x t iht =>
        intro w p hl
        show fcn b (p ++ g :: h :: w) x t + ss (fcn b) ((p ++ g :: h :: w) ++ [x]) t = fcn b (p ++ h :: g :: w) x t + ss (fcn b) ((p ++ h :: g :: w) ++ [x]) t
        have e1 := iht (w ++ [x]) p (by simp at hl ⊢; omega)
        have e2 := ih p (w ++ t) (by simp at hl ⊢; omega)
        simp only [List.append_assoc, List.cons_append, List.nil_append] at e1 e2 ⊢
        rw [e1]
        unfold fcn
        rw [fr_two]
        simp only [List.append_assoc, List.cons_append, List.nil_append]
        rw [e2]
    have hu : ∀ (u' p : List α), p.length + u'.length + v.length ≤ n + 1 → ss (fcn b) p (u' ++ g :: h :: v) = ss (fcn b) p (u' ++ h :: g :: v) := by
      intro u'
      induction u' with
      | nil =>
        intro p hl
        show fcn b p g (h :: v) + (fcn b (p ++ [g]) h v + ss (fcn b) (p ++ [g] ++ [h]) v) = fcn b p h (g :: v) + (fcn b (p ++ [h]) g v + ss (fcn b) (p ++ [h] ++ [g]) v)
        have e1 := hv v [] p (by simp at hl ⊢; omega)
        simp only [List.append_assoc, List.cons_append, List.nil_append] at e1 ⊢
        rw [e1]
        have e2 : fcn b p g (h :: v) = fcn b (p ++ [h]) g v := by
          unfold fcn fr
          simp [hgh]
        have e3 : fcn b (p ++ [g]) h v = fcn b p h (g :: v) := by
          unfold fcn fr
          simp [hhg]
        rw [e2, e3]
        omega
      | cons x t iht =>
        intro p hl
        show fcn b p x (t ++ g :: h :: v) + ss (fcn b) (p ++ [x]) (t ++ g :: h :: v) = fcn b p x (t ++ h :: g :: v) + ss (fcn b) (p ++ [x]) (t ++ h :: g :: v)
        have e1 := iht (p ++ [x]) (by simp at hl ⊢; omega)
        have e2 := ih (p ++ t) v (by simp at hl ⊢; omega)
        rw [e1]
        unfold fcn
        simp only [← List.append_assoc]
        simp only [List.append_assoc] at e2
        simp only [List.append_assoc]
        rw [e2]
    exact hu u [] (by simp; omega)

/-- a list has one order alone if all neighbors are bound. -/
theorem cnt_one : ∀ (c : List α), (∀ u g h v, c = u ++ g :: h :: v → b h g = true) → cnt b c = 1
  | [], _ => rfl
  | x :: c, hb => by
    rw [cnt_cons, cnt_one c fun u g h v e => hb (x :: u) g h v (by rw [e]; rfl)]
    have : ∀ (q p : List α) (y : α), (∀ u g h v, y :: q = u ++ g :: h :: v → b h g = true) → ss (fcn b) (p ++ [y]) q = 0 := by
      intro q
      induction q with
      | nil => intros; rfl
      | cons z t ih =>
        intro p y hy
        show fcn b (p ++ [y]) z t + ss (fcn b) (p ++ [y] ++ [z]) t = 0
        rw [ih (p ++ [y]) z fun u g h v e => hy (y :: u) g h v (by rw [e]; rfl)]
        unfold fcn fr
        have := hy [] y z t rfl
        simp [this]
    have := this c [] x hb
    simp only [List.nil_append] at this
    rw [this]
theorem cnt_two {g h : α} (hhg : b h g = false) (v : List α) : ∀ (u : List α), 2 ≤ cnt b (u ++ g :: h :: v)
  | [] => by
    show 2 ≤ cnt b (g :: h :: v)
    rw [cnt_cons]
    show 2 ≤ cnt b (h :: v) + (fcn b [g] h v + ss (fcn b) ([g] ++ [h]) v)
    have h1 := cnt_pos b (h :: v)
    have h2 : fcn b [g] h v = cnt b (g :: v) := by unfold fcn fr; simp [hhg]
    have h3 := cnt_pos b (g :: v)
    omega
  | x :: u => by
    show 2 ≤ cnt b (x :: (u ++ g :: h :: v))
    rw [cnt_cons]
    have := cnt_two hhg v u
    omega
end
end Cn
end Go.Proofs.Ytkmbbbemmohmcaa

namespace Go.Proofs.Ytkmbbbemmohmcaa
set_option linter.unusedSectionVars false
namespace Cn

section
variable {α : Type}
/-- what is not in a set of places. -/
def out (s : Nat) : Nat → List α → List α
  | _, [] => []
  | k, x :: t => if s.testBit k then out s (k + 1) t else x :: out s (k + 1) t
theorem out_app (s : Nat) : ∀ (a b : List α) (k : Nat), out s k (a ++ b) = out s k a ++ out s (k + a.length) b
  | [], b, k => rfl
  | x :: a, b, k => by
    show (if s.testBit k then out s (k + 1) (a ++ b) else x :: out s (k + 1) (a ++ b)) = (if s.testBit k then out s (k + 1) a else x :: out s (k + 1) a) ++ _
    rw [out_app s a b (k + 1), List.length_cons, show k + 1 + a.length = k + (a.length + 1) by omega]
    split <;> rfl
theorem out_congr {s s' : Nat} : ∀ (c : List α) (k : Nat), (∀ j, k ≤ j → j < k + c.length → s.testBit j = s'.testBit j) → out s k c = out s' k c
  | [], _, _ => rfl
  | x :: t, k, h => by
    show (if s.testBit k then out s (k + 1) t else x :: out s (k + 1) t) = if s'.testBit k then out s' (k + 1) t else x :: out s' (k + 1) t
    rw [h k (Nat.le_refl _) (by simp), out_congr t (k + 1) fun j h1 h2 => h j (by omega) (by simp; omega)]
theorem out_nil {s : Nat} : ∀ (c : List α) (k : Nat), out s k c = [] → ∀ j, k ≤ j → j < k + c.length → s.testBit j = true
  | [], k, _, j, h1, h2 => by simp at h2; omega
  | x :: t, k, h, j, h1, h2 => by
    unfold out at h
    split at h
    · rename_i hk
      by_cases e : j = k
      · rw [e]; exact hk
      · exact out_nil t (k + 1) h j (by omega) (by simp at h2; omega)
    · cases h
theorem out_full {s : Nat} {c : List α} (hs : s < 2 ^ c.length) (h : out s 0 c = []) : s = 2 ^ c.length - 1 := by
  refine Nat.eq_of_testBit_eq fun j => ?_
  rw [Nat.testBit_two_pow_sub_one]
  by_cases hj : j < c.length
  · rw [out_nil c 0 h j (by omega) (by omega), decide_eq_true hj]
  · rw [decide_eq_false hj]
    exact Nat.testBit_lt_two_pow (Nat.lt_of_lt_of_le hs (Nat.pow_le_pow_right (by omega) (by omega)))
theorem out_all (c : List α) : out (2 ^ c.length - 1) 0 c = [] := by
  have : ∀ (t : List α) (k n : Nat), k + t.length ≤ n → out (2 ^ n - 1) k t = [] := by
    intro t
    induction t with
    | nil => intros; rfl
    | cons x t ih =>
      intro k n h
      unfold out
      rw [Nat.testBit_two_pow_sub_one, decide_eq_true (by simp at h; omega), if_pos rfl]
      exact ih (k + 1) n (by simp at h; omega)
  exact this c 0 _ (by omega)
theorem out_zero : ∀ (c : List α) (k : Nat), out 0 k c = c
  | [], _ => rfl
  | x :: t, k => by
    unfold out
    rw [Nat.zero_testBit, if_neg (by simp), out_zero t]

variable [Inhabited α] (b : α → α → Bool)
/-- whether a gate may come next. -/
def opN (c : List α) (s : Nat) (g : α) : Nat → Bool
  | 0 => true
  | k + 1 => opN c s g k && (s.testBit k || !b g (c.getD k default))
theorem take_more {c : List α} {k : Nat} (h : k < c.length) : c.take (k + 1) = c.take k ++ [c.getD k default] := by
  rw [List.take_add_one, List.getElem?_eq_getElem h, List.getD_eq_getElem?_getD, List.getElem?_eq_getElem h]
  rfl
theorem drop_more {c : List α} {k : Nat} (h : k < c.length) : c.drop k = c.getD k default :: c.drop (k + 1) := by
  rw [List.drop_eq_getElem_cons h, List.getD_eq_getElem?_getD, List.getElem?_eq_getElem h]
  rfl
theorem fr_op {c : List α} {s : Nat} {g : α} : ∀ (k : Nat), k ≤ c.length → fr b (out s 0 (c.take k)) g = opN b c s g k
  | 0, _ => rfl
  | k + 1, h => by
    have hl : (c.take k).length = k := by simp; omega
    rw [take_more (by omega), out_app, hl]
    show fr b (out s 0 (c.take k) ++ (if s.testBit (0 + k) then [] else [c.getD k default])) g = (opN b c s g k && (s.testBit k || !b g (c.getD k default)))
    rw [← fr_op k (by omega)]
    unfold fr
    rw [List.all_append, Nat.zero_add]
    cases s.testBit k <;> simp

def rem (c : List α) (s i : Nat) : Nat := if (out s 0 c).isEmpty then 1 else ss (fcn b) (out s 0 (c.take i)) (out s i (c.drop i))
theorem rem_0 (c : List α) (s : Nat) : rem b c s 0 = cnt b (out s 0 c) := by
  unfold rem
  by_cases h : (out s 0 c).isEmpty = true
  · rw [if_pos h, List.isEmpty_iff.1 h]; rfl
  · rw [if_neg h, cnt_ss b fun e => h (by rw [e]; rfl)]
    rfl
theorem rem_in {c : List α} {s i : Nat} (h : i < c.length) (hb : s.testBit i = true) : rem b c s (i + 1) = rem b c s i := by
  have hl : (c.take i).length = i := by simp; omega
  unfold rem
  rw [take_more h, out_app, hl, drop_more h]
  have e1 : out s (0 + i) [c.getD i default] = [] := by unfold out out; rw [Nat.zero_add, hb]; rfl
  have e2 : out s i (c.getD i default :: c.drop (i + 1)) = out s (i + 1) (c.drop (i + 1)) := by conv => lhs; unfold out; rw [hb, if_pos rfl]
  rw [e1, e2, List.append_nil]
theorem bit_or (s i j : Nat) : (s ||| 2 ^ i).testBit j = (s.testBit j || decide (i = j)) := by
  rw [Nat.testBit_or, Nat.testBit_two_pow]
theorem rem_out {c : List α} {s i : Nat} (h : i < c.length) (hb : s.testBit i = false) : rem b c s i = (if opN b c s (c.getD i default) i then cnt b (out (s ||| 2 ^ i) 0 c) else 0) + rem b c s (i + 1) := by
  have hl : (c.take i).length = i := by simp; omega
  have e1 : out s (0 + i) [c.getD i default] = [c.getD i default] := by unfold out out; rw [Nat.zero_add, hb]; rfl
  have e2 : out s i (c.getD i default :: c.drop (i + 1)) = c.getD i default :: out s (i + 1) (c.drop (i + 1)) := by conv => lhs; unfold out; rw [hb, if_neg (by simp)]
  have hc : c = c.take i ++ c.getD i default :: c.drop (i + 1) := by rw [← drop_more h]; exact (List.take_append_drop i c).symm
  have hne : (out s 0 c).isEmpty = false := by
    rw [hc, out_app, hl, Nat.zero_add, e2]
    cases out s 0 (c.take i) <;> rfl
  have e3 : out (s ||| 2 ^ i) 0 c = out s 0 (c.take i) ++ out s (i + 1) (c.drop (i + 1)) := by
    conv => lhs; rw [hc]
    rw [out_app, hl, Nat.zero_add]
    have : out (s ||| 2 ^ i) i (c.getD i default :: c.drop (i + 1)) = out (s ||| 2 ^ i) (i + 1) (c.drop (i + 1)) := by
      conv => lhs; unfold out; rw [bit_or, decide_eq_true rfl, Bool.or_true, if_pos rfl]
    rw [this, out_congr (s' := s) (c.take i) 0 fun j h1 h2 => by rw [bit_or, decide_eq_false (by omega), Bool.or_false], out_congr (s' := s) (c.drop (i + 1)) (i + 1) fun j h1 h2 => by rw [bit_or, decide_eq_false (by omega), Bool.or_false]]
  have hq : (if opN b c s (c.getD i default) i then cnt b (out (s ||| 2 ^ i) 0 c) else 0) = fcn b (out s 0 (c.take i)) (c.getD i default) (out s (i + 1) (c.drop (i + 1))) := by
    unfold fcn
    rw [fr_op b i (by omega), e3]
  rw [hq]
  unfold rem
  simp only [hne, Bool.false_eq_true, if_false]
  rw [take_more h, out_app, hl, e1, drop_more h, e2]
  rfl
theorem rem_n (c : List α) (s : Nat) : rem b c s c.length = if (out s 0 c).isEmpty then 1 else 0 := by
  unfold rem
  rw [List.drop_length]
  rfl

/-- the orders of what the sets from a place on leave over. -/
def tl (c : List α) : Nat → List Nat → Nat
  | _, [] => 0
  | k, x :: t => x * cnt b (out k 0 c) + tl c (k + 1) t
theorem tl_set (c : List α) (v : Nat) : ∀ (l : List Nat) (j k : Nat), j < l.length → tl b c k (l.set j (l.getD j 0 + v)) = tl b c k l + v * cnt b (out (k + j) 0 c)
  | [], j, k, h => by simp at h
  | x :: t, 0, k, h => by
    show (x + v) * cnt b (out k 0 c) + tl b c (k + 1) t = x * cnt b (out k 0 c) + tl b c (k + 1) t + v * cnt b (out (k + 0) 0 c)
    rw [Nat.add_mul, Nat.add_zero k]
    omega
  | x :: t, j + 1, k, h => by
    show x * cnt b (out k 0 c) + tl b c (k + 1) (t.set j (t.getD j 0 + v)) = x * cnt b (out k 0 c) + tl b c (k + 1) t + v * cnt b (out (k + (j + 1)) 0 c)
    rw [tl_set c v t j (k + 1) (by simpa using h), show k + 1 + j = k + (j + 1) by omega]
    omega
theorem tl_ge (c : List α) : ∀ (l : List Nat) (j k : Nat), l.getD j 0 ≤ tl b c k l
  | [], j, k => by simp [tl]
  | x :: t, 0, k => by
    show x ≤ x * cnt b (out k 0 c) + tl b c (k + 1) t
    have := Nat.le_mul_of_pos_right x (cnt_pos b (out k 0 c))
    omega
  | x :: t, j + 1, k => by
    show t.getD j 0 ≤ x * cnt b (out k 0 c) + tl b c (k + 1) t
    have := tl_ge c t j (k + 1)
    omega
theorem tl_zero (c : List α) : ∀ (n k : Nat), tl b c k (List.replicate n 0) = 0
  | 0, _ => rfl
  | n + 1, k => by
    show 0 * _ + tl b c (k + 1) (List.replicate n 0) = 0
    rw [tl_zero c n]
    simp
theorem tl_drop (c : List α) {m : List Nat} {s : Nat} (h : s < m.length) : tl b c s (m.drop s) = m.getD s 0 * cnt b (out s 0 c) + tl b c (s + 1) (m.drop (s + 1)) := by
  rw [List.drop_eq_getElem_cons h, List.getD_eq_getElem?_getD, List.getElem?_eq_getElem h]
  rfl

structure Pot (c : List α) (s i : Nat) (m : List Nat) : Prop where
  len : m.length = 2 ^ c.length
  sum : tl b c (s + 1) (m.drop (s + 1)) + m.getD s 0 * rem b c s i = cnt b c
variable {b}
theorem Pot.start (c : List α) : Pot b c 0 0 (1 :: List.replicate (2 ^ c.length - 1) 0) where
  len := by
    have := Nat.two_pow_pos c.length
    simp
    omega
  sum := by
    rw [rem_0, out_zero]
    show tl b c 1 (List.replicate (2 ^ c.length - 1) 0) + 1 * cnt b c = cnt b c
    rw [tl_zero]
    omega
theorem Pot.isin {c : List α} {s i : Nat} {m : List Nat} (h : Pot b c s i m) (hi : i < c.length) (hb : s.testBit i = true) : Pot b c s (i + 1) m := ⟨h.len, by rw [rem_in b hi hb]; exact h.sum⟩
theorem Pot.closed {c : List α} {s i : Nat} {m : List Nat} (h : Pot b c s i m) (hi : i < c.length) (hb : s.testBit i = false) (ho : opN b c s (c.getD i default) i = false) : Pot b c s (i + 1) m :=
  ⟨h.len, by have := h.sum; rw [rem_out b hi hb, ho] at this; simpa using this⟩
theorem lt_or {s i : Nat} (hb : s.testBit i = false) : s < s ||| 2 ^ i := by
  refine Nat.lt_of_le_of_ne Nat.left_le_or fun e => ?_
  have := bit_or s i i
  rw [← e, hb] at this
  simp at this
theorem or_lt {s i n : Nat} (hs : s < 2 ^ n) (hi : i < n) : s ||| 2 ^ i < 2 ^ n := Nat.or_lt_two_pow hs (Nat.pow_lt_pow_right (by omega) hi)
theorem Pot.isopen {c : List α} {s i : Nat} {m : List Nat} (h : Pot b c s i m) (hs : s < 2 ^ c.length) (hi : i < c.length) (hb : s.testBit i = false) (ho : opN b c s (c.getD i default) i = true) :
    Pot b c s (i + 1) (m.set (s ||| 2 ^ i) (m.getD (s ||| 2 ^ i) 0 + m.getD s 0)) ∧ m.getD (s ||| 2 ^ i) 0 + m.getD s 0 ≤ cnt b c := by
  have h1 := lt_or hb
  have h2 := or_lt hs hi
  have h3 : s ||| 2 ^ i < m.length := by rw [h.len]; exact h2
  obtain ⟨T, hT⟩ : ∃ T, T = s ||| 2 ^ i := ⟨_, rfl⟩
  have hr := rem_out b hi hb
  rw [ho, if_pos rfl] at hr
  rw [← hT] at h1 h3 hr ⊢
  have e1 : (m.set T (m.getD T 0 + m.getD s 0)).drop (s + 1) = (m.drop (s + 1)).set (T - (s + 1)) ((m.drop (s + 1)).getD (T - (s + 1)) 0 + m.getD s 0) := by
    rw [List.drop_set, if_neg (by omega), List.getD_eq_getElem?_getD (l := m.drop (s + 1)), List.getElem?_drop, show s + 1 + (T - (s + 1)) = T by omega, ← List.getD_eq_getElem?_getD]
  have e2 : (m.set T (m.getD T 0 + m.getD s 0)).getD s 0 = m.getD s 0 := by
    rw [List.getD_eq_getElem?_getD, List.getElem?_set_ne (by omega), ← List.getD_eq_getElem?_getD]
  have hp : tl b c (s + 1) ((m.set T (m.getD T 0 + m.getD s 0)).drop (s + 1)) + m.getD s 0 * rem b c s (i + 1) = cnt b c := by
    rw [e1, tl_set b c _ _ _ _ (by simp; omega), show s + 1 + (T - (s + 1)) = T by omega]
    have := h.sum
    rw [hr, Nat.mul_add] at this
    omega
  refine ⟨⟨by rw [List.length_set]; exact h.len, by rw [e2]; exact hp⟩, ?_⟩
  have := tl_ge b c ((m.set T (m.getD T 0 + m.getD s 0)).drop (s + 1)) (T - (s + 1)) (s + 1)
  rw [List.getD_eq_getElem?_getD, List.getElem?_drop, show s + 1 + (T - (s + 1)) = T by omega, List.getElem?_set_self h3, Option.getD_some] at this
  omega
theorem Pot.next {c : List α} {s : Nat} {m : List Nat} (h : Pot b c s c.length m) (hs : s + 1 < 2 ^ c.length) : Pot b c (s + 1) 0 m := by
  have hne : (out s 0 c).isEmpty = false := by
    cases he : (out s 0 c).isEmpty with
    | false => rfl
    | true =>
      have := out_full (show s < 2 ^ c.length by omega) (List.isEmpty_iff.1 he)
      omega
  have h1 := h.sum
  rw [rem_n, hne, if_neg (by simp), tl_drop b c (by rw [h.len]; exact hs)] at h1
  exact ⟨h.len, by rw [rem_0]; omega⟩
theorem Pot.fin {c : List α} {s : Nat} {m : List Nat} (h : Pot b c s c.length m) (hs : s + 1 = 2 ^ c.length) : m.getD (2 ^ c.length - 1) 0 = cnt b c := by
  have e : s = 2 ^ c.length - 1 := by omega
  subst e
  have h1 := h.sum
  rw [rem_n, out_all, List.drop_of_length_le (by rw [h.len]; omega)] at h1
  simpa [tl] using h1
end
end Cn
end Go.Proofs.Ytkmbbbemmohmcaa

namespace Go.Proofs.Ytkmbbbemmohmcaa
open Aw Go.RowKit
set_option linter.unusedSimpArgs false

def nz (m : List Nat) : List Int := m.map fun x : Nat => (x : Int)
theorem nz_len (m : List Nat) : (nz m).length = m.length := by simp [nz]
theorem nz_at {m : List Nat} {j : Nat} (h : j < (nz m).length) : (nz m)[j] = ((m.getD j 0 : Nat) : Int) := by
  have h' : j < m.length := by simpa [nz] using h
  rw [List.getD_eq_getElem?_getD, List.getElem?_eq_getElem h']
  simp [nz]
theorem ints_set (l : List Int) (j : Nat) (x : Int) : (intsA l).set j (I x) = intsA (l.set j x) := by simp [intsA]
theorem nz_set (m : List Nat) (j x : Nat) : (nz m).set j (x : Int) = nz (m.set j x) := by simp [nz]
theorem rep_nz (m : Nat) : List.replicate m (AV.v (.int .i64 0)) = intsA (nz (List.replicate m 0)) := by simp [intsA, nz]
theorem pow2N (k : Nat) : (1 : Int) * 2 ^ k = ((2 ^ k : Nat) : Int) := by simp
theorem pow2_le {k n : Nat} (h : k ≤ n) (hn : n ≤ 10) : 2 ^ k ≤ 1024 := Nat.le_trans (Nat.pow_le_pow_right (by omega) (Nat.le_trans h hn)) (Nat.le_refl _)
theorem bitI (s i : Nat) : decide (((((s : Int) / 2 ^ i).toNat &&& 1 : Nat) : Int) = 1) = s.testBit i := by
  have e : (s : Int) / 2 ^ i = ((s / 2 ^ i : Nat) : Int) := by simp
  rw [e, Int.toNat_natCast, ← Nat.shiftRight_eq_div_pow, Nat.and_one_is_mod]
  unfold Nat.testBit
  rw [Nat.and_comm, Nat.and_one_is_mod]
  rcases Nat.mod_two_eq_zero_or_one (s >>> i) with h | h <;> simp [h]

theorem ok20 : okFn Try.prog 20 = true := by kernel_rfl
set_option maxHeartbeats 2000000 in
theorem s20 (n : Int) (c : List G4) (hl : c.length ≤ 10000) : ASpec Try.prog 20 [I n, .s 4 (gtsA c)] (fun r Ms => r = .t [I (if vC n c = 0 then (Cn.cnt G4.bound c : Nat) else 0), I (vC n c)] ∧ Ms = []) := by
  refine aspec_of (own := []) Try.func20 rfl ok20 ?_
  simp only [w_move, w_assign, w_callF, w_aop, w_anone, w_nil, w_cons, awp, asN, St.ev, St.step, setS, killS, AV.kill, AV.killL, Mem.kill, ACond_false, List.getD_cons_succ, List.getD_cons_zero, List.set_cons_succ, List.set_cons_zero, List.length_cons, List.length_nil, List.replicate_succ, List.replicate_zero, List.cons_append, List.nil_append, List.contains_nil, List.isEmpty_nil, Option.getD_some, Bool.false_eq_true, if_false, if_true, Nat.zero_add, Nat.add_zero, List.map_cons, List.map_nil, Nat.reduceAdd, Nat.reduceSub, Int.reduceAdd, Int.reduceSub, Try.ntmps20]
  refine acall_v (s21 n c (by omega)) rfl rfl ?_
  simp only [w_move, w_assign, w_binOp, w_aop, w_some, w_asome, w_anone, w_nil, w_cons, awp, binC, cmpC, asB, asI, asN, St.ev, St.step, setS, killS, AV.kill, AV.killL, Mem.kill, ACond_false, List.getD_cons_succ, List.getD_cons_zero, List.set_cons_succ, List.set_cons_zero, List.contains_nil, List.isEmpty_nil, Option.getD_some, Bool.false_eq_true, if_false, if_true, true_and, Bool.true_and, Nat.reduceAdd, Int.reduceAdd]
  by_cases hv : vC n c = 0
  · have hc := vC_len hv
    have hp := pow2_le (Nat.le_refl c.length) hc
    have hp0 := Nat.two_pow_pos c.length
    have hr1 : List.replicate (2 ^ c.length) (0 : Nat) = 0 :: List.replicate (2 ^ c.length - 1) 0 := by
      obtain ⟨k, hk⟩ : ∃ k, 2 ^ c.length = k + 1 := ⟨2 ^ c.length - 1, by omega⟩
      rw [hk]; rfl
    simp only [w_move, w_assign, w_store, w_indexAddr, w_binOp, w_len, w_makeSlice, oneOf, w_aop, w_some, w_asome, w_anone, w_nil, w_cons, awp, binC, idxC, arithC, cmpC, asQ, asO, asS, asI, asN, obA, lenA, Aw.newRow, St.ev, St.step, setS, killS, AV.kill, AV.killL, Mem.kill, ACond_false, List.getD_cons_succ, List.getD_cons_zero, List.set_cons_succ, List.set_cons_zero, List.getElem?_cons_zero, List.length_nil, List.nil_append, List.contains_nil, List.isEmpty_nil, Option.getD_some, Bool.false_eq_true, if_false, if_true, true_and, and_true, Bool.and_true, Bool.true_and, Bool.not_true, Option.isSome_some, Nat.reduceAdd, Nat.reduceLeDiff, Int.reduceAdd, Int.reduceLE, Int.toNat_zero, gtsA_len, intsA_len, ti3, ti22, ti31, decide_eq_true hv, gtsA_len, pow2N, Int.toNat_natCast, rep_nz, hr1]
    have hst := Cn.Pot.start (b := G4.bound) c
    obtain ⟨S, hS⟩ : ∃ S, S = 2 ^ c.length := ⟨_, rfl⟩
    rw [← hS] at hp hp0 hst ⊢
    have hl0 : (nz (0 :: List.replicate (S - 1) 0)).length = S := by rw [nz_len]; simp; omega
    refine ⟨⟨by omega, by omega, by unfold lim; omega⟩, ⟨by omega, by omega⟩, by omega, ?_⟩
    have h00 : (0 : Nat) < (nz (0 :: List.replicate (S - 1) 0)).length := by omega
    rw [aget_ints h00]
    have e00 : (nz (0 :: List.replicate (S - 1) 0)).set 0 1 = nz (1 :: List.replicate (S - 1) 0) := rfl
    simp only [w_move, w_len, w_aop, w_some, w_asome, w_nil, w_cons, awp, lenA, storeA, putsA, St.ev, St.step, setS, killS, AV.kill, AV.killL, Mem.kill, AV.cells, AV.flat, AV.single, AV.cellular, ACond_false, Value.oneCell', List.getD_cons_succ, List.getD_cons_zero, List.set_cons_succ, List.set_cons_zero, List.getElem?_cons_zero, List.length_cons, List.head?_cons, List.length_nil, List.contains_nil, List.isEmpty_nil, Bool.false_eq_true, if_false, if_true, true_and, and_true, List.all_cons, List.all_nil, Bool.and_true, Bool.true_and, Option.isSome_some, Nat.zero_add, beq_self_eq_true, decide_true, Nat.reduceAdd, Nat.reduceLeDiff, Int.reduceAdd, intsA_len, ti31, ints_set, e00, nz_len, hst.len, ← hS]
    refine swp_loop' (fun j : Nat × List Nat => ⟨[.bot, .s 4 (gtsA c), .bot, .bot, .bot, .bot, .bot, .o 0, .bot, .bot, .bot, .bot, .bot, .bot, .bot, .bot, .bot, .bot, .bot, .bot, .bot, .bot, .bot, .bot, .bot, .bot, .bot, I S, I j.1, .bot, .bot, .bot, .bot, .bot, .bot, .bot, .bot, .bot, .bot, .bot, .bot, .bot, .bot, .bot, .bot, .bot, .bot, .bot, .bot, .bot, .bot, .bot, .bot, .bot, .bot, .bot, .bot, .bot, .bot, .bot, .bot, .bot, .bot, .bot, .bot, .bot, .bot, .bot, .bot, .bot, .bot, .bot, .bot, .bot, .bot, .bot, .bot, .bot, .bot, .bot, .bot, .bot, .bot, .bot, .bot, .bot, .bot, .bot, .bot], [some ⟨none, 3, 1, intsA (nz j.2)⟩]⟩)
      (fun j => j.2.length = S ∧ j.1 ≤ S ∧ (j.1 < S → Cn.Pot G4.bound c j.1 0 j.2) ∧ (j.1 = S → j.2.getD (S - 1) 0 = Cn.cnt G4.bound c)) (fun j => S - j.1) (0, 1 :: List.replicate (S - 1) 0) (le_sl (by simp [leSl])) ⟨by rw [hst.len, hS], Nat.zero_le _, fun _ => hst, fun e => by simp only at e; omega⟩ ?_
    rintro ⟨s, m⟩ ⟨hml, hs, hpot, hfin⟩
    simp only at hml hs hpot hfin
    refine awp_sound (own := []) _ _ _ _ _ ?_
    simp only [w_binOp, w_aop, w_some, w_asome, w_nil, w_cons, awp, binC, cmpC, asB, asI, St.ev, St.step, setS, killS, AV.kill, AV.killL, Mem.kill, ACond_false, List.getD_cons_succ, List.getD_cons_zero, List.set_cons_succ, List.set_cons_zero, List.contains_nil, List.isEmpty_nil, Bool.false_eq_true, if_false, if_true, true_and, Bool.true_and, Nat.reduceAdd, Int.reduceAdd]
    by_cases h : s < S
    · have h' : (s : Int) < (S : Int) := by omega
      simp only [w_move, w_assign, w_len, w_aop, w_some, w_asome, w_anone, w_nil, w_cons, awp, asN, lenA, St.ev, St.step, setS, killS, AV.kill, AV.killL, Mem.kill, ACond_true, ACond_false, List.getD_cons_succ, List.getD_cons_zero, List.set_cons_succ, List.set_cons_zero, List.contains_nil, List.isEmpty_nil, Option.getD_some, Bool.false_eq_true, if_false, if_true, true_and, Bool.true_and, Option.isSome_some, Nat.reduceAdd, Int.reduceAdd, gtsA_len, ti22, decide_eq_true h', gtsA_len]
      refine swp_loop' (fun j : Nat × List Nat => ⟨[.bot, .s 4 (gtsA c), .bot, .bot, .bot, .bot, .bot, .o 0, I s, .bot, .bot, .bot, .bot, .bot, .bot, .bot, .bot, .bot, .bot, .bot, .bot, .bot, .bot, .bot, .bot, .bot, .bot, I S, I s, .bot, .bot, .s 4 (gtsA c), I c.length, I j.1, .bot, .bot, .bot, .bot, .bot, .bot, .bot, .bot, .bot, .bot, .bot, .bot, .bot, .bot, .bot, .bot, .bot, .bot, .bot, .bot, .bot, .bot, .bot, .bot, .bot, .bot, .bot, .bot, .bot, .bot, .bot, .bot, .bot, .bot, .bot, .bot, .bot, .bot, .bot, .bot, .bot, .bot, .bot, .bot, .bot, .bot, .bot, .bot, .bot, .bot, .bot, .bot, .bot, .bot, .bot], [some ⟨none, 3, 1, intsA (nz j.2)⟩]⟩)
        (fun j => j.1 ≤ c.length ∧ Cn.Pot G4.bound c s j.1 j.2) (fun j => c.length - j.1) (0, m) (le_sl (by simp [leSl])) ⟨Nat.zero_le _, hpot h⟩ ?_
      rintro ⟨i, m⟩ ⟨hi, hpot⟩
      simp only at hi hpot
      refine awp_sound (own := []) _ _ _ _ _ ?_
      simp only [w_binOp, w_aop, w_some, w_asome, w_nil, w_cons, awp, binC, cmpC, asB, asI, St.ev, St.step, setS, killS, AV.kill, AV.killL, Mem.kill, ACond_false, List.getD_cons_succ, List.getD_cons_zero, List.set_cons_succ, List.set_cons_zero, List.contains_nil, List.isEmpty_nil, Bool.false_eq_true, if_false, if_true, true_and, Bool.true_and, Nat.reduceAdd, Int.reduceAdd]
      by_cases hic : i < c.length
      · have hic' : (i : Int) < (c.length : Int) := by omega
        simp only [w_move, w_assign, w_alloc, w_load, w_store, w_indexAddr, w_binOp, w_aop, w_some, w_asome, w_anone, w_nil, w_cons, awp, binC, idxC, arithC, cmpC, asP, asQ, asS, asB, asI, asN, obA, AGet_zero, loadA, storeA, putsA, mkA, Aw.newRow, St.ev, St.step, setS, killS, AV.kill, AV.killL, Mem.kill, AV.cells, AV.flat, AV.single, AV.cellular, ACond_true, ACond_false, List.getD_cons_succ, List.getD_cons_zero, List.set_cons_succ, List.set_cons_zero, List.getElem?_cons_succ, List.getElem?_cons_zero, List.length_cons, List.length_nil, List.cons_append, List.nil_append, List.contains_nil, List.isEmpty_nil, Option.getD_some, Bool.false_eq_true, if_false, if_true, true_and, and_true, List.all_cons, List.all_nil, Bool.and_true, Bool.true_and, Bool.not_true, Nat.zero_add, beq_self_eq_true, List.map_cons, List.map_nil, decide_true, nbeq, decide_false, Bool.or_false, Nat.reduceAdd, Nat.reduceEqDiff, Nat.reduceLeDiff, Int.reduceAdd, Int.reduceLE, Int.toNat_one, ti22, ti24, decide_eq_true hic', aget_gts hic, Int.toNat_natCast]
        have hsd : (0 : Int) ≤ (s : Int) / 2 ^ i ∧ (s : Int) / 2 ^ i ≤ 1024 := by
          have e : (s : Int) / 2 ^ i = ((s / 2 ^ i : Nat) : Int) := by simp
          rw [e]
          have := Nat.div_le_self s (2 ^ i)
          obtain ⟨q, hq⟩ : ∃ q, q = s / 2 ^ i := ⟨_, rfl⟩
          rw [← hq] at this ⊢
          omega
        refine ⟨by omega, ⟨by omega, by omega⟩, ⟨hsd.1, by unfold lim; omega, by unfold lim; omega⟩, ?_⟩
        rw [bitI]
        cases hb : s.testBit i with
        | true =>
          simp only [w_move, w_load, w_indexAddr, w_binOp, w_len, w_aop, w_some, w_asome, w_anone, w_nil, w_cons, awp, binC, idxC, arithC, cmpC, asP, asQ, asO, asS, asI, obA, lenA, St.ev, St.step, setS, killS, AV.kill, AV.killL, Mem.kill, ACond_true, ACond_false, List.getD_cons_succ, List.getD_cons_zero, List.set_cons_succ, List.set_cons_zero, List.getElem?_cons_zero, List.contains_nil, List.isEmpty_nil, Bool.false_eq_true, if_false, if_true, true_and, and_true, Bool.and_true, Bool.true_and, Option.isSome_some, Nat.reduceAdd, Nat.reduceEqDiff, Int.reduceAdd, intsA_len, ti3, ti31]
          exact ⟨by unfold lim; omega, (i + 1, m), le_cut (Mx := [_]) (M' := [_]) (by simp [leSl]) rfl (by simp [AV.freeL, AV.free, freeL_pure, gtsA_pure]) (by simp [freeM, AV.freeL, freeL_pure, intsA_pure]), ⟨by omega, hpot.isin hic hb⟩, by simp only; omega⟩
        | false =>
          simp only [w_move, w_assign, w_slice, w_len, w_aop, w_some, w_asome, w_anone, w_nil, w_cons, awp, asS, asN, bndA, lenA, St.ev, St.step, setS, killS, AV.kill, AV.killL, Mem.kill, ACond_false, List.getD_cons_succ, List.getD_cons_zero, List.set_cons_succ, List.set_cons_zero, List.contains_nil, List.isEmpty_nil, Option.getD_some, Option.getD_none, Bool.false_eq_true, if_false, if_true, true_and, Bool.true_and, Option.isSome_some, Nat.reduceAdd, Int.reduceAdd, Int.reduceLE, Int.toNat_zero, gtsA_len, ti22, ti24, gtsA_len, Int.toNat_natCast, gtsA_take]
          refine ⟨⟨by omega, by omega⟩, ?_⟩
          have hgi : c.getD i default = c[i] := getD_at hic
          refine swp_loop' (fun j : Nat => ⟨[.bot, .s 4 (gtsA c), .bot, .bot, .bot, .bot, .bot, .o 0, I s, I i, .q 1 4 0 0, B (Cn.opN G4.bound c s c[i] j), .bot, .bot, .bot, .bot, .bot, .bot, .bot, .bot, .bot, .bot, .bot, .bot, .bot, .bot, .bot, I S, I s, .bot, .bot, .s 4 (gtsA c), I c.length, I i, .bot, .bot, .bot, .bot, .bot, .bot, .bot, .bot, .bot, .bot, .bot, .s 4 (gtsA (c.take i)), I (c.take i).length, I j, .bot, .bot, .bot, .bot, .bot, .bot, .bot, .bot, .bot, .bot, .bot, .bot, .bot, .bot, .bot, .bot, .bot, .bot, .bot, .bot, .bot, .bot, .bot, .bot, .bot, .bot, .bot, .bot, .bot, .bot, .bot, .bot, .bot, .bot, .bot, .bot, .bot, .bot, .bot, .bot, .bot], [some ⟨none, 3, 1, intsA (nz m)⟩, some ⟨none, 24, 4, [.g [I c[i].k, I c[i].a, I c[i].b, I c[i].t]]⟩]⟩)
            (fun j => j ≤ i) (fun j => i - j) 0 (le_sl (by simp [leSl, gtsA_len, gtsA_take, Cn.opN])) (Nat.zero_le _) ?_
          intro j hj
          have hlen : (c.take i).length = i := by simp; omega
          refine awp_sound (own := []) _ _ _ _ _ ?_
          simp only [w_binOp, w_aop, w_some, w_asome, w_nil, w_cons, awp, binC, cmpC, asB, asI, St.ev, St.step, setS, killS, AV.kill, AV.killL, Mem.kill, ACond_false, List.getD_cons_succ, List.getD_cons_zero, List.set_cons_succ, List.set_cons_zero, List.contains_nil, List.isEmpty_nil, Bool.false_eq_true, if_false, if_true, true_and, Bool.true_and, Nat.reduceAdd, Int.reduceAdd, hlen]
          by_cases hji : j < i
          · have hji' : (j : Int) < (i : Int) := by omega
            have hjl : j < (c.take i).length := by omega
            have hje : (c.take i)[j] = c[j] := by simp
            simp only [w_move, w_assign, w_alloc, w_load, w_store, w_indexAddr, w_aop, w_aopg, w_gdb, w_some, w_asome, w_anone, w_nil, w_cons, awp, idxC, asP, asQ, asS, asI, asN, obA, AGet_zero, loadA, storeA, putsA, mkA, Aw.newRow, St.ev, St.step, setS, killS, AV.kill, AV.killL, Mem.kill, AV.cells, AV.flat, AV.single, AV.cellular, ACond_true, ACond_false, List.getD_cons_succ, List.getD_cons_zero, List.set_cons_succ, List.set_cons_zero, List.getElem?_cons_succ, List.getElem?_cons_zero, List.length_cons, List.length_nil, List.cons_append, List.nil_append, List.contains_nil, List.isEmpty_nil, Option.getD_some, Bool.false_eq_true, if_false, if_true, true_and, and_true, List.all_cons, List.all_nil, Bool.and_true, Bool.true_and, Bool.not_true, Nat.zero_add, beq_self_eq_true, List.map_cons, List.map_nil, decide_true, nbeq, decide_false, Bool.or_false, Nat.reduceAdd, Nat.reduceEqDiff, Nat.reduceLeDiff, Int.reduceAdd, Option.bind_some, w_bt, ti22, ti24, decide_eq_true hji', aget_gts hjl, hje, Int.toNat_natCast]
            refine ⟨by omega, ?_⟩
            have hop : Cn.opN G4.bound c s c[i] (j + 1) = (Cn.opN G4.bound c s c[i] j && (s.testBit j || !G4.bound c[i] c[j])) := by
              show (Cn.opN G4.bound c s c[i] j && (s.testBit j || !G4.bound c[i] (c.getD j default))) = _
              rw [getD_at (show j < c.length by omega)]
            cases ho : Cn.opN G4.bound c s c[i] j with
            | true =>
              rw [ho] at hop
              simp only [w_move, w_binOp, w_aopg, w_gdb, w_some, w_asome, w_anone, w_cons, binC, arithC, cmpC, asI, St.ev, St.step, setS, killS, AV.kill, AV.killL, Mem.kill, ACond_true, List.getD_cons_succ, List.getD_cons_zero, List.set_cons_succ, List.set_cons_zero, List.getElem?_cons_succ, List.getElem?_cons_zero, List.contains_nil, List.isEmpty_nil, Bool.false_eq_true, if_false, if_true, true_and, and_true, Bool.and_true, Bool.true_and, beq_self_eq_true, Int.reduceLE, Int.toNat_one, Option.bind_some, w_bf]
              have hsj : (0 : Int) ≤ (s : Int) / 2 ^ j ∧ (s : Int) / 2 ^ j ≤ 1024 := by
                have e : (s : Int) / 2 ^ j = ((s / 2 ^ j : Nat) : Int) := by simp
                rw [e]
                have := Nat.div_le_self s (2 ^ j)
                obtain ⟨q, hq⟩ : ∃ q, q = s / 2 ^ j := ⟨_, rfl⟩
                rw [← hq] at this ⊢
                omega
              have hd : decide (((((s : Int) / 2 ^ ((j : Int)).toNat).toNat &&& 1 : Nat) : Int) = 1) = s.testBit j := by rw [Int.toNat_natCast]; exact bitI s j
              rw [hd, Int.toNat_natCast]
              refine ⟨⟨by omega, by omega⟩, ⟨hsj.1, by unfold lim; omega, by unfold lim; omega⟩, ?_⟩
              cases hbj : s.testBit j with
              | true =>
                rw [hbj] at hop
                simp only [w_move, w_assign, w_pick, w_binOp, w_aop, w_aopg, w_gdb, w_some, w_asome, w_anone, w_nil, w_cons, awp, binC, arithC, cmpC, asB, asI, asN, St.ev, St.step, setS, killS, AV.kill, AV.killL, Mem.kill, ACond_true, ACond_false, List.getD_cons_succ, List.getD_cons_zero, List.set_cons_succ, List.set_cons_zero, List.getElem?_cons_succ, List.getElem?_cons_zero, List.contains_nil, List.isEmpty_nil, Option.getD_some, Bool.false_eq_true, if_false, if_true, true_and, and_true, Bool.and_true, Bool.true_and, Bool.not_true, beq_self_eq_true, Nat.reduceAdd, Int.reduceAdd, Option.bind_some, w_bf]
                refine ⟨by unfold lim; omega, j + 1, ?_, by omega, by omega⟩
                rw [hop]
                exact le_cut (Mx := [_]) (M' := [_, _]) (by simp [leSl, hlen]) rfl (by simp [AV.freeL, AV.free, freeL_pure, gtsA_pure]) (by simp [freeM, AV.freeL, AV.free, freeL_pure, intsA_pure])
              | false =>
                rw [hbj] at hop
                simp only [w_load, w_callF, w_aopg, w_gdb, w_some, w_anone, w_cons, asP, asQ, obA, AGet_zero, loadA, St.ev, St.step, setS, killS, AV.kill, AV.killL, Mem.kill, AV.cells, AV.flat, AV.single, ACond_true, List.getD_cons_succ, List.getD_cons_zero, List.set_cons_succ, List.set_cons_zero, List.getElem?_cons_succ, List.getElem?_cons_zero, List.length_cons, List.length_nil, List.contains_nil, List.isEmpty_nil, Bool.false_eq_true, if_false, if_true, true_and, and_true, List.all_cons, List.all_nil, Bool.and_true, Bool.true_and, Bool.not_true, Bool.not_false, Nat.zero_add, beq_self_eq_true, List.map_cons, List.map_nil, decide_true, Nat.reduceAdd, Nat.reduceLeDiff, Int.reduceAdd, Option.bind_some, ti24]
                refine acall_v (s57 c[i] c[j]) rfl rfl ?_
                simp only [w_move, w_assign, w_pick, w_binOp, w_not, w_aop, w_aopg, w_gdb, w_some, w_asome, w_anone, w_nil, w_cons, awp, binC, arithC, cmpC, asB, asI, asN, St.ev, St.step, setS, killS, AV.kill, AV.killL, Mem.kill, ACond_true, ACond_false, List.getD_cons_succ, List.getD_cons_zero, List.set_cons_succ, List.set_cons_zero, List.getElem?_cons_succ, List.getElem?_cons_zero, List.contains_nil, List.isEmpty_nil, Option.getD_some, Bool.false_eq_true, if_false, if_true, true_and, and_true, Bool.and_true, Bool.true_and, beq_self_eq_true, Nat.reduceAdd, Int.reduceAdd, Option.bind_some]
                refine ⟨by unfold lim; omega, j + 1, ?_, by omega, by omega⟩
                rw [hop]
                exact le_cut (Mx := [_]) (M' := [_, _]) (by simp [leSl, hlen]) rfl (by simp [AV.freeL, AV.free, freeL_pure, gtsA_pure]) (by simp [freeM, AV.freeL, AV.free, freeL_pure, intsA_pure])
            | false =>
              rw [ho] at hop
              simp only [w_move, w_assign, w_pick, w_binOp, w_aop, w_aopg, w_gdb, w_gdu, w_some, w_asome, w_anone, w_nil, w_cons, awp, binC, arithC, cmpC, asB, asI, asN, St.ev, St.step, setS, killS, AV.kill, AV.killL, Mem.kill, ACond_false, List.getD_cons_succ, List.getD_cons_zero, List.set_cons_succ, List.set_cons_zero, List.getElem?_cons_succ, List.getElem?_cons_zero, List.contains_nil, List.isEmpty_nil, Option.getD_some, Bool.false_eq_true, if_false, if_true, true_and, and_true, Bool.and_true, Bool.true_and, Nat.reduceAdd, Int.reduceAdd, Option.bind_some, w_bt]
              refine ⟨by unfold lim; omega, j + 1, ?_, by omega, by omega⟩
              rw [hop]
              exact le_cut (Mx := [_]) (M' := [_, _]) (by simp [leSl, hlen]) rfl (by simp [AV.freeL, AV.free, freeL_pure, gtsA_pure]) (by simp [freeM, AV.freeL, AV.free, freeL_pure, intsA_pure])
          · have hji' : ¬ (j : Int) < (i : Int) := by omega
            have hje : j = i := by omega
            subst hje
            simp only [w_move, w_load, w_indexAddr, w_binOp, w_len, w_aop, w_some, w_asome, w_anone, w_nil, w_cons, awp, binC, idxC, arithC, cmpC, asP, asQ, asO, asS, asB, asI, obA, lenA, St.ev, St.step, setS, killS, AV.kill, AV.killL, Mem.kill, ACond_false, List.getD_cons_succ, List.getD_cons_zero, List.set_cons_succ, List.set_cons_zero, List.getElem?_cons_zero, List.contains_nil, List.isEmpty_nil, Bool.false_eq_true, if_false, if_true, true_and, and_true, Bool.and_true, Bool.true_and, Option.isSome_some, Nat.reduceAdd, Nat.reduceEqDiff, Int.reduceAdd, intsA_len, ti3, ti31, decide_eq_false hji']
            cases ho : Cn.opN G4.bound c s c[j] j with
            | true =>
              simp only [awp, ACond_true]
              refine swp_draw (own := []) (.take 0 .plain [] (.take 1 .plain [] (.take 2 .plain [] (.take 3 .plain [] (.take 4 .plain [] (.take 5 .reads [] (.take 6 .reads [] (.take 7 .plain [] (.take 8 .plain [] (.take 9 .reads [] (.take 10 .reads [] (.take 11 .plain [] (.take 12 .reads [] (.alt 13 (.done) (.nil))))))))))))))) [⟨69, 128, 0, 0, true⟩, ⟨70, 256, 0, 0, true⟩, ⟨71, 512, 0, 0, true⟩, ⟨72, 1180591620717411303424, 4, 0, true⟩, ⟨73, 2951479051793528258560, 10, 0, true⟩, ⟨74, 5017514388048998039552, 17, 0, true⟩, ⟨75, 9444732965739290427392, 32, 0, true⟩, ⟨76, 128, 0, 0, true⟩, ⟨77, 256, 0, 0, true⟩, ⟨78, 113336795588871485128704, 384, 0, true⟩, ⟨79, 151115727451828646838272, 512, 0, true⟩, ⟨80, 321120920835135874531328, 1088, 0, true⟩, ⟨81, 5017514388048998039552, 4095, 0, true⟩, ⟨0, 1813388729421943762059264, 8191, 1, false⟩] mo (by kernel_rfl) ?_
              simp only [w_move, w_load, w_indexAddr, w_binOp, w_take, w_some, w_asome, w_anone, binC, idxC, arithC, cmpC, asP, asQ, asO, asS, asI, obA, St.ev, setS, List.getD_cons_succ, List.getD_cons_zero, List.set_cons_succ, List.set_cons_zero, List.getElem?_cons_succ, List.getElem?_cons_zero, true_and, and_true, Bool.and_true, Bool.true_and, ASch, St.put, Md.mem, Md.need, intsA_len, ti3, ti31]
              rw [← hgi] at ho
              obtain ⟨hp1, hp2⟩ := hpot.isopen (by omega) hic hb ho
              have hT := Cn.or_lt (n := c.length) (by omega : s < 2 ^ c.length) hic
              have hpj := pow2_le (Nat.le_of_lt hic) hc
              have hcl := Cn.cnt_le G4.bound c.length c (Nat.le_refl _) hc
              have hcl2 : 10 ^ c.length ≤ 10000000000 := Nat.le_trans (Nat.pow_le_pow_right (by omega) hc) (Nat.le_refl _)
              rw [← hS] at hT
              have hml := hpot.len
              rw [← hS] at hml
              simp only [Int.toNat_natCast, pow2N, nz_len, hml]
              obtain ⟨T, hTe⟩ : ∃ T, T = s ||| 2 ^ j := ⟨_, rfl⟩
              obtain ⟨pj, hpe⟩ : ∃ p, p = 2 ^ j := ⟨_, rfl⟩
              rw [← hTe] at hT hp1 hp2
              rw [← hpe] at hTe hpj
              rw [← hpe, ← hTe]
              have hTl : T < (nz m).length := by rw [nz_len]; omega
              have hsl : s < (nz m).length := by rw [nz_len]; omega
              refine ⟨⟨by omega, by omega, by unfold lim; omega⟩, ⟨by omega, by omega, by unfold lim; omega, by unfold lim; omega⟩, ⟨by omega, by omega⟩, ?_⟩
              rw [aget_ints hTl]
              simp only [w_move, w_load, w_store, w_indexAddr, w_binOp, w_aop, w_take, w_some, w_asome, w_anone, binC, idxC, arithC, cmpC, asP, asQ, asO, asS, asI, obA, loadA, St.ev, setS, AV.cells, AV.flat, AV.single, List.getD_cons_succ, List.getD_cons_zero, List.set_cons_succ, List.set_cons_zero, List.getElem?_cons_succ, List.getElem?_cons_zero, Bool.false_eq_true, if_false, true_and, and_true, List.all_cons, List.all_nil, Bool.and_true, Bool.true_and, Bool.not_true, ASch, St.put, Md.mem, Md.need, intsA_len, ti3, ti31, nz_len, hml, Int.toNat_natCast, aget_ints hsl, pow2N]
              rw [← hpe, ← hTe, nz_at hTl, nz_at hsl]
              refine ⟨⟨by omega, by omega⟩, by unfold lim; omega, ⟨by omega, by omega⟩, ?_⟩
              rw [aget_ints hTl]
              simp only [w_move, w_binOp, w_aop, w_some, w_asome, w_anone, w_nil, w_cons, awp, binC, arithC, cmpC, asI, storeA, putsA, St.ev, St.step, setS, killS, AV.kill, AV.killL, Mem.kill, AV.cells, AV.flat, AV.single, AV.cellular, ACond_false, Value.oneCell', List.getD_cons_succ, List.getD_cons_zero, List.set_cons_succ, List.set_cons_zero, List.length_cons, List.head?_cons, List.length_nil, List.contains_nil, List.isEmpty_nil, Bool.false_eq_true, if_false, if_true, true_and, and_true, List.all_cons, List.all_nil, Bool.and_true, Bool.true_and, Nat.zero_add, beq_self_eq_true, decide_true, Nat.reduceAdd, Nat.reduceLeDiff, Int.reduceAdd, ASch, ← hpe, ← hTe]
              rw [← Int.natCast_add, ints_set, nz_set]
              exact ⟨by unfold lim; omega, (j + 1, m.set T (m.getD T 0 + m.getD s 0)), le_cut (Mx := [_]) (M' := [_]) (by simp [leSl]) rfl (by simp [AV.freeL, AV.free, freeL_pure, gtsA_pure]) (by simp [freeM, AV.freeL, freeL_pure, intsA_pure]), ⟨by omega, hp1⟩, by simp only; omega⟩
            | false =>
              simp only [w_move, w_binOp, w_aop, w_some, w_asome, w_anone, w_nil, w_cons, awp, binC, arithC, cmpC, asI, St.ev, St.step, setS, killS, AV.kill, AV.killL, Mem.kill, ACond_false, List.getD_cons_succ, List.getD_cons_zero, List.set_cons_succ, List.set_cons_zero, List.contains_nil, List.isEmpty_nil, Bool.false_eq_true, if_false, if_true, true_and, and_true, Bool.and_true, Bool.true_and, Nat.reduceAdd, Int.reduceAdd]
              rw [← hgi] at ho
              exact ⟨by unfold lim; omega, (j + 1, m), le_cut (Mx := [_]) (M' := [_]) (by simp [leSl]) rfl (by simp [AV.freeL, AV.free, freeL_pure, gtsA_pure]) (by simp [freeM, AV.freeL, freeL_pure, intsA_pure]), ⟨by omega, hpot.closed hic hb ho⟩, by simp only; omega⟩
      · have hic' : ¬ (i : Int) < (c.length : Int) := by omega
        simp only [w_move, w_load, w_indexAddr, w_binOp, w_len, w_aop, w_some, w_asome, w_anone, w_nil, w_cons, awp, binC, idxC, arithC, cmpC, asP, asQ, asO, asS, asI, obA, lenA, St.ev, St.step, setS, killS, AV.kill, AV.killL, Mem.kill, ACond_false, List.getD_cons_succ, List.getD_cons_zero, List.set_cons_succ, List.set_cons_zero, List.getElem?_cons_zero, List.contains_nil, List.isEmpty_nil, Bool.false_eq_true, if_false, if_true, true_and, and_true, Bool.and_true, Bool.true_and, Option.isSome_some, Nat.reduceAdd, Nat.reduceEqDiff, Int.reduceAdd, intsA_len, ti3, ti31, decide_eq_false hic']
        have hie : i = c.length := by omega
        subst hie
        refine ⟨by unfold lim; omega, (s + 1, m), le_sl (by simp [leSl]), ⟨by rw [hpot.len, hS], by omega, fun hs1 => hpot.next (by simp only at hs1; omega), fun hs1 => ?_⟩, by simp only; omega⟩
        simp only at hs1
        have := hpot.fin (by omega)
        rw [← hS] at this
        exact this
    · have h' : ¬ (s : Int) < (S : Int) := by omega
      have hse : s = S := by omega
      have hlast : ((S : Int) - 1).toNat < (nz m).length := by rw [nz_len, hml]; omega
      simp only [w_move, w_assign, w_load, w_indexAddr, w_binOp, w_len, w_aop, w_some, w_asome, w_anone, w_nil, w_cons, awp, binC, idxC, arithC, cmpC, asP, asQ, asO, asS, asI, asN, obA, lenA, loadA, St.ev, St.step, setS, killS, AV.kill, AV.killL, Mem.kill, AV.cells, AV.flat, AV.single, ACond_false, List.getD_cons_succ, List.getD_cons_zero, List.set_cons_succ, List.set_cons_zero, List.getElem?_cons_zero, List.contains_nil, List.isEmpty_nil, Option.getD_some, Bool.false_eq_true, if_false, if_true, true_and, and_true, List.all_cons, List.all_nil, Bool.and_true, Bool.true_and, Bool.not_true, Option.isSome_some, Nat.reduceAdd, Int.reduceAdd, intsA_len, ti3, ti31, decide_eq_false h', intsA_len, nz_len, hml, aget_ints hlast, nz_at]
      refine ⟨by unfold lim; omega, ⟨by omega, by omega⟩, ?_⟩
      rw [show ((S : Int) - 1).toNat = S - 1 by omega, hfin hse]
      exact aend_frz rfl ⟨by simp [frz, AV.sub, AV.subL, hv], rfl⟩
  · simp only [w_move, w_assign, w_aop, w_anone, w_nil, w_cons, awp, asN, St.ev, St.step, setS, killS, AV.kill, AV.killL, Mem.kill, ACond_true, ACond_false, List.getD_cons_succ, List.getD_cons_zero, List.set_cons_succ, List.set_cons_zero, List.contains_nil, List.isEmpty_nil, Option.getD_some, Bool.false_eq_true, if_false, if_true, Bool.not_false, Nat.reduceAdd, Int.reduceAdd, decide_eq_false hv]
    exact aend_frz rfl ⟨by simp [frz, AV.sub, AV.subL, hv], rfl⟩
end Go.Proofs.Ytkmbbbemmohmcaa
