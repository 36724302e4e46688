/-
  Several texts in one: PlK, PlL, CuO.
-/
import Derived.Test.YtkmbbbemmohmcaaMn
import Derived.Test.YtkmbbbemmohmcaaMc
set_option linter.unusedSimpArgs false
set_option linter.unusedVariables false
namespace Go.Proofs.Ytkmbbbemmohmcaa
set_option linter.unusedSectionVars false
namespace Cn

section
variable {α : Type}
theorem ss_add (f g : List α → α → List α → Nat) : ∀ (q p : List α), ss (fun u x v => f u x v + g u x v) p q = ss f p q + ss g p q
  | [], _ => rfl
  | x :: q, p => by
    show f p x q + g p x q + ss (fun u x v => f u x v + g u x v) (p ++ [x]) q = f p x q + ss f (p ++ [x]) q + (g p x q + ss g (p ++ [x]) q)
    rw [ss_add f g q (p ++ [x])]
    omega
theorem ss_zero : ∀ (q p : List α), ss (fun _ _ _ => 0) p q = 0
  | [], _ => rfl
  | x :: q, p => by
    show 0 + ss _ (p ++ [x]) q = 0
    rw [ss_zero q (p ++ [x])]
def bt (a : Bool) (n : Nat) : Nat := if a then n else 0
theorem ss_bt (a : Bool) (f : List α → α → List α → Nat) (p q : List α) : ss (fun u x v => bt a (f u x v)) p q = bt a (ss f p q) := by
  cases a with
  | true => rfl
  | false => exact ss_zero q p
theorem bt_add (a : Bool) (m n : Nat) : bt a (m + n) = bt a m + bt a n := by cases a <;> simp [bt]
theorem bt_bt (a b : Bool) (n : Nat) : bt a (bt b n) = bt (a && b) n := by cases a <;> cases b <;> rfl
theorem ss_pre (f : List α → α → List α → Nat) : ∀ (q u p : List α), ss f (p ++ u) q = ss (fun a x v => f (p ++ a) x v) u q
  | [], _, _ => rfl
  | x :: q, u, p => by
    show f (p ++ u) x q + ss f (p ++ u ++ [x]) q = f (p ++ u) x q + ss _ (u ++ [x]) q
    rw [List.append_assoc, ss_pre f q (u ++ [x]) p]
theorem ss_app (f : List α → α → List α → Nat) : ∀ (p u q : List α), ss f u (p ++ q) = ss (fun a x v => f a x (v ++ q)) u p + ss f (u ++ p) q
  | [], u, q => by simp [ss]
  | x :: p, u, q => by
    show f u x (p ++ q) + ss f (u ++ [x]) (p ++ q) = f u x (p ++ q) + ss _ (u ++ [x]) p + ss f (u ++ x :: p) q
    rw [ss_app f p (u ++ [x]) q, List.append_assoc]
    simp only [List.cons_append, List.nil_append]
    omega
theorem ss_app0 (f : List α → α → List α → Nat) (p q : List α) : ss f [] (p ++ q) = ss (fun a x v => f a x (v ++ q)) [] p + ss (fun a x v => f (p ++ a) x v) [] q := by
  rw [ss_app, List.nil_append]
  congr 1
  have := ss_pre f q [] p
  simpa using this
theorem ss_snoc (h : List α → α → List α → Nat) (p : List α) (z : α) : ss h [] (p ++ [z]) = ss (fun a x m => h a x (m ++ [z])) [] p + h p z [] := by
  rw [ss_app, List.nil_append]
  rfl

/-- two places: the sums in both orders. -/
theorem swap2 (f : List α → α → List α → α → List α → Nat) : ∀ (c pre : List α),
    ss (fun s y q => ss (fun p x m => f p x m y q) [] s) pre c = ss (fun p x r => ss (fun m y q => f p x m y q) [] r) pre c + ss (fun p x m0 => ss (fun m y q => f p x m y q) m0 c) [] pre
  | [], pre => by
    show 0 = 0 + ss (fun _ _ _ => 0) [] pre
    rw [ss_zero]
  | z :: t, pre => by
    show ss (fun p x m => f p x m z t) [] pre + ss (fun s y q => ss (fun p x m => f p x m y q) [] s) (pre ++ [z]) t =
      (ss (fun m y q => f pre z m y q) [] t + ss (fun p x r => ss (fun m y q => f p x m y q) [] r) (pre ++ [z]) t) + ss (fun p x m0 => f p x m0 z t + ss (fun m y q => f p x m y q) (m0 ++ [z]) t) [] pre
    rw [swap2 f t (pre ++ [z]), ss_snoc, ss_add]
    omega
theorem swap0 (f : List α → α → List α → α → List α → Nat) (c : List α) :
    ss (fun s y q => ss (fun p x m => f p x m y q) [] s) [] c = ss (fun p x r => ss (fun m y q => f p x m y q) [] r) [] c := by
  rw [swap2]
  rfl

variable (b : α → α → Bool)
/-- nothing behind is bound to it. -/
def ls (x : α) (q : List α) : Bool := q.all fun y => !b y x
def gcn (p : List α) (x : α) (q : List α) : Nat := bt (ls b x q) (cnt b (p ++ q))
theorem fcn_bt (p : List α) (x : α) (q : List α) : fcn b p x q = bt (fr b p x) (cnt b (p ++ q)) := rfl
theorem cnt_last : ∀ (n : Nat) (c : List α), c.length = n → c ≠ [] → cnt b c = ss (gcn b) [] c
  | 0, c, h, hc => (hc (List.eq_nil_of_length_eq_zero h)).elim
  | 1, [x], _, _ => rfl
  | n + 2, c, h, hc => by
    have hl : ∀ {u : List α} {x : α} {v : List α}, [] ++ c = u ++ x :: v → (u ++ v).length = n + 1 ∧ u ++ v ≠ [] := fun {u x v} e => by
      have := congrArg List.length e
      have h1 : (u ++ v).length = n + 1 := by simp at this ⊢; omega
      exact ⟨h1, fun e => by rw [e] at h1; simp at h1⟩
    rw [cnt_ss b hc]
    have eA : ss (fcn b) [] c = ss (fun p x q => ss (fun p1 y p2 => bt (fr b p x) (gcn b p1 y (p2 ++ q))) [] p + ss (fun q1 y q2 => bt (fr b p x) (gcn b (p ++ q1) y q2)) [] q) [] c := by
      refine ss_congr _ _ fun p x q e => ?_
      obtain ⟨h1, h2⟩ := hl e
      rw [fcn_bt, cnt_last (n + 1) _ h1 h2, ss_app0, bt_add, ss_bt, ss_bt]
    have eB : ss (gcn b) [] c = ss (fun p y q => ss (fun p1 x p2 => bt (ls b y q) (fcn b p1 x (p2 ++ q))) [] p + ss (fun q1 x q2 => bt (ls b y q) (fcn b (p ++ q1) x q2)) [] q) [] c := by
      refine ss_congr _ _ fun p y q e => ?_
      obtain ⟨h1, h2⟩ := hl e
      rw [gcn, cnt_ss b h2, ss_app0, bt_add, ss_bt, ss_bt]
    rw [eA, eB, ss_add, ss_add]
    -- x before y
    have e1 : ss (fun p x q => ss (fun q1 y q2 => bt (fr b p x) (gcn b (p ++ q1) y q2)) [] q) [] c = ss (fun p y q => ss (fun p1 x p2 => bt (ls b y q) (fcn b p1 x (p2 ++ q))) [] p) [] c := by
      rw [swap0 (fun p x m y q => bt (ls b y q) (fcn b p x (m ++ q)))]
      refine ss_congr _ _ fun p x r _ => ss_congr _ _ fun m y q _ => ?_
      rw [gcn, fcn_bt, bt_bt, bt_bt, Bool.and_comm, List.append_assoc]
    -- y before x
    have e2 : ss (fun p x q => ss (fun p1 y p2 => bt (fr b p x) (gcn b p1 y (p2 ++ q))) [] p) [] c = ss (fun p y q => ss (fun q1 x q2 => bt (ls b y q) (fcn b (p ++ q1) x q2)) [] q) [] c := by
      have e3 : ss (fun p x q => ss (fun p1 y p2 => bt (fr b p x) (gcn b p1 y (p2 ++ q))) [] p) [] c = ss (fun s x q => ss (fun p y m => bt (fr b (p ++ y :: m) x) (gcn b p y (m ++ q))) [] s) [] c := by
        refine ss_congr _ _ fun s x q _ => ss_congr _ _ fun p y m e => ?_
        rw [List.nil_append] at e
        rw [e]
      rw [e3, swap0 (fun p y m x q => bt (fr b (p ++ y :: m) x) (gcn b p y (m ++ q)))]
      refine ss_congr _ _ fun p y r _ => ss_congr _ _ fun m x q e => ?_
      rw [List.nil_append] at e
      rw [e, gcn, fcn_bt, bt_bt, bt_bt, ← List.append_assoc]
      congr 1
      unfold fr ls
      simp only [List.all_append, List.all_cons]
      cases (!b x y) <;> cases (List.all p fun y => !b x y) <;> cases (List.all m fun y => !b x y) <;> cases (List.all m fun z => !b z y) <;> cases (List.all q fun z => !b z y) <;> rfl
    rw [e1, e2]
    omega
end
end Cn
end Go.Proofs.Ytkmbbbemmohmcaa

namespace Go.Proofs.Ytkmbbbemmohmcaa
set_option linter.unusedSectionVars false
namespace Cn

section
variable {α : Type}
theorem out_ls [Inhabited α] (b : α → α → Bool) (g : α) (s : Nat) : ∀ (l : List α) (k : Nat), ls b g (out s k l) = true ↔ ∀ j, j < l.length → s.testBit (k + j) = false → b (l.getD j default) g = false
  | [], k => ⟨fun _ j hj => by simp at hj, fun _ => rfl⟩
  | x :: t, k => by
    have ih := out_ls b g s t (k + 1)
    have e : ls b g (out s k (x :: t)) = ((s.testBit k || !b x g) && ls b g (out s (k + 1) t)) := by
      show ls b g (if s.testBit k then out s (k + 1) t else x :: out s (k + 1) t) = _
      cases s.testBit k <;> simp [ls]
    rw [e, Bool.and_eq_true, ih]
    constructor
    · rintro ⟨h1, h2⟩ j hj hb
      cases j with
      | zero =>
        rw [Nat.add_zero] at hb
        rw [hb] at h1
        simpa using h1
      | succ j => exact h2 j (by simpa using hj) (by rw [← hb]; congr 1; omega)
    · intro h
      refine ⟨?_, fun j hj hb => h (j + 1) (by simpa using hj) (by rw [← hb]; congr 1; omega)⟩
      cases hk : s.testBit k with
      | true => rfl
      | false =>
        have := h 0 (by simp) hk
        simpa using this
variable [Inhabited α] (b : α → α → Bool)
/-- what is bound to a gate of the set and stands before it, is in it. -/
def Clo (c : List α) (T : Nat) : Prop := ∀ j k, k < j → j < c.length → T.testBit j = true → b (c.getD j default) (c.getD k default) = true → T.testBit k = true
def cpl (c : List α) (T : Nat) : Nat := T ^^^ (2 ^ c.length - 1)
theorem cpl_bit {c : List α} {T j : Nat} (h : j < c.length) : (cpl c T).testBit j = !T.testBit j := by
  unfold cpl
  rw [Nat.testBit_xor, Nat.testBit_two_pow_sub_one, decide_eq_true h, Bool.xor_true]
open Classical in
/-- in how many ways the gates of a set come first. -/
noncomputable def way (c : List α) (T : Nat) : Nat := if Clo b c T then cnt b (out (cpl c T) 0 c) else 0
open Classical in
/-- those that end with a gate from a place on. -/
noncomputable def wrm (c : List α) (T i : Nat) : Nat := if Clo b c T then ss (gcn b) (out (cpl c T) 0 (c.take i)) (out (cpl c T) i (c.drop i)) else 0
theorem way_zero (c : List α) : way b c 0 = 1 := by
  have hc : Clo b c 0 := fun j k _ _ h => by simp at h
  unfold way
  rw [if_pos hc]
  have : out (cpl c 0) 0 c = [] := by
    have e : cpl c 0 = 2 ^ c.length - 1 := by unfold cpl; exact Nat.zero_xor _
    rw [e, out_all]
  rw [this]
  rfl
theorem way_full (c : List α) : way b c (2 ^ c.length - 1) = cnt b c := by
  have hc : Clo b c (2 ^ c.length - 1) := fun j k h1 h2 _ _ => by rw [Nat.testBit_two_pow_sub_one]; exact decide_eq_true (by omega)
  unfold way
  rw [if_pos hc]
  have e : cpl c (2 ^ c.length - 1) = 0 := by unfold cpl; exact Nat.xor_self _
  rw [e, out_zero]
theorem out_len (s : Nat) : ∀ (l : List α) (k : Nat), (out s k l).length ≤ l.length
  | [], _ => Nat.le_refl _
  | x :: t, k => by
    have := out_len s t (k + 1)
    show (if s.testBit k then out s (k + 1) t else x :: out s (k + 1) t).length ≤ t.length + 1
    split
    · omega
    · rw [List.length_cons]; omega
theorem way_le (c : List α) (T : Nat) (h : c.length ≤ 10) : way b c T ≤ 10000000000 := by
  unfold way
  split
  · have h1 := out_len (cpl c T) c 0
    have h2 := cnt_le b c.length (out (cpl c T) 0 c) h1 h
    have h3 : 10 ^ c.length ≤ 10000000000 := Nat.le_trans (Nat.pow_le_pow_right (by omega) h) (Nat.le_refl _)
    omega
  · omega
theorem wrm_0 {c : List α} {T i : Nat} (hi : i < c.length) (hb : T.testBit i = true) : wrm b c T 0 = way b c T := by
  unfold wrm way
  split
  · have hne : out (cpl c T) 0 c ≠ [] := fun e => by
      have := out_nil c 0 e i (by omega) (by omega)
      rw [cpl_bit hi, hb] at this
      cases this
    rw [cnt_last b _ _ rfl hne]
    rfl
  · rfl
theorem wrm_start {c : List α} {T : Nat} (h0 : 0 < T) (hT : T < 2 ^ c.length) : wrm b c T 0 = way b c T := by
  by_cases h : ∃ i, i < c.length ∧ T.testBit i = true
  · obtain ⟨i, hi, hb⟩ := h
    exact wrm_0 b hi hb
  · have : T = 0 := by
      refine Nat.eq_of_testBit_eq fun j => ?_
      rw [Nat.zero_testBit]
      by_cases hj : j < c.length
      · cases hb : T.testBit j with
        | false => rfl
        | true => exact (h ⟨j, hj, hb⟩).elim
      · exact Nat.testBit_lt_two_pow (Nat.lt_of_lt_of_le hT (Nat.pow_le_pow_right (by omega) (by omega)))
    omega
theorem wrm_n (c : List α) (T : Nat) : wrm b c T c.length = 0 := by
  unfold wrm
  rw [List.drop_length]
  split <;> rfl
theorem wrm_out {c : List α} {T i : Nat} (hi : i < c.length) (hb : T.testBit i = false) : wrm b c T (i + 1) = wrm b c T i := by
  have hl : (c.take i).length = i := by simp; omega
  have hc := cpl_bit (T := T) hi
  rw [hb] at hc
  unfold wrm
  rw [take_more hi, out_app, hl, drop_more hi]
  have e1 : out (cpl c T) (0 + i) [c.getD i default] = [] := by unfold out out; rw [Nat.zero_add, hc]; rfl
  have e2 : out (cpl c T) i (c.getD i default :: c.drop (i + 1)) = out (cpl c T) (i + 1) (c.drop (i + 1)) := by conv => lhs; unfold out; rw [hc, Bool.not_false, if_pos rfl]
  rw [e1, e2, List.append_nil]
/-- whether a gate may be the last one of a set. -/
def lsN (c : List α) (T i : Nat) : Nat → Bool
  | 0 => true
  | k + 1 => lsN c T i k && (decide (k = i) || !b (c.getD i default) (c.getD k default) || (T.testBit k == decide (k < i)))
theorem lsN_iff (c : List α) (T i : Nat) : ∀ m, lsN b c T i m = true ↔ ∀ k, k < m → k = i ∨ b (c.getD i default) (c.getD k default) = false ∨ T.testBit k = decide (k < i)
  | 0 => ⟨fun _ k hk => by omega, fun _ => rfl⟩
  | m + 1 => by
    show (lsN b c T i m && _) = true ↔ _
    rw [Bool.and_eq_true, lsN_iff c T i m]
    constructor
    · rintro ⟨h1, h2⟩ k hk
      by_cases e : k = m
      · subst e
        simp only [Bool.or_eq_true, decide_eq_true_eq, Bool.not_eq_true', beq_iff_eq] at h2
        rcases h2 with (h2 | h2) | h2
        · exact .inl h2
        · exact .inr (.inl h2)
        · exact .inr (.inr h2)
      · exact h1 k (by omega)
    · intro h
      refine ⟨fun k hk => h k (by omega), ?_⟩
      simp only [Bool.or_eq_true, decide_eq_true_eq, Bool.not_eq_true', beq_iff_eq]
      rcases h m (by omega) with h2 | h2 | h2
      · exact .inl (.inl h2)
      · exact .inl (.inr h2)
      · exact .inr h2
/-- a set without a place. -/
theorem sub_bit {T i : Nat} (hb : T.testBit i = true) : 2 ^ i ≤ T ∧ ∀ j, (T - 2 ^ i).testBit j = (T.testBit j && !decide (i = j)) := by
  have e : T = (T ^^^ 2 ^ i) + 2 ^ i := by
    have h0 : (T ^^^ 2 ^ i).testBit i = false := by rw [Nat.testBit_xor, Nat.testBit_two_pow, decide_eq_true rfl, hb]; rfl
    have h1 : (T ^^^ 2 ^ i) ||| 2 ^ i = T := by
      refine Nat.eq_of_testBit_eq fun j => ?_
      rw [Nat.testBit_or, Nat.testBit_xor, Nat.testBit_two_pow]
      by_cases e : i = j
      · subst e; rw [hb, decide_eq_true rfl]; rfl
      · rw [decide_eq_false e]; simp
    have h2 : (T ^^^ 2 ^ i) + 2 ^ i = (T ^^^ 2 ^ i) ||| 2 ^ i := by
      generalize T ^^^ 2 ^ i = S at h0
      have hd : S / 2 ^ i % 2 = 0 := by
        have := h0
        rw [Nat.testBit_eq_decide_div_mod_eq, decide_eq_false_iff_not] at this
        omega
      have hq : S = 2 ^ i * (S / 2 ^ i) + S % 2 ^ i := (Nat.div_add_mod S (2 ^ i)).symm
      have hr := Nat.mod_lt S (Nat.two_pow_pos i)
      refine Nat.eq_of_testBit_eq fun j => ?_
      have e1 : S + 2 ^ i = 2 ^ i * (S / 2 ^ i + 1) + S % 2 ^ i := by rw [Nat.mul_add, Nat.mul_one]; omega
      rw [e1, Nat.testBit_or, Nat.testBit_two_pow, Nat.testBit_two_pow_mul_add _ hr]
      conv => rhs; rw [hq]
      rw [Nat.testBit_two_pow_mul_add _ hr]
      by_cases hj : j < i
      · rw [if_pos hj, if_pos hj, decide_eq_false (by omega), Bool.or_false]
      · rw [if_neg hj, if_neg hj]
        generalize S / 2 ^ i = q at hd
        obtain ⟨q', rfl⟩ : ∃ q', q = 2 * q' := ⟨q / 2, by omega⟩
        by_cases hij : j - i = 0
        · rw [hij, decide_eq_true (by omega), Bool.or_true, Nat.testBit_zero]
          exact decide_eq_true (by omega)
        · obtain ⟨m, hm⟩ : ∃ m, j - i = m + 1 := ⟨j - i - 1, by omega⟩
          rw [hm, decide_eq_false (by omega), Bool.or_false, Nat.testBit_succ, Nat.testBit_succ, show (2 * q' + 1) / 2 = q' by omega, show 2 * q' / 2 = q' by omega]
    rw [h2, h1]
  have e2 : T - 2 ^ i = T ^^^ 2 ^ i := by omega
  refine ⟨by omega, fun j => ?_⟩
  rw [e2, Nat.testBit_xor, Nat.testBit_two_pow]
  by_cases h : i = j
  · subst h; rw [hb, decide_eq_true rfl]; rfl
  · rw [decide_eq_false h]; simp
theorem clo_iff {b : α → α → Bool} (hs : ∀ x y, b x y = b y x) {c : List α} {T i : Nat} (hi : i < c.length) (hb : T.testBit i = true) :
    (Clo b c T ∧ ls b (c.getD i default) (out (cpl c T) (i + 1) (c.drop (i + 1))) = true) ↔ (lsN b c T i c.length = true ∧ Clo b c (T - 2 ^ i)) := by
  obtain ⟨_, hsb⟩ := sub_bit hb
  have hls : ls b (c.getD i default) (out (cpl c T) (i + 1) (c.drop (i + 1))) = true ↔ ∀ k, i < k → k < c.length → T.testBit k = true → b (c.getD k default) (c.getD i default) = false := by
    rw [out_ls]
    constructor
    · intro h k h1 h2 h3
      have := h (k - (i + 1)) (by simp; omega) (by rw [show i + 1 + (k - (i + 1)) = k by omega, cpl_bit h2, h3]; rfl)
      rw [List.getD_eq_getElem?_getD, List.getElem?_drop, show i + 1 + (k - (i + 1)) = k by omega, ← List.getD_eq_getElem?_getD] at this
      exact this
    · intro h j hj h2
      have hj' : i + 1 + j < c.length := by simp at hj; omega
      rw [cpl_bit hj'] at h2
      have := h (i + 1 + j) (by omega) hj' (by simpa using h2)
      rw [List.getD_eq_getElem?_getD, List.getElem?_drop, ← List.getD_eq_getElem?_getD]
      exact this
  rw [hls, lsN_iff]
  constructor
  · rintro ⟨h1, h2⟩
    constructor
    · intro k hk
      by_cases e : k = i
      · exact .inl e
      · refine .inr ?_
        cases hbk : b (c.getD i default) (c.getD k default) with
        | false => exact .inl rfl
        | true =>
          refine .inr ?_
          by_cases hki : k < i
          · rw [decide_eq_true hki]
            exact h1 i k hki hi hb hbk
          · rw [decide_eq_false hki]
            cases ht : T.testBit k with
            | false => rfl
            | true =>
              have := h2 k (by omega) hk ht
              rw [hs, hbk] at this
              cases this
    · intro j k hkj hj ht hbd
      rw [hsb, Bool.and_eq_true] at ht
      have h3 := h1 j k hkj hj ht.1 hbd
      rw [hsb, h3]
      have : i ≠ k := fun e => by
        subst e
        have := h2 j hkj hj ht.1
        rw [hbd] at this
        cases this
      rw [decide_eq_false this]
      rfl
  · rintro ⟨h1, h2⟩
    constructor
    · intro j k hkj hj ht hbd
      by_cases e : j = i
      · subst e
        rcases h1 k (by omega) with h3 | h3 | h3
        · omega
        · rw [hbd] at h3; cases h3
        · rw [h3]; exact decide_eq_true hkj
      · have := h2 j k hkj hj (by rw [hsb, ht, decide_eq_false (fun x => e x.symm)]; rfl) hbd
        rw [hsb, Bool.and_eq_true] at this
        exact this.1
    · intro k h3 h4 h5
      rcases h1 k h4 with h6 | h6 | h6
      · omega
      · rw [hs]; exact h6
      · rw [h5, decide_eq_false (by omega)] at h6; cases h6
theorem wrm_in {b : α → α → Bool} (hs : ∀ x y, b x y = b y x) {c : List α} {T i : Nat} (hi : i < c.length) (hb : T.testBit i = true) :
    wrm b c T i = (if lsN b c T i c.length then way b c (T - 2 ^ i) else 0) + wrm b c T (i + 1) := by
  have hl : (c.take i).length = i := by simp; omega
  have hc := cpl_bit (T := T) hi
  rw [hb] at hc
  obtain ⟨_, hsb⟩ := sub_bit hb
  have hiff := clo_iff hs hi hb
  have e1 : out (cpl c T) (0 + i) [c.getD i default] = [c.getD i default] := by unfold out out; rw [Nat.zero_add, hc]; rfl
  have e2 : out (cpl c T) i (c.getD i default :: c.drop (i + 1)) = c.getD i default :: out (cpl c T) (i + 1) (c.drop (i + 1)) := by conv => lhs; unfold out; rw [hc, Bool.not_true, if_neg (by simp)]
  have e3 : out (cpl c (T - 2 ^ i)) 0 c = out (cpl c T) 0 (c.take i) ++ out (cpl c T) (i + 1) (c.drop (i + 1)) := by
    have hcc : c = c.take i ++ c.getD i default :: c.drop (i + 1) := by rw [← drop_more hi]; exact (List.take_append_drop i c).symm
    have h1 : out (cpl c (T - 2 ^ i)) 0 (c.take i ++ c.getD i default :: c.drop (i + 1)) = out (cpl c T) 0 (c.take i) ++ out (cpl c T) (i + 1) (c.drop (i + 1)) := by
      rw [out_app, hl, Nat.zero_add]
      have : out (cpl c (T - 2 ^ i)) i (c.getD i default :: c.drop (i + 1)) = out (cpl c (T - 2 ^ i)) (i + 1) (c.drop (i + 1)) := by
        conv => lhs; unfold out; rw [cpl_bit hi, hsb, decide_eq_true rfl]
        simp
      rw [this, out_congr (s' := cpl c T) (c.take i) 0 fun j h1 h2 => by rw [cpl_bit (by omega), cpl_bit (by omega), hsb, decide_eq_false (by omega)]; simp,
        out_congr (s' := cpl c T) (c.drop (i + 1)) (i + 1) fun j h1 h2 => by
          have hj : j < c.length := by simp at h2; omega
          rw [cpl_bit hj, cpl_bit hj, hsb, decide_eq_false (by omega)]; simp]
    rw [← hcc] at h1
    exact h1
  unfold wrm way
  rw [take_more hi, out_app, hl, e1, drop_more hi, e2]
  by_cases h1 : Clo b c T
  · rw [if_pos h1, if_pos h1]
    show gcn b (out (cpl c T) 0 (c.take i)) (c.getD i default) (out (cpl c T) (i + 1) (c.drop (i + 1))) + _ = _
    congr 1
    unfold gcn bt
    by_cases h2 : ls b (c.getD i default) (out (cpl c T) (i + 1) (c.drop (i + 1))) = true
    · obtain ⟨h3, h4⟩ := hiff.1 ⟨h1, h2⟩
      rw [if_pos h2, if_pos h3, if_pos h4, e3]
    · rw [if_neg h2]
      by_cases h3 : lsN b c T i c.length = true
      · rw [if_pos h3, if_neg fun h4 => h2 (hiff.2 ⟨h3, h4⟩).2]
      · rw [if_neg h3]
  · rw [if_neg h1, if_neg h1]
    by_cases h3 : lsN b c T i c.length = true
    · rw [if_pos h3, if_neg fun h4 => h1 (hiff.2 ⟨h3, h4⟩).1]
    · rw [if_neg h3]
end
end Cn
end Go.Proofs.Ytkmbbbemmohmcaa

namespace Go.Proofs.Ytkmbbbemmohmcaa
open Aw Go.RowKit
set_option linter.unusedSimpArgs false

theorem io3 : intOf Try.prog 3 = some .i64 := by kernel_rfl
theorem io74 : intOf Try.prog 74 = some .u64 := by kernel_rfl
theorem bitI0 (s i : Nat) : decide (((((s : Int) / 2 ^ i).toNat &&& 1 : Nat) : Int) = 0) = !s.testBit i := by
  rw [← bitI]
  generalize ((s : Int) / 2 ^ i).toNat = q
  rw [Nat.and_one_is_mod]
  rcases Nat.mod_two_eq_zero_or_one q with h | h <;> simp [h]
theorem div_le (s i : Nat) : (0 : Int) ≤ (s : Int) / 2 ^ i ∧ (s : Int) / 2 ^ i ≤ s := by
  have e : (s : Int) / 2 ^ i = ((s / 2 ^ i : Nat) : Int) := by simp
  rw [e]
  have := Nat.div_le_self s (2 ^ i)
  generalize s / 2 ^ i = q at this ⊢
  omega

theorem ok43 : okFn Try.prog 43 = true := by kernel_rfl
set_option maxRecDepth 20000 in
set_option maxHeartbeats 2000000 in
theorem s43 (n : Int) (c : List G4) (hl : c.length ≤ 10000) : ASpec Try.prog 43 [I n, .s 4 (gtsA c)] (fun r Ms => r = .t [I (if vC n c = 0 then (Cn.cnt bS c : Nat) else 0), I (vC n c)] ∧ Ms = []) := by
  refine aspec_of (own := []) Try.func43 rfl ok43 ?_
  simp only [w_move, w_assign, w_callF, w_aop, w_anone, w_nil, w_cons, awp, asN, St.ev, St.step, setS, killS, AV.kill, AV.killL, Mem.kill, ACond_false, List.getD_cons_succ, List.getD_cons_zero, List.set_cons_succ, List.set_cons_zero, List.length_cons, List.length_nil, List.replicate_succ, List.replicate_zero, List.cons_append, List.nil_append, List.contains_nil, List.isEmpty_nil, Option.getD_some, Bool.false_eq_true, if_false, if_true, Nat.zero_add, Nat.add_zero, List.map_cons, List.map_nil, Nat.reduceAdd, Nat.reduceSub, Int.reduceAdd, Int.reduceSub, Try.ntmps43]
  refine acall_v (s41 n c (by omega)) rfl rfl ?_
  simp only [w_move, w_assign, w_binOp, w_aop, w_some, w_asome, w_anone, w_nil, w_cons, awp, binC, cmpC, asB, asI, asN, St.ev, St.step, setS, killS, AV.kill, AV.killL, Mem.kill, ACond_false, List.getD_cons_succ, List.getD_cons_zero, List.set_cons_succ, List.set_cons_zero, List.contains_nil, List.isEmpty_nil, Option.getD_some, Bool.false_eq_true, if_false, if_true, true_and, Bool.true_and, Nat.reduceAdd, Int.reduceAdd]
  by_cases hv : vC n c = 0
  · have hc := vC_len hv
    have ho := vC_Ok hv
    have hp := pow2_le (Nat.le_refl c.length) hc
    have hp0 := Nat.two_pow_pos c.length
    have hr1 : List.replicate (2 ^ c.length) (0 : Nat) = 0 :: List.replicate (2 ^ c.length - 1) 0 := by
      obtain ⟨k, hk⟩ : ∃ k, 2 ^ c.length = k + 1 := ⟨2 ^ c.length - 1, by omega⟩
      rw [hk]; rfl
    simp only [w_move, w_assign, w_store, w_indexAddr, w_binOp, w_len, w_makeSlice, oneOf, w_aop, w_some, w_asome, w_anone, w_nil, w_cons, awp, binC, idxC, arithC, cmpC, asQ, asO, asS, asI, asN, obA, lenA, Aw.newRow, St.ev, St.step, setS, killS, AV.kill, AV.killL, Mem.kill, ACond_false, List.getD_cons_succ, List.getD_cons_zero, List.set_cons_succ, List.set_cons_zero, List.getElem?_cons_zero, List.length_nil, List.nil_append, List.contains_nil, List.isEmpty_nil, Option.getD_some, Bool.false_eq_true, if_false, if_true, true_and, and_true, Bool.and_true, Bool.true_and, Bool.not_true, Option.isSome_some, Nat.reduceAdd, Nat.reduceLeDiff, Int.reduceAdd, Int.reduceLE, Int.toNat_zero, gtsA_len, intsA_len, ti3, ti22, ti31, w_convert, io3, io74, decide_eq_true hv, gtsA_len, pow2N, Int.toNat_natCast, rep_nz, hr1]
    obtain ⟨S, hS⟩ : ∃ S, S = 2 ^ c.length := ⟨_, rfl⟩
    rw [← hS] at hp hp0 ⊢
    have hl0 : (nz (0 :: List.replicate (S - 1) 0)).length = S := by rw [nz_len]; simp; omega
    refine ⟨⟨by omega, by unfold lim; omega⟩, ⟨by omega, by omega, by unfold lim; omega⟩, ⟨by omega, by omega⟩, by omega, ?_⟩
    have h00 : (0 : Nat) < (nz (0 :: List.replicate (S - 1) 0)).length := by omega
    rw [aget_ints h00]
    have e00 : (nz (0 :: List.replicate (S - 1) 0)).set 0 1 = nz (1 :: List.replicate (S - 1) 0) := rfl
    simp only [w_assign, w_aop, w_some, w_anone, w_nil, w_cons, awp, asN, storeA, putsA, St.ev, St.step, setS, killS, AV.kill, AV.killL, Mem.kill, AV.cells, AV.flat, AV.single, AV.cellular, ACond_false, Value.oneCell', List.set_cons_succ, List.set_cons_zero, List.length_cons, List.head?_cons, List.length_nil, List.contains_nil, List.isEmpty_nil, Option.getD_some, Bool.false_eq_true, if_false, if_true, and_true, List.all_cons, List.all_nil, Bool.and_true, Nat.zero_add, beq_self_eq_true, decide_true, Nat.reduceAdd, Nat.reduceLeDiff, Int.reduceAdd, ints_set, e00]
    have hstart : ∀ T, 1 ≤ T → T < S → (1 :: List.replicate (S - 1) 0).getD T 0 = 0 := by
      intro T h1 h2
      obtain ⟨k, rfl⟩ : ∃ k, T = k + 1 := ⟨T - 1, by omega⟩
      rw [List.getD_cons_succ, List.getD_eq_getElem?_getD]
      rcases Nat.lt_or_ge k (S - 1) with h | h
      · rw [List.getElem?_replicate, if_pos h]; rfl
      · omega
    refine swp_loop' (fun j : Nat × List Nat => ⟨[.bot, .s 4 (gtsA c), .bot, .bot, .bot, .bot, .bot, .o 0, I j.1, .bot, .bot, .bot, .bot, .bot, .bot, .bot, .bot, .bot, .bot, .bot, .bot, .bot, .bot, .bot, .bot, .bot, .bot, .bot, .bot, .bot, .bot, .bot, .bot, .bot, .bot, .bot, .bot, .bot, .bot, .bot, .bot, .bot, .bot, .bot, .bot, .bot, .bot, .bot, .bot, .bot, .bot, .bot, .bot, .bot, .bot, .bot, .bot, .bot, .bot, .bot, .bot, .bot, .bot, .bot, .bot, .bot, .bot, .bot, .bot, .bot, .bot, .bot, .bot, .bot, .bot, .bot, .bot, .bot, .bot, .bot, .bot, .bot, .bot, .bot, .bot, .bot, .bot, .bot, .bot, .bot, .bot, .bot, .bot, .bot, .bot, .bot, .bot, .bot, .bot, .bot, .bot, .bot], [some ⟨none, 3, 1, intsA (nz j.2)⟩]⟩)
      (fun j => j.2.length = S ∧ 1 ≤ j.1 ∧ j.1 ≤ S ∧ (∀ T, T < j.1 → j.2.getD T 0 = Cn.way bS c T) ∧ (∀ T, j.1 ≤ T → T < S → j.2.getD T 0 = 0)) (fun j => S - j.1) (1, 1 :: List.replicate (S - 1) 0) (le_sl (by simp [leSl]))
      ⟨by simp; omega, Nat.le_refl _, by simp only; omega, fun T hT => by
        simp only at hT
        obtain rfl : T = 0 := by omega
        rw [Cn.way_zero]; rfl, hstart⟩ ?_
    rintro ⟨s, m⟩ ⟨hml, hs1, hs, hlo, hhi⟩
    simp only at hml hs1 hs hlo hhi
    refine awp_sound (own := []) _ _ _ _ _ ?_
    simp only [w_move, w_binOp, w_len, w_aop, w_some, w_asome, w_nil, w_cons, awp, binC, cmpC, asB, asI, lenA, St.ev, St.step, setS, killS, AV.kill, AV.killL, Mem.kill, ACond_false, List.getD_cons_succ, List.getD_cons_zero, List.set_cons_succ, List.set_cons_zero, List.getElem?_cons_zero, List.contains_nil, List.isEmpty_nil, Bool.false_eq_true, if_false, if_true, true_and, Bool.true_and, Option.isSome_some, Nat.reduceAdd, Int.reduceAdd, intsA_len, ti31, intsA_len, nz_len, hml]
    by_cases h : s < S
    · have h' : (s : Int) < (S : Int) := by omega
      have hsl : s < m.length := by omega
      simp only [w_assign, w_aop, w_anone, w_nil, w_cons, awp, asN, St.ev, St.step, setS, killS, AV.kill, AV.killL, Mem.kill, ACond_true, ACond_false, List.set_cons_succ, List.set_cons_zero, List.contains_nil, List.isEmpty_nil, Option.getD_some, Bool.false_eq_true, if_false, if_true, Nat.reduceAdd, Int.reduceAdd, decide_eq_true h']
      refine swp_loop' (fun j : Nat × List Nat => ⟨[.bot, .s 4 (gtsA c), .bot, .bot, .bot, .bot, .bot, .o 0, I s, I j.1, .bot, .bot, .bot, .bot, .bot, .bot, .bot, .bot, .bot, .bot, .bot, .bot, .bot, .bot, .bot, .bot, .bot, .bot, .bot, .bot, .bot, .bot, .bot, .bot, .bot, .bot, .bot, .bot, .bot, .bot, .bot, .bot, .bot, .bot, .bot, .bot, .bot, .bot, .bot, .bot, .bot, .bot, .bot, .bot, .bot, .bot, .bot, .bot, .bot, .bot, .bot, .bot, .bot, .bot, .bot, .bot, .bot, .bot, .bot, .bot, .bot, .bot, .bot, .bot, .bot, .bot, .bot, .bot, .bot, .bot, .bot, .bot, .bot, .bot, .bot, .bot, .bot, .bot, .bot, .bot, .bot, .bot, .bot, .bot, .bot, .bot, .bot, .bot, .bot, .bot, .bot, .bot], [some ⟨none, 3, 1, intsA (nz j.2)⟩]⟩)
        (fun j => j.1 ≤ c.length ∧ j.2.length = S ∧ (∀ T, T < s → j.2.getD T 0 = Cn.way bS c T) ∧ (∀ T, s + 1 ≤ T → T < S → j.2.getD T 0 = 0) ∧ j.2.getD s 0 + Cn.wrm bS c s j.1 = Cn.way bS c s) (fun j => c.length - j.1) (0, m) (le_sl (by simp [leSl]))
        ⟨Nat.zero_le _, hml, hlo, fun T h1 h2 => hhi T (by omega) h2, by simp only; rw [hhi s (Nat.le_refl _) h, Cn.wrm_start bS hs1 (by omega)]; omega⟩ ?_
      rintro ⟨i, m⟩ ⟨hi, hml, hlo, hhi, hcur⟩
      simp only at hi hml hlo hhi hcur
      refine awp_sound (own := []) _ _ _ _ _ ?_
      simp only [w_move, w_binOp, w_len, w_aop, w_some, w_asome, w_nil, w_cons, awp, binC, cmpC, asB, asI, lenA, St.ev, St.step, setS, killS, AV.kill, AV.killL, Mem.kill, ACond_false, List.getD_cons_succ, List.getD_cons_zero, List.set_cons_succ, List.set_cons_zero, List.contains_nil, List.isEmpty_nil, Bool.false_eq_true, if_false, if_true, true_and, Bool.true_and, Option.isSome_some, Nat.reduceAdd, Int.reduceAdd, gtsA_len, ti22, gtsA_len]
      by_cases hic : i < c.length
      · have hic' : (i : Int) < (c.length : Int) := by omega
        simp only [w_move, w_binOp, w_aop, w_some, w_asome, w_anone, w_nil, w_cons, awp, binC, arithC, cmpC, asB, asI, St.ev, St.step, setS, killS, AV.kill, AV.killL, Mem.kill, ACond_true, ACond_false, List.getD_cons_succ, List.getD_cons_zero, List.set_cons_succ, List.set_cons_zero, List.contains_nil, List.isEmpty_nil, Bool.false_eq_true, if_false, if_true, true_and, and_true, Bool.and_true, Bool.true_and, Nat.reduceAdd, Int.reduceAdd, Int.reduceLE, Int.toNat_one, w_convert, io3, io74, decide_eq_true hic', Int.toNat_natCast]
        have hsd := div_le s i
        refine ⟨⟨by omega, by unfold lim; omega⟩, ⟨by omega, by omega⟩, ⟨hsd.1, by unfold lim; omega, by unfold lim; omega⟩, ?_⟩
        rw [bitI0]
        cases hb : s.testBit i with
        | false =>
          simp only [w_move, w_assign, w_load, w_indexAddr, w_binOp, w_len, w_aop, w_some, w_asome, w_anone, w_nil, w_cons, awp, binC, idxC, arithC, cmpC, asP, asQ, asO, asS, asI, asN, obA, lenA, St.ev, St.step, setS, killS, AV.kill, AV.killL, Mem.kill, ACond_true, ACond_false, List.getD_cons_succ, List.getD_cons_zero, List.set_cons_succ, List.set_cons_zero, List.getElem?_cons_zero, List.contains_nil, List.isEmpty_nil, Option.getD_some, Bool.false_eq_true, if_false, if_true, true_and, and_true, Bool.and_true, Bool.true_and, Bool.not_false, Option.isSome_some, Nat.reduceAdd, Nat.reduceEqDiff, Int.reduceAdd, intsA_len, ti3, ti31]
          exact ⟨by unfold lim; omega, (i + 1, m), le_sl (by simp [leSl]), ⟨by omega, hml, hlo, hhi, by simp only; rw [Cn.wrm_out bS hic hb]; exact hcur⟩, by simp only; omega⟩
        | true =>
        simp only [w_assign, w_aop, w_anone, w_nil, w_cons, awp, asN, St.ev, St.step, setS, killS, AV.kill, AV.killL, Mem.kill, ACond_false, List.set_cons_succ, List.set_cons_zero, List.contains_nil, List.isEmpty_nil, Option.getD_some, Bool.false_eq_true, if_false, if_true, Bool.not_true, Nat.reduceAdd, Int.reduceAdd]
        refine swp_loop' (fun j : Nat => ⟨[.bot, .s 4 (gtsA c), .bot, .bot, .bot, .bot, .bot, .o 0, I s, I i, B (Cn.lsN bS c s i j), I j, .bot, .bot, .bot, .bot, .bot, .bot, .bot, .bot, .bot, .bot, .bot, .bot, .bot, .bot, .bot, .bot, .bot, .bot, .bot, .bot, .bot, .bot, .bot, .bot, .bot, .bot, .bot, .bot, .bot, .bot, .bot, .bot, .bot, .bot, .bot, .bot, .bot, .bot, .bot, .bot, .bot, .bot, .bot, .bot, .bot, .bot, .bot, .bot, .bot, .bot, .bot, .bot, .bot, .bot, .bot, .bot, .bot, .bot, .bot, .bot, .bot, .bot, .bot, .bot, .bot, .bot, .bot, .bot, .bot, .bot, .bot, .bot, .bot, .bot, .bot, .bot, .bot, .bot, .bot, .bot, .bot, .bot, .bot, .bot, .bot, .bot, .bot, .bot, .bot, .bot], [some ⟨none, 3, 1, intsA (nz m)⟩]⟩)
          (fun j => j ≤ c.length) (fun j => c.length - j) 0 (le_sl (by simp [leSl, Cn.lsN])) (Nat.zero_le _) ?_
        intro j hj
        refine awp_sound (own := []) _ _ _ _ _ ?_
        simp only [w_move, w_binOp, w_len, w_aop, w_some, w_asome, w_nil, w_cons, awp, binC, cmpC, asB, asI, lenA, St.ev, St.step, setS, killS, AV.kill, AV.killL, Mem.kill, ACond_false, List.getD_cons_succ, List.getD_cons_zero, List.set_cons_succ, List.set_cons_zero, List.contains_nil, List.isEmpty_nil, Bool.false_eq_true, if_false, if_true, true_and, Bool.true_and, Option.isSome_some, Nat.reduceAdd, Int.reduceAdd, gtsA_len, ti22, gtsA_len]
        by_cases hjc : j < c.length
        · have hjc' : (j : Int) < (c.length : Int) := by omega
          simp only [w_move, w_assign, w_binOp, w_aop, w_some, w_asome, w_anone, w_nil, w_cons, awp, binC, arithC, cmpC, asI, asN, St.ev, St.step, setS, killS, AV.kill, AV.killL, Mem.kill, ACond_true, ACond_false, List.getD_cons_succ, List.getD_cons_zero, List.set_cons_succ, List.set_cons_zero, List.contains_nil, List.isEmpty_nil, Option.getD_some, Bool.false_eq_true, if_false, if_true, true_and, and_true, Bool.and_true, Bool.true_and, Nat.reduceAdd, Int.reduceAdd, Int.reduceLE, Int.toNat_one, w_convert, io3, io74, decide_eq_true hjc', Int.toNat_natCast]
          have hsj := div_le s j
          refine ⟨⟨by omega, by unfold lim; omega⟩, ⟨by omega, by omega⟩, ⟨hsj.1, by unfold lim; omega, by unfold lim; omega⟩, ?_⟩
          rw [bitI]
          have hop : Cn.lsN bS c s i (j + 1) = (Cn.lsN bS c s i j && (decide (j = i) || !bS c[i] c[j] || (s.testBit j == decide (j < i)))) := by
            show (Cn.lsN bS c s i j && (decide (j = i) || !bS (c.getD i default) (c.getD j default) || (s.testBit j == decide (j < i)))) = _
            rw [getD_at hic, getD_at hjc]
          have h77 := s77 c[i] c[j]
          rw [bound'_bS (ho _ (List.getElem_mem hic)) (ho _ (List.getElem_mem hjc))] at h77
          refine swp_draw (own := []) (.take 0 .plain [] (.take 1 .plain [] (.take 2 .plain [] (.take 3 .plain [] (.take 4 .plain [] (.take 5 .plain [] (.take 6 .plain [] (.take 7 .plain [] (.take 8 .reads [] (.take 9 .reads [] (.take 10 .plain [] (.take 11 .plain [] (.take 12 .reads [] (.take 13 .reads [] (.alt 14 (.take 15 .plain [] (.take 16 .plain [] (.take 17 .plain [] (.take 18 .plain [] (.take 19 .plain [] (.take 20 .plain [] (.take 21 .plain [] (.take 22 .plain [] (.take 23 .plain [] (.take 24 .plain [] (.take 25 .plain [] (.done)))))))))))) (.nil)))))))))))))))) [⟨57, 1024, 0, 0, true⟩, ⟨58, 72057594037927936, 1, 0, true⟩, ⟨59, 144115188075857920, 2, 0, true⟩, ⟨60, 144115188075856384, 2, 0, true⟩, ⟨61, 1008806316530991104, 14, 0, true⟩, ⟨62, 1297036692682702848, 18, 0, true⟩, ⟨63, 2305843009213693954, 32, 0, true⟩, ⟨64, 2305843009213694464, 32, 0, true⟩, ⟨65, 16140901064495857664, 224, 0, true⟩, ⟨66, 20752587082923245568, 288, 0, true⟩, ⟨67, 2305843009213693954, 32, 0, true⟩, ⟨68, 2305843009213696000, 32, 0, true⟩, ⟨69, 223666771893728313344, 3104, 0, true⟩, ⟨70, 297453748188566519808, 4128, 0, true⟩, ⟨71, 629495141515338448896, 8736, 0, false⟩, ⟨72, 1182897463726624997376, 16416, 0, true⟩, ⟨73, 2363633199632112156672, 32802, 0, true⟩, ⟨74, 4722510598057721069568, 81922, 0, true⟩, ⟨75, 9444732965739290431488, 131072, 0, true⟩, ⟨76, 9444732965739290429440, 131072, 0, true⟩, ⟨77, 9444732965739290427904, 131072, 0, true⟩, ⟨78, 122781528554610775556096, 1703936, 0, true⟩, ⟨79, 179449926349046518120448, 2490368, 0, true⟩, ⟨80, 311676331984584659959808, 4325378, 0, true⟩, ⟨81, 604463053922502663208960, 8388610, 0, true⟩, ⟨11, 1208925819614629174706176, 33554431, 0, true⟩] mo (by kernel_rfl) ?_
          cases hx : Cn.lsN bS c s i j with
          | false =>
            rw [hx] at hop
            simp only [w_move, w_assign, w_pick, w_binOp, w_aop, w_aopg, w_gdb, w_gdu, w_take, w_takeg, w_some, w_asome, w_anone, w_nil, w_cons, awp, binC, arithC, cmpC, asB, asI, asN, St.ev, St.step, setS, killS, AV.kill, AV.killL, Mem.kill, ACond_false, List.getD_cons_succ, List.getD_cons_zero, List.set_cons_succ, List.set_cons_zero, List.getElem?_cons_succ, List.getElem?_cons_zero, List.contains_nil, List.isEmpty_nil, Option.getD_some, Bool.false_eq_true, if_false, if_true, true_and, and_true, Bool.and_true, Bool.true_and, Nat.reduceAdd, Int.reduceAdd, Option.bind_some, ASch, St.put, Md.mem, Md.need, w_bt]
            exact ⟨by unfold lim; omega, j + 1, le_sl (by simp [leSl, hop]), hjc, by omega⟩
          | true =>
            rw [hx] at hop
            by_cases hji : j = i
            · have hji' : (j : Int) = (i : Int) := by omega
              rw [decide_eq_true hji] at hop
              simp only [w_move, w_assign, w_pick, w_binOp, w_aop, w_aopg, w_gdb, w_take, w_takeg, w_some, w_asome, w_anone, w_nil, w_cons, awp, binC, arithC, cmpC, asB, asI, asN, St.ev, St.step, setS, killS, AV.kill, AV.killL, Mem.kill, ACond_true, ACond_false, List.getD_cons_succ, List.getD_cons_zero, List.set_cons_succ, List.set_cons_zero, List.getElem?_cons_succ, List.getElem?_cons_zero, List.contains_nil, List.isEmpty_nil, Option.getD_some, Bool.false_eq_true, if_false, if_true, true_and, and_true, Bool.and_true, Bool.true_and, Bool.not_true, beq_self_eq_true, Nat.reduceAdd, Int.reduceAdd, Option.bind_some, ASch, St.put, Md.mem, Md.need, w_bf, decide_eq_true hji']
              exact ⟨by unfold lim; omega, j + 1, le_sl (by simp [leSl, hop]), hjc, by omega⟩
            · have hji' : ¬ (j : Int) = (i : Int) := by omega
              rw [decide_eq_false hji] at hop
              simp only [w_move, w_load, w_indexAddr, w_binOp, w_callF, w_aopg, w_gdb, w_take, w_takeg, w_some, w_asome, binC, idxC, cmpC, asP, asS, asI, loadA, St.ev, setS, AV.cells, AV.flat, AV.single, ACond_true, List.getD_cons_succ, List.getD_cons_zero, List.set_cons_succ, List.set_cons_zero, List.getElem?_cons_succ, List.getElem?_cons_zero, List.length_cons, List.length_nil, Bool.false_eq_true, if_false, if_true, true_and, and_true, List.all_cons, List.all_nil, Bool.and_true, Bool.true_and, Bool.not_true, Nat.zero_add, beq_self_eq_true, List.map_cons, List.map_nil, decide_true, Nat.reduceAdd, Nat.reduceLeDiff, Int.reduceAdd, Option.bind_some, ASch, St.put, Md.mem, Md.need, ti22, ti24, decide_eq_false hji', aget_gts hic, aget_gts hjc, Int.toNat_natCast]
              refine ⟨by omega, by omega, acall_v h77 rfl rfl ?_⟩
              cases hbb : bS c[i] c[j] with
              | false =>
                rw [hbb] at hop
                simp only [w_move, w_assign, w_pick, w_binOp, w_not, w_aop, w_gdb, w_take, w_takeg, w_some, w_asome, w_anone, w_nil, w_cons, awp, binC, arithC, cmpC, asB, asI, asN, St.ev, St.step, setS, killS, AV.kill, AV.killL, Mem.kill, ACond_true, ACond_false, List.getD_cons_succ, List.getD_cons_zero, List.set_cons_succ, List.set_cons_zero, List.getElem?_cons_succ, List.getElem?_cons_zero, List.contains_nil, List.isEmpty_nil, Option.getD_some, Bool.false_eq_true, if_false, if_true, true_and, and_true, Bool.and_true, Bool.true_and, Bool.not_true, Bool.not_false, beq_self_eq_true, Nat.reduceAdd, Int.reduceAdd, Option.bind_some, ASch, St.put, Md.mem, Md.need, w_bf]
                exact ⟨by unfold lim; omega, j + 1, le_sl (by simp [leSl, hop]), hjc, by omega⟩
              | true =>
                rw [hbb] at hop
                have hd : decide ((j : Int) < (i : Int)) = decide (j < i) := decide_eq_decide.2 (by omega)
                simp only [w_move, w_assign, w_pick, w_binOp, w_not, w_aop, w_gdb, w_take, w_takeg, w_some, w_asome, w_anone, w_nil, w_cons, awp, binC, arithC, cmpC, eqC, asB, asI, asN, St.ev, St.step, setS, killS, AV.kill, AV.killL, Mem.kill, ACond_true, ACond_false, List.getD_cons_succ, List.getD_cons_zero, List.set_cons_succ, List.set_cons_zero, List.getElem?_cons_succ, List.getElem?_cons_zero, List.contains_nil, List.isEmpty_nil, Option.getD_some, Bool.false_eq_true, if_false, if_true, true_and, and_true, Bool.and_true, Bool.true_and, Bool.not_true, beq_self_eq_true, Nat.reduceAdd, Int.reduceAdd, Option.bind_some, ASch, St.put, Md.mem, Md.need, ti4]
                rw [hd]
                exact ⟨by unfold lim; omega, j + 1, le_sl (by simp [leSl, hop]), hjc, by omega⟩
        · have hjc' : ¬ (j : Int) < (c.length : Int) := by omega
          have hje : j = c.length := by omega
          subst hje
          simp only [w_move, w_assign, w_load, w_indexAddr, w_binOp, w_len, w_aop, w_some, w_asome, w_anone, w_nil, w_cons, awp, binC, idxC, arithC, cmpC, asP, asQ, asO, asS, asB, asI, asN, obA, lenA, St.ev, St.step, setS, killS, AV.kill, AV.killL, Mem.kill, ACond_false, List.getD_cons_succ, List.getD_cons_zero, List.set_cons_succ, List.set_cons_zero, List.getElem?_cons_zero, List.contains_nil, List.isEmpty_nil, Option.getD_some, Bool.false_eq_true, if_false, if_true, true_and, and_true, Bool.and_true, Bool.true_and, Option.isSome_some, Nat.reduceAdd, Nat.reduceEqDiff, Int.reduceAdd, intsA_len, ti3, ti31, decide_eq_false hjc']
          have hri := Cn.wrm_in (b := bS) bS_sym hic hb
          obtain ⟨hle, _⟩ := Cn.sub_bit hb
          have hpj := pow2_le (Nat.le_of_lt hic) hc
          have hpi := Nat.two_pow_pos i
          cases hx : Cn.lsN bS c s i c.length with
          | false =>
            rw [hx] at hri
            simp only [w_move, w_assign, w_binOp, w_aop, w_some, w_asome, w_anone, w_nil, w_cons, awp, binC, arithC, cmpC, asI, asN, St.ev, St.step, setS, killS, AV.kill, AV.killL, Mem.kill, ACond_false, List.getD_cons_succ, List.getD_cons_zero, List.set_cons_succ, List.set_cons_zero, List.contains_nil, List.isEmpty_nil, Option.getD_some, Bool.false_eq_true, if_false, if_true, true_and, and_true, Bool.and_true, Bool.true_and, Nat.reduceAdd, Int.reduceAdd]
            exact ⟨by unfold lim; omega, (i + 1, m), le_sl (by simp [leSl]), ⟨by omega, hml, hlo, hhi, by simp only; simp at hri; omega⟩, by simp only; omega⟩
          | true =>
            rw [hx, if_pos rfl] at hri
            simp only [awp, ACond_true]
            refine swp_draw (own := []) (.take 0 .plain [] (.take 1 .plain [] (.take 2 .reads [] (.take 3 .reads [] (.take 4 .plain [] (.take 5 .plain [] (.take 6 .plain [] (.take 7 .plain [] (.take 8 .plain [] (.take 9 .plain [] (.take 10 .reads [] (.take 11 .reads [] (.take 12 .plain [] (.take 13 .reads [] (.alt 14 (.done) (.nil)))))))))))))))) [⟨83, 128, 0, 0, true⟩, ⟨84, 256, 0, 0, true⟩, ⟨85, 14507109835375550096474112, 3, 0, true⟩, ⟨86, 19342813113834066795298816, 4, 0, true⟩, ⟨87, 128, 0, 0, true⟩, ⟨88, 256, 0, 0, true⟩, ⟨89, 512, 0, 0, true⟩, ⟨90, 309485009821345068724781056, 64, 0, true⟩, ⟨91, 618970019642690137449562112, 128, 0, true⟩, ⟨92, 1392682544196052809261514752, 288, 0, true⟩, ⟨93, 2553251331026096816979443712, 528, 0, true⟩, ⟨94, 4951760157141521099596496896, 1024, 0, true⟩, ⟨95, 9942205940510710332783591424, 2056, 0, true⟩, ⟨96, 14507109835375550096474112, 8191, 0, true⟩, ⟨0, 59421121885698253195157962752, 16383, 1, false⟩] mo (by kernel_rfl) ?_
            have hsl : s < (nz m).length := by rw [nz_len]; omega
            simp only [w_move, w_load, w_indexAddr, w_binOp, w_take, w_some, w_asome, w_anone, binC, idxC, arithC, cmpC, asP, asQ, asO, asS, asI, obA, loadA, St.ev, setS, AV.cells, AV.flat, AV.single, List.getD_cons_succ, List.getD_cons_zero, List.set_cons_succ, List.set_cons_zero, List.getElem?_cons_succ, List.getElem?_cons_zero, Bool.false_eq_true, if_false, true_and, and_true, List.all_cons, List.all_nil, Bool.and_true, Bool.true_and, Bool.not_true, ASch, St.put, Md.mem, Md.need, intsA_len, ti3, ti31, w_convert, io3, io74, Int.toNat_natCast, aget_ints hsl, nz_len, hml, pow2N]
            have hwl := Cn.way_le bS c s hc
            obtain ⟨P, hP⟩ : ∃ P, P = 2 ^ i := ⟨_, rfl⟩
            rw [← hP] at hri hle hpj hpi ⊢
            have e1 : ((s : Int) - (P : Int)).toNat = s - P := by omega
            have hUl : s - P < (nz m).length := by rw [nz_len]; omega
            have hU := hlo (s - P) (by omega)
            rw [e1, aget_ints hUl]
            refine ⟨⟨by omega, by omega⟩, ⟨by omega, by unfold lim; omega⟩, ⟨by omega, by omega, by unfold lim; omega⟩, by unfold lim; omega, ⟨by omega, by omega⟩, ?_⟩
            simp only [w_store, w_indexAddr, w_binOp, w_aop, w_take, w_some, w_asome, w_anone, binC, idxC, arithC, cmpC, asQ, asO, asS, asI, obA, loadA, St.ev, setS, AV.cells, AV.flat, AV.single, List.getD_cons_succ, List.getD_cons_zero, List.set_cons_succ, List.set_cons_zero, List.getElem?_cons_succ, List.getElem?_cons_zero, Bool.false_eq_true, if_false, true_and, and_true, List.all_cons, List.all_nil, Bool.and_true, Bool.true_and, Bool.not_true, ASch, St.put, Md.mem, Md.need, intsA_len, ti3, ti31, Int.toNat_natCast, nz_len, hml, nz_at hsl, nz_at hUl]
            refine ⟨by unfold lim; omega, ⟨by omega, by omega⟩, ?_⟩
            rw [aget_ints hsl]
            simp only [w_move, w_assign, w_binOp, w_aop, w_some, w_asome, w_anone, w_nil, w_cons, awp, binC, arithC, cmpC, asI, asN, storeA, putsA, St.ev, St.step, setS, killS, AV.kill, AV.killL, Mem.kill, AV.cells, AV.flat, AV.single, AV.cellular, ACond_false, Value.oneCell', List.getD_cons_succ, List.getD_cons_zero, List.set_cons_succ, List.set_cons_zero, List.length_cons, List.head?_cons, List.length_nil, List.contains_nil, List.isEmpty_nil, Option.getD_some, Bool.false_eq_true, if_false, if_true, true_and, and_true, List.all_cons, List.all_nil, Bool.and_true, Bool.true_and, Nat.zero_add, beq_self_eq_true, decide_true, Nat.reduceAdd, Nat.reduceLeDiff, Int.reduceAdd, ASch]
            rw [← Int.natCast_add, ints_set, nz_set]
            refine ⟨by unfold lim; omega, (i + 1, m.set s (m.getD s 0 + m.getD (s - P) 0)), le_sl (by simp [leSl]), ⟨by omega, by rw [List.length_set]; exact hml, fun T hT => ?_, fun T h1 h2 => ?_, ?_⟩, by simp only; omega⟩
            · simp only
              rw [List.getD_eq_getElem?_getD, List.getElem?_set_ne (by omega), ← List.getD_eq_getElem?_getD]
              exact hlo T hT
            · simp only
              rw [List.getD_eq_getElem?_getD, List.getElem?_set_ne (by omega), ← List.getD_eq_getElem?_getD]
              exact hhi T h1 h2
            · simp only
              rw [List.getD_eq_getElem?_getD, List.getElem?_set_self (by omega), Option.getD_some]
              omega
      · have hic' : ¬ (i : Int) < (c.length : Int) := by omega
        have hie : i = c.length := by omega
        subst hie
        simp only [w_move, w_assign, w_load, w_indexAddr, w_binOp, w_len, w_aop, w_some, w_asome, w_anone, w_nil, w_cons, awp, binC, idxC, arithC, cmpC, asP, asQ, asO, asS, asI, asN, obA, lenA, St.ev, St.step, setS, killS, AV.kill, AV.killL, Mem.kill, ACond_false, List.getD_cons_succ, List.getD_cons_zero, List.set_cons_succ, List.set_cons_zero, List.getElem?_cons_zero, List.contains_nil, List.isEmpty_nil, Option.getD_some, Bool.false_eq_true, if_false, if_true, true_and, and_true, Bool.and_true, Bool.true_and, Option.isSome_some, Nat.reduceAdd, Nat.reduceEqDiff, Int.reduceAdd, intsA_len, ti3, ti31, decide_eq_false hic']
        rw [Cn.wrm_n, Nat.add_zero] at hcur
        refine ⟨by unfold lim; omega, (s + 1, m), le_sl (by simp [leSl]), ⟨hml, by simp only; omega, by simp only; omega, fun T hT => ?_, fun T h1 h2 => hhi T h1 h2⟩, by simp only; omega⟩
        simp only at hT
        rcases Nat.lt_or_ge T s with h1 | h1
        · exact hlo T h1
        · obtain rfl : T = s := by omega
          exact hcur
    · have h' : ¬ (s : Int) < (S : Int) := by omega
      have hlast : ((S : Int) - 1).toNat < (nz m).length := by rw [nz_len, hml]; omega
      simp only [w_move, w_assign, w_load, w_indexAddr, w_binOp, w_len, w_aop, w_some, w_asome, w_anone, w_nil, w_cons, awp, binC, idxC, arithC, cmpC, asP, asQ, asO, asS, asI, asN, obA, lenA, loadA, St.ev, St.step, setS, killS, AV.kill, AV.killL, Mem.kill, AV.cells, AV.flat, AV.single, ACond_false, List.getD_cons_succ, List.getD_cons_zero, List.set_cons_succ, List.set_cons_zero, List.getElem?_cons_zero, List.contains_nil, List.isEmpty_nil, Option.getD_some, Bool.false_eq_true, if_false, if_true, true_and, and_true, List.all_cons, List.all_nil, Bool.and_true, Bool.true_and, Bool.not_true, Option.isSome_some, Nat.reduceAdd, Int.reduceAdd, intsA_len, ti3, ti31, decide_eq_false h', intsA_len, nz_len, hml, aget_ints hlast, nz_at]
      refine ⟨by unfold lim; omega, ⟨by omega, by omega⟩, ?_⟩
      rw [show ((S : Int) - 1).toNat = S - 1 by omega, hlo (S - 1) (by omega), hS, Cn.way_full]
      exact aend_frz rfl ⟨by simp [frz, AV.sub, AV.subL, hv], rfl⟩
  · simp only [w_move, w_assign, w_aop, w_anone, w_nil, w_cons, awp, asN, St.ev, St.step, setS, killS, AV.kill, AV.killL, Mem.kill, ACond_true, ACond_false, List.getD_cons_succ, List.getD_cons_zero, List.set_cons_succ, List.set_cons_zero, List.contains_nil, List.isEmpty_nil, Option.getD_some, Bool.false_eq_true, if_false, if_true, Bool.not_false, Nat.reduceAdd, Int.reduceAdd, decide_eq_false hv]
    exact aend_frz rfl ⟨by simp [frz, AV.sub, AV.subL, hv], rfl⟩
end Go.Proofs.Ytkmbbbemmohmcaa
