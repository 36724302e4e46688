/-
  Several texts in one: Ti, BwA, CtA, CtB, CtC, CtD, CtE, CtF.
-/
import Derived.Test.YtkmbbbemmohmcaaMb
import Derived.Test.YtkmbbbemmohmcaaProg
import Derived.KernelRfl
import Derived.RangeFuncBox
import Derived.RangeFuncLeaves
import Derived.Shelf.Abstract
import Derived.WalkKit
import Derived.OwnWalkIn
import Derived.TacticsInMore
import Derived.LoopNIn
import Derived.LoopIn
import Derived.Test.YtkmbbbemmohmcaaChecked
import Derived.Test.YtkmbbbemmohmcaaMw
set_option linter.unusedSimpArgs false
set_option linter.unusedVariables false
namespace Go.Proofs.Ytkmbbbemmohmcaa
open Aw
theorem ti2 : tiOf Try.prog 2 = some ⟨false, 1, 8, [.int .i64 (0)], none, none, [], [], false, false⟩ := by kernel_rfl
theorem ti3 : tiOf Try.prog 3 = some ⟨false, 1, 8, [.int .i64 (0)], none, none, [], [], false, false⟩ := by kernel_rfl
theorem ti4 : tiOf Try.prog 4 = some ⟨false, 1, 1, [.bool false], none, none, [], [], true, false⟩ := by kernel_rfl
theorem ti5 : tiOf Try.prog 5 = some ⟨false, 1, 1, [.int .u8 (0)], none, none, [], [], false, false⟩ := by kernel_rfl
theorem ti7 : tiOf Try.prog 7 = some ⟨true, 4, 24, [.int .i64 (0), .int .i64 (0), .bool false, .int .u8 (0)], none, none, [(0, 1), (1, 1), (2, 1), (3, 1)], [2, 3, 4, 6], false, false⟩ := by kernel_rfl
theorem ti9 : tiOf Try.prog 9 = some ⟨false, 1, 16, [.string ⟨#[]⟩], none, none, [], [], false, false⟩ := by kernel_rfl
theorem ti12 : tiOf Try.prog 12 = some ⟨false, 1, 8, [.int .u64 (0)], none, none, [], [], false, false⟩ := by kernel_rfl
theorem ti13 : tiOf Try.prog 13 = some ⟨true, 2, 24, [.string ⟨#[]⟩, .int .u64 (0)], none, none, [(0, 1), (1, 1)], [9, 12], false, false⟩ := by kernel_rfl
theorem ti15 : tiOf Try.prog 15 = some ⟨false, 1, 8, [.pointer none], none, none, [], [], false, false⟩ := by kernel_rfl
theorem ti16 : tiOf Try.prog 16 = some ⟨false, 1, 8, [.pointer none], none, none, [], [], false, false⟩ := by kernel_rfl
theorem ti17 : tiOf Try.prog 17 = some ⟨false, 1, 8, [.pointer none], none, none, [], [], false, false⟩ := by kernel_rfl
theorem ti18 : tiOf Try.prog 18 = some ⟨true, 1, 8, [.pointer none], none, none, [(0, 1)], [17], false, false⟩ := by kernel_rfl
theorem ti21 : tiOf Try.prog 21 = some ⟨false, 1, 4, [.int .i32 (0)], none, none, [], [], false, false⟩ := by kernel_rfl
theorem ti22 : tiOf Try.prog 22 = some ⟨false, 1, 24, [.slice none 0 0], some 24, none, [], [], false, false⟩ := by kernel_rfl
theorem ti23 : tiOf Try.prog 23 = some ⟨true, 4, 32, [.int .i64 (0), .int .i64 (0), .int .i64 (0), .int .i64 (0)], none, none, [(0, 1), (1, 1), (2, 1), (3, 1)], [3, 3, 3, 3], false, true⟩ := by kernel_rfl
theorem ti24 : tiOf Try.prog 24 = some ⟨true, 4, 32, [.int .i64 (0), .int .i64 (0), .int .i64 (0), .int .i64 (0)], none, none, [(0, 1), (1, 1), (2, 1), (3, 1)], [3, 3, 3, 3], false, true⟩ := by kernel_rfl
theorem ti25 : tiOf Try.prog 25 = some ⟨false, 1, 8, [.int .i64 (0)], none, none, [], [], false, false⟩ := by kernel_rfl
theorem ti31 : tiOf Try.prog 31 = some ⟨false, 1, 24, [.slice none 0 0], some 3, none, [], [], false, false⟩ := by kernel_rfl
theorem ti34 : tiOf Try.prog 34 = some ⟨false, 1, 24, [.slice none 0 0], some 22, none, [], [], false, false⟩ := by kernel_rfl
theorem ti52 : tiOf Try.prog 52 = some ⟨true, 8, 64, [.int .i64 (0), .int .i64 (0), .int .i64 (0), .int .i64 (0), .int .i64 (0), .int .i64 (0), .int .i64 (0), .int .i64 (0)], none, none, [(0, 4), (4, 4)], [24, 24], false, false⟩ := by kernel_rfl
theorem ti53 : tiOf Try.prog 53 = some ⟨true, 8, 64, [.int .i64 (0), .int .i64 (0), .int .i64 (0), .int .i64 (0), .int .i64 (0), .int .i64 (0), .int .i64 (0), .int .i64 (0)], none, none, [(0, 4), (4, 4)], [24, 24], false, false⟩ := by kernel_rfl
theorem ti60 : tiOf Try.prog 60 = some ⟨false, 1, 24, [.slice none 0 0], some 24, none, [], [], false, false⟩ := by kernel_rfl
theorem ti74 : tiOf Try.prog 74 = some ⟨false, 1, 8, [.int .u64 (0)], none, none, [], [], false, false⟩ := by kernel_rfl
theorem ti80 : tiOf Try.prog 80 = some ⟨true, 2, 32, [.slice none 0 0, .int .i64 (0)], none, none, [(0, 1), (1, 1)], [60, 3], false, false⟩ := by kernel_rfl
theorem ti81 : tiOf Try.prog 81 = some ⟨true, 2, 32, [.slice none 0 0, .int .i64 (0)], none, none, [(0, 1), (1, 1)], [60, 3], false, false⟩ := by kernel_rfl
theorem ti94 : tiOf Try.prog 94 = some ⟨false, 1, 8, [.pointer none], none, none, [], [], false, false⟩ := by kernel_rfl
theorem ti101 : tiOf Try.prog 101 = some ⟨false, 1, 8, [.int .i64 (0)], none, none, [], [], false, false⟩ := by kernel_rfl
theorem ti109 : tiOf Try.prog 109 = some ⟨false, 1, 4, [.int .u32 (0)], none, none, [], [], false, false⟩ := by kernel_rfl
theorem ti111 : tiOf Try.prog 111 = some ⟨false, 1, 8, [.int .u64 (0)], none, none, [], [], false, false⟩ := by kernel_rfl
theorem ti113 : tiOf Try.prog 113 = some ⟨false, 1, 8, [.int .u64 (0)], none, none, [], [], false, false⟩ := by kernel_rfl
theorem ti117 : tiOf Try.prog 117 = some ⟨false, 1, 8, [.pointer none], none, none, [], [], false, false⟩ := by kernel_rfl
theorem ti119 : tiOf Try.prog 119 = some ⟨false, 1, 8, [.pointer none], none, none, [], [], false, false⟩ := by kernel_rfl
theorem ti123 : tiOf Try.prog 123 = some ⟨true, 4, 40, [.pointer none, .pointer none, .pointer none, .string ⟨#[]⟩], none, none, [(0, 1), (1, 1), (2, 1), (3, 1)], [17, 17, 17, 9], false, false⟩ := by kernel_rfl
theorem ti125 : tiOf Try.prog 125 = some ⟨true, 0, 0, [], none, some (0, 16), [], [], false, false⟩ := by kernel_rfl
theorem ti126 : tiOf Try.prog 126 = some ⟨true, 0, 0, [], none, none, [(0, 0)], [125], false, false⟩ := by kernel_rfl
theorem ti132 : tiOf Try.prog 132 = some ⟨false, 1, 8, [.pointer none], none, none, [], [], false, false⟩ := by kernel_rfl
theorem ti135 : tiOf Try.prog 135 = some ⟨true, 11, 48, [.int .u64 (0), .int .u64 (0), .int .u32 (0), .int .u8 (0), .int .u8 (0), .int .u8 (0), .int .u8 (0), .nilFunc, .pointer none, .int .i32 (0), .int .i32 (0)], none, none, [(0, 1), (1, 1), (2, 1), (3, 1), (4, 1), (5, 1), (6, 1), (7, 1), (8, 1), (9, 1), (10, 1)], [12, 12, 109, 129, 5, 5, 130, 131, 132, 133, 134], false, false⟩ := by kernel_rfl
theorem ti137 : tiOf Try.prog 137 = some ⟨false, 1, 8, [.pointer none], none, none, [], [], false, false⟩ := by kernel_rfl
end Go.Proofs.Ytkmbbbemmohmcaa

namespace Go.Proofs.Ytkmbbbemmohmcaa
open Go.RowKit Go.Shelf

attribute [local go_sem] Oper.semAt_some

/-- a gate. -/
structure G4 where
  k : Int
  a : Int
  b : Int
  t : Int
  deriving DecidableEq, Inhabited, Repr

def G4.val (g : G4) : Value := .agg #[.int .i64 g.k, .int .i64 g.a, .int .i64 g.b, .int .i64 g.t]

/-- a box holds a slice of ints. -/
def BoxI (W : World) (Bs : Nat) (zs : List Int) : Prop :=
  ∃ a cap, W.cell? ⟨Bs, 0, none⟩ = some (.slice a zs.length cap) ∧ (zs ≠ [] → ∃ b off, a = some ⟨b, off, none⟩ ∧ ∀ (j : Nat) (h : j < zs.length), W.cell? ⟨b, off + j, none⟩ = some (.int .i64 zs[j]))

/-- a box holds a slice of gates. -/
def BoxG (W : World) (Bs : Nat) (zs : List G4) : Prop :=
  ∃ a cap, W.cell? ⟨Bs, 0, none⟩ = some (.slice a zs.length cap) ∧ (zs ≠ [] → ∃ b off, a = some ⟨b, off, none⟩ ∧ ∀ (j : Nat) (h : j < zs.length),
    W.cell? ⟨b, off + j * 4, none⟩ = some (.int .i64 zs[j].k) ∧ W.cell? ⟨b, off + j * 4 + 1, none⟩ = some (.int .i64 zs[j].a) ∧ W.cell? ⟨b, off + j * 4 + 2, none⟩ = some (.int .i64 zs[j].b) ∧ W.cell? ⟨b, off + j * 4 + 3, none⟩ = some (.int .i64 zs[j].t))

set_option maxRecDepth 100000 in
set_option maxHeartbeats 2000000 in
theorem bw_ints (F : Fence) (n : Nat) (h102 : F.fn 102) (hro : F.round = none) (hn : 1 ≤ n) (l Bs : Nat) (zs : List Int) (hreach : zs.length ≤ 1000) (J : Nat → World → Prop)
    (hY : ∀ k W (h : k < zs.length), J k W → YieldAt F (n - 1) Try.prog l #[.int .i64 ((zs.length - 1 - k : Nat) : Int), .int .i64 (zs[zs.length - 1 - k]'(by omega))] W fun e W' => e = .returned (.bool true) ∧ J (k + 1) W')
    (hH : ∀ k W, J k W → BoxI W Bs zs) (W : World) (h0 : J 0 W) :
    CallsIn F n Try.prog 102 #[.func (.yield l) #[] #[], .pointer (some ⟨Bs, 0, none⟩)] W fun e W' => (∃ v, e = .returned v) ∧ J zs.length W' := by
  obtain ⟨a0, cap0, hB0, _⟩ := hH 0 W h0
  refine callsIn_of_wp Try.func102 rfl h102 ?_ hro
  simp only [Try.ntmps102, List.size_toArray, List.length_cons, List.length_nil, Nat.reduceAdd, Nat.reduceSub, Array.replicate_succ, Array.replicate_zero, List.push_toArray, List.append_toArray, List.nil_append, List.cons_append]
  gi_wp2
  gi_loopw [3] (fun i wr => ∃ k : Nat, k ≤ zs.length ∧ i = .int .i64 ((zs.length : Int) - 1 - k) ∧ J k wr)
    (fun i _ => (intOf i + 1).toNat)
  case atStart => exact ⟨0, Nat.zero_le _, by simp, h0⟩
  case round =>
    obtain ⟨k, hk, rfl, hJs⟩ := hrel
    by_cases hlt : k < zs.length
    · obtain ⟨a, cap, hB, hc0⟩ := hH k wr hJs
      obtain ⟨b, off, ha, hc⟩ := hc0 (by rintro rfl; simp at hlt)
      subst ha
      clear hc0
      obtain ⟨fn, tmps, assign, body, hy, hR⟩ := hY k wr hlt hJs
      have hcx := hc (zs.length - 1 - k) (by omega)
      obtain ⟨m, hm⟩ : ∃ m, m = zs.length - 1 - k := ⟨_, rfl⟩
      have e1 : ((zs.length : Int) - 1 - k) = (m : Int) := by omega
      have hml : m < zs.length := by omega
      simp only [← hm] at hy hcx
      generalize zs[m] = x at hy hcx
      rw [e1]
      have hk2 : m + k + 1 = zs.length := by omega
      clear hH hY hc hm e1
      gi_wp2
      refine hR.mono ?_
      rintro e W3 ⟨rfl, hJ3⟩
      gi_wp2
      go_roundw
      case rel =>
        refine ⟨k + 1, by omega, ?_, hJ3⟩
        first
          | rfl
          | (congr 1; omega)
      case measure => (simp [intOf]; try omega)
    · obtain rfl : k = zs.length := by omega
      gi_wp2
      go_end0
      exact ⟨⟨_, rfl⟩, hJs⟩

set_option maxRecDepth 100000 in
set_option maxHeartbeats 2000000 in
theorem bw_gates (F : Fence) (n : Nat) (h94 : F.fn 94) (hro : F.round = none) (hn : 1 ≤ n) (l Bs : Nat) (zs : List G4) (hreach : zs.length ≤ 1000) (J : Nat → World → Prop)
    (hY : ∀ k W (h : k < zs.length), J k W → YieldAt F (n - 1) Try.prog l #[.int .i64 ((zs.length - 1 - k : Nat) : Int), (zs[zs.length - 1 - k]'(by omega)).val] W fun e W' => e = .returned (.bool true) ∧ J (k + 1) W')
    (hH : ∀ k W, J k W → BoxG W Bs zs) (W : World) (h0 : J 0 W) :
    CallsIn F n Try.prog 94 #[.func (.yield l) #[] #[], .pointer (some ⟨Bs, 0, none⟩)] W fun e W' => (∃ v, e = .returned v) ∧ J zs.length W' := by
  obtain ⟨a0, cap0, hB0, _⟩ := hH 0 W h0
  refine callsIn_of_wp Try.func94 rfl h94 ?_ hro
  simp only [Try.ntmps94, List.size_toArray, List.length_cons, List.length_nil, Nat.reduceAdd, Nat.reduceSub, Array.replicate_succ, Array.replicate_zero, List.push_toArray, List.append_toArray, List.nil_append, List.cons_append]
  gi_wp2
  gi_loopw [3] (fun i wr => ∃ k : Nat, k ≤ zs.length ∧ i = .int .i64 ((zs.length : Int) - 1 - k) ∧ J k wr)
    (fun i _ => (intOf i + 1).toNat)
  case atStart => exact ⟨0, Nat.zero_le _, by simp, h0⟩
  case round =>
    obtain ⟨k, hk, rfl, hJs⟩ := hrel
    by_cases hlt : k < zs.length
    · obtain ⟨a, cap, hB, hc0⟩ := hH k wr hJs
      obtain ⟨b, off, ha, hc⟩ := hc0 (by rintro rfl; simp at hlt)
      subst ha
      clear hc0
      obtain ⟨fn, tmps, assign, body, hy, hR⟩ := hY k wr hlt hJs
      have hcx := hc (zs.length - 1 - k) (by omega)
      obtain ⟨m, hm⟩ : ∃ m, m = zs.length - 1 - k := ⟨_, rfl⟩
      have e1 : ((zs.length : Int) - 1 - k) = (m : Int) := by omega
      have hml : m < zs.length := by omega
      simp only [← hm] at hy hcx
      generalize zs[m] = x at hy hcx
      obtain ⟨c0, c1, c2, c3⟩ := hcx
      unfold G4.val at hy
      rw [e1]
      have hk2 : m + k + 1 = zs.length := by omega
      clear hH hY hc hm e1
      gi_wp2
      refine hR.mono ?_
      rintro e W3 ⟨rfl, hJ3⟩
      gi_wp2
      go_roundw
      case rel =>
        refine ⟨k + 1, by omega, ?_, hJ3⟩
        first
          | rfl
          | (congr 1; omega)
      case measure => (simp [intOf]; try omega)
    · obtain rfl : k = zs.length := by omega
      gi_wp2
      go_end0
      exact ⟨⟨_, rfl⟩, hJs⟩

end Go.Proofs.Ytkmbbbemmohmcaa

namespace Go.Proofs.Ytkmbbbemmohmcaa
open Aw Go.RowKit
set_option linter.unusedSimpArgs false
theorem mo : Try.prog.follows .mixedOrders = true := by kernel_rfl

def gA (g : G4) : AV := .g [I g.k, I g.a, I g.b, I g.t]
def gtsA (l : List G4) : List AV := l.map gA
theorem gtsA_len (l : List G4) : (gtsA l).length = l.length := by simp [gtsA]
theorem aget_gts {l : List G4} {j : Nat} (h : j < l.length) (K : HK (AV → Prop)) : @AGet (gtsA l) j K = K.k (.g [I l[j].k, I l[j].a, I l[j].b, I l[j].t]) := by simp [AGet, gtsA, gA, h]
theorem gtsA_pure (l : List G4) : AV.pureL (gtsA l) = true := pureL_map gA (fun _ => rfl) l
theorem gtsA_tfree (l : List G4) : AV.tfreeL (gtsA l) = true := tfreeL_map gA (fun _ => rfl) l
theorem gtsA_kill (Z : List Nat) (l : List G4) : AV.killL Z (gtsA l) = gtsA l := killL_pure Z _ (gtsA_pure l)
theorem gtsA_app (l : List G4) (k a b t : Int) : gtsA l ++ [.g [I k, I a, I b, I t]] = gtsA (l ++ [⟨k, a, b, t⟩]) := by simp [gtsA, gA]
theorem gtsA_take (l : List G4) (k : Nat) : (gtsA l).take k = gtsA (l.take k) := by simp [gtsA]
theorem gtsA_drop (l : List G4) (k : Nat) : (gtsA l).drop k = gtsA (l.drop k) := by simp [gtsA]
theorem gtsA_at (l : List G4) {i : Nat} (h : i < l.length) : (gtsA l).getD i .bot = .g [I l[i].k, I l[i].a, I l[i].b, I l[i].t] := by simp [gtsA, gA, h]

theorem freeL_pure (Z : List Nat) {l : List AV} (h : AV.pureL l = true) : AV.freeL Z l = true := by
  have one : ∀ a : AV, a.pure = true → a.free Z = true := fun a => by
    refine AV.rec (motive_1 := fun a => a.pure = true → a.free Z = true) (motive_2 := fun l => AV.pureL l = true → AV.freeL Z l = true) ?_ ?_ ?_ ?_ ?_ ?_ ?_ ?_ ?_ ?_ ?_ a <;> intros <;> simp_all [AV.pure, AV.pureL, AV.free, AV.freeL]
  induction l with
  | nil => rfl
  | cons x l ih =>
    simp only [AV.pureL, Bool.and_eq_true] at h
    simp [AV.freeL, one x h.1, ih h.2]
theorem freeL_app (Z : List Nat) (l m : List AV) : AV.freeL Z (l ++ m) = (AV.freeL Z l && AV.freeL Z m) := by
  induction l with
  | nil => simp [AV.freeL]
  | cons x l ih => simp [AV.freeL, ih, Bool.and_assoc]

theorem dbool (p : Prop) [Decidable p] : (if p then true else false) = decide p := by by_cases h : p <;> simp [h]

def G4.same (g h : G4) : Bool := decide (g.k = h.k ∧ g.a = h.a ∧ g.b = h.b)
def G4.touch (g h : G4) : Bool := decide (g.a = h.a ∨ g.a = h.b ∨ (0 ≤ g.b ∧ (g.b = h.a ∨ g.b = h.b)))
def G4.comm (g h : G4) : Bool := !g.touch h || (decide (g.k = 1) == decide (h.k = 1))
def G4.bound (g h : G4) : Bool := g.same h || !g.comm h

theorem ok56 : okFn Try.prog 56 = true := by kernel_rfl
theorem s56 (g h : G4) : ASpec Try.prog 56 [gA g, gA h] (fun r Ms => r = B (g.same h) ∧ Ms = []) := by
  refine aspec_of (own := []) Try.func56 rfl ok56 ?_
  simp only [w_move, w_assign, w_box, w_load, w_fieldAddr, w_binOp, w_aop, w_aopg, w_gdb, w_some, w_asome, w_anone, w_nil, w_cons, awp, binC, cmpC, asP, asI, asN, loadA, St.ev, St.step, setS, killS, AV.kill, AV.killL, Mem.kill, AV.cells, AV.flat, AV.single, AV.cellular, AV.pure, AV.pureL, ACond_false, List.getD_cons_succ, List.getD_cons_zero, List.set_cons_succ, List.set_cons_zero, List.getElem?_cons_succ, List.getElem?_cons_zero, List.length_cons, List.length_nil, List.replicate_succ, List.replicate_zero, List.cons_append, List.nil_append, List.contains_nil, List.isEmpty_nil, Option.getD_some, Bool.false_eq_true, if_false, if_true, true_and, and_true, List.all_cons, List.all_nil, Bool.and_true, Bool.true_and, Bool.not_true, Nat.zero_add, Nat.add_zero, beq_self_eq_true, decide_true, nbeq, decide_false, Bool.and_false, Nat.reduceAdd, Nat.reduceEqDiff, Nat.reduceSub, Nat.reduceLeDiff, Int.reduceAdd, Int.reduceSub, Option.bind_some, ne_eq, not_false_eq_true, w_bt, ti3, ti24, Try.ntmps56, gA]
  by_cases c1 : g.k = h.k
  · simp only [w_move, w_pick, w_load, w_fieldAddr, w_binOp, w_aop, w_aopg, w_gdb, w_some, w_asome, w_cons, binC, cmpC, asP, asB, asI, loadA, St.ev, St.step, setS, killS, AV.kill, AV.killL, Mem.kill, AV.cells, AV.flat, AV.single, ACond_true, List.getD_cons_succ, List.getD_cons_zero, List.set_cons_succ, List.set_cons_zero, List.getElem?_cons_succ, List.getElem?_cons_zero, List.length_cons, List.length_nil, List.isEmpty_nil, Bool.false_eq_true, if_false, if_true, true_and, and_true, List.all_cons, List.all_nil, Bool.and_true, Bool.true_and, Bool.not_true, Nat.zero_add, beq_self_eq_true, decide_true, nbeq, decide_false, Bool.and_false, Nat.reduceAdd, Nat.reduceEqDiff, Nat.reduceLeDiff, Int.reduceAdd, Option.bind_some, ne_eq, not_false_eq_true, w_bt, ti3, ti24, decide_eq_true c1]
    by_cases c2 : g.a = h.a
    · simp only [w_assign, w_pick, w_load, w_fieldAddr, w_binOp, w_aop, w_aopg, w_gdb, w_some, w_asome, w_anone, w_nil, w_cons, awp, binC, cmpC, asP, asB, asI, asN, loadA, St.ev, St.step, setS, killS, AV.kill, AV.killL, Mem.kill, AV.cells, AV.flat, AV.single, ACond_true, List.getD_cons_succ, List.getD_cons_zero, List.set_cons_succ, List.set_cons_zero, List.getElem?_cons_succ, List.getElem?_cons_zero, List.length_cons, List.length_nil, List.contains_nil, List.isEmpty_nil, Option.getD_some, Bool.false_eq_true, if_false, if_true, true_and, and_true, List.all_cons, List.all_nil, Bool.and_true, Bool.true_and, Bool.not_true, Nat.zero_add, beq_self_eq_true, decide_true, nbeq, decide_false, Bool.and_false, Nat.reduceAdd, Nat.reduceEqDiff, Nat.reduceLeDiff, Int.reduceAdd, Option.bind_some, ne_eq, not_false_eq_true, ti3, ti24, decide_eq_true c2]
      exact aend_frz rfl ⟨by simp [G4.same, c1, c2]; rfl, rfl⟩
    · simp only [w_assign, w_pick, w_aop, w_aopg, w_gdb, w_some, w_anone, w_nil, w_cons, awp, asB, asN, St.ev, St.step, setS, killS, AV.kill, AV.killL, Mem.kill, ACond_false, List.getD_cons_succ, List.getD_cons_zero, List.set_cons_succ, List.set_cons_zero, List.getElem?_cons_succ, List.getElem?_cons_zero, List.contains_nil, List.isEmpty_nil, Option.getD_some, Bool.false_eq_true, if_false, if_true, Option.bind_some, w_bt, decide_eq_false c2]
      exact aend_frz rfl ⟨by simp [G4.same, c1, c2]; rfl, rfl⟩
  · simp only [w_move, w_assign, w_pick, w_aop, w_aopg, w_gdb, w_some, w_anone, w_nil, w_cons, awp, asB, asN, St.ev, St.step, setS, killS, AV.kill, AV.killL, Mem.kill, ACond_false, List.getD_cons_succ, List.getD_cons_zero, List.set_cons_succ, List.set_cons_zero, List.getElem?_cons_succ, List.getElem?_cons_zero, List.contains_nil, List.isEmpty_nil, Option.getD_some, Bool.false_eq_true, if_false, if_true, Option.bind_some, w_bt, decide_eq_false c1]
    exact aend_frz rfl ⟨by simp [G4.same, c1]; rfl, rfl⟩

theorem ok97 : okFn Try.prog 97 = true := by kernel_rfl
theorem s97 (g h : G4) : ASpec Try.prog 97 [gA g, gA h] (fun r Ms => r = B (g.touch h) ∧ Ms = []) := by
  refine aspec_of (own := []) Try.func97 rfl ok97 ?_
  simp only [w_move, w_assign, w_box, w_load, w_fieldAddr, w_binOp, w_aop, w_aopg, w_gdb, w_some, w_asome, w_anone, w_nil, w_cons, awp, binC, cmpC, asP, asI, asN, loadA, St.ev, St.step, setS, killS, AV.kill, AV.killL, Mem.kill, AV.cells, AV.flat, AV.single, AV.cellular, AV.pure, AV.pureL, ACond_false, List.getD_cons_succ, List.getD_cons_zero, List.set_cons_succ, List.set_cons_zero, List.getElem?_cons_succ, List.getElem?_cons_zero, List.length_cons, List.length_nil, List.replicate_succ, List.replicate_zero, List.cons_append, List.nil_append, List.contains_nil, List.isEmpty_nil, Option.getD_some, Bool.false_eq_true, if_false, if_true, true_and, and_true, List.all_cons, List.all_nil, Bool.and_true, Bool.true_and, Bool.not_true, Nat.zero_add, Nat.add_zero, decide_true, nbeq, decide_false, Bool.and_false, Nat.reduceAdd, Nat.reduceEqDiff, Nat.reduceSub, Nat.reduceLeDiff, Int.reduceAdd, Int.reduceSub, Option.bind_some, ne_eq, not_false_eq_true, w_bf, ti3, ti24, Try.ntmps97, gA]
  by_cases c1 : g.a = h.a
  · simp only [w_move, w_assign, w_pick, w_aop, w_aopg, w_gdb, w_gdu, w_some, w_anone, w_nil, w_cons, awp, asB, asN, St.ev, St.step, setS, killS, AV.kill, AV.killL, Mem.kill, ACond_true, ACond_false, List.getD_cons_succ, List.getD_cons_zero, List.set_cons_succ, List.set_cons_zero, List.getElem?_cons_succ, List.getElem?_cons_zero, List.contains_nil, List.isEmpty_nil, Option.getD_some, Bool.false_eq_true, if_false, if_true, Bool.not_true, Option.bind_some, w_bf, decide_eq_true c1]
    exact aend_frz rfl ⟨by simp [G4.touch, c1]; rfl, rfl⟩
  simp only [w_move, w_pick, w_load, w_fieldAddr, w_binOp, w_aop, w_aopg, w_gdb, w_some, w_asome, w_cons, binC, cmpC, asP, asB, asI, loadA, St.ev, St.step, setS, killS, AV.kill, AV.killL, Mem.kill, AV.cells, AV.flat, AV.single, ACond_true, ACond_false, List.getD_cons_succ, List.getD_cons_zero, List.set_cons_succ, List.set_cons_zero, List.getElem?_cons_succ, List.getElem?_cons_zero, List.length_cons, List.length_nil, List.isEmpty_nil, Bool.false_eq_true, if_false, if_true, true_and, and_true, List.all_cons, List.all_nil, Bool.and_true, Bool.true_and, Bool.not_true, Bool.not_false, Nat.zero_add, beq_self_eq_true, decide_true, nbeq, decide_false, Bool.and_false, Nat.reduceAdd, Nat.reduceEqDiff, Nat.reduceLeDiff, Int.reduceAdd, Option.bind_some, ne_eq, not_false_eq_true, w_bf, ti3, ti24, decide_eq_false c1]
  by_cases c2 : g.a = h.b
  · simp only [w_assign, w_pick, w_aop, w_aopg, w_gdb, w_gdu, w_some, w_anone, w_nil, w_cons, awp, asB, asN, St.ev, St.step, setS, killS, AV.kill, AV.killL, Mem.kill, ACond_true, ACond_false, List.getD_cons_succ, List.getD_cons_zero, List.set_cons_succ, List.set_cons_zero, List.getElem?_cons_succ, List.getElem?_cons_zero, List.contains_nil, List.isEmpty_nil, Option.getD_some, Bool.false_eq_true, if_false, if_true, Bool.not_true, Option.bind_some, w_bf, decide_eq_true c2]
    exact aend_frz rfl ⟨by simp [G4.touch, c2]; rfl, rfl⟩
  simp only [w_move, w_load, w_fieldAddr, w_binOp, w_aopg, w_gdb, w_some, w_asome, w_cons, binC, cmpC, asP, asI, loadA, St.ev, St.step, setS, killS, AV.kill, AV.killL, Mem.kill, AV.cells, AV.flat, AV.single, ACond_true, List.getD_cons_succ, List.getD_cons_zero, List.set_cons_succ, List.set_cons_zero, List.getElem?_cons_succ, List.getElem?_cons_zero, List.length_cons, List.length_nil, List.isEmpty_nil, Bool.false_eq_true, if_false, if_true, true_and, and_true, List.all_cons, List.all_nil, Bool.and_true, Bool.true_and, Bool.not_true, Bool.not_false, Nat.zero_add, beq_self_eq_true, decide_true, nbeq, decide_false, Bool.and_false, Nat.reduceAdd, Nat.reduceEqDiff, Nat.reduceLeDiff, Int.reduceAdd, Option.bind_some, ne_eq, not_false_eq_true, w_bt, ti3, ti24, decide_eq_false c2]
  by_cases c3 : 0 ≤ g.b
  · simp only [w_move, w_load, w_fieldAddr, w_binOp, w_aopg, w_gdb, w_some, w_asome, w_cons, binC, cmpC, asP, asI, loadA, St.ev, St.step, setS, killS, AV.kill, AV.killL, Mem.kill, AV.cells, AV.flat, AV.single, ACond_true, List.getD_cons_succ, List.getD_cons_zero, List.set_cons_succ, List.set_cons_zero, List.getElem?_cons_succ, List.getElem?_cons_zero, List.length_cons, List.length_nil, List.isEmpty_nil, Bool.false_eq_true, if_false, if_true, true_and, and_true, List.all_cons, List.all_nil, Bool.and_true, Bool.true_and, Bool.not_true, Nat.zero_add, beq_self_eq_true, decide_true, nbeq, decide_false, Bool.and_false, Nat.reduceAdd, Nat.reduceEqDiff, Nat.reduceLeDiff, Int.reduceAdd, Option.bind_some, ne_eq, not_false_eq_true, w_bf, ti3, ti24, decide_eq_true c3]
    by_cases c4 : g.b = h.a
    · simp only [w_assign, w_pick, w_aop, w_aopg, w_gdb, w_some, w_anone, w_nil, w_cons, awp, asB, asN, St.ev, St.step, setS, killS, AV.kill, AV.killL, Mem.kill, ACond_true, ACond_false, List.getD_cons_succ, List.getD_cons_zero, List.set_cons_succ, List.set_cons_zero, List.getElem?_cons_succ, List.getElem?_cons_zero, List.contains_nil, List.isEmpty_nil, Option.getD_some, Bool.false_eq_true, if_false, if_true, Bool.not_true, beq_self_eq_true, Option.bind_some, w_bf, decide_eq_true c4]
      exact aend_frz rfl ⟨by simp [G4.touch, c1, c2, c4, c4 ▸ c3]; rfl, rfl⟩
    · simp only [w_assign, w_pick, w_load, w_fieldAddr, w_binOp, w_aop, w_aopg, w_gdb, w_some, w_asome, w_anone, w_nil, w_cons, awp, binC, cmpC, asP, asB, asI, asN, loadA, St.ev, St.step, setS, killS, AV.kill, AV.killL, Mem.kill, AV.cells, AV.flat, AV.single, ACond_true, ACond_false, List.getD_cons_succ, List.getD_cons_zero, List.set_cons_succ, List.set_cons_zero, List.getElem?_cons_succ, List.getElem?_cons_zero, List.length_cons, List.length_nil, List.contains_nil, List.isEmpty_nil, Option.getD_some, Bool.false_eq_true, if_false, if_true, true_and, and_true, List.all_cons, List.all_nil, Bool.and_true, Bool.true_and, Bool.not_true, Bool.not_false, Nat.zero_add, beq_self_eq_true, decide_true, nbeq, decide_false, Bool.and_false, Nat.reduceAdd, Nat.reduceEqDiff, Nat.reduceLeDiff, Int.reduceAdd, Option.bind_some, ne_eq, not_false_eq_true, ti3, ti24, decide_eq_false c4]
      exact aend_frz rfl ⟨by simp [G4.touch, c1, c2, c3, c4]; rfl, rfl⟩
  · simp only [w_assign, w_pick, w_aop, w_aopg, w_gdb, w_gdu, w_some, w_anone, w_nil, w_cons, awp, asB, asN, St.ev, St.step, setS, killS, AV.kill, AV.killL, Mem.kill, ACond_true, ACond_false, List.getD_cons_succ, List.getD_cons_zero, List.set_cons_succ, List.set_cons_zero, List.getElem?_cons_succ, List.getElem?_cons_zero, List.contains_nil, List.isEmpty_nil, Option.getD_some, Bool.false_eq_true, if_false, if_true, beq_self_eq_true, Option.bind_some, w_bt, decide_eq_false c3]
    exact aend_frz rfl ⟨by simp [G4.touch, c1, c2, c3]; rfl, rfl⟩

theorem ok68 : okFn Try.prog 68 = true := by kernel_rfl
theorem s68 (g h : G4) : ASpec Try.prog 68 [gA g, gA h] (fun r Ms => r = B (g.comm h) ∧ Ms = []) := by
  refine aspec_of (own := []) Try.func68 rfl ok68 ?_
  simp only [w_assign, w_box, w_load, w_callF, w_aop, w_some, w_asome, w_anone, w_nil, w_cons, awp, asP, asN, loadA, St.ev, St.step, setS, killS, AV.kill, AV.killL, Mem.kill, AV.cells, AV.flat, AV.single, AV.cellular, AV.pure, AV.pureL, ACond_false, List.getD_cons_succ, List.getD_cons_zero, List.set_cons_succ, List.set_cons_zero, List.getElem?_cons_zero, List.length_cons, List.length_nil, List.replicate_succ, List.replicate_zero, List.cons_append, List.nil_append, List.contains_nil, List.isEmpty_nil, Option.getD_some, Bool.false_eq_true, if_false, if_true, true_and, and_true, List.all_cons, List.all_nil, Bool.and_true, Bool.true_and, Bool.not_true, Nat.zero_add, Nat.add_zero, beq_self_eq_true, List.map_cons, List.map_nil, decide_true, Nat.reduceAdd, Nat.reduceSub, Nat.reduceLeDiff, Int.reduceAdd, Int.reduceSub, ti24, Try.ntmps68, gA]
  refine acall_v (s97 g h) rfl rfl ?_
  simp only [w_move, w_not, w_aop, w_aopg, w_gdb, w_some, w_cons, asB, St.ev, St.step, setS, killS, AV.kill, AV.killL, Mem.kill, List.getD_cons_succ, List.getD_cons_zero, List.set_cons_succ, List.set_cons_zero, List.getElem?_cons_succ, List.getElem?_cons_zero, List.isEmpty_nil, if_true, Option.bind_some, w_bf]
  cases c1 : g.touch h
  · simp only [w_assign, w_pick, w_aop, w_aopg, w_gdb, w_some, w_anone, w_nil, w_cons, awp, asB, asN, St.ev, St.step, setS, killS, AV.kill, AV.killL, Mem.kill, ACond_true, ACond_false, List.getD_cons_succ, List.getD_cons_zero, List.set_cons_succ, List.set_cons_zero, List.getElem?_cons_succ, List.getElem?_cons_zero, List.contains_nil, List.isEmpty_nil, Option.getD_some, Bool.false_eq_true, if_false, if_true, Bool.not_true, Bool.not_false, Option.bind_some, w_bf]
    exact aend_frz rfl ⟨by simp [G4.comm, c1]; rfl, rfl⟩
  · simp only [w_assign, w_pick, w_load, w_fieldAddr, w_binOp, w_aop, w_aopg, w_gdb, w_some, w_asome, w_anone, w_nil, w_cons, awp, binC, cmpC, eqC, asP, asB, asI, asN, loadA, St.ev, St.step, setS, killS, AV.kill, AV.killL, Mem.kill, AV.cells, AV.flat, AV.single, ACond_true, ACond_false, List.getD_cons_succ, List.getD_cons_zero, List.set_cons_succ, List.set_cons_zero, List.getElem?_cons_succ, List.getElem?_cons_zero, List.length_cons, List.length_nil, List.contains_nil, List.isEmpty_nil, Option.getD_some, Bool.false_eq_true, if_false, if_true, true_and, and_true, List.all_cons, List.all_nil, Bool.and_true, Bool.true_and, Bool.not_true, Bool.not_false, Nat.zero_add, Nat.add_zero, beq_self_eq_true, decide_true, nbeq, decide_false, Bool.and_false, Nat.reduceAdd, Nat.reduceEqDiff, Nat.reduceLeDiff, Int.reduceAdd, Option.bind_some, ne_eq, not_false_eq_true, ti3, ti4, ti24]
    exact aend_frz rfl ⟨by simp [G4.comm, c1]; rfl, rfl⟩

theorem ok57 : okFn Try.prog 57 = true := by kernel_rfl
theorem s57 (g h : G4) : ASpec Try.prog 57 [gA g, gA h] (fun r Ms => r = B (g.bound h) ∧ Ms = []) := by
  refine aspec_of (own := []) Try.func57 rfl ok57 ?_
  simp only [w_assign, w_box, w_load, w_callF, w_aop, w_some, w_asome, w_anone, w_nil, w_cons, awp, asP, asN, loadA, St.ev, St.step, setS, killS, AV.kill, AV.killL, Mem.kill, AV.cells, AV.flat, AV.single, AV.cellular, AV.pure, AV.pureL, ACond_false, List.getD_cons_succ, List.getD_cons_zero, List.set_cons_succ, List.set_cons_zero, List.getElem?_cons_zero, List.length_cons, List.length_nil, List.replicate_succ, List.replicate_zero, List.cons_append, List.nil_append, List.contains_nil, List.isEmpty_nil, Option.getD_some, Bool.false_eq_true, if_false, if_true, true_and, and_true, List.all_cons, List.all_nil, Bool.and_true, Bool.true_and, Bool.not_true, Nat.zero_add, Nat.add_zero, beq_self_eq_true, List.map_cons, List.map_nil, decide_true, Nat.reduceAdd, Nat.reduceSub, Nat.reduceLeDiff, Int.reduceAdd, Int.reduceSub, ti24, Try.ntmps57, gA]
  refine acall_v (s56 g h) rfl rfl ?_
  simp only [w_move, w_aop, w_aopg, w_gdb, w_some, w_cons, St.ev, St.step, setS, killS, AV.kill, AV.killL, Mem.kill, List.getD_cons_succ, List.getD_cons_zero, List.set_cons_succ, List.set_cons_zero, List.getElem?_cons_succ, List.getElem?_cons_zero, List.isEmpty_nil, if_true, Option.bind_some, w_bf]
  cases c1 : g.same h
  · simp only [w_load, w_callF, w_aopg, w_gdb, w_some, w_asome, w_cons, asP, loadA, St.ev, St.step, setS, killS, AV.kill, AV.killL, Mem.kill, AV.cells, AV.flat, AV.single, ACond_true, List.getD_cons_succ, List.getD_cons_zero, List.set_cons_succ, List.set_cons_zero, List.getElem?_cons_succ, List.getElem?_cons_zero, List.length_cons, List.length_nil, List.isEmpty_nil, Bool.false_eq_true, if_false, if_true, and_true, List.all_cons, List.all_nil, Bool.and_true, Bool.not_true, Bool.not_false, Nat.zero_add, beq_self_eq_true, List.map_cons, List.map_nil, decide_true, Nat.reduceAdd, Nat.reduceLeDiff, Int.reduceAdd, Option.bind_some, ti24]
    refine acall_v (s68 g h) rfl rfl ?_
    simp only [w_assign, w_pick, w_not, w_aop, w_aopg, w_gdb, w_some, w_anone, w_nil, w_cons, awp, asB, asN, St.ev, St.step, setS, killS, AV.kill, AV.killL, Mem.kill, ACond_true, ACond_false, List.getD_cons_succ, List.getD_cons_zero, List.set_cons_succ, List.set_cons_zero, List.getElem?_cons_succ, List.getElem?_cons_zero, List.contains_nil, List.isEmpty_nil, Option.getD_some, Bool.false_eq_true, if_false, if_true, beq_self_eq_true, Option.bind_some]
    exact aend_frz rfl ⟨by simp [G4.bound, c1]; rfl, rfl⟩
  · simp only [w_assign, w_pick, w_aop, w_aopg, w_gdb, w_some, w_anone, w_nil, w_cons, awp, asB, asN, St.ev, St.step, setS, killS, AV.kill, AV.killL, Mem.kill, ACond_true, ACond_false, List.getD_cons_succ, List.getD_cons_zero, List.set_cons_succ, List.set_cons_zero, List.getElem?_cons_succ, List.getElem?_cons_zero, List.contains_nil, List.isEmpty_nil, Option.getD_some, Bool.false_eq_true, if_false, if_true, Bool.not_true, Option.bind_some, w_bf]
    exact aend_frz rfl ⟨by simp [G4.bound, c1]; rfl, rfl⟩
end Go.Proofs.Ytkmbbbemmohmcaa

namespace Go.Proofs.Ytkmbbbemmohmcaa
open Aw Go.RowKit
set_option linter.unusedSimpArgs false

/-- whether it is a gate of n qubits. -/
def okG (n : Int) (g : G4) : Bool := decide (1 ≤ g.t ∧ g.t < 16 ∧ (((g.k = 0 ∨ g.k = 1) ∧ 0 ≤ g.a ∧ g.a < n ∧ g.b = -1) ∨ (g.k = 2 ∧ 0 ≤ g.a ∧ g.a < g.b ∧ g.b < n)))

theorem ok86 : okFn Try.prog 86 = true := by kernel_rfl
theorem s86 (n : Int) (g : G4) : ASpec Try.prog 86 [I n, gA g] (fun r Ms => r = B (okG n g) ∧ Ms = []) := by
  refine aspec_of (own := []) Try.func86 rfl ok86 ?_
  simp only [w_move, w_assign, w_box, w_load, w_fieldAddr, w_binOp, w_aop, w_aopg, w_gdb, w_some, w_asome, w_anone, w_nil, w_cons, awp, binC, cmpC, asP, asI, asN, loadA, St.ev, St.step, setS, killS, AV.kill, AV.killL, Mem.kill, AV.cells, AV.flat, AV.single, AV.cellular, AV.pure, AV.pureL, ACond_false, List.getD_cons_succ, List.getD_cons_zero, List.set_cons_succ, List.set_cons_zero, List.getElem?_cons_succ, List.getElem?_cons_zero, List.length_cons, List.length_nil, List.replicate_succ, List.replicate_zero, List.cons_append, List.nil_append, List.contains_nil, List.isEmpty_nil, Option.getD_some, Bool.false_eq_true, if_false, if_true, true_and, and_true, List.all_cons, List.all_nil, Bool.and_true, Bool.true_and, Bool.not_true, Nat.zero_add, Nat.add_zero, decide_true, nbeq, decide_false, Bool.and_false, Nat.reduceAdd, Nat.reduceEqDiff, Nat.reduceSub, Nat.reduceLeDiff, Int.reduceAdd, Int.reduceSub, Option.bind_some, ne_eq, not_false_eq_true, w_bf, ti3, ti24, Try.ntmps86, gA]
  by_cases c1 : g.t < 1
  · simp only [w_assign, w_pick, w_aop, w_aopg, w_gdb, w_some, w_anone, w_nil, w_cons, awp, asB, asN, St.ev, St.step, setS, killS, AV.kill, AV.killL, Mem.kill, ACond_true, ACond_false, List.getD_cons_succ, List.getD_cons_zero, List.set_cons_succ, List.set_cons_zero, List.getElem?_cons_succ, List.getElem?_cons_zero, List.contains_nil, List.isEmpty_nil, Option.getD_some, Bool.false_eq_true, if_false, if_true, Bool.not_true, Nat.reduceAdd, Int.reduceAdd, Option.bind_some, w_bf, decide_eq_true c1]
    exact aend_frz rfl ⟨by rw [show okG n g = false from decide_eq_false (by omega)]; rfl, rfl⟩
  simp only [w_pick, w_load, w_fieldAddr, w_binOp, w_aop, w_aopg, w_gdb, w_some, w_asome, w_nil, w_cons, awp, binC, cmpC, asP, asB, asI, loadA, St.ev, St.step, setS, killS, AV.kill, AV.killL, Mem.kill, AV.cells, AV.flat, AV.single, ACond_true, ACond_false, List.getD_cons_succ, List.getD_cons_zero, List.set_cons_succ, List.set_cons_zero, List.getElem?_cons_succ, List.getElem?_cons_zero, List.length_cons, List.length_nil, List.isEmpty_nil, Bool.false_eq_true, if_false, if_true, true_and, and_true, List.all_cons, List.all_nil, Bool.and_true, Bool.true_and, Bool.not_true, Bool.not_false, Nat.zero_add, beq_self_eq_true, decide_true, nbeq, decide_false, Bool.and_false, Nat.reduceAdd, Nat.reduceEqDiff, Nat.reduceLeDiff, Int.reduceAdd, Option.bind_some, ne_eq, not_false_eq_true, ti3, ti24, decide_eq_false c1]
  by_cases c2 : 16 ≤ g.t
  · simp only [w_assign, w_aop, w_anone, w_nil, w_cons, awp, asN, St.ev, St.step, setS, killS, AV.kill, AV.killL, Mem.kill, ACond_true, ACond_false, List.set_cons_succ, List.set_cons_zero, List.contains_nil, List.isEmpty_nil, Option.getD_some, Bool.false_eq_true, if_false, if_true, Nat.reduceAdd, Int.reduceAdd, decide_eq_true c2]
    exact aend_frz rfl ⟨by rw [show okG n g = false from decide_eq_false (by omega)]; rfl, rfl⟩
  simp only [w_assign, w_load, w_fieldAddr, w_binOp, w_aop, w_some, w_asome, w_anone, w_nil, w_cons, awp, binC, cmpC, asP, asB, asI, asN, loadA, St.ev, St.step, setS, killS, AV.kill, AV.killL, Mem.kill, AV.cells, AV.flat, AV.single, ACond_false, List.getD_cons_succ, List.getD_cons_zero, List.set_cons_succ, List.set_cons_zero, List.getElem?_cons_zero, List.length_cons, List.length_nil, List.contains_nil, List.isEmpty_nil, Option.getD_some, Bool.false_eq_true, if_false, if_true, true_and, and_true, List.all_cons, List.all_nil, Bool.and_true, Bool.true_and, Bool.not_true, Nat.zero_add, Nat.add_zero, beq_self_eq_true, decide_true, nbeq, decide_false, Bool.and_false, Nat.reduceAdd, Nat.reduceEqDiff, Nat.reduceLeDiff, Int.reduceAdd, ne_eq, not_false_eq_true, ti3, ti24, decide_eq_false c2]
  by_cases c3 : g.k = 0
  · simp only [w_move, w_load, w_fieldAddr, w_binOp, w_aop, w_aopg, w_gdb, w_some, w_asome, w_cons, awp, binC, cmpC, asP, asB, asI, loadA, St.ev, St.step, setS, killS, AV.kill, AV.killL, Mem.kill, AV.cells, AV.flat, AV.single, ACond_true, ACond_false, List.getD_cons_succ, List.getD_cons_zero, List.set_cons_succ, List.set_cons_zero, List.getElem?_cons_succ, List.getElem?_cons_zero, List.length_cons, List.length_nil, List.contains_nil, List.isEmpty_nil, Bool.false_eq_true, if_false, if_true, true_and, and_true, List.all_cons, List.all_nil, Bool.and_true, Bool.true_and, Bool.not_true, Nat.zero_add, decide_true, nbeq, decide_false, Bool.and_false, Nat.reduceAdd, Nat.reduceEqDiff, Nat.reduceLeDiff, Int.reduceAdd, Int.reduceNeg, Option.bind_some, ne_eq, not_false_eq_true, w_bt, ti3, ti24, decide_eq_true c3]
    by_cases c4 : 0 ≤ g.a
    · simp only [w_move, w_pick, w_load, w_fieldAddr, w_binOp, w_aop, w_aopg, w_gdb, w_some, w_asome, w_cons, binC, cmpC, asP, asB, asI, loadA, St.ev, St.step, setS, killS, AV.kill, AV.killL, Mem.kill, AV.cells, AV.flat, AV.single, ACond_true, List.getD_cons_succ, List.getD_cons_zero, List.set_cons_succ, List.set_cons_zero, List.getElem?_cons_succ, List.getElem?_cons_zero, List.length_cons, List.length_nil, List.isEmpty_nil, Bool.false_eq_true, if_false, if_true, true_and, and_true, List.all_cons, List.all_nil, Bool.and_true, Bool.true_and, Bool.not_true, Nat.zero_add, beq_self_eq_true, decide_true, nbeq, decide_false, Bool.and_false, Nat.reduceAdd, Nat.reduceEqDiff, Nat.reduceLeDiff, Int.reduceAdd, Int.reduceNeg, Option.bind_some, ne_eq, not_false_eq_true, w_bt, ti3, ti24, decide_eq_true c4]
      by_cases c5 : g.a < n
      · simp only [w_assign, w_pick, w_load, w_fieldAddr, w_binOp, w_aop, w_aopg, w_gdb, w_some, w_asome, w_anone, w_nil, w_cons, awp, binC, cmpC, asP, asB, asI, asN, loadA, St.ev, St.step, setS, killS, AV.kill, AV.killL, Mem.kill, AV.cells, AV.flat, AV.single, ACond_true, List.getD_cons_succ, List.getD_cons_zero, List.set_cons_succ, List.set_cons_zero, List.getElem?_cons_succ, List.getElem?_cons_zero, List.length_cons, List.length_nil, List.contains_nil, List.isEmpty_nil, Option.getD_some, Bool.false_eq_true, if_false, if_true, true_and, and_true, List.all_cons, List.all_nil, Bool.and_true, Bool.true_and, Bool.not_true, Nat.zero_add, beq_self_eq_true, decide_true, nbeq, decide_false, Bool.and_false, Nat.reduceAdd, Nat.reduceEqDiff, Nat.reduceLeDiff, Int.reduceAdd, Int.reduceNeg, Option.bind_some, ne_eq, not_false_eq_true, ti3, ti24, decide_eq_true c5]
        exact aend_frz rfl ⟨by rw [show okG n g = decide (g.b = -1) by unfold okG; apply decide_eq_decide.2; omega]; rfl, rfl⟩
      · simp only [w_assign, w_pick, w_aop, w_aopg, w_gdb, w_some, w_anone, w_nil, w_cons, awp, asB, asN, St.ev, St.step, setS, killS, AV.kill, AV.killL, Mem.kill, ACond_false, List.getD_cons_succ, List.getD_cons_zero, List.set_cons_succ, List.set_cons_zero, List.getElem?_cons_succ, List.getElem?_cons_zero, List.contains_nil, List.isEmpty_nil, Option.getD_some, Bool.false_eq_true, if_false, if_true, Int.reduceNeg, Option.bind_some, w_bt, decide_eq_false c5]
        exact aend_frz rfl ⟨by rw [show okG n g = false from decide_eq_false (by omega)]; rfl, rfl⟩
    · simp only [w_move, w_assign, w_pick, w_aop, w_aopg, w_gdb, w_some, w_anone, w_nil, w_cons, awp, asB, asN, St.ev, St.step, setS, killS, AV.kill, AV.killL, Mem.kill, ACond_false, List.getD_cons_succ, List.getD_cons_zero, List.set_cons_succ, List.set_cons_zero, List.getElem?_cons_succ, List.getElem?_cons_zero, List.contains_nil, List.isEmpty_nil, Option.getD_some, Bool.false_eq_true, if_false, if_true, Int.reduceNeg, Option.bind_some, w_bt, decide_eq_false c4]
      exact aend_frz rfl ⟨by rw [show okG n g = false from decide_eq_false (by omega)]; rfl, rfl⟩
  simp only [w_assign, w_binOp, w_aop, w_some, w_asome, w_anone, w_nil, w_cons, awp, binC, cmpC, asB, asI, asN, St.ev, St.step, setS, killS, AV.kill, AV.killL, Mem.kill, ACond_false, List.getD_cons_succ, List.getD_cons_zero, List.set_cons_succ, List.set_cons_zero, List.contains_nil, List.isEmpty_nil, Option.getD_some, Bool.false_eq_true, if_false, if_true, true_and, Bool.true_and, Nat.reduceAdd, Int.reduceAdd, decide_eq_false c3]
  by_cases c3' : g.k = 1
  · simp only [w_move, w_load, w_fieldAddr, w_binOp, w_aop, w_aopg, w_gdb, w_some, w_asome, w_cons, awp, binC, cmpC, asP, asI, loadA, St.ev, St.step, setS, killS, AV.kill, AV.killL, Mem.kill, AV.cells, AV.flat, AV.single, ACond_true, ACond_false, List.getD_cons_succ, List.getD_cons_zero, List.set_cons_succ, List.set_cons_zero, List.getElem?_cons_succ, List.getElem?_cons_zero, List.length_cons, List.length_nil, List.contains_nil, List.isEmpty_nil, Bool.false_eq_true, if_false, if_true, true_and, and_true, List.all_cons, List.all_nil, Bool.and_true, Bool.true_and, Bool.not_true, Nat.zero_add, decide_true, nbeq, decide_false, Bool.and_false, Nat.reduceAdd, Nat.reduceEqDiff, Nat.reduceLeDiff, Int.reduceAdd, Int.reduceNeg, Option.bind_some, ne_eq, not_false_eq_true, w_bt, ti3, ti24, decide_eq_true c3']
    by_cases c4 : 0 ≤ g.a
    · simp only [w_move, w_pick, w_load, w_fieldAddr, w_binOp, w_aop, w_aopg, w_gdb, w_some, w_asome, w_cons, binC, cmpC, asP, asB, asI, loadA, St.ev, St.step, setS, killS, AV.kill, AV.killL, Mem.kill, AV.cells, AV.flat, AV.single, ACond_true, List.getD_cons_succ, List.getD_cons_zero, List.set_cons_succ, List.set_cons_zero, List.getElem?_cons_succ, List.getElem?_cons_zero, List.length_cons, List.length_nil, List.isEmpty_nil, Bool.false_eq_true, if_false, if_true, true_and, and_true, List.all_cons, List.all_nil, Bool.and_true, Bool.true_and, Bool.not_true, Nat.zero_add, beq_self_eq_true, decide_true, nbeq, decide_false, Bool.and_false, Nat.reduceAdd, Nat.reduceEqDiff, Nat.reduceLeDiff, Int.reduceAdd, Int.reduceNeg, Option.bind_some, ne_eq, not_false_eq_true, w_bt, ti3, ti24, decide_eq_true c4]
      by_cases c5 : g.a < n
      · simp only [w_assign, w_pick, w_load, w_fieldAddr, w_binOp, w_aop, w_aopg, w_gdb, w_some, w_asome, w_anone, w_nil, w_cons, awp, binC, cmpC, asP, asB, asI, asN, loadA, St.ev, St.step, setS, killS, AV.kill, AV.killL, Mem.kill, AV.cells, AV.flat, AV.single, ACond_true, List.getD_cons_succ, List.getD_cons_zero, List.set_cons_succ, List.set_cons_zero, List.getElem?_cons_succ, List.getElem?_cons_zero, List.length_cons, List.length_nil, List.contains_nil, List.isEmpty_nil, Option.getD_some, Bool.false_eq_true, if_false, if_true, true_and, and_true, List.all_cons, List.all_nil, Bool.and_true, Bool.true_and, Bool.not_true, Nat.zero_add, beq_self_eq_true, decide_true, nbeq, decide_false, Bool.and_false, Nat.reduceAdd, Nat.reduceEqDiff, Nat.reduceLeDiff, Int.reduceAdd, Int.reduceNeg, Option.bind_some, ne_eq, not_false_eq_true, ti3, ti24, decide_eq_true c5]
        exact aend_frz rfl ⟨by rw [show okG n g = decide (g.b = -1) by unfold okG; apply decide_eq_decide.2; omega]; rfl, rfl⟩
      · simp only [w_assign, w_pick, w_aop, w_aopg, w_gdb, w_some, w_anone, w_nil, w_cons, awp, asB, asN, St.ev, St.step, setS, killS, AV.kill, AV.killL, Mem.kill, ACond_false, List.getD_cons_succ, List.getD_cons_zero, List.set_cons_succ, List.set_cons_zero, List.getElem?_cons_succ, List.getElem?_cons_zero, List.contains_nil, List.isEmpty_nil, Option.getD_some, Bool.false_eq_true, if_false, if_true, Int.reduceNeg, Option.bind_some, w_bt, decide_eq_false c5]
        exact aend_frz rfl ⟨by rw [show okG n g = false from decide_eq_false (by omega)]; rfl, rfl⟩
    · simp only [w_move, w_assign, w_pick, w_aop, w_aopg, w_gdb, w_some, w_anone, w_nil, w_cons, awp, asB, asN, St.ev, St.step, setS, killS, AV.kill, AV.killL, Mem.kill, ACond_false, List.getD_cons_succ, List.getD_cons_zero, List.set_cons_succ, List.set_cons_zero, List.getElem?_cons_succ, List.getElem?_cons_zero, List.contains_nil, List.isEmpty_nil, Option.getD_some, Bool.false_eq_true, if_false, if_true, Int.reduceNeg, Option.bind_some, w_bt, decide_eq_false c4]
      exact aend_frz rfl ⟨by rw [show okG n g = false from decide_eq_false (by omega)]; rfl, rfl⟩
  simp only [w_assign, w_binOp, w_aop, w_some, w_asome, w_anone, w_nil, w_cons, awp, binC, cmpC, asB, asI, asN, St.ev, St.step, setS, killS, AV.kill, AV.killL, Mem.kill, ACond_false, List.getD_cons_succ, List.getD_cons_zero, List.set_cons_succ, List.set_cons_zero, List.contains_nil, List.isEmpty_nil, Option.getD_some, Bool.false_eq_true, if_false, if_true, true_and, Bool.true_and, Nat.reduceAdd, Int.reduceAdd, decide_eq_false c3']
  by_cases c3'' : g.k = 2
  · simp only [w_move, w_load, w_fieldAddr, w_binOp, w_aop, w_aopg, w_gdb, w_some, w_asome, w_cons, awp, binC, cmpC, asP, asI, loadA, St.ev, St.step, setS, killS, AV.kill, AV.killL, Mem.kill, AV.cells, AV.flat, AV.single, ACond_true, ACond_false, List.getD_cons_succ, List.getD_cons_zero, List.set_cons_succ, List.set_cons_zero, List.getElem?_cons_succ, List.getElem?_cons_zero, List.length_cons, List.length_nil, List.contains_nil, List.isEmpty_nil, Bool.false_eq_true, if_false, if_true, true_and, and_true, List.all_cons, List.all_nil, Bool.and_true, Bool.true_and, Bool.not_true, Nat.zero_add, decide_true, nbeq, decide_false, Bool.and_false, Nat.reduceAdd, Nat.reduceEqDiff, Nat.reduceLeDiff, Int.reduceAdd, Option.bind_some, ne_eq, not_false_eq_true, w_bt, ti3, ti24, decide_eq_true c3'']
    by_cases c4 : 0 ≤ g.a
    · simp only [w_move, w_pick, w_load, w_fieldAddr, w_binOp, w_aop, w_aopg, w_gdb, w_some, w_asome, w_cons, binC, cmpC, asP, asB, asI, loadA, St.ev, St.step, setS, killS, AV.kill, AV.killL, Mem.kill, AV.cells, AV.flat, AV.single, ACond_true, List.getD_cons_succ, List.getD_cons_zero, List.set_cons_succ, List.set_cons_zero, List.getElem?_cons_succ, List.getElem?_cons_zero, List.length_cons, List.length_nil, List.isEmpty_nil, Bool.false_eq_true, if_false, if_true, true_and, and_true, List.all_cons, List.all_nil, Bool.and_true, Bool.true_and, Bool.not_true, Nat.zero_add, beq_self_eq_true, decide_true, nbeq, decide_false, Bool.and_false, Nat.reduceAdd, Nat.reduceEqDiff, Nat.reduceLeDiff, Int.reduceAdd, Option.bind_some, ne_eq, not_false_eq_true, w_bt, ti3, ti24, decide_eq_true c4]
      by_cases c5 : g.a < g.b
      · simp only [w_move, w_assign, w_pick, w_load, w_fieldAddr, w_binOp, w_aop, w_aopg, w_gdb, w_some, w_asome, w_anone, w_nil, w_cons, awp, binC, cmpC, asP, asB, asI, asN, loadA, St.ev, St.step, setS, killS, AV.kill, AV.killL, Mem.kill, AV.cells, AV.flat, AV.single, ACond_true, List.getD_cons_succ, List.getD_cons_zero, List.set_cons_succ, List.set_cons_zero, List.getElem?_cons_succ, List.getElem?_cons_zero, List.length_cons, List.length_nil, List.contains_nil, List.isEmpty_nil, Option.getD_some, Bool.false_eq_true, if_false, if_true, true_and, and_true, List.all_cons, List.all_nil, Bool.and_true, Bool.true_and, Bool.not_true, Nat.zero_add, beq_self_eq_true, decide_true, nbeq, decide_false, Bool.and_false, Nat.reduceAdd, Nat.reduceEqDiff, Nat.reduceLeDiff, Int.reduceAdd, Option.bind_some, ne_eq, not_false_eq_true, ti3, ti24, decide_eq_true c5]
        exact aend_frz rfl ⟨by rw [show okG n g = decide (g.b < n) by unfold okG; apply decide_eq_decide.2; omega]; rfl, rfl⟩
      · simp only [w_assign, w_pick, w_aop, w_aopg, w_gdb, w_some, w_anone, w_nil, w_cons, awp, asB, asN, St.ev, St.step, setS, killS, AV.kill, AV.killL, Mem.kill, ACond_false, List.getD_cons_succ, List.getD_cons_zero, List.set_cons_succ, List.set_cons_zero, List.getElem?_cons_succ, List.getElem?_cons_zero, List.contains_nil, List.isEmpty_nil, Option.getD_some, Bool.false_eq_true, if_false, if_true, Option.bind_some, w_bt, decide_eq_false c5]
        exact aend_frz rfl ⟨by rw [show okG n g = false from decide_eq_false (by omega)]; rfl, rfl⟩
    · simp only [w_move, w_assign, w_pick, w_aop, w_aopg, w_gdb, w_some, w_anone, w_nil, w_cons, awp, asB, asN, St.ev, St.step, setS, killS, AV.kill, AV.killL, Mem.kill, ACond_false, List.getD_cons_succ, List.getD_cons_zero, List.set_cons_succ, List.set_cons_zero, List.getElem?_cons_succ, List.getElem?_cons_zero, List.contains_nil, List.isEmpty_nil, Option.getD_some, Bool.false_eq_true, if_false, if_true, Option.bind_some, w_bt, decide_eq_false c4]
      exact aend_frz rfl ⟨by rw [show okG n g = false from decide_eq_false (by omega)]; rfl, rfl⟩
  simp only [w_assign, w_aop, w_anone, w_nil, w_cons, awp, asN, St.ev, St.step, setS, killS, AV.kill, AV.killL, Mem.kill, ACond_false, List.set_cons_succ, List.set_cons_zero, List.contains_nil, List.isEmpty_nil, Option.getD_some, Bool.false_eq_true, if_false, if_true, Nat.reduceAdd, Int.reduceAdd, decide_eq_false c3'']
  exact aend_frz rfl ⟨by rw [show okG n g = false from decide_eq_false (by omega)]; rfl, rfl⟩

theorem ok75 : okFn Try.prog 75 = true := by kernel_rfl
theorem s75 (n lo hi : Int) : ASpec Try.prog 75 [I n, I lo, I hi] (fun r Ms => r = B (decide (lo ≤ n ∧ n ≤ hi)) ∧ Ms = []) := by
  refine aspec_of (own := []) Try.func75 rfl ok75 ?_
  simp only [w_move, w_assign, w_binOp, w_aop, w_aopg, w_gdb, w_some, w_asome, w_anone, w_nil, w_cons, awp, binC, cmpC, asI, asN, St.ev, St.step, setS, killS, AV.kill, AV.killL, Mem.kill, ACond_false, List.getD_cons_succ, List.getD_cons_zero, List.set_cons_succ, List.set_cons_zero, List.getElem?_cons_succ, List.getElem?_cons_zero, List.length_cons, List.length_nil, List.replicate_succ, List.replicate_zero, List.cons_append, List.nil_append, List.contains_nil, List.isEmpty_nil, Option.getD_some, Bool.false_eq_true, if_false, if_true, true_and, Bool.true_and, Nat.zero_add, Nat.add_zero, Nat.reduceAdd, Nat.reduceSub, Int.reduceAdd, Int.reduceSub, Option.bind_some, w_bt, Try.ntmps75]
  by_cases c1 : lo ≤ n
  · simp only [w_move, w_assign, w_pick, w_binOp, w_aop, w_aopg, w_gdb, w_some, w_asome, w_anone, w_nil, w_cons, awp, binC, cmpC, asB, asI, asN, St.ev, St.step, setS, killS, AV.kill, AV.killL, Mem.kill, ACond_true, List.getD_cons_succ, List.getD_cons_zero, List.set_cons_succ, List.set_cons_zero, List.getElem?_cons_succ, List.getElem?_cons_zero, List.contains_nil, List.isEmpty_nil, Option.getD_some, Bool.false_eq_true, if_false, if_true, true_and, Bool.true_and, beq_self_eq_true, Option.bind_some, decide_eq_true c1]
    exact aend_frz rfl ⟨by simp [c1]; rfl, rfl⟩
  · simp only [w_assign, w_pick, w_aop, w_aopg, w_gdb, w_some, w_anone, w_nil, w_cons, awp, asB, asN, St.ev, St.step, setS, killS, AV.kill, AV.killL, Mem.kill, ACond_false, List.getD_cons_succ, List.getD_cons_zero, List.set_cons_succ, List.set_cons_zero, List.getElem?_cons_succ, List.getElem?_cons_zero, List.contains_nil, List.isEmpty_nil, Option.getD_some, Bool.false_eq_true, if_false, if_true, Option.bind_some, w_bt, decide_eq_false c1]
    exact aend_frz rfl ⟨by simp [c1]; rfl, rfl⟩

theorem ok44 : okFn Try.prog 44 = true := by kernel_rfl
theorem s44 (g : G4) : ASpec Try.prog 44 [gA g] (fun r Ms => r = gA { g with t := 0 } ∧ Ms = []) := by
  refine aspec_of (own := [1]) Try.func44 rfl ok44 ?_
  simp only [w_box, w_alloc, w_load, w_store, w_fieldAddr, w_aop, w_some, w_anone, w_nil, w_cons, awp, asP, asQ, obA, AGet_zero, loadA, storeA, putsA, mkA, Aw.newRow, St.ev, St.step, setS, killS, AV.kill, AV.killL, Mem.kill, AV.cells, AV.flat, AV.single, AV.cellular, AV.size, AV.sizeL, ACond_true, ACond_false, Value.oneCell', List.getD_cons_succ, List.getD_cons_zero, List.set_cons_succ, List.set_cons_zero, List.getElem?_cons_succ, List.getElem?_cons_zero, List.length_cons, List.length_nil, List.replicate_succ, List.replicate_zero, List.cons_append, List.nil_append, List.contains_nil, List.contains_cons, List.isEmpty_nil, Option.getD_some, Bool.false_eq_true, if_false, if_true, true_and, and_true, List.all_cons, List.all_nil, Bool.and_true, Bool.true_and, Bool.not_true, Nat.zero_add, Nat.add_zero, beq_self_eq_true, List.map_cons, List.map_nil, decide_true, nbeq, decide_false, Bool.or_false, Nat.reduceAdd, Nat.reduceEqDiff, Nat.reduceSub, Nat.reduceLeDiff, Int.reduceAdd, Int.reduceSub, ne_eq, not_false_eq_true, ti3, ti24, Try.ntmps44, gA]
  refine aend_frz (x := .g [I g.k, I g.a, I g.b, I 0]) ?_ ⟨rfl, rfl⟩
  show resA Try.prog [.cell 2 24] _ = _
  simp [resA, resL, resOne, ti24, loadA, AV.flat, AV.cells, AV.single]

def G4.meets (g h : G4) : Bool := decide (g.a = h.a ∨ g.a = h.b ∨ (g.k = 2 ∧ (g.b = h.a ∨ g.b = h.b)))
theorem ok98 : okFn Try.prog 98 = true := by kernel_rfl
theorem s98 (g h : G4) : ASpec Try.prog 98 [gA g, gA h] (fun r Ms => r = B (g.meets h) ∧ Ms = []) := by
  refine aspec_of (own := []) Try.func98 rfl ok98 ?_
  simp only [w_move, w_assign, w_box, w_load, w_fieldAddr, w_binOp, w_aop, w_aopg, w_gdb, w_some, w_asome, w_anone, w_nil, w_cons, awp, binC, cmpC, asP, asI, asN, loadA, St.ev, St.step, setS, killS, AV.kill, AV.killL, Mem.kill, AV.cells, AV.flat, AV.single, AV.cellular, AV.pure, AV.pureL, ACond_false, List.getD_cons_succ, List.getD_cons_zero, List.set_cons_succ, List.set_cons_zero, List.getElem?_cons_succ, List.getElem?_cons_zero, List.length_cons, List.length_nil, List.replicate_succ, List.replicate_zero, List.cons_append, List.nil_append, List.contains_nil, List.isEmpty_nil, Option.getD_some, Bool.false_eq_true, if_false, if_true, true_and, and_true, List.all_cons, List.all_nil, Bool.and_true, Bool.true_and, Bool.not_true, Nat.zero_add, Nat.add_zero, decide_true, nbeq, decide_false, Bool.and_false, Nat.reduceAdd, Nat.reduceEqDiff, Nat.reduceSub, Nat.reduceLeDiff, Int.reduceAdd, Int.reduceSub, Option.bind_some, ne_eq, not_false_eq_true, w_bf, ti3, ti24, Try.ntmps98, gA]
  by_cases c1 : g.a = h.a
  · simp only [w_move, w_assign, w_pick, w_aop, w_aopg, w_gdb, w_gdu, w_some, w_anone, w_nil, w_cons, awp, asB, asN, St.ev, St.step, setS, killS, AV.kill, AV.killL, Mem.kill, ACond_true, ACond_false, List.getD_cons_succ, List.getD_cons_zero, List.set_cons_succ, List.set_cons_zero, List.getElem?_cons_succ, List.getElem?_cons_zero, List.contains_nil, List.isEmpty_nil, Option.getD_some, Bool.false_eq_true, if_false, if_true, Bool.not_true, Option.bind_some, w_bf, decide_eq_true c1]
    exact aend_frz rfl ⟨by simp [G4.meets, c1]; rfl, rfl⟩
  simp only [w_move, w_pick, w_load, w_fieldAddr, w_binOp, w_aop, w_aopg, w_gdb, w_some, w_asome, w_cons, binC, cmpC, asP, asB, asI, loadA, St.ev, St.step, setS, killS, AV.kill, AV.killL, Mem.kill, AV.cells, AV.flat, AV.single, ACond_true, ACond_false, List.getD_cons_succ, List.getD_cons_zero, List.set_cons_succ, List.set_cons_zero, List.getElem?_cons_succ, List.getElem?_cons_zero, List.length_cons, List.length_nil, List.isEmpty_nil, Bool.false_eq_true, if_false, if_true, true_and, and_true, List.all_cons, List.all_nil, Bool.and_true, Bool.true_and, Bool.not_true, Bool.not_false, Nat.zero_add, beq_self_eq_true, decide_true, nbeq, decide_false, Bool.and_false, Nat.reduceAdd, Nat.reduceEqDiff, Nat.reduceLeDiff, Int.reduceAdd, Option.bind_some, ne_eq, not_false_eq_true, w_bf, ti3, ti24, decide_eq_false c1]
  by_cases c2 : g.a = h.b
  · simp only [w_assign, w_pick, w_aop, w_aopg, w_gdb, w_gdu, w_some, w_anone, w_nil, w_cons, awp, asB, asN, St.ev, St.step, setS, killS, AV.kill, AV.killL, Mem.kill, ACond_true, ACond_false, List.getD_cons_succ, List.getD_cons_zero, List.set_cons_succ, List.set_cons_zero, List.getElem?_cons_succ, List.getElem?_cons_zero, List.contains_nil, List.isEmpty_nil, Option.getD_some, Bool.false_eq_true, if_false, if_true, Bool.not_true, Option.bind_some, w_bf, decide_eq_true c2]
    exact aend_frz rfl ⟨by simp [G4.meets, c2]; rfl, rfl⟩
  simp only [w_move, w_load, w_fieldAddr, w_binOp, w_aopg, w_gdb, w_some, w_asome, w_cons, binC, cmpC, asP, asI, loadA, St.ev, St.step, setS, killS, AV.kill, AV.killL, Mem.kill, AV.cells, AV.flat, AV.single, ACond_true, List.getD_cons_succ, List.getD_cons_zero, List.set_cons_succ, List.set_cons_zero, List.getElem?_cons_succ, List.getElem?_cons_zero, List.length_cons, List.length_nil, List.isEmpty_nil, Bool.false_eq_true, if_false, if_true, true_and, and_true, List.all_cons, List.all_nil, Bool.and_true, Bool.true_and, Bool.not_true, Bool.not_false, Nat.zero_add, Nat.add_zero, beq_self_eq_true, decide_true, nbeq, decide_false, Bool.and_false, Nat.reduceAdd, Nat.reduceEqDiff, Nat.reduceLeDiff, Int.reduceAdd, Option.bind_some, ne_eq, not_false_eq_true, w_bt, ti3, ti24, decide_eq_false c2]
  by_cases c3 : g.k = 2
  · simp only [w_move, w_load, w_fieldAddr, w_binOp, w_aopg, w_gdb, w_some, w_asome, w_cons, binC, cmpC, asP, asI, loadA, St.ev, St.step, setS, killS, AV.kill, AV.killL, Mem.kill, AV.cells, AV.flat, AV.single, ACond_true, List.getD_cons_succ, List.getD_cons_zero, List.set_cons_succ, List.set_cons_zero, List.getElem?_cons_succ, List.getElem?_cons_zero, List.length_cons, List.length_nil, List.isEmpty_nil, Bool.false_eq_true, if_false, if_true, true_and, and_true, List.all_cons, List.all_nil, Bool.and_true, Bool.true_and, Bool.not_true, Nat.zero_add, beq_self_eq_true, decide_true, nbeq, decide_false, Bool.and_false, Nat.reduceAdd, Nat.reduceEqDiff, Nat.reduceLeDiff, Int.reduceAdd, Option.bind_some, ne_eq, not_false_eq_true, w_bf, ti3, ti24, decide_eq_true c3]
    by_cases c4 : g.b = h.a
    · simp only [w_assign, w_pick, w_aop, w_aopg, w_gdb, w_some, w_anone, w_nil, w_cons, awp, asB, asN, St.ev, St.step, setS, killS, AV.kill, AV.killL, Mem.kill, ACond_true, ACond_false, List.getD_cons_succ, List.getD_cons_zero, List.set_cons_succ, List.set_cons_zero, List.getElem?_cons_succ, List.getElem?_cons_zero, List.contains_nil, List.isEmpty_nil, Option.getD_some, Bool.false_eq_true, if_false, if_true, Bool.not_true, beq_self_eq_true, Option.bind_some, w_bf, decide_eq_true c4]
      exact aend_frz rfl ⟨by simp [G4.meets, c3, c4]; rfl, rfl⟩
    · simp only [w_assign, w_pick, w_load, w_fieldAddr, w_binOp, w_aop, w_aopg, w_gdb, w_some, w_asome, w_anone, w_nil, w_cons, awp, binC, cmpC, asP, asB, asI, asN, loadA, St.ev, St.step, setS, killS, AV.kill, AV.killL, Mem.kill, AV.cells, AV.flat, AV.single, ACond_true, ACond_false, List.getD_cons_succ, List.getD_cons_zero, List.set_cons_succ, List.set_cons_zero, List.getElem?_cons_succ, List.getElem?_cons_zero, List.length_cons, List.length_nil, List.contains_nil, List.isEmpty_nil, Option.getD_some, Bool.false_eq_true, if_false, if_true, true_and, and_true, List.all_cons, List.all_nil, Bool.and_true, Bool.true_and, Bool.not_true, Bool.not_false, Nat.zero_add, beq_self_eq_true, decide_true, nbeq, decide_false, Bool.and_false, Nat.reduceAdd, Nat.reduceEqDiff, Nat.reduceLeDiff, Int.reduceAdd, Option.bind_some, ne_eq, not_false_eq_true, ti3, ti24, decide_eq_false c4]
      exact aend_frz rfl ⟨by simp [G4.meets, c1, c2, c3, c4]; rfl, rfl⟩
  · simp only [w_assign, w_pick, w_aop, w_aopg, w_gdb, w_gdu, w_some, w_anone, w_nil, w_cons, awp, asB, asN, St.ev, St.step, setS, killS, AV.kill, AV.killL, Mem.kill, ACond_true, ACond_false, List.getD_cons_succ, List.getD_cons_zero, List.set_cons_succ, List.set_cons_zero, List.getElem?_cons_succ, List.getElem?_cons_zero, List.contains_nil, List.isEmpty_nil, Option.getD_some, Bool.false_eq_true, if_false, if_true, beq_self_eq_true, Option.bind_some, w_bt, decide_eq_false c3]
    exact aend_frz rfl ⟨by simp [G4.meets, c1, c2, c3]; rfl, rfl⟩

def G4.comm' (g h : G4) : Bool := !g.meets h || (decide (g.k = 1) == decide (h.k = 1))
def G4.bound' (g h : G4) : Bool := g.same h || !g.comm' h
theorem ok70 : okFn Try.prog 70 = true := by kernel_rfl
theorem s70 (g h : G4) : ASpec Try.prog 70 [gA g, gA h] (fun r Ms => r = B (g.comm' h) ∧ Ms = []) := by
  refine aspec_of (own := []) Try.func70 rfl ok70 ?_
  simp only [w_assign, w_box, w_load, w_callF, w_aop, w_some, w_asome, w_anone, w_nil, w_cons, awp, asP, asN, loadA, St.ev, St.step, setS, killS, AV.kill, AV.killL, Mem.kill, AV.cells, AV.flat, AV.single, AV.cellular, AV.pure, AV.pureL, ACond_false, List.getD_cons_succ, List.getD_cons_zero, List.set_cons_succ, List.set_cons_zero, List.getElem?_cons_zero, List.length_cons, List.length_nil, List.replicate_succ, List.replicate_zero, List.cons_append, List.nil_append, List.contains_nil, List.isEmpty_nil, Option.getD_some, Bool.false_eq_true, if_false, if_true, true_and, and_true, List.all_cons, List.all_nil, Bool.and_true, Bool.true_and, Bool.not_true, Nat.zero_add, Nat.add_zero, beq_self_eq_true, List.map_cons, List.map_nil, decide_true, Nat.reduceAdd, Nat.reduceSub, Nat.reduceLeDiff, Int.reduceAdd, Int.reduceSub, ti24, Try.ntmps70, gA]
  refine acall_v (s98 g h) rfl rfl ?_
  simp only [w_move, w_not, w_aop, w_aopg, w_gdb, w_some, w_cons, asB, St.ev, St.step, setS, killS, AV.kill, AV.killL, Mem.kill, List.getD_cons_succ, List.getD_cons_zero, List.set_cons_succ, List.set_cons_zero, List.getElem?_cons_succ, List.getElem?_cons_zero, List.isEmpty_nil, if_true, Option.bind_some, w_bf]
  cases c1 : g.meets h
  · simp only [w_assign, w_pick, w_aop, w_aopg, w_gdb, w_some, w_anone, w_nil, w_cons, awp, asB, asN, St.ev, St.step, setS, killS, AV.kill, AV.killL, Mem.kill, ACond_true, ACond_false, List.getD_cons_succ, List.getD_cons_zero, List.set_cons_succ, List.set_cons_zero, List.getElem?_cons_succ, List.getElem?_cons_zero, List.contains_nil, List.isEmpty_nil, Option.getD_some, Bool.false_eq_true, if_false, if_true, Bool.not_true, Bool.not_false, Option.bind_some, w_bf]
    exact aend_frz rfl ⟨by simp [G4.comm', c1]; rfl, rfl⟩
  · simp only [w_assign, w_pick, w_load, w_fieldAddr, w_binOp, w_aop, w_aopg, w_gdb, w_some, w_asome, w_anone, w_nil, w_cons, awp, binC, cmpC, eqC, asP, asB, asI, asN, loadA, St.ev, St.step, setS, killS, AV.kill, AV.killL, Mem.kill, AV.cells, AV.flat, AV.single, ACond_true, ACond_false, List.getD_cons_succ, List.getD_cons_zero, List.set_cons_succ, List.set_cons_zero, List.getElem?_cons_succ, List.getElem?_cons_zero, List.length_cons, List.length_nil, List.contains_nil, List.isEmpty_nil, Option.getD_some, Bool.false_eq_true, if_false, if_true, true_and, and_true, List.all_cons, List.all_nil, Bool.and_true, Bool.true_and, Bool.not_true, Bool.not_false, Nat.zero_add, Nat.add_zero, beq_self_eq_true, decide_true, nbeq, decide_false, Bool.and_false, Nat.reduceAdd, Nat.reduceEqDiff, Nat.reduceLeDiff, Int.reduceAdd, Option.bind_some, ne_eq, not_false_eq_true, ti3, ti4, ti24]
    exact aend_frz rfl ⟨by simp [G4.comm', c1]; rfl, rfl⟩

def G4.less (g h : G4) : Bool := decide (g.k < h.k ∨ (g.k = h.k ∧ (g.a < h.a ∨ (g.a = h.a ∧ (g.b < h.b ∨ (g.b = h.b ∧ g.t < h.t))))))
theorem ok99 : okFn Try.prog 99 = true := by kernel_rfl
theorem s99 (g h : G4) : ASpec Try.prog 99 [gA g, gA h] (fun r Ms => r = B (g.less h) ∧ Ms = []) := by
  refine aspec_of (own := []) Try.func99 rfl ok99 ?_
  simp only [w_assign, w_box, w_load, w_fieldAddr, w_binOp, w_aop, w_some, w_asome, w_anone, w_nil, w_cons, awp, binC, cmpC, asP, asB, asI, asN, loadA, St.ev, St.step, setS, killS, AV.kill, AV.killL, Mem.kill, AV.cells, AV.flat, AV.single, AV.cellular, AV.pure, AV.pureL, ACond_false, List.getD_cons_succ, List.getD_cons_zero, List.set_cons_succ, List.set_cons_zero, List.getElem?_cons_zero, List.length_cons, List.length_nil, List.replicate_succ, List.replicate_zero, List.cons_append, List.nil_append, List.contains_nil, List.isEmpty_nil, Option.getD_some, Bool.false_eq_true, if_false, if_true, true_and, and_true, List.all_cons, List.all_nil, Bool.and_true, Bool.true_and, Bool.not_true, Nat.zero_add, Nat.add_zero, beq_self_eq_true, decide_true, nbeq, decide_false, Bool.and_false, Nat.reduceAdd, Nat.reduceEqDiff, Nat.reduceSub, Nat.reduceLeDiff, Int.reduceAdd, Int.reduceSub, ne_eq, not_false_eq_true, ti3, ti24, Try.ntmps99, gA]
  by_cases c1 : g.k = h.k
  · simp only [w_load, w_fieldAddr, w_binOp, w_aop, w_some, w_asome, w_nil, w_cons, awp, binC, cmpC, asP, asB, asI, loadA, St.ev, St.step, setS, killS, AV.kill, AV.killL, Mem.kill, AV.cells, AV.flat, AV.single, ACond_false, List.getD_cons_succ, List.getD_cons_zero, List.set_cons_succ, List.set_cons_zero, List.getElem?_cons_succ, List.getElem?_cons_zero, List.length_cons, List.length_nil, List.contains_nil, List.isEmpty_nil, Bool.false_eq_true, if_false, if_true, true_and, and_true, List.all_cons, List.all_nil, Bool.and_true, Bool.true_and, Bool.not_true, Nat.zero_add, decide_true, nbeq, decide_false, Bool.and_false, Nat.reduceAdd, Nat.reduceEqDiff, Nat.reduceLeDiff, Int.reduceAdd, ne_eq, not_false_eq_true, ti3, ti24, decide_eq_true c1]
    by_cases c2 : g.a = h.a
    · simp only [w_load, w_fieldAddr, w_binOp, w_aop, w_some, w_asome, w_nil, w_cons, awp, binC, cmpC, asP, asB, asI, loadA, St.ev, St.step, setS, killS, AV.kill, AV.killL, Mem.kill, AV.cells, AV.flat, AV.single, ACond_false, List.getD_cons_succ, List.getD_cons_zero, List.set_cons_succ, List.set_cons_zero, List.getElem?_cons_succ, List.getElem?_cons_zero, List.length_cons, List.length_nil, List.contains_nil, List.isEmpty_nil, Bool.false_eq_true, if_false, if_true, true_and, and_true, List.all_cons, List.all_nil, Bool.and_true, Bool.true_and, Bool.not_true, Nat.zero_add, decide_true, nbeq, decide_false, Bool.and_false, Nat.reduceAdd, Nat.reduceEqDiff, Nat.reduceLeDiff, Int.reduceAdd, ne_eq, not_false_eq_true, ti3, ti24, decide_eq_true c2]
      by_cases c3 : g.b = h.b
      · simp only [w_assign, w_load, w_fieldAddr, w_binOp, w_aop, w_some, w_asome, w_anone, w_nil, w_cons, awp, binC, cmpC, asP, asI, asN, loadA, St.ev, St.step, setS, killS, AV.kill, AV.killL, Mem.kill, AV.cells, AV.flat, AV.single, ACond_false, List.getD_cons_succ, List.getD_cons_zero, List.set_cons_succ, List.set_cons_zero, List.getElem?_cons_succ, List.getElem?_cons_zero, List.length_cons, List.length_nil, List.contains_nil, List.isEmpty_nil, Option.getD_some, Bool.false_eq_true, if_false, if_true, true_and, and_true, List.all_cons, List.all_nil, Bool.and_true, Bool.true_and, Bool.not_true, Nat.zero_add, decide_true, nbeq, decide_false, Bool.and_false, Nat.reduceAdd, Nat.reduceEqDiff, Nat.reduceLeDiff, Int.reduceAdd, ne_eq, not_false_eq_true, ti3, ti24, decide_eq_true c3]
        exact aend_frz rfl ⟨by simp [G4.less, c1, c2, c3]; rfl, rfl⟩
      · simp only [w_assign, w_load, w_fieldAddr, w_binOp, w_aop, w_some, w_asome, w_anone, w_nil, w_cons, awp, binC, cmpC, asP, asI, asN, loadA, St.ev, St.step, setS, killS, AV.kill, AV.killL, Mem.kill, AV.cells, AV.flat, AV.single, ACond_true, ACond_false, List.getD_cons_succ, List.getD_cons_zero, List.set_cons_succ, List.set_cons_zero, List.getElem?_cons_succ, List.getElem?_cons_zero, List.length_cons, List.length_nil, List.contains_nil, List.isEmpty_nil, Option.getD_some, Bool.false_eq_true, if_false, if_true, true_and, and_true, List.all_cons, List.all_nil, Bool.and_true, Bool.true_and, Bool.not_true, Bool.not_false, Nat.zero_add, decide_true, nbeq, decide_false, Bool.and_false, Nat.reduceAdd, Nat.reduceEqDiff, Nat.reduceLeDiff, Int.reduceAdd, ne_eq, not_false_eq_true, ti3, ti24, decide_eq_false c3]
        exact aend_frz rfl ⟨by simp [G4.less, c1, c2, c3]; rfl, rfl⟩
    · simp only [w_assign, w_load, w_fieldAddr, w_binOp, w_aop, w_some, w_asome, w_anone, w_nil, w_cons, awp, binC, cmpC, asP, asI, asN, loadA, St.ev, St.step, setS, killS, AV.kill, AV.killL, Mem.kill, AV.cells, AV.flat, AV.single, ACond_true, ACond_false, List.getD_cons_succ, List.getD_cons_zero, List.set_cons_succ, List.set_cons_zero, List.getElem?_cons_succ, List.getElem?_cons_zero, List.length_cons, List.length_nil, List.contains_nil, List.isEmpty_nil, Option.getD_some, Bool.false_eq_true, if_false, if_true, true_and, and_true, List.all_cons, List.all_nil, Bool.and_true, Bool.true_and, Bool.not_true, Bool.not_false, Nat.zero_add, decide_true, nbeq, decide_false, Bool.and_false, Nat.reduceAdd, Nat.reduceEqDiff, Nat.reduceLeDiff, Int.reduceAdd, ne_eq, not_false_eq_true, ti3, ti24, decide_eq_false c2]
      exact aend_frz rfl ⟨by simp [G4.less, c1, c2]; rfl, rfl⟩
  · simp only [w_assign, w_load, w_fieldAddr, w_binOp, w_aop, w_some, w_asome, w_anone, w_nil, w_cons, awp, binC, cmpC, asP, asI, asN, loadA, St.ev, St.step, setS, killS, AV.kill, AV.killL, Mem.kill, AV.cells, AV.flat, AV.single, ACond_true, ACond_false, List.getD_cons_succ, List.getD_cons_zero, List.set_cons_succ, List.set_cons_zero, List.getElem?_cons_zero, List.length_cons, List.length_nil, List.contains_nil, List.isEmpty_nil, Option.getD_some, Bool.false_eq_true, if_false, if_true, true_and, and_true, List.all_cons, List.all_nil, Bool.and_true, Bool.true_and, Bool.not_true, Bool.not_false, Nat.zero_add, Nat.add_zero, beq_self_eq_true, decide_true, nbeq, decide_false, Bool.and_false, Nat.reduceAdd, Nat.reduceEqDiff, Nat.reduceLeDiff, Int.reduceAdd, ne_eq, not_false_eq_true, ti3, ti24, decide_eq_false c1]
    exact aend_frz rfl ⟨by simp [G4.less, c1]; rfl, rfl⟩

theorem ok77 : okFn Try.prog 77 = true := by kernel_rfl
theorem s77 (g h : G4) : ASpec Try.prog 77 [gA g, gA h] (fun r Ms => r = B (g.bound' h) ∧ Ms = []) := by
  refine aspec_of (own := []) Try.func77 rfl ok77 ?_
  simp only [w_assign, w_box, w_aop, w_anone, w_nil, w_cons, awp, asN, St.ev, St.step, setS, killS, AV.kill, AV.killL, Mem.kill, AV.cellular, AV.pure, AV.pureL, ACond_false, List.getD_cons_succ, List.getD_cons_zero, List.set_cons_succ, List.set_cons_zero, List.length_cons, List.length_nil, List.replicate_succ, List.replicate_zero, List.cons_append, List.nil_append, List.contains_nil, List.isEmpty_nil, Option.getD_some, Bool.false_eq_true, if_false, if_true, true_and, and_true, Bool.and_true, Bool.true_and, Nat.zero_add, Nat.add_zero, Nat.reduceAdd, Nat.reduceSub, Int.reduceAdd, Int.reduceSub, Try.ntmps77, gA]
  refine swp_draw (own := []) (.take 0 .reads [] (.take 2 .reads [] (.alt 1 (.alt 3 (.take 4 .plain [] (.take 5 .plain [] (.take 6 .reads [] (.take 7 .reads [] (.alt 8 (.take 9 .plain [] (.take 10 .plain [] (.take 11 .plain [] (.done)))) (.nil)))))) (.nil)) (.nil)))) [⟨6, 4, 0, 0, true⟩, ⟨7, 32, 1, 0, false⟩, ⟨8, 8, 0, 0, true⟩, ⟨9, 128, 6, 0, false⟩, ⟨10, 320, 10, 0, true⟩, ⟨11, 512, 24, 0, true⟩, ⟨12, 1028, 32, 0, true⟩, ⟨13, 1032, 32, 0, true⟩, ⟨14, 7168, 224, 0, false⟩, ⟨15, 9216, 288, 0, true⟩, ⟨16, 17408, 544, 0, true⟩, ⟨5, 32768, 2047, 0, true⟩] mo (by kernel_rfl) ?_
  simp only [w_load, w_callF, w_aop, w_take, w_some, w_asome, asP, loadA, St.ev, setS, AV.cells, AV.flat, AV.single, List.getD_cons_succ, List.getD_cons_zero, List.set_cons_succ, List.set_cons_zero, List.getElem?_cons_succ, List.getElem?_cons_zero, List.length_cons, List.length_nil, Bool.false_eq_true, if_false, if_true, true_and, and_true, List.all_cons, List.all_nil, Bool.and_true, Bool.true_and, Bool.not_true, Nat.zero_add, beq_self_eq_true, List.map_cons, List.map_nil, decide_true, Nat.reduceAdd, Nat.reduceLeDiff, Int.reduceAdd, ASch, St.put, Md.mem, Md.need, ti24]
  refine acall_v (s44 g) rfl rfl ?_
  simp only [w_callF, w_aop, w_some, St.ev, St.step, setS, killS, AV.kill, AV.killL, Mem.kill, List.getD_cons_succ, List.getD_cons_zero, List.set_cons_succ, List.set_cons_zero, List.getElem?_cons_succ, List.getElem?_cons_zero, List.isEmpty_nil, if_true, and_true, Bool.and_true, List.map_cons, List.map_nil, ASch, gA]
  refine acall_v (s44 h) rfl rfl ?_
  simp only [w_move, w_binOp, w_gdb, w_take, w_takeg, w_some, w_asome, w_anone, binC, eqC, asG, asB, asI, St.ev, St.step, setS, killS, AV.kill, AV.killL, Mem.kill, ints, List.getD_cons_succ, List.getD_cons_zero, List.set_cons_succ, List.set_cons_zero, List.getElem?_cons_succ, List.getElem?_cons_zero, List.length_cons, List.length_nil, List.isEmpty_nil, if_true, true_and, and_true, Bool.and_true, Bool.true_and, Nat.zero_add, Nat.reduceAdd, Int.reduceAdd, Option.bind_some, ASch, St.put, Md.mem, Md.need, Option.map_some, w_bf, ti24, gA]
  by_cases c : [g.k, g.a, g.b, 0] = [h.k, h.a, h.b, 0]
  · have c1 : g.same h = true := by unfold G4.same; simp at c; exact decide_eq_true c
    simp only [w_assign, w_pick, w_aopg, w_gdb, w_take, w_takeg, w_some, w_anone, awp, asB, asN, St.ev, St.step, setS, killS, AV.kill, AV.killL, Mem.kill, ACond_true, ACond_false, List.getD_cons_succ, List.getD_cons_zero, List.set_cons_succ, List.set_cons_zero, List.getElem?_cons_succ, List.getElem?_cons_zero, List.contains_nil, List.isEmpty_nil, Option.getD_some, Bool.false_eq_true, if_false, if_true, true_and, and_true, Bool.and_true, Bool.true_and, Bool.not_true, Option.bind_some, ASch, St.put, Md.mem, Md.need, w_bf, decide_eq_true c]
    exact aend_frz rfl ⟨by simp [G4.bound', c1]; rfl, rfl⟩
  · have c1 : g.same h = false := by unfold G4.same; simp at c; exact decide_eq_false (fun ⟨h1, h2, h3⟩ => c h1 h2 h3)
    simp only [w_load, w_callF, w_aopg, w_gdb, w_takeg, w_some, w_asome, asP, loadA, St.ev, setS, AV.cells, AV.flat, AV.single, ACond_true, List.getD_cons_succ, List.getD_cons_zero, List.set_cons_succ, List.set_cons_zero, List.getElem?_cons_succ, List.getElem?_cons_zero, List.length_cons, List.length_nil, Bool.false_eq_true, if_false, if_true, true_and, and_true, List.all_cons, List.all_nil, Bool.and_true, Bool.true_and, Bool.not_true, Bool.not_false, Nat.zero_add, beq_self_eq_true, List.map_cons, List.map_nil, decide_true, Nat.reduceAdd, Nat.reduceLeDiff, Int.reduceAdd, Option.bind_some, ASch, St.put, Md.mem, Md.need, ti24, decide_eq_false c]
    refine acall_v (s70 g h) rfl rfl ?_
    simp only [w_assign, w_pick, w_not, w_gdb, w_take, w_takeg, w_some, w_anone, awp, asB, asN, St.ev, St.step, setS, killS, AV.kill, AV.killL, Mem.kill, ACond_true, ACond_false, List.getD_cons_succ, List.getD_cons_zero, List.set_cons_succ, List.set_cons_zero, List.getElem?_cons_succ, List.getElem?_cons_zero, List.contains_nil, List.isEmpty_nil, Option.getD_some, Bool.false_eq_true, if_false, if_true, true_and, Bool.true_and, beq_self_eq_true, Option.bind_some, ASch, St.put, Md.mem, Md.need]
    exact aend_frz rfl ⟨by simp [G4.bound', c1]; rfl, rfl⟩

theorem ok69 : okFn Try.prog 69 = true := by kernel_rfl
theorem s69 (n : Int) (g : G4) (hn : 1 ≤ n ∧ n ≤ 1000000) : ASpec Try.prog 69 [I n, gA g] (fun r Ms => r = B (okG n g) ∧ Ms = []) := by
  have hl : lim (n - 1) := by unfold lim; omega
  refine aspec_of (own := []) Try.func69 rfl ok69 ?_
  simp only [w_assign, w_box, w_load, w_fieldAddr, w_callF, w_aop, w_some, w_asome, w_anone, w_nil, w_cons, awp, asP, asN, loadA, St.ev, St.step, setS, killS, AV.kill, AV.killL, Mem.kill, AV.cells, AV.flat, AV.single, AV.cellular, AV.pure, AV.pureL, ACond_false, List.getD_cons_succ, List.getD_cons_zero, List.set_cons_succ, List.set_cons_zero, List.getElem?_cons_succ, List.getElem?_cons_zero, List.length_cons, List.length_nil, List.replicate_succ, List.replicate_zero, List.cons_append, List.nil_append, List.contains_nil, List.isEmpty_nil, Option.getD_some, Bool.false_eq_true, if_false, if_true, true_and, and_true, List.all_cons, List.all_nil, Bool.and_true, Bool.true_and, Bool.not_true, Nat.zero_add, Nat.add_zero, List.map_cons, List.map_nil, decide_true, nbeq, decide_false, Bool.and_false, Nat.reduceAdd, Nat.reduceEqDiff, Nat.reduceSub, Nat.reduceLeDiff, Int.reduceAdd, Int.reduceSub, ne_eq, not_false_eq_true, ti3, ti24, Try.ntmps69, gA]
  refine acall_v (s75 g.t 1 15) rfl rfl ?_
  simp only [w_move, w_not, w_aop, w_aopg, w_gdb, w_some, w_cons, asB, St.ev, St.step, setS, killS, AV.kill, AV.killL, Mem.kill, List.getD_cons_succ, List.getD_cons_zero, List.set_cons_succ, List.set_cons_zero, List.getElem?_cons_succ, List.getElem?_cons_zero, List.isEmpty_nil, if_true, Option.bind_some, w_bf]
  by_cases c1 : 1 ≤ g.t ∧ g.t ≤ 15
  · simp only [w_move, w_load, w_fieldAddr, w_binOp, w_callF, w_aopg, w_gdb, w_some, w_asome, w_anone, w_cons, binC, arithC, cmpC, asP, asI, loadA, St.ev, St.step, setS, killS, AV.kill, AV.killL, Mem.kill, AV.cells, AV.flat, AV.single, ACond_true, List.getD_cons_succ, List.getD_cons_zero, List.set_cons_succ, List.set_cons_zero, List.getElem?_cons_succ, List.getElem?_cons_zero, List.length_cons, List.length_nil, List.isEmpty_nil, Bool.false_eq_true, if_false, if_true, true_and, and_true, List.all_cons, List.all_nil, Bool.and_true, Bool.true_and, Bool.not_true, Bool.not_false, Nat.zero_add, beq_self_eq_true, List.map_cons, List.map_nil, decide_true, nbeq, decide_false, Bool.and_false, Nat.reduceAdd, Nat.reduceEqDiff, Nat.reduceLeDiff, Int.reduceAdd, Option.bind_some, ne_eq, not_false_eq_true, ti3, ti24, decide_eq_true c1]
    refine ⟨hl, acall_v (s75 g.a 0 (n - 1)) rfl rfl ?_⟩
    simp only [w_pick, w_not, w_aop, w_aopg, w_gdb, w_some, w_nil, w_cons, awp, asB, St.ev, St.step, setS, killS, AV.kill, AV.killL, Mem.kill, ACond_true, ACond_false, List.getD_cons_succ, List.getD_cons_zero, List.set_cons_succ, List.set_cons_zero, List.getElem?_cons_succ, List.getElem?_cons_zero, List.isEmpty_nil, if_true, beq_self_eq_true, Option.bind_some]
    by_cases c2 : 0 ≤ g.a ∧ g.a ≤ n - 1
    · simp only [w_load, w_fieldAddr, w_binOp, w_aop, w_some, w_asome, w_nil, w_cons, awp, binC, cmpC, asP, asB, asI, loadA, St.ev, St.step, setS, killS, AV.kill, AV.killL, Mem.kill, AV.cells, AV.flat, AV.single, ACond_false, List.getD_cons_succ, List.getD_cons_zero, List.set_cons_succ, List.set_cons_zero, List.getElem?_cons_zero, List.length_cons, List.length_nil, List.contains_nil, List.isEmpty_nil, Bool.false_eq_true, if_false, if_true, true_and, and_true, List.all_cons, List.all_nil, Bool.and_true, Bool.true_and, Bool.not_true, Nat.zero_add, Nat.add_zero, beq_self_eq_true, decide_true, nbeq, decide_false, Bool.and_false, Nat.reduceAdd, Nat.reduceEqDiff, Nat.reduceLeDiff, Int.reduceAdd, ne_eq, not_false_eq_true, ti3, ti24, decide_eq_true c2]
      by_cases c3 : g.k = 2
      · simp only [w_move, w_load, w_fieldAddr, w_binOp, w_callF, w_aop, w_some, w_asome, w_anone, w_cons, awp, binC, arithC, cmpC, asP, asI, loadA, St.ev, St.step, setS, killS, AV.kill, AV.killL, Mem.kill, AV.cells, AV.flat, AV.single, ACond_true, ACond_false, List.getD_cons_succ, List.getD_cons_zero, List.set_cons_succ, List.set_cons_zero, List.getElem?_cons_succ, List.getElem?_cons_zero, List.length_cons, List.length_nil, List.contains_nil, List.isEmpty_nil, Bool.false_eq_true, if_false, if_true, true_and, and_true, List.all_cons, List.all_nil, Bool.and_true, Bool.true_and, Bool.not_true, Nat.zero_add, List.map_cons, List.map_nil, decide_true, nbeq, decide_false, Bool.and_false, Nat.reduceAdd, Nat.reduceEqDiff, Nat.reduceLeDiff, Int.reduceAdd, ne_eq, not_false_eq_true, ti3, ti24, decide_eq_true c3]
        have hl2 : lim (g.a + 1) := by unfold lim; omega
        refine ⟨hl2, hl, acall_v (s75 g.b (g.a + 1) (n - 1)) rfl rfl ?_⟩
        simp only [w_assign, w_aop, w_anone, w_nil, w_cons, awp, asN, St.ev, St.step, setS, killS, AV.kill, AV.killL, Mem.kill, List.getD_cons_succ, List.getD_cons_zero, List.set_cons_succ, List.set_cons_zero, List.contains_nil, List.isEmpty_nil, Option.getD_some, Bool.false_eq_true, if_false, if_true]
        exact aend_frz rfl ⟨by rw [show okG n g = decide (g.a + 1 ≤ g.b ∧ g.b ≤ n - 1) by unfold okG; apply decide_eq_decide.2; omega]; rfl, rfl⟩
      · simp only [w_load, w_fieldAddr, w_callF, w_aop, w_some, w_asome, w_cons, awp, asP, loadA, St.ev, St.step, setS, killS, AV.kill, AV.killL, Mem.kill, AV.cells, AV.flat, AV.single, ACond_false, List.getD_cons_succ, List.getD_cons_zero, List.set_cons_succ, List.set_cons_zero, List.getElem?_cons_zero, List.length_cons, List.length_nil, List.contains_nil, List.isEmpty_nil, Bool.false_eq_true, if_false, if_true, true_and, and_true, List.all_cons, List.all_nil, Bool.and_true, Bool.true_and, Bool.not_true, Nat.zero_add, Nat.add_zero, beq_self_eq_true, List.map_cons, List.map_nil, decide_true, nbeq, decide_false, Bool.and_false, Nat.reduceAdd, Nat.reduceEqDiff, Nat.reduceLeDiff, Int.reduceAdd, Int.reduceNeg, ne_eq, not_false_eq_true, ti3, ti24, decide_eq_false c3]
        refine acall_v (s75 g.k 0 1) rfl rfl ?_
        simp only [w_move, w_aop, w_aopg, w_gdb, w_some, w_cons, St.ev, St.step, setS, killS, AV.kill, AV.killL, Mem.kill, List.getD_cons_succ, List.getD_cons_zero, List.set_cons_succ, List.set_cons_zero, List.getElem?_cons_succ, List.getElem?_cons_zero, List.isEmpty_nil, if_true, Int.reduceNeg, Option.bind_some, w_bt]
        by_cases c4 : 0 ≤ g.k ∧ g.k ≤ 1
        · simp only [w_assign, w_pick, w_load, w_fieldAddr, w_binOp, w_aop, w_aopg, w_gdb, w_some, w_asome, w_anone, w_nil, w_cons, awp, binC, cmpC, asP, asB, asI, asN, loadA, St.ev, St.step, setS, killS, AV.kill, AV.killL, Mem.kill, AV.cells, AV.flat, AV.single, ACond_true, List.getD_cons_succ, List.getD_cons_zero, List.set_cons_succ, List.set_cons_zero, List.getElem?_cons_succ, List.getElem?_cons_zero, List.length_cons, List.length_nil, List.contains_nil, List.isEmpty_nil, Option.getD_some, Bool.false_eq_true, if_false, if_true, true_and, and_true, List.all_cons, List.all_nil, Bool.and_true, Bool.true_and, Bool.not_true, Nat.zero_add, beq_self_eq_true, decide_true, nbeq, decide_false, Bool.and_false, Nat.reduceAdd, Nat.reduceEqDiff, Nat.reduceLeDiff, Int.reduceAdd, Int.reduceNeg, Option.bind_some, ne_eq, not_false_eq_true, ti3, ti24, decide_eq_true c4]
          exact aend_frz rfl ⟨by rw [show okG n g = decide (g.b = -1) by unfold okG; apply decide_eq_decide.2; omega]; rfl, rfl⟩
        · simp only [w_assign, w_pick, w_aop, w_aopg, w_gdb, w_some, w_anone, w_nil, w_cons, awp, asB, asN, St.ev, St.step, setS, killS, AV.kill, AV.killL, Mem.kill, ACond_false, List.getD_cons_succ, List.getD_cons_zero, List.set_cons_succ, List.set_cons_zero, List.getElem?_cons_succ, List.getElem?_cons_zero, List.contains_nil, List.isEmpty_nil, Option.getD_some, Bool.false_eq_true, if_false, if_true, Int.reduceNeg, Option.bind_some, w_bt, decide_eq_false c4]
          exact aend_frz rfl ⟨by rw [show okG n g = false from decide_eq_false (by omega)]; rfl, rfl⟩
    · simp only [w_assign, w_aop, w_anone, w_nil, w_cons, awp, asN, St.ev, St.step, setS, killS, AV.kill, AV.killL, Mem.kill, ACond_true, ACond_false, List.set_cons_succ, List.set_cons_zero, List.contains_nil, List.isEmpty_nil, Option.getD_some, Bool.false_eq_true, if_false, if_true, Bool.not_false, Nat.reduceAdd, Int.reduceAdd, decide_eq_false c2]
      exact aend_frz rfl ⟨by rw [show okG n g = false from decide_eq_false (by omega)]; rfl, rfl⟩
  · simp only [w_assign, w_pick, w_aop, w_aopg, w_gdb, w_some, w_anone, w_nil, w_cons, awp, asB, asN, St.ev, St.step, setS, killS, AV.kill, AV.killL, Mem.kill, ACond_true, ACond_false, List.getD_cons_succ, List.getD_cons_zero, List.set_cons_succ, List.set_cons_zero, List.getElem?_cons_succ, List.getElem?_cons_zero, List.contains_nil, List.isEmpty_nil, Option.getD_some, Bool.false_eq_true, if_false, if_true, Bool.not_true, Bool.not_false, Nat.reduceAdd, Int.reduceAdd, Option.bind_some, w_bf, decide_eq_false c1]
    exact aend_frz rfl ⟨by rw [show okG n g = false from decide_eq_false (by omega)]; rfl, rfl⟩
end Go.Proofs.Ytkmbbbemmohmcaa

namespace Go.Proofs.Ytkmbbbemmohmcaa
open Aw Go.RowKit
set_option linter.unusedSimpArgs false

def idxP {α : Type} (l : List α) (p : α → Bool) : Int := match l.findIdx? p with | some i => (i : Int) | none => -1
theorem idxP_some {α : Type} {l : List α} {p : α → Bool} {k : Nat} (h : k < l.length) (hno : ∀ j, j < k → ∀ h : j < l.length, p l[j] = false) (hx : p l[k] = true) : idxP l p = k := by
  have : l.findIdx? p = some k := by
    rw [List.findIdx?_eq_some_iff_getElem]
    exact ⟨h, hx, fun j hj => by rw [hno j hj (by omega)]; simp⟩
  simp [idxP, this]
theorem idxP_none {α : Type} {l : List α} {p : α → Bool} (hno : ∀ j, ∀ h : j < l.length, p l[j] = false) : idxP l p = -1 := by
  have : l.findIdx? p = none := by
    rw [List.findIdx?_eq_none_iff]
    intro y hy
    obtain ⟨j, hj, rfl⟩ := List.mem_iff_getElem.1 hy
    exact hno j hj
  simp [idxP, this]
theorem idxP_any {α : Type} (l : List α) (p : α → Bool) : decide (0 ≤ idxP l p) = l.any p := by
  unfold idxP
  cases h : l.findIdx? p with
  | none =>
    rw [List.findIdx?_eq_none_iff] at h
    have : l.any p = false := by rw [List.any_eq_false]; intro x hx; rw [h x hx]; simp
    simp [this]
  | some i =>
    rw [List.findIdx?_eq_some_iff_getElem] at h
    obtain ⟨hi, hx, _⟩ := h
    have : l.any p = true := List.any_eq_true.2 ⟨_, List.getElem_mem hi, hx⟩
    simp [this]
/-- what holds of all before a place, and at it. -/
theorem upto {n k : Nat} {P : ∀ j, j < n → Prop} (h : ∀ j, j < k → ∀ hj : j < n, P j hj) (hk : ∀ h : k < n, P k h) : ∀ j, j < k + 1 → ∀ hj : j < n, P j hj := fun j hj hn => by
  rcases Nat.lt_or_ge j k with h1 | h1
  · exact h j h1 hn
  · obtain rfl : j = k := by omega
    exact hk hn

theorem ok101 : okFn Try.prog 101 = true := by kernel_rfl
theorem s101 (l : List G4) (p : G4 → Bool) (f : FuncId) (cap : List AV) (hl : l.length ≤ 1000000) (hc : AV.pureL cap = true) (hs : ∀ z, ASpec Try.prog f (gA z :: cap) (fun r Ms => r = B (p z) ∧ Ms = [])) :
    ASpec Try.prog 101 [.s 4 (gtsA l), .f (.func f) cap] (fun r Ms => r = I (idxP l p) ∧ Ms = []) := by
  refine aspec_of (own := []) Try.func101 rfl ok101 ?_
  simp only [w_move, w_assign, w_len, w_aop, w_some, w_asome, w_anone, w_nil, w_cons, awp, asN, lenA, St.ev, St.step, setS, killS, AV.kill, AV.killL, Mem.kill, ACond_false, List.getD_cons_succ, List.getD_cons_zero, List.set_cons_succ, List.set_cons_zero, List.length_cons, List.length_nil, List.replicate_succ, List.replicate_zero, List.cons_append, List.nil_append, List.contains_nil, List.isEmpty_nil, Option.getD_some, Bool.false_eq_true, if_false, if_true, true_and, Bool.true_and, Option.isSome_some, Nat.zero_add, Nat.add_zero, Nat.reduceAdd, Nat.reduceSub, Int.reduceAdd, Int.reduceSub, gtsA_len, ti22, Try.ntmps101]
  refine swp_loop' (fun k : Nat => ⟨[.s 4 (gtsA l), .f (.func f) cap, .bot, .bot, .bot, .bot, .bot, I l.length, I k, .bot, .bot, .bot, .bot, .bot, .bot, .bot, .bot, .bot, .bot], []⟩) (fun k => k ≤ l.length ∧ ∀ j, j < k → ∀ h : j < l.length, p l[j] = false) (fun k => l.length - k) 0 (le_sl (by simp [leSl, gtsA_len])) ⟨Nat.zero_le _, by omega⟩ ?_
  rintro k ⟨hk, hno⟩
  refine awp_sound (own := []) _ _ _ _ _ ?_
  simp only [w_binOp, w_aop, w_some, w_asome, w_nil, w_cons, awp, binC, cmpC, asB, asI, St.ev, St.step, setS, killS, AV.kill, AV.killL, Mem.kill, ACond_false, List.getD_cons_succ, List.getD_cons_zero, List.set_cons_succ, List.set_cons_zero, List.contains_nil, List.isEmpty_nil, if_true, true_and, Bool.true_and, Nat.reduceAdd, Int.reduceAdd]
  by_cases h : k < l.length
  · have h' : (k : Int) < (l.length : Int) := by omega
    simp only [w_move, w_assign, w_load, w_indexAddr, w_callT, w_aop, w_some, w_asome, w_anone, w_nil, w_cons, awp, idxC, asP, asS, asF, asI, asN, loadA, St.ev, St.step, setS, killS, AV.kill, AV.killL, Mem.kill, AV.cells, AV.flat, AV.single, ACond_true, ACond_false, List.getD_cons_succ, List.getD_cons_zero, List.set_cons_succ, List.set_cons_zero, List.getElem?_cons_zero, List.length_cons, List.length_nil, List.cons_append, List.nil_append, List.contains_nil, List.isEmpty_nil, Option.getD_some, Bool.false_eq_true, if_false, if_true, true_and, and_true, List.all_cons, List.all_nil, Bool.and_true, Bool.true_and, Bool.not_true, Nat.zero_add, beq_self_eq_true, List.map_cons, List.map_nil, decide_true, Nat.reduceAdd, Nat.reduceLeDiff, Int.reduceAdd, ti22, ti24, decide_eq_true h', aget_gts h, Int.toNat_natCast]
    refine ⟨by omega, acall_v (hs l[k]) (by simp [AV.pureL, AV.pure, gA, hc]) rfl ?_⟩
    cases hx : p l[k] with
    | true =>
      simp only [w_move, w_assign, w_aop, w_some, w_anone, w_nil, w_cons, awp, asB, asN, St.ev, St.step, setS, killS, AV.kill, AV.killL, Mem.kill, ACond_true, ACond_false, List.getD_cons_succ, List.getD_cons_zero, List.set_cons_succ, List.set_cons_zero, List.contains_nil, List.isEmpty_nil, Option.getD_some, Bool.false_eq_true, if_false, if_true, Nat.reduceAdd, Int.reduceAdd]
      exact aend_frz rfl ⟨by rw [idxP_some h hno hx]; rfl, rfl⟩
    | false =>
      simp only [w_move, w_binOp, w_aop, w_some, w_asome, w_anone, w_nil, w_cons, awp, binC, arithC, cmpC, asB, asI, St.ev, St.step, setS, killS, AV.kill, AV.killL, Mem.kill, ACond_false, List.getD_cons_succ, List.getD_cons_zero, List.set_cons_succ, List.set_cons_zero, List.contains_nil, List.isEmpty_nil, if_true, true_and, and_true, Bool.and_true, Bool.true_and, Nat.reduceAdd, Int.reduceAdd]
      exact ⟨by unfold lim; omega, k + 1, le_sl (by simp [leSl, gtsA_len]), ⟨h, upto hno fun _ => hx⟩, by omega⟩
  · have h' : ¬ (k : Int) < (l.length : Int) := by omega
    simp only [w_assign, w_aop, w_anone, w_nil, w_cons, awp, asN, St.ev, St.step, setS, killS, AV.kill, AV.killL, Mem.kill, ACond_false, List.set_cons_succ, List.set_cons_zero, List.contains_nil, List.isEmpty_nil, Option.getD_some, Bool.false_eq_true, if_false, if_true, Nat.reduceAdd, Int.reduceAdd, Int.reduceNeg, decide_eq_false h']
    exact aend_frz rfl ⟨by rw [idxP_none fun j hj => hno j (by omega) hj]; rfl, rfl⟩

theorem ok84 : okFn Try.prog 84 = true := by kernel_rfl
theorem s84 (l : List G4) (p : G4 → Bool) (f : FuncId) (cap : List AV) (hl : l.length ≤ 1000000) (hc : AV.pureL cap = true) (hs : ∀ z, ASpec Try.prog f (gA z :: cap) (fun r Ms => r = B (p z) ∧ Ms = [])) :
    ASpec Try.prog 84 [.s 4 (gtsA l), .f (.func f) cap] (fun r Ms => r = B (l.any p) ∧ Ms = []) := by
  refine aspec_of (own := []) Try.func84 rfl ok84 ?_
  simp only [w_move, w_assign, w_callF, w_aop, w_anone, w_nil, w_cons, awp, asN, St.ev, St.step, setS, killS, AV.kill, AV.killL, Mem.kill, ACond_false, List.getD_cons_succ, List.getD_cons_zero, List.set_cons_succ, List.set_cons_zero, List.length_cons, List.length_nil, List.replicate_succ, List.replicate_zero, List.cons_append, List.nil_append, List.contains_nil, List.isEmpty_nil, Option.getD_some, Bool.false_eq_true, if_false, if_true, Nat.zero_add, Nat.add_zero, List.map_cons, List.map_nil, Nat.reduceAdd, Nat.reduceSub, Int.reduceAdd, Int.reduceSub, Try.ntmps84]
  refine acall_v (s101 l p f cap hl hc hs) (by simp [AV.pureL, AV.pure, hc]) rfl ?_
  simp only [w_assign, w_binOp, w_aop, w_some, w_asome, w_anone, w_nil, w_cons, awp, binC, cmpC, asI, asN, St.ev, St.step, setS, killS, AV.kill, AV.killL, Mem.kill, List.getD_cons_succ, List.getD_cons_zero, List.set_cons_succ, List.set_cons_zero, List.contains_nil, List.isEmpty_nil, Option.getD_some, Bool.false_eq_true, if_false, if_true, true_and, Bool.true_and, idxP_any]
  exact aend_frz rfl ⟨rfl, rfl⟩

theorem ok85 : okFn Try.prog 85 = true := by kernel_rfl
theorem s85 (n : Int) (g : G4) : ASpec Try.prog 85 [gA g, .p (I n) 0] (fun r Ms => r = B (!okG n g) ∧ Ms = []) := by
  refine aspec_of (own := []) Try.func85 rfl ok85 ?_
  simp only [w_assign, w_box, w_load, w_callF, w_aop, w_some, w_asome, w_anone, w_nil, w_cons, awp, asP, asN, loadA, St.ev, St.step, setS, killS, AV.kill, AV.killL, Mem.kill, AV.cells, AV.flat, AV.single, AV.cellular, AV.pure, AV.pureL, ACond_false, List.getD_cons_succ, List.getD_cons_zero, List.set_cons_succ, List.set_cons_zero, List.getElem?_cons_zero, List.length_cons, List.length_nil, List.replicate_succ, List.replicate_zero, List.cons_append, List.nil_append, List.contains_nil, List.isEmpty_nil, Option.getD_some, Bool.false_eq_true, if_false, if_true, true_and, and_true, List.all_cons, List.all_nil, Bool.and_true, Bool.true_and, Bool.not_true, Nat.zero_add, Nat.add_zero, beq_self_eq_true, List.map_cons, List.map_nil, decide_true, Nat.reduceAdd, Nat.reduceSub, Nat.reduceLeDiff, Int.reduceAdd, Int.reduceSub, ti3, ti24, Try.ntmps85, gA]
  refine acall_v (s86 n g) rfl rfl ?_
  simp only [w_assign, w_not, w_aop, w_some, w_anone, w_nil, w_cons, awp, asB, asN, St.ev, St.step, setS, killS, AV.kill, AV.killL, Mem.kill, List.getD_cons_succ, List.getD_cons_zero, List.set_cons_succ, List.set_cons_zero, List.contains_nil, List.isEmpty_nil, Option.getD_some, Bool.false_eq_true, if_false, if_true]
  exact aend_frz rfl ⟨rfl, rfl⟩

/-- the error of gates. -/
def vG (n : Int) (c : List G4) : Int := if ∀ g ∈ c, okG n g = true then 0 else 1
theorem ok55 : okFn Try.prog 55 = true := by kernel_rfl
theorem s55 (n : Int) (c : List G4) (hl : c.length ≤ 1000000) : ASpec Try.prog 55 [I n, .s 4 (gtsA c)] (fun r Ms => r = I (vG n c) ∧ Ms = []) := by
  refine aspec_of (own := []) Try.func55 rfl ok55 ?_
  simp only [w_move, w_assign, w_box, w_makeFunc, w_callF, w_aop, w_anone, w_nil, w_cons, awp, asN, St.ev, St.step, setS, killS, AV.kill, AV.killL, Mem.kill, AV.single, AV.cellular, AV.pure, ACond_false, Value.oneCell', List.getD_cons_succ, List.getD_cons_zero, List.set_cons_succ, List.set_cons_zero, List.length_cons, List.length_nil, List.replicate_succ, List.replicate_zero, List.cons_append, List.nil_append, List.contains_nil, List.isEmpty_nil, Option.getD_some, Bool.false_eq_true, if_false, if_true, true_and, and_true, List.all_cons, List.all_nil, Bool.and_true, Bool.true_and, Nat.zero_add, Nat.add_zero, List.map_cons, List.map_nil, Nat.reduceAdd, Nat.reduceSub, Int.reduceAdd, Int.reduceSub, Try.ntmps55]
  refine ⟨rfl, acall_v (s84 c (fun g => !okG n g) 85 [.p (I n) 0] hl rfl (fun g => s85 n g)) rfl rfl ?_⟩
  by_cases ha : ∀ g ∈ c, okG n g = true
  · have hb : (c.any fun g => !okG n g) = false := by
      rw [List.any_eq_false]; intro z hz; simp [ha z hz]
    simp only [w_assign, w_aop, w_some, w_anone, w_nil, w_cons, awp, asB, asN, St.ev, St.step, setS, killS, AV.kill, AV.killL, Mem.kill, ACond_false, List.getD_cons_succ, List.getD_cons_zero, List.set_cons_succ, List.set_cons_zero, List.contains_nil, List.isEmpty_nil, Option.getD_some, Bool.false_eq_true, if_false, if_true, Nat.reduceAdd, Int.reduceAdd, hb]
    exact aend_frz rfl ⟨by rw [vG, if_pos ha]; rfl, rfl⟩
  · have hb : (c.any fun g => !okG n g) = true := by
      simp only [Classical.not_forall] at ha
      obtain ⟨g, hg, hn⟩ := ha
      exact List.any_eq_true.2 ⟨g, hg, by simpa using hn⟩
    simp only [w_assign, w_aop, w_some, w_anone, w_nil, w_cons, awp, asB, asN, St.ev, St.step, setS, killS, AV.kill, AV.killL, Mem.kill, ACond_true, ACond_false, List.getD_cons_succ, List.getD_cons_zero, List.set_cons_succ, List.set_cons_zero, List.contains_nil, List.isEmpty_nil, Option.getD_some, Bool.false_eq_true, if_false, if_true, Nat.reduceAdd, Int.reduceAdd, hb]
    exact aend_frz rfl ⟨by rw [vG, if_neg ha]; rfl, rfl⟩

/-- the first error of a circuit. -/
def vC (n : Int) (c : List G4) : Int := if n < 1 ∨ 4 < n then 1 else if 10 < c.length then 3 else vG n c
theorem ok21 : okFn Try.prog 21 = true := by kernel_rfl
theorem s21 (n : Int) (c : List G4) (hl : c.length ≤ 1000000) : ASpec Try.prog 21 [I n, .s 4 (gtsA c)] (fun r Ms => r = I (vC n c) ∧ Ms = []) := by
  refine aspec_of (own := []) Try.func21 rfl ok21 ?_
  simp only [w_move, w_assign, w_binOp, w_aop, w_aopg, w_gdb, w_some, w_asome, w_anone, w_nil, w_cons, awp, binC, cmpC, asI, asN, St.ev, St.step, setS, killS, AV.kill, AV.killL, Mem.kill, ACond_false, List.getD_cons_succ, List.getD_cons_zero, List.set_cons_succ, List.set_cons_zero, List.getElem?_cons_succ, List.getElem?_cons_zero, List.length_cons, List.length_nil, List.replicate_succ, List.replicate_zero, List.cons_append, List.nil_append, List.contains_nil, List.isEmpty_nil, Option.getD_some, Bool.false_eq_true, if_false, if_true, true_and, Bool.true_and, Nat.zero_add, Nat.add_zero, Nat.reduceAdd, Nat.reduceSub, Int.reduceAdd, Int.reduceSub, Option.bind_some, w_bf, Try.ntmps21]
  by_cases h1 : n < 1
  · simp only [w_assign, w_pick, w_aop, w_aopg, w_gdb, w_some, w_anone, w_nil, w_cons, awp, asB, asN, St.ev, St.step, setS, killS, AV.kill, AV.killL, Mem.kill, ACond_true, ACond_false, List.getD_cons_succ, List.getD_cons_zero, List.set_cons_succ, List.set_cons_zero, List.getElem?_cons_succ, List.getElem?_cons_zero, List.contains_nil, List.isEmpty_nil, Option.getD_some, Bool.false_eq_true, if_false, if_true, Bool.not_true, Nat.reduceAdd, Int.reduceAdd, Option.bind_some, w_bf, decide_eq_true h1]
    exact aend_frz rfl ⟨by rw [vC, if_pos (.inl h1)]; rfl, rfl⟩
  simp only [w_move, w_pick, w_binOp, w_aop, w_aopg, w_gdb, w_some, w_asome, w_nil, w_cons, awp, binC, cmpC, asB, asI, St.ev, St.step, setS, killS, AV.kill, AV.killL, Mem.kill, ACond_true, ACond_false, List.getD_cons_succ, List.getD_cons_zero, List.set_cons_succ, List.set_cons_zero, List.getElem?_cons_succ, List.getElem?_cons_zero, List.isEmpty_nil, if_true, true_and, Bool.true_and, Bool.not_false, beq_self_eq_true, Option.bind_some, decide_eq_false h1]
  by_cases h2 : 4 < n
  · simp only [w_assign, w_aop, w_anone, w_nil, w_cons, awp, asN, St.ev, St.step, setS, killS, AV.kill, AV.killL, Mem.kill, ACond_true, ACond_false, List.set_cons_succ, List.set_cons_zero, List.contains_nil, List.isEmpty_nil, Option.getD_some, Bool.false_eq_true, if_false, if_true, Nat.reduceAdd, Int.reduceAdd, decide_eq_true h2]
    exact aend_frz rfl ⟨by rw [vC, if_pos (.inr h2)]; rfl, rfl⟩
  simp only [w_move, w_binOp, w_len, w_aop, w_some, w_asome, w_nil, w_cons, awp, binC, cmpC, asB, asI, lenA, St.ev, St.step, setS, killS, AV.kill, AV.killL, Mem.kill, ACond_false, List.getD_cons_succ, List.getD_cons_zero, List.set_cons_succ, List.set_cons_zero, List.contains_nil, List.isEmpty_nil, if_true, true_and, Bool.true_and, Option.isSome_some, Nat.reduceAdd, Int.reduceAdd, gtsA_len, ti22, decide_eq_false h2, gtsA_len]
  by_cases h3 : (10 : Int) < c.length
  · simp only [w_assign, w_aop, w_anone, w_nil, w_cons, awp, asN, St.ev, St.step, setS, killS, AV.kill, AV.killL, Mem.kill, ACond_true, ACond_false, List.set_cons_succ, List.set_cons_zero, List.contains_nil, List.isEmpty_nil, Option.getD_some, Bool.false_eq_true, if_false, if_true, Nat.reduceAdd, Int.reduceAdd, decide_eq_true h3]
    exact aend_frz rfl ⟨by rw [vC, if_neg (by omega), if_pos (by omega)]; rfl, rfl⟩
  simp only [w_move, w_callF, w_aop, w_cons, awp, St.ev, St.step, setS, killS, AV.kill, AV.killL, Mem.kill, ACond_false, List.getD_cons_succ, List.getD_cons_zero, List.set_cons_succ, List.set_cons_zero, List.contains_nil, List.isEmpty_nil, if_true, List.map_cons, List.map_nil, Nat.reduceAdd, Int.reduceAdd, decide_eq_false h3]
  refine acall_v (s55 n c hl) rfl rfl ?_
  simp only [w_assign, w_aop, w_anone, w_nil, w_cons, awp, asN, St.ev, St.step, setS, killS, AV.kill, AV.killL, Mem.kill, List.getD_cons_succ, List.getD_cons_zero, List.set_cons_succ, List.set_cons_zero, List.contains_nil, List.isEmpty_nil, Option.getD_some, Bool.false_eq_true, if_false, if_true]
  exact aend_frz rfl ⟨by rw [vC, if_neg (by omega), if_neg (by omega)]; rfl, rfl⟩

theorem ok41 : okFn Try.prog 41 = true := by kernel_rfl
theorem s41 (n : Int) (c : List G4) (hl : c.length ≤ 1000000) : ASpec Try.prog 41 [I n, .s 4 (gtsA c)] (fun r Ms => r = I (vC n c) ∧ Ms = []) := by
  refine aspec_of (own := []) Try.func41 rfl ok41 ?_
  simp only [w_move, w_assign, w_callF, w_aop, w_anone, w_nil, w_cons, awp, asN, St.ev, St.step, setS, killS, AV.kill, AV.killL, Mem.kill, ACond_false, List.getD_cons_succ, List.getD_cons_zero, List.set_cons_succ, List.set_cons_zero, List.length_cons, List.length_nil, List.replicate_succ, List.replicate_zero, List.cons_append, List.nil_append, List.contains_nil, List.isEmpty_nil, Option.getD_some, Bool.false_eq_true, if_false, if_true, Nat.zero_add, Nat.add_zero, List.map_cons, List.map_nil, Nat.reduceAdd, Nat.reduceSub, Int.reduceAdd, Int.reduceSub, Try.ntmps41]
  refine acall_v (s75 n 1 4) rfl rfl ?_
  simp only [w_not, w_aop, w_some, w_nil, w_cons, awp, asB, St.ev, St.step, setS, killS, AV.kill, AV.killL, Mem.kill, List.getD_cons_succ, List.getD_cons_zero, List.set_cons_succ, List.set_cons_zero, List.isEmpty_nil, if_true]
  by_cases h1 : 1 ≤ n ∧ n ≤ 4
  · simp only [w_move, w_binOp, w_len, w_aop, w_some, w_asome, w_nil, w_cons, awp, binC, cmpC, asB, asI, lenA, St.ev, St.step, setS, killS, AV.kill, AV.killL, Mem.kill, ACond_false, List.getD_cons_succ, List.getD_cons_zero, List.set_cons_succ, List.set_cons_zero, List.contains_nil, List.isEmpty_nil, if_true, true_and, Bool.true_and, Bool.not_true, Option.isSome_some, Nat.reduceAdd, Int.reduceAdd, gtsA_len, ti22, decide_eq_true h1]
    by_cases h3 : (10 : Int) < c.length
    · simp only [w_assign, w_aop, w_anone, w_nil, w_cons, awp, asN, St.ev, St.step, setS, killS, AV.kill, AV.killL, Mem.kill, ACond_true, ACond_false, List.set_cons_succ, List.set_cons_zero, List.contains_nil, List.isEmpty_nil, Option.getD_some, Bool.false_eq_true, if_false, if_true, Nat.reduceAdd, Int.reduceAdd, decide_eq_true h3]
      exact aend_frz rfl ⟨by rw [vC, if_neg (by omega), if_pos (by omega)]; rfl, rfl⟩
    simp only [w_assign, w_aop, w_anone, w_nil, w_cons, awp, asN, St.ev, St.step, setS, killS, AV.kill, AV.killL, Mem.kill, ACond_false, List.set_cons_succ, List.set_cons_zero, List.contains_nil, List.isEmpty_nil, Option.getD_some, Bool.false_eq_true, if_false, if_true, Nat.reduceAdd, Int.reduceAdd, decide_eq_false h3]
    refine swp_loop' (fun k : Nat => ⟨[I n, .s 4 (gtsA c), .bot, .bot, .bot, I k, .bot, .bot, .bot, .bot, .bot, .bot, .bot, .bot, .bot, .bot, .bot, .bot, .bot, .bot, .bot, .bot, .bot, .bot, .bot], []⟩) (fun k => k ≤ c.length ∧ ∀ j, j < k → ∀ h : j < c.length, okG n c[j] = true) (fun k => c.length - k) 0 (le_sl (by simp [leSl, gtsA_len])) ⟨Nat.zero_le _, by omega⟩ ?_
    rintro k ⟨hk, hno⟩
    refine awp_sound (own := []) _ _ _ _ _ ?_
    simp only [w_move, w_binOp, w_len, w_aop, w_some, w_asome, w_nil, w_cons, awp, binC, cmpC, asB, asI, lenA, St.ev, St.step, setS, killS, AV.kill, AV.killL, Mem.kill, ACond_false, List.getD_cons_succ, List.getD_cons_zero, List.set_cons_succ, List.set_cons_zero, List.contains_nil, List.isEmpty_nil, if_true, true_and, Bool.true_and, Option.isSome_some, Nat.reduceAdd, Int.reduceAdd, gtsA_len, ti22, gtsA_len]
    by_cases h : k < c.length
    · have h' : (k : Int) < (c.length : Int) := by omega
      simp only [w_move, w_load, w_indexAddr, w_callF, w_aop, w_some, w_asome, w_cons, awp, idxC, asP, asS, asI, loadA, St.ev, St.step, setS, killS, AV.kill, AV.killL, Mem.kill, AV.cells, AV.flat, AV.single, ACond_true, ACond_false, List.getD_cons_succ, List.getD_cons_zero, List.set_cons_succ, List.set_cons_zero, List.getElem?_cons_zero, List.length_cons, List.length_nil, List.contains_nil, List.isEmpty_nil, Bool.false_eq_true, if_false, if_true, true_and, and_true, List.all_cons, List.all_nil, Bool.and_true, Bool.true_and, Bool.not_true, Nat.zero_add, beq_self_eq_true, List.map_cons, List.map_nil, decide_true, Nat.reduceAdd, Nat.reduceLeDiff, Int.reduceAdd, ti22, ti24, decide_eq_true h', aget_gts h, Int.toNat_natCast]
      refine ⟨by omega, acall_v (s69 n c[k] (by omega)) rfl rfl ?_⟩
      cases hx : okG n c[k] with
      | true =>
        simp only [w_move, w_assign, w_binOp, w_not, w_aop, w_some, w_asome, w_anone, w_nil, w_cons, awp, binC, arithC, cmpC, asB, asI, asN, St.ev, St.step, setS, killS, AV.kill, AV.killL, Mem.kill, ACond_false, List.getD_cons_succ, List.getD_cons_zero, List.set_cons_succ, List.set_cons_zero, List.contains_nil, List.isEmpty_nil, Option.getD_some, Bool.false_eq_true, if_false, if_true, true_and, and_true, Bool.and_true, Bool.true_and, Bool.not_true, Nat.reduceAdd, Int.reduceAdd]
        exact ⟨by unfold lim; omega, k + 1, le_sl (by simp [leSl, gtsA_len]), ⟨h, upto hno fun _ => hx⟩, by omega⟩
      | false =>
        simp only [w_assign, w_not, w_aop, w_some, w_anone, w_nil, w_cons, awp, asB, asN, St.ev, St.step, setS, killS, AV.kill, AV.killL, Mem.kill, ACond_true, ACond_false, List.getD_cons_succ, List.getD_cons_zero, List.set_cons_succ, List.set_cons_zero, List.contains_nil, List.isEmpty_nil, Option.getD_some, Bool.false_eq_true, if_false, if_true, Bool.not_false, Nat.reduceAdd, Int.reduceAdd]
        exact aend_frz rfl ⟨by rw [vC, if_neg (by omega), if_neg (by omega), vG, if_neg (fun ha => by rw [ha _ (List.getElem_mem h)] at hx; cases hx)]; rfl, rfl⟩
    · have h' : ¬ (k : Int) < (c.length : Int) := by omega
      simp only [w_assign, w_aop, w_anone, w_nil, w_cons, awp, asN, St.ev, St.step, setS, killS, AV.kill, AV.killL, Mem.kill, ACond_false, List.set_cons_succ, List.set_cons_zero, List.contains_nil, List.isEmpty_nil, Option.getD_some, Bool.false_eq_true, if_false, if_true, Nat.reduceAdd, Int.reduceAdd, decide_eq_false h']
      have ha : ∀ g ∈ c, okG n g = true := fun g hg => by
        obtain ⟨j, hj, rfl⟩ := List.mem_iff_getElem.1 hg
        exact hno j (by omega) hj
      exact aend_frz rfl ⟨by rw [vC, if_neg (by omega), if_neg (by omega), vG, if_pos ha]; rfl, rfl⟩
  · simp only [w_assign, w_aop, w_anone, w_nil, w_cons, awp, asN, St.ev, St.step, setS, killS, AV.kill, AV.killL, Mem.kill, ACond_true, ACond_false, List.set_cons_succ, List.set_cons_zero, List.contains_nil, List.isEmpty_nil, Option.getD_some, Bool.false_eq_true, if_false, if_true, Bool.not_false, Nat.reduceAdd, Int.reduceAdd, decide_eq_false h1]
    exact aend_frz rfl ⟨by rw [vC, if_pos (by omega)]; rfl, rfl⟩

/-- the first error of two circuits. -/
def vC2 (n : Int) (c d : List G4) : Int := if vC n c = 0 then vC n d else vC n c
theorem ok61 : okFn Try.prog 61 = true := by kernel_rfl
theorem s61 (n : Int) (c d : List G4) (hl : c.length ≤ 1000000) (hl' : d.length ≤ 1000000) : ASpec Try.prog 61 [I n, .s 4 (gtsA c), .s 4 (gtsA d)] (fun r Ms => r = I (vC2 n c d) ∧ Ms = []) := by
  refine aspec_of (own := []) Try.func61 rfl ok61 ?_
  simp only [w_move, w_assign, w_callF, w_aop, w_anone, w_nil, w_cons, awp, asN, St.ev, St.step, setS, killS, AV.kill, AV.killL, Mem.kill, ACond_false, List.getD_cons_succ, List.getD_cons_zero, List.set_cons_succ, List.set_cons_zero, List.length_cons, List.length_nil, List.replicate_succ, List.replicate_zero, List.cons_append, List.nil_append, List.contains_nil, List.isEmpty_nil, Option.getD_some, Bool.false_eq_true, if_false, if_true, Nat.zero_add, Nat.add_zero, List.map_cons, List.map_nil, Nat.reduceAdd, Nat.reduceSub, Int.reduceAdd, Int.reduceSub, Try.ntmps61]
  refine acall_v (s21 n c hl) rfl rfl ?_
  simp only [w_move, w_assign, w_binOp, w_aop, w_some, w_asome, w_anone, w_nil, w_cons, awp, binC, cmpC, asB, asI, asN, St.ev, St.step, setS, killS, AV.kill, AV.killL, Mem.kill, ACond_false, List.getD_cons_succ, List.getD_cons_zero, List.set_cons_succ, List.set_cons_zero, List.contains_nil, List.isEmpty_nil, Option.getD_some, Bool.false_eq_true, if_false, if_true, true_and, Bool.true_and, Nat.reduceAdd, Int.reduceAdd]
  by_cases h : vC n c = 0
  · simp only [w_move, w_callF, w_aop, w_cons, awp, St.ev, St.step, setS, killS, AV.kill, AV.killL, Mem.kill, ACond_false, List.getD_cons_succ, List.getD_cons_zero, List.set_cons_succ, List.set_cons_zero, List.contains_nil, List.isEmpty_nil, if_true, Bool.not_true, List.map_cons, List.map_nil, Nat.reduceAdd, Int.reduceAdd, decide_eq_true h]
    refine acall_v (s21 n d hl') rfl rfl ?_
    simp only [w_assign, w_aop, w_anone, w_nil, w_cons, awp, asN, St.ev, St.step, setS, killS, AV.kill, AV.killL, Mem.kill, List.getD_cons_succ, List.getD_cons_zero, List.set_cons_succ, List.set_cons_zero, List.contains_nil, List.isEmpty_nil, Option.getD_some, Bool.false_eq_true, if_false, if_true]
    exact aend_frz rfl ⟨by rw [vC2, if_pos h]; rfl, rfl⟩
  · simp only [w_move, w_assign, w_aop, w_anone, w_nil, w_cons, awp, asN, St.ev, St.step, setS, killS, AV.kill, AV.killL, Mem.kill, ACond_true, ACond_false, List.getD_cons_succ, List.getD_cons_zero, List.set_cons_succ, List.set_cons_zero, List.contains_nil, List.isEmpty_nil, Option.getD_some, Bool.false_eq_true, if_false, if_true, Bool.not_false, Nat.reduceAdd, Int.reduceAdd, decide_eq_false h]
    exact aend_frz rfl ⟨by rw [vC2, if_neg h]; rfl, rfl⟩

theorem ok73 : okFn Try.prog 73 = true := by kernel_rfl
theorem s73 (n : Int) (c d : List G4) (hl : c.length ≤ 1000000) (hl' : d.length ≤ 1000000) : ASpec Try.prog 73 [I n, .s 4 (gtsA c), .s 4 (gtsA d)] (fun r Ms => r = I (vC2 n c d) ∧ Ms = []) := by
  refine aspec_of (own := []) Try.func73 rfl ok73 ?_
  simp only [w_move, w_assign, w_callF, w_aop, w_anone, w_nil, w_cons, awp, asN, St.ev, St.step, setS, killS, AV.kill, AV.killL, Mem.kill, ACond_false, List.getD_cons_succ, List.getD_cons_zero, List.set_cons_succ, List.set_cons_zero, List.length_cons, List.length_nil, List.replicate_succ, List.replicate_zero, List.cons_append, List.nil_append, List.contains_nil, List.isEmpty_nil, Option.getD_some, Bool.false_eq_true, if_false, if_true, Nat.zero_add, Nat.add_zero, List.map_cons, List.map_nil, Nat.reduceAdd, Nat.reduceSub, Int.reduceAdd, Int.reduceSub, Try.ntmps73]
  refine acall_v (s41 n c hl) rfl rfl ?_
  simp only [w_move, w_assign, w_binOp, w_aop, w_some, w_asome, w_anone, w_nil, w_cons, awp, binC, cmpC, asB, asI, asN, St.ev, St.step, setS, killS, AV.kill, AV.killL, Mem.kill, ACond_false, List.getD_cons_succ, List.getD_cons_zero, List.set_cons_succ, List.set_cons_zero, List.contains_nil, List.isEmpty_nil, Option.getD_some, Bool.false_eq_true, if_false, if_true, true_and, Bool.true_and, Nat.reduceAdd, Int.reduceAdd]
  by_cases h : vC n c = 0
  · simp only [w_move, w_callF, w_aop, w_cons, awp, St.ev, St.step, setS, killS, AV.kill, AV.killL, Mem.kill, ACond_false, List.getD_cons_succ, List.getD_cons_zero, List.set_cons_succ, List.set_cons_zero, List.contains_nil, List.isEmpty_nil, if_true, Bool.not_true, List.map_cons, List.map_nil, Nat.reduceAdd, Int.reduceAdd, decide_eq_true h]
    refine acall_v (s41 n d hl') rfl rfl ?_
    simp only [w_assign, w_aop, w_anone, w_nil, w_cons, awp, asN, St.ev, St.step, setS, killS, AV.kill, AV.killL, Mem.kill, List.getD_cons_succ, List.getD_cons_zero, List.set_cons_succ, List.set_cons_zero, List.contains_nil, List.isEmpty_nil, Option.getD_some, Bool.false_eq_true, if_false, if_true]
    exact aend_frz rfl ⟨by rw [vC2, if_pos h]; rfl, rfl⟩
  · simp only [w_move, w_assign, w_aop, w_anone, w_nil, w_cons, awp, asN, St.ev, St.step, setS, killS, AV.kill, AV.killL, Mem.kill, ACond_true, ACond_false, List.getD_cons_succ, List.getD_cons_zero, List.set_cons_succ, List.set_cons_zero, List.contains_nil, List.isEmpty_nil, Option.getD_some, Bool.false_eq_true, if_false, if_true, Bool.not_false, Nat.reduceAdd, Int.reduceAdd, decide_eq_false h]
    exact aend_frz rfl ⟨by rw [vC2, if_neg h]; rfl, rfl⟩
end Go.Proofs.Ytkmbbbemmohmcaa

namespace Go.Proofs.Ytkmbbbemmohmcaa
open Aw Go.RowKit
set_option linter.unusedSimpArgs false

def cmpI (x y : Int) : Int := if x < y then -1 else if y < x then 1 else 0
def orL : List Int → Int
  | [] => 0
  | x :: l => if x = 0 then orL l else x
def cmpG (g h : G4) : Int := orL [cmpI g.k h.k, cmpI g.a h.a, cmpI g.b h.b, cmpI g.t h.t]

theorem ok119 : okFn Try.prog 119 = true := by kernel_rfl
theorem s119 (x : Int) : ASpec Try.prog 119 [I x] (fun r Ms => r = B false ∧ Ms = []) := by
  refine aspec_of (own := []) Try.func119 rfl ok119 ?_
  simp only [w_move, w_assign, w_binOp, w_aop, w_some, w_asome, w_anone, w_nil, w_cons, awp, binC, cmpC, asI, asN, St.ev, St.step, setS, killS, AV.kill, AV.killL, Mem.kill, ACond_false, List.getD_cons_succ, List.getD_cons_zero, List.set_cons_succ, List.set_cons_zero, List.length_cons, List.length_nil, List.replicate_succ, List.replicate_zero, List.cons_append, List.nil_append, List.contains_nil, List.isEmpty_nil, Option.getD_some, Bool.false_eq_true, if_false, if_true, true_and, Bool.true_and, Bool.not_true, Nat.zero_add, Nat.add_zero, decide_true, Nat.reduceAdd, Nat.reduceSub, Int.reduceAdd, Int.reduceSub, Try.ntmps119]
  exact aend_frz rfl ⟨by simp; rfl, rfl⟩
theorem ok108 : okFn Try.prog 108 = true := by kernel_rfl
theorem s108 (x y : Int) : ASpec Try.prog 108 [I x, I y] (fun r Ms => r = I (cmpI x y) ∧ Ms = []) := by
  refine aspec_of (own := []) Try.func108 rfl ok108 ?_
  simp only [w_move, w_assign, w_callF, w_aop, w_anone, w_nil, w_cons, awp, asN, St.ev, St.step, setS, killS, AV.kill, AV.killL, Mem.kill, ACond_false, List.getD_cons_succ, List.getD_cons_zero, List.set_cons_succ, List.set_cons_zero, List.length_cons, List.length_nil, List.replicate_succ, List.replicate_zero, List.cons_append, List.nil_append, List.contains_nil, List.isEmpty_nil, Option.getD_some, Bool.false_eq_true, if_false, if_true, Nat.zero_add, Nat.add_zero, List.map_cons, List.map_nil, Nat.reduceAdd, Nat.reduceSub, Int.reduceAdd, Int.reduceSub, Try.ntmps108]
  refine acall_v (s119 x) rfl rfl ?_
  simp only [w_move, w_assign, w_callF, w_aop, w_anone, w_nil, w_cons, awp, asN, St.ev, St.step, setS, killS, AV.kill, AV.killL, Mem.kill, ACond_false, List.getD_cons_succ, List.getD_cons_zero, List.set_cons_succ, List.set_cons_zero, List.contains_nil, List.isEmpty_nil, Option.getD_some, Bool.false_eq_true, if_false, if_true, List.map_cons, List.map_nil, Nat.reduceAdd, Int.reduceAdd]
  refine acall_v (s119 y) rfl rfl ?_
  simp only [w_move, w_assign, w_binOp, w_aop, w_some, w_asome, w_anone, w_nil, w_cons, awp, binC, cmpC, asB, asI, asN, St.ev, St.step, setS, killS, AV.kill, AV.killL, Mem.kill, ACond_false, List.getD_cons_succ, List.getD_cons_zero, List.set_cons_succ, List.set_cons_zero, List.contains_nil, List.isEmpty_nil, Option.getD_some, Bool.false_eq_true, if_false, if_true, true_and, Bool.true_and, Nat.reduceAdd, Int.reduceAdd]
  by_cases h1 : x < y
  · simp only [w_assign, w_aop, w_anone, w_nil, w_cons, awp, asN, St.ev, St.step, setS, killS, AV.kill, AV.killL, Mem.kill, ACond_true, ACond_false, List.set_cons_succ, List.set_cons_zero, List.contains_nil, List.isEmpty_nil, Option.getD_some, Bool.false_eq_true, if_false, if_true, Nat.reduceAdd, Int.reduceAdd, Int.reduceNeg, decide_eq_true h1]
    exact aend_frz rfl ⟨by simp [cmpI, h1]; rfl, rfl⟩
  simp only [w_move, w_binOp, w_aop, w_some, w_asome, w_nil, w_cons, awp, binC, cmpC, asB, asI, St.ev, St.step, setS, killS, AV.kill, AV.killL, Mem.kill, ACond_false, List.getD_cons_succ, List.getD_cons_zero, List.set_cons_succ, List.set_cons_zero, List.contains_nil, List.isEmpty_nil, if_true, true_and, Bool.true_and, Nat.reduceAdd, Int.reduceAdd, decide_eq_false h1]
  by_cases h2 : y < x
  · simp only [w_assign, w_aop, w_anone, w_nil, w_cons, awp, asN, St.ev, St.step, setS, killS, AV.kill, AV.killL, Mem.kill, ACond_true, ACond_false, List.set_cons_succ, List.set_cons_zero, List.contains_nil, List.isEmpty_nil, Option.getD_some, Bool.false_eq_true, if_false, if_true, Nat.reduceAdd, Int.reduceAdd, decide_eq_true h2]
    exact aend_frz rfl ⟨by simp [cmpI, h1, h2]; rfl, rfl⟩
  simp only [w_assign, w_aop, w_anone, w_nil, w_cons, awp, asN, St.ev, St.step, setS, killS, AV.kill, AV.killL, Mem.kill, ACond_false, List.set_cons_succ, List.set_cons_zero, List.contains_nil, List.isEmpty_nil, Option.getD_some, Bool.false_eq_true, if_false, if_true, Nat.reduceAdd, Int.reduceAdd, decide_eq_false h2]
  exact aend_frz rfl ⟨by simp [cmpI, h1, h2]; rfl, rfl⟩

theorem orL_skip (l : List Int) (k : Nat) (h : ∀ j, j < k → ∀ hj : j < l.length, l[j] = 0) : orL l = orL (l.drop k) := by
  induction k generalizing l with
  | zero => rfl
  | succ k ih =>
    cases l with
    | nil => rfl
    | cons x l =>
      have h0 := h 0 (by omega) (by simp)
      simp only [List.getElem_cons_zero] at h0
      rw [orL, if_pos h0, List.drop_succ_cons]
      exact ih l fun j hj hl => by have := h (j + 1) (by omega) (by simp; omega); simpa using this

theorem ok107 : okFn Try.prog 107 = true := by kernel_rfl
theorem s107 (l : List Int) (hl : l.length ≤ 1000000) : ASpec Try.prog 107 [.s 1 (intsA l)] (fun r Ms => r = I (orL l) ∧ Ms = []) := by
  refine aspec_of (own := []) Try.func107 rfl ok107 ?_
  simp only [w_move, w_assign, w_len, w_aop, w_some, w_asome, w_anone, w_nil, w_cons, awp, asN, lenA, St.ev, St.step, setS, killS, AV.kill, AV.killL, Mem.kill, ACond_false, List.getD_cons_succ, List.getD_cons_zero, List.set_cons_succ, List.set_cons_zero, List.length_cons, List.length_nil, List.replicate_succ, List.replicate_zero, List.cons_append, List.nil_append, List.contains_nil, List.isEmpty_nil, Option.getD_some, Bool.false_eq_true, if_false, if_true, true_and, Bool.true_and, Option.isSome_some, Nat.zero_add, Nat.add_zero, Nat.reduceAdd, Nat.reduceSub, Int.reduceAdd, Int.reduceSub, intsA_len, ti31, Try.ntmps107]
  refine swp_loop' (fun k : Nat => ⟨[.bot, .bot, .bot, I 0, .bot, .bot, .s 1 (intsA l), I l.length, I k, .bot, .bot, .bot, .bot, .bot, .bot, .bot, .bot, .bot], []⟩) (fun k => k ≤ l.length ∧ ∀ j, j < k → ∀ hj : j < l.length, l[j] = 0) (fun k => l.length - k) 0 (le_sl (by simp [leSl, intsA_len])) ⟨Nat.zero_le _, by omega⟩ ?_
  rintro k ⟨hk, hno⟩
  refine awp_sound (own := []) _ _ _ _ _ ?_
  simp only [w_binOp, w_aop, w_some, w_asome, w_nil, w_cons, awp, binC, cmpC, asB, asI, St.ev, St.step, setS, killS, AV.kill, AV.killL, Mem.kill, ACond_false, List.getD_cons_succ, List.getD_cons_zero, List.set_cons_succ, List.set_cons_zero, List.contains_nil, List.isEmpty_nil, if_true, true_and, Bool.true_and, Nat.reduceAdd, Int.reduceAdd]
  by_cases h : k < l.length
  · have h' : (k : Int) < (l.length : Int) := by omega
    simp only [w_move, w_assign, w_load, w_indexAddr, w_binOp, w_aop, w_some, w_asome, w_anone, w_nil, w_cons, awp, binC, idxC, cmpC, asP, asS, asB, asI, asN, loadA, St.ev, St.step, setS, killS, AV.kill, AV.killL, Mem.kill, AV.cells, AV.flat, AV.single, ACond_true, ACond_false, List.getD_cons_succ, List.getD_cons_zero, List.set_cons_succ, List.set_cons_zero, List.getElem?_cons_zero, List.contains_nil, List.isEmpty_nil, Option.getD_some, Bool.false_eq_true, if_false, if_true, true_and, and_true, List.all_cons, List.all_nil, Bool.and_true, Bool.true_and, Bool.not_true, Nat.reduceAdd, Int.reduceAdd, ti3, ti31, decide_eq_true h', aget_ints h, Int.toNat_natCast]
    refine ⟨by omega, ?_⟩
    by_cases hx : l[k] = 0
    · simp only [w_move, w_binOp, w_aop, w_some, w_asome, w_anone, w_nil, w_cons, awp, binC, arithC, cmpC, asI, St.ev, St.step, setS, killS, AV.kill, AV.killL, Mem.kill, ACond_false, List.getD_cons_succ, List.getD_cons_zero, List.set_cons_succ, List.set_cons_zero, List.contains_nil, List.isEmpty_nil, if_true, true_and, and_true, Bool.and_true, Bool.true_and, Bool.not_true, Nat.reduceAdd, Int.reduceAdd, decide_eq_true hx]
      exact ⟨by unfold lim; omega, k + 1, le_sl (by simp [leSl, intsA_len]), ⟨h, upto hno fun _ => hx⟩, by omega⟩
    · simp only [w_move, w_assign, w_aop, w_anone, w_nil, w_cons, awp, asN, St.ev, St.step, setS, killS, AV.kill, AV.killL, Mem.kill, ACond_true, ACond_false, List.getD_cons_succ, List.getD_cons_zero, List.set_cons_succ, List.set_cons_zero, List.contains_nil, List.isEmpty_nil, Option.getD_some, Bool.false_eq_true, if_false, if_true, Bool.not_false, Nat.reduceAdd, Int.reduceAdd, decide_eq_false hx]
      exact aend_frz rfl ⟨by rw [orL_skip l k hno, List.drop_eq_getElem_cons h, orL, if_neg hx]; rfl, rfl⟩
  · have h' : ¬ (k : Int) < (l.length : Int) := by omega
    simp only [w_move, w_assign, w_aop, w_anone, w_nil, w_cons, awp, asN, St.ev, St.step, setS, killS, AV.kill, AV.killL, Mem.kill, ACond_false, List.getD_cons_succ, List.getD_cons_zero, List.set_cons_succ, List.set_cons_zero, List.contains_nil, List.isEmpty_nil, Option.getD_some, Bool.false_eq_true, if_false, if_true, Nat.reduceAdd, Int.reduceAdd, decide_eq_false h']
    exact aend_frz rfl ⟨by rw [orL_skip l l.length (fun j hj hl => hno j (by omega) hl), List.drop_length]; rfl, rfl⟩

theorem ok90 : okFn Try.prog 90 = true := by kernel_rfl
theorem s90 (g h : G4) : ASpec Try.prog 90 [gA g, gA h] (fun r Ms => r = I (cmpG g h) ∧ Ms = []) := by
  refine aspec_of (own := []) Try.func90 rfl ok90 ?_
  simp only [w_assign, w_box, w_aop, w_anone, w_nil, w_cons, awp, asN, St.ev, St.step, setS, killS, AV.kill, AV.killL, Mem.kill, AV.cellular, AV.pure, AV.pureL, ACond_false, List.getD_cons_succ, List.getD_cons_zero, List.set_cons_succ, List.set_cons_zero, List.length_cons, List.length_nil, List.replicate_succ, List.replicate_zero, List.cons_append, List.nil_append, List.contains_nil, List.isEmpty_nil, Option.getD_some, Bool.false_eq_true, if_false, if_true, true_and, and_true, Bool.and_true, Bool.true_and, Nat.zero_add, Nat.add_zero, Nat.reduceAdd, Nat.reduceSub, Int.reduceAdd, Int.reduceSub, Try.ntmps90, gA]
  refine swp_draw (own := []) (.take 0 .plain [] (.take 1 .reads [] (.take 2 .plain [] (.take 3 .reads [] (.take 5 .plain [] (.take 6 .reads [] (.take 7 .plain [] (.take 8 .reads [] (.take 10 .plain [] (.take 11 .reads [] (.take 12 .plain [] (.take 13 .reads [] (.take 15 .plain [] (.take 16 .reads [] (.take 17 .plain [] (.take 18 .reads [] (.alt 4 (.alt 9 (.alt 14 (.alt 19 (.take 20 .plain [] (.alt 21 (.take 22 .plain [] (.done)) (.nil))) (.nil)) (.nil)) (.nil)) (.nil)))))))))))))))))) [⟨6, 4, 0, 0, true⟩, ⟨7, 32, 1, 0, true⟩, ⟨8, 8, 0, 0, true⟩, ⟨9, 128, 4, 0, true⟩, ⟨10, 320, 10, 0, false⟩, ⟨11, 4, 0, 0, true⟩, ⟨12, 1024, 32, 0, true⟩, ⟨13, 8, 0, 0, true⟩, ⟨14, 4096, 128, 0, true⟩, ⟨15, 10240, 336, 0, false⟩, ⟨16, 4, 0, 0, true⟩, ⟨17, 32768, 1024, 0, true⟩, ⟨18, 8, 0, 0, true⟩, ⟨19, 131072, 4096, 0, true⟩, ⟨20, 327680, 10752, 0, false⟩, ⟨21, 4, 0, 0, true⟩, ⟨22, 1048576, 32768, 0, true⟩, ⟨23, 8, 0, 0, true⟩, ⟨24, 4194304, 131072, 0, true⟩, ⟨25, 10485760, 344064, 0, false⟩, ⟨26, 17318400, 541200, 0, true⟩, ⟨27, 33554432, 1572864, 0, false⟩, ⟨5, 67108864, 4194303, 0, true⟩] mo (by kernel_rfl) ?_
  simp only [w_load, w_fieldAddr, w_callF, w_aop, w_take, w_some, w_asome, asP, loadA, St.ev, setS, AV.cells, AV.flat, AV.single, List.getD_cons_succ, List.getD_cons_zero, List.set_cons_succ, List.set_cons_zero, List.getElem?_cons_succ, List.getElem?_cons_zero, List.length_cons, List.length_nil, Bool.false_eq_true, if_false, if_true, true_and, and_true, List.all_cons, List.all_nil, Bool.and_true, Bool.true_and, Bool.not_true, Nat.zero_add, Nat.add_zero, beq_self_eq_true, List.map_cons, List.map_nil, decide_true, nbeq, decide_false, Bool.and_false, Nat.reduceAdd, Nat.reduceEqDiff, Nat.reduceLeDiff, Int.reduceAdd, ASch, St.put, Md.mem, Md.need, ne_eq, not_false_eq_true, ti3, ti24]
  refine acall_v (s108 g.k h.k) rfl rfl ?_
  simp only [w_callF, w_aop, w_some, St.ev, St.step, setS, killS, AV.kill, AV.killL, Mem.kill, List.getD_cons_succ, List.getD_cons_zero, List.set_cons_succ, List.set_cons_zero, List.getElem?_cons_succ, List.getElem?_cons_zero, List.isEmpty_nil, if_true, and_true, Bool.and_true, List.map_cons, List.map_nil, ASch]
  refine acall_v (s108 g.a h.a) rfl rfl ?_
  simp only [w_callF, w_aop, w_some, St.ev, St.step, setS, killS, AV.kill, AV.killL, Mem.kill, List.getD_cons_succ, List.getD_cons_zero, List.set_cons_succ, List.set_cons_zero, List.getElem?_cons_succ, List.getElem?_cons_zero, List.isEmpty_nil, if_true, and_true, Bool.and_true, List.map_cons, List.map_nil, ASch]
  refine acall_v (s108 g.b h.b) rfl rfl ?_
  simp only [w_callF, w_aop, w_some, St.ev, St.step, setS, killS, AV.kill, AV.killL, Mem.kill, List.getD_cons_succ, List.getD_cons_zero, List.set_cons_succ, List.set_cons_zero, List.getElem?_cons_succ, List.getElem?_cons_zero, List.isEmpty_nil, if_true, and_true, Bool.and_true, List.map_cons, List.map_nil, ASch]
  refine acall_v (s108 g.t h.t) rfl rfl ?_
  simp only [w_buildSlice, w_callF, w_aop, w_take, w_some, St.ev, St.step, setS, killS, AV.kill, AV.killL, Mem.kill, AV.cells, AV.flat, AV.single, AV.cellular, AV.size, AV.pure, AV.pureL, ACond_false, Value.oneCell', List.getD_cons_succ, List.getD_cons_zero, List.set_cons_succ, List.set_cons_zero, List.getElem?_cons_succ, List.getElem?_cons_zero, List.contains_nil, List.isEmpty_nil, Option.getD_some, if_true, true_and, and_true, List.all_cons, List.all_nil, Bool.and_true, Bool.true_and, List.map_cons, List.map_nil, decide_true, nbeq, Nat.reduceMul, Nat.reduceLeDiff, Int.reduceMul, ASch, St.put, Md.mem, Md.need, ti3, ti31]
  refine ⟨⟨by decide, rfl⟩, acall_v (s107 [cmpI g.k h.k, cmpI g.a h.a, cmpI g.b h.b, cmpI g.t h.t] (by simp)) rfl rfl ?_⟩
  simp only [w_assign, w_take, w_some, w_anone, awp, asN, St.ev, St.step, setS, killS, AV.kill, AV.killL, Mem.kill, List.getD_cons_succ, List.getD_cons_zero, List.set_cons_succ, List.set_cons_zero, List.getElem?_cons_succ, List.getElem?_cons_zero, List.contains_nil, List.isEmpty_nil, Option.getD_some, Bool.false_eq_true, if_false, if_true, true_and, Bool.true_and, ASch, St.put, Md.mem, Md.need]
  exact aend_frz rfl ⟨rfl, rfl⟩

/-- whether the gate i is bound to none before it. -/
def fst1 (bd : G4 → G4 → Bool) (l : List G4) (i : Nat) : Bool := (l.take i).all fun h => !bd (l.getD i default) h
def fsN (bd : G4 → G4 → Bool) (l : List G4) (k : Nat) : List Nat := (List.range k).filter (fst1 bd l)
def fsI (bd : G4 → G4 → Bool) (l : List G4) (k : Nat) : List Int := (fsN bd l k).map fun i : Nat => (i : Int)
theorem fsI_succ (bd : G4 → G4 → Bool) (l : List G4) (k : Nat) : fsI bd l (k + 1) = if fst1 bd l k then fsI bd l k ++ [(k : Int)] else fsI bd l k := by
  unfold fsI fsN
  rw [List.range_succ, List.filter_append]
  cases h : fst1 bd l k <;> simp [h]
theorem fsI_len (bd : G4 → G4 → Bool) (l : List G4) (k : Nat) : (fsI bd l k).length ≤ k := by
  unfold fsI fsN
  rw [List.length_map]
  exact Nat.le_trans (List.length_filter_le _ _) (by simp)
theorem fst1_false {bd : G4 → G4 → Bool} {l : List G4} {i j : Nat} (hi : i < l.length) (hj : j < i) (h : bd l[i] l[j] = true) : fst1 bd l i = false := by
  unfold fst1
  rw [List.all_eq_false]
  refine ⟨l[j], ?_, ?_⟩
  · exact List.mem_take_iff_getElem.2 ⟨j, by omega, rfl⟩
  · simp [hi, h]
theorem fst1_true {bd : G4 → G4 → Bool} {l : List G4} {i : Nat} (hi : i < l.length) (h : ∀ j, j < i → ∀ hj : j < l.length, bd l[i] l[j] = false) : fst1 bd l i = true := by
  unfold fst1
  rw [List.all_eq_true]
  intro x hx
  obtain ⟨j, hj, rfl⟩ := List.mem_take_iff_getElem.1 hx
  have := h j (by omega) (by omega)
  simp [hi, this]

theorem ok58 : okFn Try.prog 58 = true := by kernel_rfl
theorem s58 (l : List G4) (hl : l.length ≤ 1000000) : ASpec Try.prog 58 [.s 4 (gtsA l)] (fun r Ms => r = .s 1 (intsA (fsI G4.bound l l.length)) ∧ Ms = []) := by
  refine aspec_of (own := [3]) Try.func58 rfl ok58 ?_
  simp only [w_move, w_assign, w_len, w_aop, w_some, w_asome, w_anone, w_nil, w_cons, awp, asN, lenA, Aw.newRow, St.ev, St.step, setS, killS, AV.kill, AV.killL, Mem.kill, ACond_false, List.getD_cons_succ, List.getD_cons_zero, List.set_cons_succ, List.set_cons_zero, List.length_cons, List.length_nil, List.replicate_succ, List.replicate_zero, List.cons_append, List.nil_append, List.contains_nil, List.contains_cons, List.isEmpty_nil, Option.getD_some, Bool.false_eq_true, if_false, if_true, true_and, Bool.true_and, Option.isSome_some, Nat.zero_add, Nat.add_zero, beq_self_eq_true, nbeq, decide_false, Bool.or_false, Nat.reduceAdd, Nat.reduceEqDiff, Nat.reduceSub, Int.reduceAdd, Int.reduceSub, gtsA_len, ti3, ti31, ti60, Try.ntmps58]
  refine swp_loop' (fun k : Nat => ⟨[.s 4 (gtsA l), .bot, .bot, .o 0, .bot, .bot, .bot, .bot, .s 4 (gtsA l), I l.length, I k, .bot, .bot, .bot, .bot, .bot, .bot, .bot, .bot, .bot, .bot, .bot, .bot, .bot, .bot, .bot, .bot, .bot, .bot, .bot, .bot, .bot, .bot], [some ⟨none, 3, 1, intsA (fsI G4.bound l k)⟩]⟩) (fun k => k ≤ l.length) (fun k => l.length - k) 0 (le_sl (by simp [leSl])) (Nat.zero_le _) ?_
  intro k hk
  refine awp_sound (own := [3]) _ _ _ _ _ ?_
  simp only [w_binOp, w_aop, w_some, w_asome, w_nil, w_cons, awp, binC, cmpC, asB, asI, St.ev, St.step, setS, killS, AV.kill, AV.killL, Mem.kill, ACond_false, List.getD_cons_succ, List.getD_cons_zero, List.set_cons_succ, List.set_cons_zero, List.contains_nil, List.contains_cons, List.isEmpty_nil, Bool.false_eq_true, if_false, if_true, true_and, Bool.true_and, nbeq, decide_false, Bool.or_false, Nat.reduceAdd, Nat.reduceEqDiff, Int.reduceAdd]
  by_cases h : k < l.length
  · have h' : (k : Int) < (l.length : Int) := by omega
    simp only [w_move, w_assign, w_alloc, w_load, w_store, w_indexAddr, w_slice, w_len, w_aop, w_some, w_asome, w_anone, w_nil, w_cons, awp, idxC, asP, asQ, asS, asI, asN, obA, AGet_zero, bndA, lenA, loadA, storeA, putsA, mkA, Aw.newRow, St.ev, St.step, setS, killS, AV.kill, AV.killL, Mem.kill, AV.cells, AV.flat, AV.single, AV.cellular, ACond_true, ACond_false, List.getD_cons_succ, List.getD_cons_zero, List.set_cons_succ, List.set_cons_zero, List.getElem?_cons_succ, List.getElem?_cons_zero, List.length_cons, List.length_nil, List.cons_append, List.nil_append, List.contains_nil, List.contains_cons, List.isEmpty_nil, Option.getD_some, Option.getD_none, Bool.false_eq_true, if_false, if_true, true_and, and_true, List.all_cons, List.all_nil, Bool.and_true, Bool.true_and, Bool.not_true, Option.isSome_some, Nat.zero_add, beq_self_eq_true, List.map_cons, List.map_nil, decide_true, nbeq, decide_false, Bool.or_false, Nat.reduceAdd, Nat.reduceEqDiff, Nat.reduceLeDiff, Int.reduceAdd, Int.reduceLE, Int.toNat_zero, gtsA_len, ti24, ti60, decide_eq_true h', aget_gts h, Int.toNat_natCast]
    refine ⟨by omega, ⟨by omega, by omega⟩, ?_⟩
    refine swp_loop' (fun j : Nat => ⟨[.s 4 (gtsA l), .bot, .bot, .o 0, I k, .q 1 4 0 0, .bot, .bot, .s 4 (gtsA l), I l.length, I k, .bot, .bot, .bot, .bot, .bot, .bot, .s 4 (gtsA (l.take k)), I (l.take k).length, I j, .bot, .bot, .bot, .bot, .bot, .bot, .bot, .bot, .bot, .bot, .bot, .bot, .bot], [some ⟨none, 3, 1, intsA (fsI G4.bound l k)⟩, some ⟨none, 24, 4, [.g [I l[k].k, I l[k].a, I l[k].b, I l[k].t]]⟩]⟩)
      (fun j => j ≤ k ∧ ∀ i, i < j → ∀ hi : i < l.length, G4.bound l[k] l[i] = false) (fun j => k - j) 0 (le_sl (by simp [leSl, gtsA_take, gtsA_len])) ⟨Nat.zero_le _, by omega⟩ ?_
    rintro j ⟨hj, hno⟩
    have hlen : (l.take k).length = k := by simp; omega
    refine awp_sound (own := [3]) _ _ _ _ _ ?_
    simp only [w_binOp, w_aop, w_some, w_asome, w_nil, w_cons, awp, binC, cmpC, asB, asI, St.ev, St.step, setS, killS, AV.kill, AV.killL, Mem.kill, ACond_false, List.getD_cons_succ, List.getD_cons_zero, List.set_cons_succ, List.set_cons_zero, List.contains_nil, List.contains_cons, List.isEmpty_nil, Bool.false_eq_true, if_false, if_true, true_and, Bool.true_and, nbeq, decide_false, Bool.or_false, Nat.reduceAdd, Nat.reduceEqDiff, Int.reduceAdd, hlen]
    by_cases hjk : j < k
    · have hjk' : (j : Int) < (k : Int) := by omega
      have hjl : j < (l.take k).length := by omega
      have hje : (l.take k)[j] = l[j] := by simp
      simp only [w_alloc, w_load, w_store, w_indexAddr, w_callF, w_aop, w_some, w_asome, w_anone, w_nil, w_cons, awp, idxC, asP, asQ, asS, asI, obA, AGet_zero, loadA, storeA, putsA, mkA, Aw.newRow, St.ev, St.step, setS, killS, AV.kill, AV.killL, Mem.kill, AV.cells, AV.flat, AV.single, AV.cellular, ACond_true, ACond_false, List.getD_cons_succ, List.getD_cons_zero, List.set_cons_succ, List.set_cons_zero, List.getElem?_cons_succ, List.getElem?_cons_zero, List.length_cons, List.length_nil, List.cons_append, List.nil_append, List.contains_nil, List.contains_cons, List.isEmpty_nil, Bool.false_eq_true, if_false, if_true, true_and, and_true, List.all_cons, List.all_nil, Bool.and_true, Bool.true_and, Bool.not_true, Nat.zero_add, beq_self_eq_true, List.map_cons, List.map_nil, decide_true, nbeq, decide_false, Bool.or_false, Nat.reduceAdd, Nat.reduceEqDiff, Nat.reduceLeDiff, Int.reduceAdd, ti24, ti60, decide_eq_true hjk', aget_gts hjl, hje, Int.toNat_natCast]
      refine ⟨by omega, acall_v (s57 l[k] l[j]) rfl rfl ?_⟩
      cases hb : G4.bound l[k] l[j] with
      | true =>
        simp only [w_move, w_assign, w_binOp, w_buildSlice, w_append, w_aop, w_some, w_asome, w_anone, w_nil, w_cons, awp, binC, arithC, cmpC, asO, asS, asB, asI, asN, obA, St.ev, St.step, setS, killS, AV.kill, AV.killL, Mem.kill, AV.cells, AV.flat, AV.single, AV.cellular, AV.size, AV.pure, AV.pureL, ACond_true, ACond_false, Value.oneCell', List.getD_cons_succ, List.getD_cons_zero, List.set_cons_succ, List.set_cons_zero, List.getElem?_cons_zero, List.length_cons, List.length_nil, List.contains_nil, List.contains_cons, List.isEmpty_nil, List.isEmpty_cons, Option.getD_some, Bool.false_eq_true, if_false, if_true, true_and, and_true, List.all_cons, List.all_nil, Bool.and_true, Bool.true_and, Nat.zero_add, beq_self_eq_true, List.map_cons, List.map_nil, decide_true, nbeq, decide_false, Bool.or_false, Nat.reduceAdd, Nat.reduceEqDiff, Nat.reduceMul, Nat.reduceLeDiff, Int.reduceAdd, Int.reduceMul, Option.map_some, intsA_len, ti3, ti31]
        refine ⟨by unfold lim; omega, k + 1, ?_, h, by omega⟩
        rw [fsI_succ, fst1_false h hjk hb, if_neg (by simp)]
        exact le_cut (Mx := [_, _]) (M' := [_]) (by simp [leSl]) rfl (by simp [AV.freeL, AV.free, freeL_pure, gtsA_pure]) (by simp [freeM, AV.freeL, freeL_pure, intsA_pure])
      | false =>
        simp only [w_move, w_binOp, w_aop, w_some, w_asome, w_anone, w_nil, w_cons, awp, binC, arithC, cmpC, asB, asI, St.ev, St.step, setS, killS, AV.kill, AV.killL, Mem.kill, ACond_false, List.getD_cons_succ, List.getD_cons_zero, List.set_cons_succ, List.set_cons_zero, List.contains_nil, List.contains_cons, List.isEmpty_nil, Bool.false_eq_true, if_false, if_true, true_and, and_true, Bool.and_true, Bool.true_and, nbeq, decide_false, Bool.or_false, Nat.reduceAdd, Nat.reduceEqDiff, Int.reduceAdd]
        refine ⟨by unfold lim; omega, j + 1, ?_, ⟨hjk, upto hno fun _ => hb⟩, by omega⟩
        exact le_cut (Mx := [_]) (M' := [_, _]) (by simp [leSl, hlen]) rfl (by simp [AV.freeL, AV.free, freeL_pure, gtsA_pure]) (by simp [freeM, AV.freeL, AV.free, freeL_pure, intsA_pure])
    · have hjk' : ¬ (j : Int) < (k : Int) := by omega
      simp only [w_move, w_assign, w_binOp, w_buildSlice, w_append, w_aop, w_some, w_asome, w_anone, w_nil, w_cons, awp, binC, arithC, cmpC, asO, asS, asI, asN, obA, St.ev, St.step, setS, killS, AV.kill, AV.killL, Mem.kill, AV.cells, AV.flat, AV.single, AV.cellular, AV.size, AV.pure, AV.pureL, ACond_false, Value.oneCell', List.getD_cons_succ, List.getD_cons_zero, List.set_cons_succ, List.set_cons_zero, List.getElem?_cons_zero, List.length_cons, List.length_nil, List.contains_nil, List.contains_cons, List.isEmpty_nil, List.isEmpty_cons, Option.getD_some, Bool.false_eq_true, if_false, if_true, true_and, and_true, List.all_cons, List.all_nil, Bool.and_true, Bool.true_and, Nat.zero_add, beq_self_eq_true, List.map_cons, List.map_nil, decide_true, nbeq, decide_false, Bool.or_false, Nat.reduceAdd, Nat.reduceEqDiff, Nat.reduceMul, Nat.reduceLeDiff, Int.reduceAdd, Int.reduceMul, Option.map_some, intsA_len, ti3, ti31, decide_eq_false hjk']
      have hfl := fsI_len G4.bound l k
      refine ⟨⟨by decide, rfl⟩, ⟨by decide, by omega⟩, by unfold lim; omega, k + 1, ?_, h, by omega⟩
      have hf1 : fst1 G4.bound l k = true := fst1_true h fun j hj hjl => hno j (by omega) hjl
      rw [fsI_succ, hf1, if_pos rfl, intsA_kill, intsA_app]
      exact le_cut (Mx := [_]) (M' := [_]) (by simp [leSl]) rfl (by simp [AV.freeL, AV.free, freeL_pure, gtsA_pure]) (by simp [freeM, AV.freeL, freeL_pure, intsA_pure])
  · have h' : ¬ (k : Int) < (l.length : Int) := by omega
    have hk' : k = l.length := by omega
    subst hk'
    simp only [w_move, w_assign, w_aop, w_anone, w_nil, w_cons, awp, asN, St.ev, St.step, setS, killS, AV.kill, AV.killL, Mem.kill, ACond_false, List.getD_cons_succ, List.getD_cons_zero, List.set_cons_succ, List.set_cons_zero, List.contains_nil, List.contains_cons, List.isEmpty_nil, Option.getD_some, Bool.false_eq_true, if_false, if_true, nbeq, decide_false, Bool.or_false, Nat.reduceAdd, Nat.reduceEqDiff, Int.reduceAdd, decide_eq_false h']
    exact aend_frz rfl ⟨by simp [frz, AV.sub, intsA_pure], rfl⟩

def fstP (bd : G4 → G4 → Bool) (l : List G4) (i j : Nat) : Bool := (l.take j).all fun h => !bd (l.getD i default) h
theorem fstP_self (bd : G4 → G4 → Bool) (l : List G4) (i : Nat) : fstP bd l i i = fst1 bd l i := rfl
theorem fstP_succ (bd : G4 → G4 → Bool) (l : List G4) {i j : Nat} (hi : i < l.length) (hj : j < l.length) : fstP bd l i (j + 1) = (fstP bd l i j && !bd l[i] l[j]) := by
  unfold fstP
  rw [List.take_add_one, List.all_append]
  simp [hj, hi]

/-- bound, the other way round. -/
def bdr (g h : G4) : Bool := G4.bound' h g
theorem ok71 : okFn Try.prog 71 = true := by kernel_rfl
theorem s71 (l : List G4) (hl : l.length ≤ 1000000) : ASpec Try.prog 71 [.s 4 (gtsA l)] (fun r Ms => r = .s 1 (intsA (fsI bdr l l.length)) ∧ Ms = []) := by
  refine aspec_of (own := [3]) Try.func71 rfl ok71 ?_
  simp only [w_assign, w_aop, w_some, w_asome, w_anone, w_nil, w_cons, awp, asN, Aw.newRow, St.ev, St.step, setS, killS, AV.kill, AV.killL, Mem.kill, ACond_false, List.set_cons_succ, List.set_cons_zero, List.length_cons, List.length_nil, List.replicate_succ, List.replicate_zero, List.cons_append, List.nil_append, List.contains_nil, List.contains_cons, List.isEmpty_nil, Option.getD_some, Bool.false_eq_true, if_false, if_true, Nat.zero_add, Nat.add_zero, beq_self_eq_true, nbeq, decide_false, Bool.or_false, Nat.reduceAdd, Nat.reduceEqDiff, Nat.reduceSub, Int.reduceAdd, Int.reduceSub, ti3, ti31, Try.ntmps71]
  refine swp_loop' (fun k : Nat => ⟨[.s 4 (gtsA l), .bot, .bot, .o 0, I k, .bot, .bot, .bot, .bot, .bot, .bot, .bot, .bot, .bot, .bot, .bot, .bot, .bot, .bot, .bot, .bot, .bot, .bot, .bot, .bot, .bot, .bot, .bot, .bot, .bot, .bot, .bot, .bot, .bot, .bot, .bot, .bot], [some ⟨none, 3, 1, intsA (fsI bdr l k)⟩]⟩) (fun k => k ≤ l.length) (fun k => l.length - k) 0 (le_sl (by simp [leSl])) (Nat.zero_le _) ?_
  intro k hk
  refine awp_sound (own := [3]) _ _ _ _ _ ?_
  simp only [w_move, w_binOp, w_len, w_aop, w_some, w_asome, w_nil, w_cons, awp, binC, cmpC, asB, asI, lenA, St.ev, St.step, setS, killS, AV.kill, AV.killL, Mem.kill, ACond_false, List.getD_cons_succ, List.getD_cons_zero, List.set_cons_succ, List.set_cons_zero, List.contains_nil, List.contains_cons, List.isEmpty_nil, Bool.false_eq_true, if_false, if_true, true_and, Bool.true_and, Option.isSome_some, nbeq, decide_false, Bool.or_false, Nat.reduceAdd, Nat.reduceEqDiff, Int.reduceAdd, gtsA_len, ti22]
  by_cases h : k < l.length
  · have h' : (k : Int) < (l.length : Int) := by omega
    simp only [w_assign, w_aop, w_anone, w_nil, w_cons, awp, asN, St.ev, St.step, setS, killS, AV.kill, AV.killL, Mem.kill, ACond_true, ACond_false, List.set_cons_succ, List.set_cons_zero, List.contains_nil, List.contains_cons, List.isEmpty_nil, Option.getD_some, Bool.false_eq_true, if_false, if_true, nbeq, decide_false, Bool.or_false, Nat.reduceAdd, Nat.reduceEqDiff, Int.reduceAdd, decide_eq_true h']
    refine swp_loop' (fun j : Nat => ⟨[.s 4 (gtsA l), .bot, .bot, .o 0, I k, B (fstP bdr l k j), I j, .bot, .bot, .bot, .bot, .bot, .bot, .bot, .bot, .bot, .bot, .bot, .bot, .bot, .bot, .bot, .bot, .bot, .bot, .bot, .bot, .bot, .bot, .bot, .bot, .bot, .bot, .bot, .bot, .bot, .bot], [some ⟨none, 3, 1, intsA (fsI bdr l k)⟩]⟩) (fun j => j ≤ k) (fun j => k - j) 0 (le_sl (by simp [leSl, fstP])) (Nat.zero_le _) ?_
    intro j hj
    refine awp_sound (own := [3]) _ _ _ _ _ ?_
    simp only [w_move, w_binOp, w_aop, w_some, w_asome, w_nil, w_cons, awp, binC, cmpC, asB, asI, St.ev, St.step, setS, killS, AV.kill, AV.killL, Mem.kill, ACond_false, List.getD_cons_succ, List.getD_cons_zero, List.set_cons_succ, List.set_cons_zero, List.contains_nil, List.contains_cons, List.isEmpty_nil, Bool.false_eq_true, if_false, if_true, true_and, Bool.true_and, nbeq, decide_false, Bool.or_false, Nat.reduceAdd, Nat.reduceEqDiff, Int.reduceAdd]
    by_cases hjk : j < k
    · have hjk' : (j : Int) < (k : Int) := by omega
      have hjl : j < l.length := by omega
      simp only [awp, ACond_true, decide_eq_true hjk']
      refine swp_draw (own := [3]) (.take 0 .plain [] (.take 1 .plain [] (.take 2 .plain [] (.take 3 .plain [] (.take 4 .reads [] (.take 5 .reads [] (.take 6 .plain [] (.take 7 .plain [] (.take 8 .reads [] (.take 9 .reads [] (.alt 10 (.take 11 .plain [] (.take 12 .plain [] (.take 13 .plain [] (.done)))) (.nil)))))))))))) [⟨19, 32, 0, 0, true⟩, ⟨20, 262144, 1, 0, true⟩, ⟨21, 524289, 2, 0, true⟩, ⟨22, 524352, 2, 0, true⟩, ⟨23, 3670016, 14, 0, true⟩, ⟨24, 4718592, 18, 0, true⟩, ⟨25, 524289, 2, 0, true⟩, ⟨26, 524304, 2, 0, true⟩, ⟨27, 50855936, 194, 0, true⟩, ⟨28, 67633152, 258, 0, true⟩, ⟨29, 143130624, 546, 0, false⟩, ⟨30, 268959744, 1026, 0, true⟩, ⟨31, 537395200, 2050, 0, true⟩, ⟨6, 1073741824, 8191, 0, true⟩] mo (by kernel_rfl) ?_
      simp only [w_move, w_gdb, w_take, w_takeg, w_some, St.ev, setS, List.getD_cons_succ, List.getD_cons_zero, List.set_cons_succ, List.set_cons_zero, List.getElem?_cons_succ, List.getElem?_cons_zero, true_and, Bool.true_and, Option.bind_some, ASch, St.put, Md.mem, Md.need, w_bt]
      cases hp : fstP bdr l k j with
      | false =>
        simp only [w_move, w_assign, w_pick, w_binOp, w_aop, w_aopg, w_gdb, w_take, w_takeg, w_some, w_asome, w_anone, w_nil, w_cons, awp, binC, arithC, cmpC, asB, asI, asN, St.ev, St.step, setS, killS, AV.kill, AV.killL, Mem.kill, ACond_false, List.getD_cons_succ, List.getD_cons_zero, List.set_cons_succ, List.set_cons_zero, List.getElem?_cons_succ, List.getElem?_cons_zero, List.contains_nil, List.contains_cons, List.isEmpty_nil, Option.getD_some, Bool.false_eq_true, if_false, if_true, true_and, and_true, Bool.and_true, Bool.true_and, nbeq, decide_false, Bool.or_false, Nat.reduceAdd, Nat.reduceEqDiff, Int.reduceAdd, Option.bind_some, ASch, St.put, Md.mem, Md.need, w_bt]
        refine ⟨by unfold lim; omega, j + 1, le_sl ?_, hjk, by omega⟩
        rw [fstP_succ bdr l h hjl, hp]
        simp [leSl]
      | true =>
        simp only [w_move, w_load, w_indexAddr, w_callF, w_aopg, w_gdb, w_takeg, w_some, w_asome, idxC, asP, asS, asI, loadA, St.ev, setS, AV.cells, AV.flat, AV.single, ACond_true, List.getD_cons_succ, List.getD_cons_zero, List.set_cons_succ, List.set_cons_zero, List.getElem?_cons_succ, List.getElem?_cons_zero, List.length_cons, List.length_nil, Bool.false_eq_true, if_false, if_true, true_and, and_true, List.all_cons, List.all_nil, Bool.and_true, Bool.true_and, Bool.not_true, Nat.zero_add, beq_self_eq_true, List.map_cons, List.map_nil, decide_true, Nat.reduceAdd, Nat.reduceLeDiff, Int.reduceAdd, Option.bind_some, ASch, St.put, Md.mem, Md.need, ti22, ti24, aget_gts hjl, aget_gts h, Int.toNat_natCast]
        refine ⟨by omega, by omega, acall_v (s77 l[j] l[k]) rfl rfl ?_⟩
        simp only [w_move, w_assign, w_pick, w_binOp, w_not, w_aop, w_gdb, w_take, w_takeg, w_some, w_asome, w_anone, w_nil, w_cons, awp, binC, arithC, cmpC, asB, asI, asN, St.ev, St.step, setS, killS, AV.kill, AV.killL, Mem.kill, ACond_true, ACond_false, List.getD_cons_succ, List.getD_cons_zero, List.set_cons_succ, List.set_cons_zero, List.getElem?_cons_succ, List.getElem?_cons_zero, List.contains_nil, List.contains_cons, List.isEmpty_nil, Option.getD_some, Bool.false_eq_true, if_false, if_true, true_and, and_true, Bool.and_true, Bool.true_and, beq_self_eq_true, nbeq, decide_false, Bool.or_false, Nat.reduceAdd, Nat.reduceEqDiff, Int.reduceAdd, Option.bind_some, ASch, St.put, Md.mem, Md.need]
        refine ⟨by unfold lim; omega, j + 1, le_sl ?_, hjk, by omega⟩
        rw [fstP_succ bdr l h hjl, hp]
        simp [leSl, bdr]
    · have hjk' : ¬ (j : Int) < (k : Int) := by omega
      have hje : j = k := by omega
      subst hje
      simp only [w_move, w_assign, w_binOp, w_aop, w_some, w_asome, w_anone, w_nil, w_cons, awp, binC, arithC, cmpC, asB, asI, asN, St.ev, St.step, setS, killS, AV.kill, AV.killL, Mem.kill, ACond_false, List.getD_cons_succ, List.getD_cons_zero, List.set_cons_succ, List.set_cons_zero, List.contains_nil, List.contains_cons, List.isEmpty_nil, Option.getD_some, Bool.false_eq_true, if_false, if_true, true_and, and_true, Bool.and_true, Bool.true_and, nbeq, decide_false, Bool.or_false, Nat.reduceAdd, Nat.reduceEqDiff, Int.reduceAdd, decide_eq_false hjk']
      cases hp : fstP bdr l j j with
      | true =>
        simp only [w_move, w_assign, w_binOp, w_buildSlice, w_append, w_aop, w_some, w_asome, w_anone, w_nil, w_cons, awp, binC, arithC, cmpC, asO, asS, asI, asN, obA, St.ev, St.step, setS, killS, AV.kill, AV.killL, Mem.kill, AV.cells, AV.flat, AV.single, AV.cellular, AV.size, AV.pure, AV.pureL, ACond_true, ACond_false, Value.oneCell', List.getD_cons_succ, List.getD_cons_zero, List.set_cons_succ, List.set_cons_zero, List.getElem?_cons_zero, List.length_cons, List.length_nil, List.contains_nil, List.contains_cons, List.isEmpty_nil, List.isEmpty_cons, Option.getD_some, Bool.false_eq_true, if_false, if_true, true_and, and_true, List.all_cons, List.all_nil, Bool.and_true, Bool.true_and, Nat.zero_add, beq_self_eq_true, List.map_cons, List.map_nil, decide_true, nbeq, decide_false, Bool.or_false, Nat.reduceAdd, Nat.reduceEqDiff, Nat.reduceMul, Nat.reduceLeDiff, Int.reduceAdd, Int.reduceMul, Option.map_some, intsA_len, ti3, ti31]
        have hfl := fsI_len bdr l j
        refine ⟨⟨by decide, rfl⟩, ⟨by decide, by omega⟩, by unfold lim; omega, j + 1, ?_, h, by omega⟩
        rw [fsI_succ, ← fstP_self, hp, if_pos rfl, intsA_kill, intsA_app]
        exact le_sl (by simp [leSl])
      | false =>
        simp only [w_move, w_assign, w_binOp, w_aop, w_some, w_asome, w_anone, w_nil, w_cons, awp, binC, arithC, cmpC, asI, asN, St.ev, St.step, setS, killS, AV.kill, AV.killL, Mem.kill, ACond_false, List.getD_cons_succ, List.getD_cons_zero, List.set_cons_succ, List.set_cons_zero, List.contains_nil, List.contains_cons, List.isEmpty_nil, Option.getD_some, Bool.false_eq_true, if_false, if_true, true_and, and_true, Bool.and_true, Bool.true_and, nbeq, decide_false, Bool.or_false, Nat.reduceAdd, Nat.reduceEqDiff, Int.reduceAdd]
        refine ⟨by unfold lim; omega, j + 1, ?_, h, by omega⟩
        rw [fsI_succ, ← fstP_self, hp, if_neg (by simp)]
        exact le_sl (by simp [leSl])
  · have h' : ¬ (k : Int) < (l.length : Int) := by omega
    have hk' : k = l.length := by omega
    subst hk'
    simp only [w_move, w_assign, w_aop, w_anone, w_nil, w_cons, awp, asN, St.ev, St.step, setS, killS, AV.kill, AV.killL, Mem.kill, ACond_false, List.getD_cons_succ, List.getD_cons_zero, List.set_cons_succ, List.set_cons_zero, List.contains_nil, List.contains_cons, List.isEmpty_nil, Option.getD_some, Bool.false_eq_true, if_false, if_true, nbeq, decide_false, Bool.or_false, Nat.reduceAdd, Nat.reduceEqDiff, Int.reduceAdd, decide_eq_false h']
    exact aend_frz rfl ⟨by simp [frz, AV.sub, intsA_pure], rfl⟩
end Go.Proofs.Ytkmbbbemmohmcaa

namespace Go.Proofs.Ytkmbbbemmohmcaa
open Aw Go.RowKit
set_option linter.unusedSimpArgs false

theorem iter_ints (zs : List Int) (h : zs.length ≤ 1000) : Iter Try.prog 102 zs.length (fun k => #[.int .i64 ((zs.length - 1 - k : Nat) : Int), .int .i64 (zs.getD (zs.length - 1 - k) 0)]) (fun w Bs => BoxI w Bs zs) := by
  refine ⟨enters_of Try.func102 (by kernel_rfl) rfl, fun l Bs J hY hJ W h0 => bw_ints Fence.wide 4 trivial rfl (by omega) l Bs zs h J (fun k V hk hV => ?_) hJ W h0⟩
  have := hY k V hk hV
  simpa [show zs.length - 1 - k < zs.length by omega] using this

theorem iter_gates (zs : List G4) (h : zs.length ≤ 1000) : Iter Try.prog 94 zs.length (fun k => #[.int .i64 ((zs.length - 1 - k : Nat) : Int), (zs.getD (zs.length - 1 - k) default).val]) (fun w Bs => BoxG w Bs zs) := by
  refine ⟨enters_of Try.func94 (by kernel_rfl) rfl, fun l Bs J hY hJ W h0 => bw_gates Fence.wide 4 trivial rfl (by omega) l Bs zs h J (fun k V hk hV => ?_) hJ W h0⟩
  have := hY k V hk hV
  simpa [show zs.length - 1 - k < zs.length by omega] using this

section
variable {w : World} {T : Nat → Prop} {hv : Nat → Option Value}

theorem rl_ints : ∀ (l : List Int) (us : List Value), RL w T hv (intsA l) us → us = l.map (Value.int .i64)
  | [], us, h => by simpa [intsA, RL] using h
  | x :: l, us, h => by
    simp only [intsA, List.map_cons, RL] at h
    obtain ⟨u1, u2, rfl, h1, h2⟩ := h
    simp only [R] at h1
    rw [h1.1, rl_ints l u2 h2]
    rfl

theorem rl_gts : ∀ (l : List G4) (us : List Value), RL w T hv (gtsA l) us → us = l.flatMap fun g => [.int .i64 g.k, .int .i64 g.a, .int .i64 g.b, .int .i64 g.t]
  | [], us, h => by simpa [gtsA, RL] using h
  | x :: l, us, h => by
    simp only [gtsA, List.map_cons, RL] at h
    obtain ⟨u1, u2, rfl, h1, h2⟩ := h
    simp only [gA, R, RL] at h1
    obtain ⟨a1, b1, rfl, ⟨rfl, _⟩, a2, b2, rfl, ⟨rfl, _⟩, a3, b3, rfl, ⟨rfl, _⟩, a4, b4, rfl, ⟨rfl, _⟩, rfl⟩ := h1
    rw [rl_gts l u2 h2]
    rfl
end

/-- what a box of the call's own holds. -/
theorem box_at {C : Ctx} {σ : St} {a : Act} {w : World} (hS : StR C σ a w) {g : Operand} {f : FuncId} {id : Nat} {ty : TypeId} {x : AV} (hg : σ.ev g = .f (.func f) [.q id 1 0 0]) (hM : σ.M[id]? = some (some ⟨none, ty, 1, [x]⟩)) (hx : x.size = 1) :
    ∃ Bs hv u, a.eval g = .func (.func f) #[] #[.pointer (some ⟨Bs, 0, none⟩)] ∧ w.cell? ⟨Bs, 0, none⟩ = some u ∧ R w (OwnA C.A hv) hv x [u] := by
  obtain ⟨hv, hd, hsz, hsl, hMR, hF⟩ := hS
  have h := ev_ok hsl g
  rw [hg] at h
  simp only [RV, R, RL] at h
  obtain ⟨cs, h1, _, u1, u2, h2, ⟨b, n, c, hb, rfl⟩, rfl⟩ := h
  obtain ⟨us, hrow, hk, hus⟩ := (hM_ob hMR hM hb).row rfl
  simp only [RL] at hus
  obtain ⟨v1, v2, rfl, hv1, rfl⟩ := hus
  have hl := R_size x _ _ hv1
  rw [hx] at hl
  obtain ⟨u, rfl⟩ := List.length_eq_one_iff.1 hl
  refine ⟨b, hv, u, ?_, ?_, hv1⟩
  · injection h1 with h1 _
    rw [h1]
    have : cs = #[.pointer (some ⟨b, 0 * 1 + 0, none⟩)] := by
      apply Array.ext'
      simpa using h2
    rw [this]
  · have := hrow.cells (g := b) rfl 0 u (by simp)
    rw [Addr.add_lit] at this
    exact this

theorem boxI_at {C : Ctx} {σ : St} {a : Act} {w : World} (hS : StR C σ a w) {g : Operand} {f : FuncId} {id : Nat} {ty : TypeId} {l : List Int} (hg : σ.ev g = .f (.func f) [.q id 1 0 0]) (hM : σ.M[id]? = some (some ⟨none, ty, 1, [.s 1 (intsA l)]⟩)) :
    ∃ Bs, a.eval g = .func (.func f) #[] #[.pointer (some ⟨Bs, 0, none⟩)] ∧ BoxI w Bs l := by
  obtain ⟨Bs, hv, u, h1, h2, h3⟩ := box_at hS hg hM rfl
  refine ⟨Bs, h1, ?_⟩
  simp only [R] at h3
  obtain ⟨A, c, ws, e, _, _, _, hl, hr⟩ := h3
  injection e with e
  subst e
  have hw := rl_ints l ws hl
  refine ⟨A, c, by rw [h2, intsA_len], fun hne => ?_⟩
  obtain ⟨b, off, rfl, _, _, hc⟩ := hr (by intro h; apply hne; simpa [intsA] using h)
  exact ⟨b, off, rfl, fun j hj => hc j _ (by rw [hw]; simp [hj])⟩

theorem boxG_at {C : Ctx} {σ : St} {a : Act} {w : World} (hS : StR C σ a w) {g : Operand} {f : FuncId} {id : Nat} {ty : TypeId} {l : List G4} (hg : σ.ev g = .f (.func f) [.q id 1 0 0]) (hM : σ.M[id]? = some (some ⟨none, ty, 1, [.s 4 (gtsA l)]⟩)) :
    ∃ Bs, a.eval g = .func (.func f) #[] #[.pointer (some ⟨Bs, 0, none⟩)] ∧ BoxG w Bs l := by
  obtain ⟨Bs, hv, u, h1, h2, h3⟩ := box_at hS hg hM rfl
  refine ⟨Bs, h1, ?_⟩
  simp only [R] at h3
  obtain ⟨A, c, ws, e, _, _, _, hl, hr⟩ := h3
  injection e with e
  subst e
  have hw := rl_gts l ws hl
  refine ⟨A, c, by rw [h2, gtsA_len], fun hne => ?_⟩
  obtain ⟨b, off, rfl, _, _, hc⟩ := hr (by intro h; apply hne; simpa [gtsA] using h)
  have at4 : ∀ (l : List G4) (j : Nat) (hj : j < l.length) (i : Nat), i < 4 → (l.flatMap fun g => [Value.int .i64 g.k, .int .i64 g.a, .int .i64 g.b, .int .i64 g.t])[j * 4 + i]? = [Value.int .i64 l[j].k, .int .i64 l[j].a, .int .i64 l[j].b, .int .i64 l[j].t][i]? := by
    intro l
    induction l with
    | nil => intro j hj; simp at hj
    | cons x l ih =>
      intro j hj i hi
      rw [List.flatMap_cons]
      cases j with
      | zero => rw [List.getElem?_append_left (by simp; omega)]; simp
      | succ j =>
        rw [List.getElem?_append_right (by simp; omega)]
        have := ih j (by simpa using hj) i hi
        rw [List.getElem_cons_succ, ← this]
        congr 1
        simp
        omega
  refine ⟨b, off, rfl, fun j hj => ⟨?_, ?_, ?_, ?_⟩⟩
  · have := hc (j * 4 + 0) (.int .i64 l[j].k) (by rw [hw, at4 l j hj 0 (by omega)]; rfl); simpa using this
  · have := hc (j * 4 + 1) (.int .i64 l[j].a) (by rw [hw, at4 l j hj 1 (by omega)]; rfl); simpa [Nat.add_assoc] using this
  · have := hc (j * 4 + 2) (.int .i64 l[j].b) (by rw [hw, at4 l j hj 2 (by omega)]; rfl); simpa [Nat.add_assoc] using this
  · have := hc (j * 4 + 3) (.int .i64 l[j].t) (by rw [hw, at4 l j hj 3 (by omega)]; rfl); simpa [Nat.add_assoc] using this

theorem ok87 : okFn Try.prog 87 = true := by kernel_rfl
theorem s87 (l : List Int) : ASpec Try.prog 87 [.s 1 (intsA l)] (fun r Ms => r = .f (.func 102) [.q 0 1 0 0] ∧ Ms = [⟨none, 31, 1, [.s 1 (intsA l)]⟩]) := by
  refine aspec_of (own := [1]) Try.func87 rfl ok87 ?_
  simp only [w_assign, w_box, w_makeFunc, w_aop, w_anone, w_nil, w_cons, awp, asN, Aw.newRow, St.ev, St.step, setS, killS, AV.kill, AV.killL, Mem.kill, AV.single, AV.cellular, AV.size, ACond_true, ACond_false, Value.oneCell', List.getD_cons_succ, List.getD_cons_zero, List.set_cons_succ, List.set_cons_zero, List.length_cons, List.length_nil, List.replicate_succ, List.replicate_zero, List.cons_append, List.nil_append, List.contains_nil, List.contains_cons, List.isEmpty_nil, Option.getD_some, Bool.false_eq_true, if_false, if_true, true_and, and_true, List.all_cons, List.all_nil, Bool.and_true, Bool.true_and, Nat.zero_add, Nat.add_zero, beq_self_eq_true, List.map_cons, List.map_nil, nbeq, decide_false, Bool.or_false, Nat.reduceAdd, Nat.reduceEqDiff, Nat.reduceSub, Int.reduceAdd, Int.reduceSub, Try.ntmps87]
  refine ⟨rfl, ?_⟩
  exact aend_exp 0 rfl rfl (by simp [AV.pureL, AV.pure, intsA_pure]) ⟨rfl, rfl⟩

theorem ok64 : okFn Try.prog 64 = true := by kernel_rfl
theorem s64 (l : List G4) : ASpec Try.prog 64 [.s 4 (gtsA l)] (fun r Ms => r = .f (.func 94) [.q 0 1 0 0] ∧ Ms = [⟨none, 22, 1, [.s 4 (gtsA l)]⟩]) := by
  refine aspec_of (own := [1]) Try.func64 rfl ok64 ?_
  simp only [w_assign, w_box, w_makeFunc, w_aop, w_anone, w_nil, w_cons, awp, asN, Aw.newRow, St.ev, St.step, setS, killS, AV.kill, AV.killL, Mem.kill, AV.single, AV.cellular, AV.size, ACond_true, ACond_false, Value.oneCell', List.getD_cons_succ, List.getD_cons_zero, List.set_cons_succ, List.set_cons_zero, List.length_cons, List.length_nil, List.replicate_succ, List.replicate_zero, List.cons_append, List.nil_append, List.contains_nil, List.contains_cons, List.isEmpty_nil, Option.getD_some, Bool.false_eq_true, if_false, if_true, true_and, and_true, List.all_cons, List.all_nil, Bool.and_true, Bool.true_and, Nat.zero_add, Nat.add_zero, beq_self_eq_true, List.map_cons, List.map_nil, nbeq, decide_false, Bool.or_false, Nat.reduceAdd, Nat.reduceEqDiff, Nat.reduceSub, Int.reduceAdd, Int.reduceSub, Try.ntmps64]
  refine ⟨rfl, ?_⟩
  exact aend_exp 0 rfl rfl (by simp [AV.pureL, AV.pure, gtsA_pure]) ⟨rfl, rfl⟩
end Go.Proofs.Ytkmbbbemmohmcaa

namespace Go.Proofs.Ytkmbbbemmohmcaa
open Aw Go.RowKit
set_option linter.unusedSimpArgs false

theorem le_nil1 {sl : List AV} {M : Mem} (i j : Nat) (ty : TypeId) (k : Nat) {ob : Ob} (hi : M[i]? = some (some ob)) (hm : ob.mp = none) (hj : ob.xs[j]? = some (.v (.slice none 0 0))) :
    Le ⟨sl, M⟩ ⟨sl, (M.set i (some { ob with xs := ob.xs.set j (.o M.length) })) ++ [some ⟨none, ty, k, []⟩]⟩ := by
  intro C a w hS
  obtain ⟨hv, hd, hsz, hsl, hM, hF⟩ := hS
  have hlt := (List.getElem?_eq_some_iff.1 hi).1
  obtain ⟨m1, m2⟩ := mem_add hM (w' := w) ⟨rfl, rfl, rfl, Nat.le_refl _, fun _ _ => rfl⟩ (ob := ⟨none, ty, k, []⟩) (v := .slice none 0 0) (fun b hb => by simp [blk, Value.ownBlock] at hb)
    (fun hs => ObR.of_row rfl ⟨[], World.ownsRow_nil _ _ _ _, by simp, by simp [RL]⟩)
  have m3 := mem_same (ob' := { ob with xs := ob.xs.set j (.o M.length) }) m1 (i := i) (ob := ob) (by rw [List.getElem?_append_left hlt]; exact hi) (fun v h => by
    obtain ⟨us, h1, h2, h3⟩ := h.row hm
    refine ObR.of_row hm ⟨us, ?_, ?_, ?_⟩
    · simpa using h1
    · intro x hx
      rcases List.mem_or_eq_of_mem_set hx with hx | rfl
      · exact h2 x hx
      · exact h2 (.v (.slice none 0 0)) (List.mem_of_getElem? hj)
    · refine RL_set_imp ob.xs j _ us hj (fun u hu => ?_) h3
      simp only [R] at hu ⊢
      exact ⟨_, hvAdd_self _ _, hu.1, hu.2⟩)
  rw [List.set_append_left _ _ hlt] at m3
  refine ⟨_, hd, hsz, fun m x hx => ?_, m3, hF.step m2⟩
  obtain ⟨v, h1, h2⟩ := hsl m x hx
  have := m2.rv h2
  rw [AV.kill_nil] at this
  exact ⟨v, h1, this⟩

def G4.inv (g : G4) : G4 := { g with t := 16 - g.t }
def invL (c : List G4) (k : Nat) : List G4 := (c.reverse.take k).map G4.inv
theorem invL_succ (c : List G4) (k : Nat) (h : k < c.length) : invL c (k + 1) = invL c k ++ [(c.getD (c.length - 1 - k) default).inv] := by
  unfold invL
  rw [List.take_add_one, List.map_append, List.getElem?_reverse h]
  simp [show c.length - 1 - k < c.length by omega]
theorem invL_len (c : List G4) (k : Nat) : (invL c k).length ≤ k := by unfold invL; simp; omega

theorem vC_len {n : Int} {c : List G4} (h : vC n c = 0) : c.length ≤ 10 := by
  unfold vC at h
  split at h
  · cases h
  · split at h
    · cases h
    · omega
theorem vC_ok {n : Int} {c : List G4} (h : vC n c = 0) : ∀ g ∈ c, okG n g = true := by
  unfold vC at h
  split at h
  · cases h
  · split at h
    · cases h
    · unfold vG at h
      split at h
      · assumption
      · cases h

theorem ok28 : okFn Try.prog 28 = true := by kernel_rfl
set_option maxHeartbeats 1000000 in
theorem s28 (n : Int) (c : List G4) (hl : c.length ≤ 1000000) : ASpec Try.prog 28 [I n, .s 4 (gtsA c)] (fun r Ms => r = .t [.s 4 (gtsA (if vC n c = 0 then invL c c.length else [])), I (vC n c)] ∧ Ms = []) := by
  refine aspecD_of Try.func28 rfl ok28 ?_
  simp only [List.length_cons, List.length_nil, List.replicate_succ, List.replicate_zero, List.cons_append, List.nil_append, Nat.zero_add, Nat.reduceAdd, Nat.reduceSub, Int.reduceAdd, Int.reduceSub, Try.ntmps28]
  refine swpD_seq (swpD_of (awp_sound (own := [4]) _ _ _ _ _ ?_))
  simp only [w_assign, w_aop, w_some, w_asome, w_anone, w_nil, w_cons, awp, asN, Aw.newRow, St.ev, St.step, setS, killS, AV.kill, AV.killL, Mem.kill, ACond_false, List.set_cons_succ, List.set_cons_zero, List.length_nil, List.nil_append, List.contains_nil, List.contains_cons, List.isEmpty_nil, Option.getD_some, Bool.false_eq_true, if_false, if_true, Nat.add_zero, beq_self_eq_true, nbeq, decide_false, Bool.or_false, Nat.reduceEqDiff, ti22, ti24]
  refine swpD_seq (swpD_of (awp_sound (own := [4]) _ _ _ _ _ ?_))
  simp only [w_move, w_callF, w_aop, w_cons, awp, St.ev, St.step, setS, killS, AV.kill, AV.killL, Mem.kill, ACond_false, List.getD_cons_succ, List.getD_cons_zero, List.set_cons_succ, List.set_cons_zero, List.contains_nil, List.contains_cons, List.isEmpty_nil, Bool.false_eq_true, if_false, if_true, List.map_cons, List.map_nil, nbeq, decide_false, Bool.or_false, Nat.reduceAdd, Nat.reduceEqDiff, Int.reduceAdd]
  refine acall_v (s21 n c hl) rfl rfl ?_
  simp only [w_move, w_assign, w_binOp, w_aop, w_some, w_asome, w_anone, w_nil, w_cons, awp, binC, cmpC, asB, asI, asN, St.ev, St.step, setS, killS, AV.kill, AV.killL, Mem.kill, ACond_false, List.getD_cons_succ, List.getD_cons_zero, List.set_cons_succ, List.set_cons_zero, List.contains_nil, List.contains_cons, List.isEmpty_nil, Option.getD_some, Bool.false_eq_true, if_false, if_true, true_and, Bool.true_and, nbeq, decide_false, Bool.or_false, Nat.reduceAdd, Nat.reduceEqDiff, Int.reduceAdd]
  by_cases hv : vC n c = 0
  · simp only [awp, ACond_false, Bool.not_true, decide_true, hv]
    refine swpD_seq (swpD_of (awp_sound (own := [4]) _ _ _ _ _ ?_))
    simp only [w_alloc, w_aop, w_some, w_nil, w_cons, awp, mkA, Aw.newRow, St.step, setS, killS, AV.kill, AV.killL, Mem.kill, ACond_false, List.set_cons_succ, List.set_cons_zero, List.length_cons, List.length_nil, List.cons_append, List.nil_append, List.contains_nil, List.contains_cons, List.isEmpty_nil, Bool.false_eq_true, if_false, if_true, true_and, Bool.true_and, Nat.zero_add, beq_self_eq_true, List.map_cons, List.map_nil, nbeq, decide_false, Bool.or_false, Bool.or_true, Nat.reduceAdd, Nat.reduceEqDiff, Int.reduceAdd, ti22]
    refine swpD_seq (swpD_seq (swpD_of (awp_sound (own := [4]) _ _ _ _ _ ?_)))
    simp only [w_move, w_callF, w_aop, w_cons, awp, St.ev, St.step, setS, killS, AV.kill, AV.killL, Mem.kill, ACond_false, List.getD_cons_succ, List.getD_cons_zero, List.set_cons_succ, List.set_cons_zero, List.contains_nil, List.contains_cons, List.isEmpty_nil, Bool.false_eq_true, if_false, if_true, List.map_cons, List.map_nil, nbeq, decide_false, Bool.or_false, Nat.reduceAdd, Nat.reduceEqDiff, Int.reduceAdd]
    refine acall_o (s64 c) (by simp [AV.pureL, AV.pure, gtsA_pure]) (by simp [AV.pureL, AV.pure, gtsA_pure]) ?_
    simp only [w_nil, St.step, setS, killS, AV.kill, AV.killL, Mem.kill, List.set_cons_succ, List.set_cons_zero, List.length_cons, List.length_nil, List.cons_append, List.nil_append, List.contains_nil, List.isEmpty_nil, Bool.false_eq_true, if_false, if_true, Nat.zero_add, Nat.reduceAdd, Int.reduceAdd]
    refine swpD_block (swpD_rf (W := [9, 18, 19, 20, 21, 22, 23, 24, 25, 26, 27]) (x1 := fun k => I ((c.length - 1 - k : Nat) : Int)) (x2 := fun k => .g [I (c.getD (c.length - 1 - k) default).k, I (c.getD (c.length - 1 - k) default).a, I (c.getD (c.length - 1 - k) default).b, I (c.getD (c.length - 1 - k) default).t])
      (fun k : Nat => ⟨[.bot, .bot, .bot, .bot, .bot, .bot, .bot, .q 1 1 0 0, .bot, .bot, .bot, .bot, .bot, .bot, .bot, .bot, .bot, .f (.func 94) [.q 2 1 0 0], .bot, .bot, .bot, .bot, .bot, .bot, .bot, .bot, .bot, .bot, .bot], [some ⟨none, 24, 4, []⟩, some ⟨none, 22, 1, [.o 3]⟩, some ⟨none, 22, 1, [.s 4 (gtsA c)]⟩, some ⟨none, 24, 4, gtsA (invL c k)⟩]⟩)
      (iter_gates c (by have := vC_len hv; omega)) ?_ (fun k C a w hS => boxG_at hS (g := .tmp 17) (id := 2) rfl rfl) (by decide) (by decide) (fun k w T hv => by simp [RV]) (fun k w T hv => by simp [RV, gA, G4.val, RL, R, Value.oneCell']) (fun k hk => ?_) ?_)
    · refine Le.trans (le_nil1 1 0 24 4 rfl rfl rfl) (le_sl ?_)
      simp [leSl, AV.up, AV.sub, AV.subL, invL, gtsA]
    · refine swpR_region (own := [4]) (by kernel_rfl) ?_
      simp only [w_alloc, w_store, w_aop, w_some, w_nil, w_cons, asQ, obA, AGet_zero, storeA, putsA, mkA, Aw.newRow, St.ev, St.step, setS, killS, AV.kill, AV.killL, Mem.kill, AV.cells, AV.flat, AV.single, AV.cellular, List.getD_cons_succ, List.getD_cons_zero, List.set_cons_succ, List.set_cons_zero, List.getElem?_cons_succ, List.getElem?_cons_zero, List.length_cons, List.length_nil, List.cons_append, List.nil_append, List.contains_nil, List.isEmpty_nil, Bool.false_eq_true, if_false, if_true, true_and, and_true, List.all_cons, List.all_nil, Bool.and_true, Bool.true_and, Nat.zero_add, beq_self_eq_true, List.map_cons, List.map_nil, decide_true, nbeq, decide_false, Bool.or_false, Nat.reduceAdd, Nat.reduceEqDiff, Nat.reduceLeDiff, Int.reduceAdd, ti24]
      refine swpR_block (swpR_seq (swpR_region (own := [4]) (by kernel_rfl) ?_))
      simp only [w_load, w_store, w_fieldAddr, w_binOp, w_aop, w_some, w_asome, w_anone, w_nil, w_cons, binC, arithC, cmpC, asP, asQ, asI, obA, AGet_zero, loadA, storeA, putsA, St.ev, St.step, setS, killS, AV.kill, AV.killL, Mem.kill, AV.cells, AV.flat, AV.single, AV.cellular, Value.oneCell', List.getD_cons_succ, List.getD_cons_zero, List.set_cons_succ, List.set_cons_zero, List.getElem?_cons_succ, List.getElem?_cons_zero, List.length_cons, List.length_nil, List.contains_nil, List.isEmpty_nil, Bool.false_eq_true, if_false, if_true, true_and, and_true, List.all_cons, List.all_nil, Bool.and_true, Bool.true_and, Bool.not_true, Nat.zero_add, beq_self_eq_true, decide_true, nbeq, decide_false, Bool.and_false, Nat.reduceAdd, Nat.reduceEqDiff, Nat.reduceLeDiff, Int.reduceAdd, ne_eq, not_false_eq_true, ti3, ti24]
      refine ⟨?_, swpR_region (own := [4]) (by kernel_rfl) ?_⟩
      · have hm : c.getD (c.length - 1 - k) default ∈ c := by
          rw [List.getD_eq_getElem?_getD, List.getElem?_eq_getElem (by omega)]
          exact List.getElem_mem _
        have := vC_ok hv _ hm
        simp only [okG, decide_eq_true_eq] at this
        unfold lim
        omega
      simp only [w_load, w_store, w_buildSlice, w_append, w_aop, w_some, w_asome, w_anone, w_nil, w_cons, asP, asQ, asO, asS, obA, AGet_zero, loadA, storeA, putsA, St.ev, St.step, setS, killS, AV.kill, AV.killL, Mem.kill, AV.cells, AV.flat, AV.single, AV.cellular, AV.size, AV.sizeL, AV.pure, AV.pureL, ACond_false, Value.oneCell', List.getD_cons_succ, List.getD_cons_zero, List.set_cons_succ, List.set_cons_zero, List.getElem?_cons_succ, List.getElem?_cons_zero, List.length_cons, List.head?_cons, List.length_nil, List.contains_nil, List.contains_cons, List.isEmpty_nil, List.isEmpty_cons, Option.getD_some, Bool.false_eq_true, if_false, if_true, true_and, and_true, List.all_cons, List.all_nil, Bool.and_true, Bool.true_and, Bool.not_true, Nat.zero_add, Nat.add_zero, beq_self_eq_true, List.map_cons, List.map_nil, decide_true, nbeq, decide_false, Bool.or_false, Nat.reduceAdd, Nat.reduceEqDiff, Nat.reduceMul, Nat.reduceLeDiff, Int.reduceAdd, Int.reduceMul, Option.map_some, gtsA_len, ti22, ti24]
      refine ⟨⟨by decide, rfl⟩, ⟨by decide, by have := invL_len c k; omega⟩, ?_⟩
      rw [invL_succ c k hk, gtsA_kill, gtsA_app]
      exact le_cut (Mx := [_]) (M' := [_, _, _, _]) (by simp [leSl, mask, List.range_succ]) rfl (by simp [AV.freeL, AV.free, freeL_pure, gtsA_pure]) (by simp [freeM, AV.freeL, AV.free, freeL_pure, gtsA_pure])
    · simp only [w_move, w_assign, w_pick, w_box, w_alloc, w_load, w_store, w_fieldAddr, w_indexAddr, w_binOp, w_not, w_neg, w_build, w_buildSlice, w_extract, w_field, w_slice, w_makeFunc, w_nilCheck, w_callF, w_callT, w_len, w_makeMap, w_lookup, w_mapUpdate, w_insert, w_put, w_makeSlice, lenM, oneOf, w_min, w_max, w_append, w_aop, w_aopg, w_gdb, w_gdu, w_take, w_takeg, w_some, w_asome, w_anone, w_nil, w_cons, awp, binC, idxC, arithC, cmpC, eqC, asP, asQ, asO, asS, asT, asG, asF, asB, asI, asN, asE, obA, AGet_zero, bndA, lenA, minmaxA, loadA, storeA, fillA, putsA, mkA, Aw.newRow, St.ev, St.step, setS, killS, AV.kill, AV.killL, Mem.kill, AV.cells, AV.flat, AV.single, AV.cellular, AV.size, AV.sizeL, AV.pure, AV.pureL, ACond_true, ACond_false, Value.oneCell', ints, List.getD_cons_succ, List.getD_cons_zero, List.set_cons_succ, List.set_cons_zero, List.getElem?_cons_succ, List.getElem?_cons_zero, List.length_cons, List.head?_cons, List.length_nil, List.replicate_succ, List.replicate_zero, List.cons_append, List.nil_append, List.contains_nil, List.contains_cons, List.isEmpty_nil, List.isEmpty_cons, Option.getD_some, Option.getD_none, Bool.false_eq_true, if_false, if_true, true_and, and_true, List.all_cons, List.all_nil, Bool.and_true, Bool.true_and, Bool.not_true, Bool.not_false, Option.isSome_some, Nat.zero_add, Nat.add_zero, beq_self_eq_true, List.map_cons, List.map_nil, decide_true, nbeq, decide_false, Bool.or_false, Bool.or_true, Bool.false_or, Bool.true_or, eq_self, Bool.false_and, Bool.and_false, decide_eq_true_eq, List.getElem?_nil, List.length_append, Nat.reduceAdd, Nat.reduceEqDiff, Nat.reduceMul, Nat.reduceSub, Nat.reduceLeDiff, Nat.reduceBEq, Int.reduceAdd, Int.reduceSub, Int.reduceMul, Int.reduceNeg, Int.reduceToNat, Int.reduceLE, Int.reduceLT, Int.reduceEq, Int.toNat_zero, Int.toNat_one, Option.bind_some, Option.bind_none, ASch, St.put, Md.mem, Md.need, ne_eq, not_false_eq_true, Option.map_some, Option.map_none, w_bt, w_bf, gtsA_len, intsA_len, ti2, ti3, ti4, ti5, ti7, ti9, ti12, ti13, ti15, ti16, ti17, ti18, ti21, ti22, ti23, ti24, ti25, ti31, ti34, ti52, ti53, ti60, ti74, ti80, ti81, ti94, ti101, ti109, ti111, ti113, ti117, ti119, ti123, ti125, ti126, ti132, ti135, ti137, Try.ntmps28]
      refine swpD_of (awp_sound (own := [4]) _ _ _ _ _ ?_)
      simp only [w_assign, w_load, w_aop, w_some, w_anone, w_nil, w_cons, awp, asP, asQ, asN, obA, AGet_zero, loadA, St.ev, St.step, setS, killS, AV.kill, AV.killL, Mem.kill, AV.cells, AV.flat, AV.single, ACond_false, List.getD_cons_succ, List.getD_cons_zero, List.set_cons_succ, List.set_cons_zero, List.getElem?_cons_succ, List.getElem?_cons_zero, List.contains_nil, List.contains_cons, List.isEmpty_nil, Option.getD_some, Bool.false_eq_true, if_false, if_true, true_and, and_true, List.all_cons, List.all_nil, Bool.and_true, Bool.true_and, Bool.not_true, beq_self_eq_true, nbeq, decide_false, Bool.or_false, Nat.reduceAdd, Nat.reduceEqDiff, Int.reduceAdd, ti22]
      refine aend_frz rfl ⟨?_, rfl⟩
      simp [frz, AV.sub, AV.subL, gtsA_pure, hv]
  · simp only [w_move, w_assign, w_aop, w_some, w_asome, w_anone, w_nil, w_cons, awp, asN, Aw.newRow, St.ev, St.step, setS, killS, AV.kill, AV.killL, Mem.kill, ACond_true, ACond_false, List.getD_cons_succ, List.getD_cons_zero, List.set_cons_succ, List.set_cons_zero, List.length_cons, List.length_nil, List.cons_append, List.nil_append, List.contains_nil, List.contains_cons, List.isEmpty_nil, Option.getD_some, Bool.false_eq_true, if_false, if_true, Bool.not_false, Nat.zero_add, beq_self_eq_true, nbeq, decide_false, Bool.or_false, Nat.reduceAdd, Nat.reduceEqDiff, Int.reduceAdd, ti22, ti24, decide_eq_false hv]
    refine aend_frz rfl ⟨?_, rfl⟩
    simp [frz, AV.sub, AV.subL, hv]
    rfl
end Go.Proofs.Ytkmbbbemmohmcaa
