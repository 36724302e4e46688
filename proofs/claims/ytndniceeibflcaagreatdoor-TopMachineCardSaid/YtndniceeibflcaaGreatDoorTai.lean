/-
  Parts of several texts in one: MqC, MqE, MqF, MrA, MrB, MrC, MrD, MrE, MrF, MrG.
-/
import Derived.Test.YtndniceeibflcaaGreatDoorProg
import Derived.WalkKit
import Derived.Lib.ConvBytes
import Derived.LaidEql
import Derived.Lib.ItoaNum
import Derived.Lib.LaidTab
import Derived.KernelRfl
import GoSem.Claims
import GoSem.ClaimJoined
import Derived.Orders
import Derived.Laws.StructEq
import Derived.Maps.Keyed
import Derived.Lib.Strings
import Derived.Maps.AppendAt
import Derived.Laws.Concat
import Derived.MapKept
import Derived.Laws.MakeOwn
import Derived.Scope
import Derived.Laws.BitsLemmas
import Derived.Maps.RangeRun
import Derived.StillTail
import Derived.OrdersIn
import Derived.TacticsIn
import Derived.RangeFuncRecord
import Derived.RangeFuncCalls
import Derived.RangeFuncSeq
import Derived.Lib.Split
import Derived.Lib.AtoiAll
import Derived.Shelf.LaysM
import Derived.Shelf.LaysC
import Derived.Shelf.Strconv.Itoa3
import Derived.Shelf.Strconv.AtoiAll
import Derived.Shelf.Strings.Search3
import Derived.Shelf.Strings.Cut
import Derived.Shelf.Strings.Prefix
import Derived.Shelf.Strings.Split
import Derived.Lib.AppendIntMem
import Derived.Test.YtndniceeibflcaaGreatDoorTaa
import Derived.Test.YtndniceeibflcaaGreatDoorTab
import Derived.Test.YtndniceeibflcaaGreatDoorTac
import Derived.Test.YtndniceeibflcaaGreatDoorTad
import Derived.Test.YtndniceeibflcaaGreatDoorTae
import Derived.Test.YtndniceeibflcaaGreatDoorTag
import Derived.Test.YtndniceeibflcaaGreatDoorTah
set_option linter.unusedSimpArgs false
set_option linter.unusedVariables false
namespace Go.Proofs.YtndniceeibflcaaGreatDoor
namespace Aw
end Aw
namespace Mp
end Mp
end Go.Proofs.YtndniceeibflcaaGreatDoor
namespace Go.Proofs.YtndniceeibflcaaGreatDoor
open Aw Mp Go.RowKit
set_option linter.unusedSimpArgs false

/-- the error of a gate of two ions. -/
def er2 (lim : Int) (ls : List (Int × Int)) (s : MS) (x y z : Int) : Int := if (z < 1 ∨ 16 ≤ z) ∨ x = y then 1 else if lnk ls (s.place.getD x.toNat 0) (s.place.getD y.toNat 0) = false then 9 else if lim < s.heats.getD x.toNat 0 ∨ lim < s.heats.getD y.toNat 0 then 8 else if s.circ.length = 10 then 3 else 0
/-- the error of an order. -/
def erS (n lim : Int) (ls : List (Int × Int)) (s : MS) (k : Nat) (x y z : Int) : Int :=
  match k with
  | 0 => if n ≤ x then 4 else if s.place.length = 4 then 3 else if x ∈ s.place then 6 else 0
  | 1 => if s.place.length ≤ x then 4 else if n ≤ y then 4 else if lnk ls (s.place.getD x.toNat 0) y = false then 8 else if y ∈ s.place then 6 else 0
  | 2 => if s.place.length ≤ x then 4 else 0
  | 3 => if x = 0 then 1 else 0
  | 4 => if s.place.length ≤ x then 4 else er1 lim s x y
  | 5 => if s.place.length ≤ x then 4 else er1 lim s x y
  | 6 => if s.place.length ≤ x ∨ s.place.length ≤ y then 4 else er2 lim ls s x y z
  | _ => if s.circ = [] then 9 else 0
/-- the state behind an order. -/
def nxS (s : MS) (k : Nat) (x y z : Int) : MS :=
  match k with
  | 0 => { s with place := s.place ++ [x], heats := s.heats ++ [0] }
  | 1 => { s with place := s.place.set x.toNat y, heats := bump s.heats x.toNat 3, moves := s.moves + 1 }
  | 2 => { s with heats := s.heats.set x.toNat 0, cools := s.cools + 1 }
  | 3 => { s with heats := s.heats.map fun h => min (h + x) 1000 }
  | 4 => { s with circ := s.circ ++ [⟨0, x, -1, y⟩], heats := bump s.heats x.toNat 1, done := s.done + 1 }
  | 5 => { s with circ := s.circ ++ [⟨1, x, -1, y⟩], heats := bump s.heats x.toNat 1, done := s.done + 1 }
  | 6 => { s with circ := s.circ ++ [⟨2, min x y, max x y, z⟩], heats := bump (bump s.heats x.toNat 2) y.toNat 2, done := s.done + 1 }
  | _ => { s with circ := [] }

/-- what is held of a state. -/
structure InvS (n : Int) (c : Nat) (s : MS) : Prop where
  p4 : s.place.length ≤ 4
  pin : ∀ z ∈ s.place, 0 ≤ z ∧ z < n
  pnd : s.place.Nodup
  hl : s.heats.length = s.place.length
  hin : ∀ h ∈ s.heats, 0 ≤ h ∧ h ≤ 1000
  c10 : s.circ.length ≤ 10
  cok : ∀ g ∈ s.circ, okG s.place.length g = true
  mv : 0 ≤ s.moves ∧ s.moves ≤ c
  co : 0 ≤ s.cools ∧ s.cools ≤ c
  dn : 0 ≤ s.done ∧ s.done ≤ c

theorem InvS.zero (n : Int) : InvS n 0 MS.zero := ⟨by simp [MS.zero], by simp [MS.zero], by simp [MS.zero], rfl, by simp [MS.zero], by simp [MS.zero], by simp [MS.zero], by simp [MS.zero], by simp [MS.zero], by simp [MS.zero]⟩
theorem InvS.emp {n : Int} {c : Nat} {s : MS} (h : InvS n c s) (h0 : s.place = []) : s.circ = [] := by
  cases hc : s.circ with
  | nil => rfl
  | cons g r =>
    have := h.cok g (by rw [hc]; simp)
    rw [h0] at this
    unfold okG at this
    have := of_decide_eq_true this
    simp at this
    omega
theorem getD_mem {l : List Int} {i : Nat} (h : i < l.length) : l.getD i 0 ∈ l := by
  rw [List.getD_eq_getElem?_getD, List.getElem?_eq_getElem h]
  exact List.getElem_mem h
theorem mem_set {l : List Int} {i : Nat} {v x : Int} (h : x ∈ l.set i v) : x ∈ l ∨ x = v := List.mem_or_eq_of_mem_set h
theorem bump_in {l : List Int} (hl : ∀ h ∈ l, 0 ≤ h ∧ h ≤ 1000) (i : Nat) {n : Int} (hn : 0 ≤ n) : ∀ h ∈ bump l i n, 0 ≤ h ∧ h ≤ 1000 := fun h hm => by
  rcases mem_set hm with hm | rfl
  · exact hl h hm
  · by_cases hi : i < l.length
    · have := hl _ (getD_mem hi); omega
    · rw [List.getD_eq_getElem?_getD, List.getElem?_eq_none (by omega)]; simp; omega
theorem bump_len (l : List Int) (i : Nat) (n : Int) : (bump l i n).length = l.length := by simp [bump]
theorem nodup_set {l : List Int} {i : Nat} {v : Int} (h : l.Nodup) (hv : v ∉ l) : (l.set i v).Nodup := by
  rw [List.nodup_iff_pairwise_ne, List.pairwise_iff_getElem] at h ⊢
  intro a b ha hb hab
  simp only [List.length_set] at ha hb
  rw [List.getElem_set, List.getElem_set]
  split
  · split
    · omega
    · exact fun e => hv (e ▸ List.getElem_mem _)
  · split
    · exact fun e => hv (e ▸ List.getElem_mem _)
    · exact h a b ha hb hab
theorem okG_mono {n m : Int} {g : G4} (h : okG n g = true) (hm : n ≤ m) : okG m g = true := by
  unfold okG at h ⊢
  have := of_decide_eq_true h
  exact decide_eq_true (by omega)

theorem InvS.next {n lim : Int} {ls : List (Int × Int)} {c : Nat} {s : MS} (h : InvS n c s) {k : Nat} {x y z : Int} (hx : 0 ≤ x) (hy : 0 ≤ y) (he : erS n lim ls s k x y z = 0) : InvS n (c + 1) (nxS s k x y z) := by
  obtain ⟨p4, pin, pnd, hl, hin, c10, cok, mv, co, dn⟩ := h
  match k with
  | 0 =>
    simp only [erS] at he
    split at he
    · cases he
    split at he
    · cases he
    split at he
    · cases he
    rename_i h1 h2 h3
    refine ⟨by simp [nxS]; omega, fun z hz => ?_, ?_, by simp [nxS, hl], fun q hq => ?_, c10, fun g hg => ?_, ⟨mv.1, by have := mv.2; simp only [nxS]; omega⟩, ⟨co.1, by have := co.2; simp only [nxS]; omega⟩, ⟨dn.1, by have := dn.2; simp only [nxS]; omega⟩⟩
    · simp only [nxS, List.mem_append, List.mem_singleton] at hz
      rcases hz with hz | rfl
      · exact pin z hz
      · omega
    · simp only [nxS]
      rw [List.nodup_append]
      exact ⟨pnd, by simp, fun a ha b hb => by simp at hb; subst hb; exact fun e => h3 (e ▸ ha)⟩
    · simp only [nxS, List.mem_append, List.mem_singleton] at hq
      rcases hq with hq | rfl
      · exact hin q hq
      · omega
    · exact okG_mono (cok g hg) (by simp [nxS]; omega)
  | 1 =>
    simp only [erS] at he
    split at he
    · cases he
    split at he
    · cases he
    split at he
    · cases he
    split at he
    · cases he
    rename_i h1 h2 h3 h4
    refine ⟨by simp [nxS]; omega, fun z hz => ?_, nodup_set pnd h4, by simp [nxS, hl, bump], bump_in hin _ (by omega), c10, fun g hg => okG_mono (cok g hg) (by simp [nxS]), ⟨by have := mv.1; simp only [nxS]; omega, by have := mv.2; simp only [nxS]; omega⟩, ⟨co.1, by have := co.2; simp only [nxS]; omega⟩, ⟨dn.1, by have := dn.2; simp only [nxS]; omega⟩⟩
    rcases mem_set hz with hz | rfl
    · exact pin z hz
    · omega
  | 2 =>
    simp only [erS] at he
    split at he
    · cases he
    refine ⟨p4, pin, pnd, by simp [nxS, hl], fun q hq => ?_, c10, cok, ⟨mv.1, by have := mv.2; simp only [nxS]; omega⟩, ⟨by have := co.1; simp only [nxS]; omega, by have := co.2; simp only [nxS]; omega⟩, ⟨dn.1, by have := dn.2; simp only [nxS]; omega⟩⟩
    rcases mem_set hq with hq | rfl
    · exact hin q hq
    · omega
  | 3 =>
    refine ⟨p4, pin, pnd, by simp [nxS, hl], fun q hq => ?_, c10, cok, ⟨mv.1, by have := mv.2; simp only [nxS]; omega⟩, ⟨co.1, by have := co.2; simp only [nxS]; omega⟩, ⟨dn.1, by have := dn.2; simp only [nxS]; omega⟩⟩
    simp only [nxS, List.mem_map] at hq
    obtain ⟨h, hh, rfl⟩ := hq
    have := hin h hh
    omega
  | 4 | 5 =>
    simp only [erS, er1] at he
    split at he
    · cases he
    split at he
    · cases he
    split at he
    · cases he
    split at he
    · cases he
    rename_i h1 h2 h3 h4
    refine ⟨p4, pin, pnd, by simp [nxS, hl, bump], bump_in hin _ (by omega), by simp [nxS]; omega, fun g hg => ?_, ⟨mv.1, by have := mv.2; simp only [nxS]; omega⟩, ⟨co.1, by have := co.2; simp only [nxS]; omega⟩, ⟨by have := dn.1; simp only [nxS]; omega, by have := dn.2; simp only [nxS]; omega⟩⟩
    simp only [nxS, List.mem_append, List.mem_singleton] at hg
    rcases hg with hg | rfl
    · exact cok g hg
    · unfold okG
      simp only [nxS, decide_eq_true_eq, true_or, or_true, true_and, and_true]
      omega
  | 6 =>
    simp only [erS, er2] at he
    split at he
    · cases he
    split at he
    · cases he
    split at he
    · cases he
    split at he
    · cases he
    split at he
    · cases he
    rename_i h1 h2 h3 h4 h5
    refine ⟨p4, pin, pnd, by simp [nxS, hl, bump], bump_in (bump_in hin _ (by omega)) _ (by omega), by simp [nxS]; omega, fun g hg => ?_, ⟨mv.1, by have := mv.2; simp only [nxS]; omega⟩, ⟨co.1, by have := co.2; simp only [nxS]; omega⟩, ⟨by have := dn.1; simp only [nxS]; omega, by have := dn.2; simp only [nxS]; omega⟩⟩
    simp only [nxS, List.mem_append, List.mem_singleton] at hg
    rcases hg with hg | rfl
    · exact cok g hg
    · unfold okG
      simp only [nxS, decide_eq_true_eq, true_or, or_true, true_and, and_true]
      omega
  | k + 7 =>
    exact ⟨p4, pin, pnd, hl, hin, by simp [nxS], by simp [nxS], ⟨mv.1, by have := mv.2; simp only [nxS]; omega⟩, ⟨co.1, by have := co.2; simp only [nxS]; omega⟩, ⟨dn.1, by have := dn.2; simp only [nxS]; omega⟩⟩

/-- the numbers of an order. -/
def nth (l : List Int) (i : Nat) : Int := l.getD i 0
def exO (s : MS) (o : By) : MS := match prs o with | some (k, l) => nxS s k (nth l 0) (nth l 1) (nth l 2) | none => s
/-- the state behind orders. -/
def stO (l : List By) : MS := l.foldl exO MS.zero
/-- the error of an order behind others. -/
def erO (n lim : Int) (ls : List (Int × Int)) (l : List By) (o : By) : Int := match prs o with | none => 2 | some (k, a) => if l.length = 100 then 3 else erS n lim ls (stO l) k (nth a 0) (nth a 1) (nth a 2)
def doO (n lim : Int) (ls : List (Int × Int)) (l : List By) (o : By) : List By := if erO n lim ls l o = 0 then l ++ [o] else l
/-- orders that are done. -/
inductive Acc (n lim : Int) (ls : List (Int × Int)) : List By → Prop
  | nil : Acc n lim ls []
  | snoc {l : List By} {o : By} : Acc n lim ls l → erO n lim ls l o = 0 → Acc n lim ls (l ++ [o])
theorem Acc.do {n lim : Int} {ls : List (Int × Int)} {l : List By} (h : Acc n lim ls l) (o : By) : Acc n lim ls (doO n lim ls l o) := by
  unfold doO
  split
  · exact .snoc h (by assumption)
  · exact h
theorem stO_snoc (l : List By) (o : By) : stO (l ++ [o]) = exO (stO l) o := by simp [stO]
theorem nth_lim {o : By} {k : Nat} {l : List Int} (h : prs o = some (k, l)) (i : Nat) : 0 ≤ nth l i ∧ nth l i ≤ 99 := by
  unfold nth
  by_cases hi : i < l.length
  · exact (prs_len h).2.2 _ (getD_mem hi)
  · rw [List.getD_eq_getElem?_getD, List.getElem?_eq_none (by omega)]; simp
theorem Acc.inv {n lim : Int} {ls : List (Int × Int)} {l : List By} (h : Acc n lim ls l) : l.length ≤ 100 ∧ InvS n l.length (stO l) := by
  induction h with
  | nil => exact ⟨Nat.zero_le _, InvS.zero n⟩
  | snoc h he ih =>
    rename_i l o
    obtain ⟨h1, h2⟩ := ih
    unfold erO at he
    rw [stO_snoc]
    unfold exO
    cases hp : prs o with
    | none => rw [hp] at he; cases he
    | some kl =>
      obtain ⟨k, a⟩ := kl
      rw [hp] at he
      simp only at he ⊢
      split at he
      · cases he
      refine ⟨by simp; omega, ?_⟩
      simp only [List.length_append, List.length_cons, List.length_nil]
      exact h2.next (nth_lim hp 0).1 (nth_lim hp 1).1 he
end Go.Proofs.YtndniceeibflcaaGreatDoor

namespace Go.Proofs.YtndniceeibflcaaGreatDoor
open Aw Mp Go.RowKit
set_option linter.unusedSimpArgs false
set_option maxRecDepth 8000

theorem le_sl' {sl sl' : List AV} {M M' : Mem} (e : M = M') (h : leSl sl sl') : Le ⟨sl, M⟩ ⟨sl', M'⟩ := by subst e; exact le_sl h
theorem prs_short {o : By} (h : o.length < 1 ∨ 30 < o.length) : prs o = none := by unfold prs; rw [if_pos h]
theorem prs_kind {o : By} (h : kindB (splB 32 o) = none) : prs o = none := by
  unfold prs
  rw [h]
  split <;> rfl
theorem prs_neg {o : By} {w : By} (hw : w ∈ (splB 32 o).drop 1) (hn : numB w < 0) : prs o = none := by
  unfold prs
  split
  · rfl
  · cases kindB (splB 32 o) with
    | none => rfl
    | some k =>
      simp only [Option.bind_some]
      rw [if_neg fun h => absurd (h w hw) (by omega)]
theorem prs_ok {o : By} {k : Nat} (h1 : 1 ≤ o.length ∧ o.length ≤ 30) (hk : kindB (splB 32 o) = some k) (hw : ∀ w ∈ (splB 32 o).drop 1, 0 ≤ numB w) : prs o = some (k, ((splB 32 o).drop 1).map numB) := by
  unfold prs
  rw [if_neg (by omega), hk]
  simp only [Option.bind_some]
  rw [if_pos hw]

end Go.Proofs.YtndniceeibflcaaGreatDoor

namespace Go.Proofs.YtndniceeibflcaaGreatDoor
open Aw Mp Go.RowKit
set_option linter.unusedSimpArgs false
set_option maxRecDepth 8000

theorem ok96 : okFn Tryz.prog 96 = true := by kernel_rfl
def frmL : List (Int × Int × Int × Int) := [(0, 1, 0, 0), (1, 2, 1, 1), (2, 1, 1, -1), (3, 1, 0, -1), (4, 2, 1, -1), (5, 2, 1, -1), (6, 3, 2, -1), (7, 0, 0, -1)]
def frmA (f : Int × Int × Int × Int) : AV := .g [I f.1, I f.2.1, I f.2.2.1, I f.2.2.2]
def strV (l : By) : Value := .string ⟨l.toArray⟩
theorem key9 : Maps.Keyed Tryz.prog 9 := Maps.string_keyed (by kernel_rfl)
theorem u9 : Tryz.prog.underlying 9 = some .string := by kernel_rfl
theorem key_ok9 {b : By} (hb : b.length ≤ 1000000) : ∃ l, keyOf Tryz.prog 9 (strV b) = some l := by
  have : (ByteArray.mk b.toArray).size ≤ maxLen := by show b.toArray.size ≤ maxLen; simp; unfold maxLen; omega
  simp [keyOf, u9, mapKey, strV, this]
theorem strV_inj {a b : By} (h : strV a = strV b) : a = b := by
  unfold strV at h
  simpa using h
theorem afind_out9 {ks : List Value} {v : Value} (l : List By) (b : By) (hk : ks = l.map strV) (hv : v = strV b) (hlb : b.length ≤ 1000000) (hll : ∀ x ∈ l, x.length ≤ 1000000) (hno : b ∉ l) {K : HK (Nat → Prop)} {F : HK Prop} (hF : F.k) : AFind Tryz.prog 9 ks v (K := K) (L := F) := by
  subst hk; subst hv
  refine ⟨⟨key9, key_ok9 hlb, fun u hu => ?_⟩, .inr ⟨fun u hu he => ?_, hF⟩⟩
  · obtain ⟨x, hx, rfl⟩ := List.mem_map.1 hu
    exact key_ok9 (hll x hx)
  · obtain ⟨x, hx, rfl⟩ := List.mem_map.1 hu
    exact hno (strV_inj he ▸ hx)
theorem afind_in9 {ks : List Value} {v : Value} (l : List By) (b : By) (i : Nat) (hk : ks = l.map strV) (hv : v = strV b) (hlb : b.length ≤ 1000000) (hll : ∀ x ∈ l, x.length ≤ 1000000) (hnd : l.Nodup) (hi : i < l.length) (hb : l[i] = b) {K : HK (Nat → Prop)} {F : HK Prop} (hK : K.k i) : AFind Tryz.prog 9 ks v (K := K) (L := F) := by
  subst hk; subst hv; subst hb
  refine ⟨⟨key9, key_ok9 hlb, fun u hu => ?_⟩, .inl ⟨i, ⟨?_, fun j hj => ?_⟩, hK⟩⟩
  · obtain ⟨x, hx, rfl⟩ := List.mem_map.1 hu
    exact key_ok9 (hll x hx)
  · rw [List.getElem?_map, List.getElem?_eq_getElem hi]; rfl
  · rw [List.getElem?_map, Option.map_eq_some_iff] at hj
    obtain ⟨x, hx, he⟩ := hj
    obtain ⟨h1, h2⟩ := List.getElem?_eq_some_iff.1 hx
    have e : l[j] = l[i] := h2.trans (strV_inj he)
    rw [List.Nodup, List.pairwise_iff_getElem] at hnd
    rcases Nat.lt_trichotomy i j with hlt | he | hgt
    · exact absurd e.symm (hnd i j hi h1 hlt)
    · exact he.symm
    · exact absurd e (hnd j i h1 hi hgt)
theorem mo142 : mapOf Tryz.prog 142 = some (9, 112) := by kernel_rfl
theorem s96 : ASpec Tryz.prog 96 [] (fun r Ms => r = .o 0 ∧ Ms = [⟨some (nameL.map strV), 142, 0, frmL.map frmA⟩]) := by
  refine aspec_of (own := []) Tryz.func96 rfl ok96 ?_
  simp only [wB, awp, asO, asN, obA, fillA, putsA, St.ev, St.step, setS, killS, AV.kill, AV.killL, Mem.kill, AV.cells, AV.flat, AV.single, AV.cellular, Value.oneCell', Nat.reduceAdd, Nat.reduceSub, Nat.reduceLeDiff, Int.reduceAdd, Int.reduceSub, Int.reduceNeg, Aw.valOf, Tryz.ntmps96, mo142, Aw.valOf]
  refine afind_out9 [] [108, 111, 97, 100] rfl rfl (by decide) (by decide) (by decide) ?_
  simp only [wB, asO, obA, fillA, putsA, St.ev, St.step, setS, killS, AV.kill, AV.killL, Mem.kill, AV.cells, AV.flat, AV.single, AV.cellular, Value.oneCell', Nat.reduceAdd, Nat.reduceLeDiff, Int.reduceAdd, Int.reduceNeg, Aw.valOf, mo142, Aw.valOf]
  refine afind_out9 [[108, 111, 97, 100]] [109, 111, 118, 101] rfl rfl (by decide) (by decide) (by decide) ?_
  simp only [wB, asO, obA, fillA, putsA, St.ev, St.step, setS, killS, AV.kill, AV.killL, Mem.kill, AV.cells, AV.flat, AV.single, AV.cellular, Value.oneCell', Nat.reduceAdd, Nat.reduceLeDiff, Int.reduceAdd, Int.reduceNeg, Aw.valOf, mo142, Aw.valOf]
  refine afind_out9 [[108, 111, 97, 100], [109, 111, 118, 101]] [99, 111, 111, 108] rfl rfl (by decide) (by decide) (by decide) ?_
  simp only [wB, asO, obA, fillA, putsA, St.ev, St.step, setS, killS, AV.kill, AV.killL, Mem.kill, AV.cells, AV.flat, AV.single, AV.cellular, Value.oneCell', Nat.reduceAdd, Nat.reduceLeDiff, Int.reduceAdd, Int.reduceNeg, Aw.valOf, mo142, Aw.valOf]
  refine afind_out9 [[108, 111, 97, 100], [109, 111, 118, 101], [99, 111, 111, 108]] [119, 97, 105, 116] rfl rfl (by decide) (by decide) (by decide) ?_
  simp only [wB, asO, obA, fillA, putsA, St.ev, St.step, setS, killS, AV.kill, AV.killL, Mem.kill, AV.cells, AV.flat, AV.single, AV.cellular, Value.oneCell', Nat.reduceAdd, Nat.reduceLeDiff, Int.reduceAdd, Int.reduceNeg, Aw.valOf, mo142, Aw.valOf]
  refine afind_out9 [[108, 111, 97, 100], [109, 111, 118, 101], [99, 111, 111, 108], [119, 97, 105, 116]] [116, 117, 114, 110] rfl rfl (by decide) (by decide) (by decide) ?_
  simp only [wB, asO, obA, fillA, putsA, St.ev, St.step, setS, killS, AV.kill, AV.killL, Mem.kill, AV.cells, AV.flat, AV.single, AV.cellular, Value.oneCell', Nat.reduceAdd, Nat.reduceLeDiff, Int.reduceAdd, Int.reduceNeg, Aw.valOf, mo142, Aw.valOf]
  refine afind_out9 [[108, 111, 97, 100], [109, 111, 118, 101], [99, 111, 111, 108], [119, 97, 105, 116], [116, 117, 114, 110]] [115, 112, 105, 110] rfl rfl (by decide) (by decide) (by decide) ?_
  simp only [wB, asO, obA, fillA, putsA, St.ev, St.step, setS, killS, AV.kill, AV.killL, Mem.kill, AV.cells, AV.flat, AV.single, AV.cellular, Value.oneCell', Nat.reduceAdd, Nat.reduceLeDiff, Int.reduceAdd, Int.reduceNeg, Aw.valOf, mo142, Aw.valOf]
  refine afind_out9 [[108, 111, 97, 100], [109, 111, 118, 101], [99, 111, 111, 108], [119, 97, 105, 116], [116, 117, 114, 110], [115, 112, 105, 110]] [106, 111, 105, 110] rfl rfl (by decide) (by decide) (by decide) ?_
  simp only [wB, asO, obA, fillA, putsA, St.ev, St.step, setS, killS, AV.kill, AV.killL, Mem.kill, AV.cells, AV.flat, AV.single, AV.cellular, Value.oneCell', Nat.reduceAdd, Nat.reduceLeDiff, Int.reduceAdd, Int.reduceNeg, Aw.valOf, mo142, Aw.valOf]
  refine afind_out9 [[108, 111, 97, 100], [109, 111, 118, 101], [99, 111, 111, 108], [119, 97, 105, 116], [116, 117, 114, 110], [115, 112, 105, 110], [106, 111, 105, 110]] [100, 114, 111, 112] rfl rfl (by decide) (by decide) (by decide) ?_
  simp only [wB, awp, asN, St.ev, St.step, setS, killS, AV.kill, AV.killL, Mem.kill, Int.reduceNeg]
  exact aend_exp 0 rfl rfl rfl ⟨rfl, rfl⟩
end Go.Proofs.YtndniceeibflcaaGreatDoor

namespace Go.Proofs.YtndniceeibflcaaGreatDoor
namespace Aw
open Go.RowKit
set_option linter.unusedSimpArgs false

/-- the objects ix are kept; they are 0, 1 .. now. -/
theorem memR_ren {A : Nat → Prop} {w : World} {hv : Nat → Option Value} {M : Mem} (ix : List Nat) (hnd : ix.Nodup) (hM : MemR A w hv M) :
    ∃ hv2, MemR A w hv2 (reM ix M) ∧ (∀ x v, RV w (OwnA A hv) hv x v → RV w (OwnA A hv2) hv2 (AV.sub (reF ix) (reG ix) x) v) ∧ ∀ b, Own hv2 b → Own hv b := by
  obtain ⟨hv2, hE⟩ : ∃ hv2 : Nat → Option Value, hv2 = fun j => match ix[j]? with | some i => hv i | none => none := ⟨_, rfl⟩
  have h2 : ∀ j i, ix[j]? = some i → hv2 j = hv i := fun j i h => by rw [hE]; simp only [h]
  have h3 : ∀ j v, hv2 j = some v → ∃ i, ix[j]? = some i ∧ hv i = some v := fun j v h => by
    rw [hE] at h
    simp only at h
    cases hi : ix[j]? with
    | none => rw [hi] at h; cases h
    | some i => rw [hi] at h; exact ⟨i, rfl, h⟩
  have hO : ∀ b, Own hv2 b → Own hv b := by
    rintro b ⟨j, v, hj, hb⟩
    obtain ⟨i, _, hi⟩ := h3 j v hj
    exact ⟨i, v, hi, hb⟩
  have hk : Keeps w (OwnA A hv) w (OwnA A hv2) := ⟨Nat.le_refl _, fun _ _ _ => rfl, fun b _ h => h.elim .inl fun h => .inr (hO b h)⟩
  have sF : ∀ i, (reF ix i).single = true := fun i => by unfold reF; split <;> rfl
  have sG : ∀ i k j off, (reG ix i k j off).single = true := fun i k j off => by unfold reG; split <;> rfl
  have hFF : ∀ i v, hv i = some v → v.oneCell' = true → R w (OwnA A hv2) hv2 (reF ix i) [v] := by
    intro i v hi h1
    unfold reF
    split
    · rename_i j hj
      simp only [R]
      exact ⟨v, by rw [h2 j i (idx_at hj)]; exact hi, rfl, h1⟩
    · simp only [R]; exact ⟨v, rfl, h1⟩
  have hGG : ∀ i k j off us, R w (OwnA A hv) hv (.q i k j off) us → R w (OwnA A hv2) hv2 (reG ix i k j off) us := by
    intro i k j off us h
    unfold reG
    split
    · rename_i m hm
      simp only [R] at h ⊢
      obtain ⟨b, n, c, e1, e2⟩ := h
      exact ⟨b, n, c, by rw [h2 m i (idx_at hm)]; exact e1, e2⟩
    · exact R_botq h
  refine ⟨hv2, ⟨fun j ob hj => ?_, fun j v hj => ?_, fun j1 j2 v1 v2 b e1 e2 b1 b2 => ?_, hM.old, hM.gl.1, fun b h => hM.gl.2 b (hO b h)⟩, fun x v h => RV_subk hk hFF sF hGG sG x v h, hO⟩
  · unfold reM at hj
    simp only [List.getElem?_map, Option.map_eq_some_iff] at hj
    obtain ⟨i, hi, hj⟩ := hj
    cases ho : M[i]? with
    | none => rw [ho] at hj; simp at hj
    | some o =>
      rw [ho] at hj
      simp only [Option.getD_some, Option.map_eq_some_iff] at hj
      obtain ⟨ob0, rfl, rfl⟩ := hj
      obtain ⟨v, e1, hob⟩ := hM.live i ob0 ho
      refine ⟨v, by rw [h2 j i hi]; exact e1, ?_⟩
      cases hm : ob0.mp with
      | some ks =>
        obtain ⟨vals, g1, g3⟩ := hob.map hm
        exact ObR.of_map (ks := ks) rfl ⟨vals, g1, RVL_subk hk hFF sF hGG sG _ _ g3⟩
      | none =>
        obtain ⟨us, g1, g2, g3⟩ := hob.row hm
        refine ObR.of_row rfl ⟨us, ?_, fun x hx => ?_, RL_subk hk hFF sF hGG sG _ _ g3⟩
        · simp only [AV.subL_map, List.length_map]; exact g1
        · simp only [AV.subL_map, List.mem_map] at hx
          obtain ⟨y, hy, rfl⟩ := hx
          rw [size_sub sF sG]; exact g2 y hy
  · obtain ⟨i, hi, hv0⟩ := h3 j v hj
    obtain ⟨ob, hob⟩ := hM.dom i v hv0
    refine ⟨{ ob with xs := AV.subL (reF ix) (reG ix) ob.xs }, ?_⟩
    unfold reM
    rw [List.getElem?_map, hi, Option.map_some, hob]
    rfl
  · obtain ⟨i1, hi1, hv1⟩ := h3 j1 v1 e1
    obtain ⟨i2, hi2, hv2'⟩ := h3 j2 v2 e2
    have := hM.inj i1 i2 v1 v2 b hv1 hv2' b1 b2
    subst this
    obtain ⟨l1, g1⟩ := List.getElem?_eq_some_iff.1 hi1
    obtain ⟨l2, g2⟩ := List.getElem?_eq_some_iff.1 hi2
    have hp := List.pairwise_iff_getElem.1 hnd
    rcases Nat.lt_trichotomy j1 j2 with h | h | h
    · exact absurd (g1.trans g2.symm) (hp j1 j2 l1 l2 h)
    · exact h
    · exact absurd (g2.trans g1.symm) (hp j2 j1 l2 l1 h)

theorem ret_ren (M : Mem) (x : AV) (ix : List Nat) (hnd : ix.Nodup) (Ms : List Ob) (hMs : reM ix M = Ms.map some) : Ret M x (AV.sub (reF ix) (reG ix) x) Ms := by
  intro A w hv v hM _ hx
  obtain ⟨hv2, h1, h2, h3⟩ := memR_ren ix hnd hM
  exact ⟨hv2, hMs ▸ h1, h2 x v hx, h3⟩
/-- the end of a function that hands back the objects ix. -/
theorem aend_ren {P : Program} {rs : List ResultVar} {post : AV → List Ob → Prop} {σ : St} {x : AV} (ix : List Nat) (hnd : ix.Nodup) (Ms : List Ob) (hx : resA P rs σ = some x) (hMs : reM ix σ.M = Ms.map some) (hp : post (AV.sub (reF ix) (reG ix) x) Ms) : AEnd P rs post σ := ⟨x, hx, _, _, ret_ren σ.M x ix hnd Ms hMs, hp⟩

/-- the objects are read; a pointer into one reads as its element does, n times. -/
def frzN (M : Mem) : Nat → AV → AV
  | 0 => frz M
  | n + 1 => AV.sub (fun i => match M[i]? with | some (some ob) => if (ob.mp.isNone && AV.pureL ob.xs) = true then .s ob.k ob.xs else .bot | _ => .bot) (fun i k j off => match M[i]? with | some (some ob) => if (ob.mp.isNone && ob.k == k && decide (j < ob.xs.length)) = true then .p (frzN M n (ob.xs.getD j .bot)) off else .bot | _ => .bot)

theorem frzN_G {A : Nat → Prop} {M : Mem} {w : World} {hv : Nat → Option Value} (hM : MemR A w hv M) (n : Nat) (ih : ∀ {x : AV} {us : List Value}, R w (OwnA A hv) hv x us → R w (fun _ => False) noHv (frzN M n x) us) (i k j off : Nat) (us : List Value) (h : R w (OwnA A hv) hv (.q i k j off) us) :
    R w (fun _ => False) noHv (match M[i]? with | some (some ob) => if (ob.mp.isNone && ob.k == k && decide (j < ob.xs.length)) = true then .p (frzN M n (ob.xs.getD j .bot)) off else .bot | _ => .bot) us := by
  have h0 := h
  simp only [R] at h
  obtain ⟨b, n, c, hb, rfl⟩ := h
  obtain ⟨ob, hob⟩ := hM.dom i _ hb
  simp only [hob]
  by_cases hp : (ob.mp.isNone && ob.k == k && decide (j < ob.xs.length)) = true
  · rw [if_pos hp]
    simp only [Bool.and_eq_true, Option.isNone_iff_eq_none, beq_iff_eq, decide_eq_true_eq] at hp
    obtain ⟨⟨hm, rfl⟩, hj⟩ := hp
    obtain ⟨g, cap, ws, e, h1, h2⟩ := ob_cells (hM_ob hM hob hb) hm hj
    injection e with e
    injection e with e
    injection e with e
    subst e
    simp only [R]
    exact ⟨b, j * ob.k, ws, rfl, ih h1, b, j * ob.k, rfl, hM.own_lt ⟨i, _, hb, rfl⟩, fun h => h, h2⟩
  · rw [if_neg hp]
    exact R_botq h0
theorem frzN_G1 (M : Mem) (n i k j off : Nat) : AV.single (match M[i]? with | some (some ob) => if (ob.mp.isNone && ob.k == k && decide (j < ob.xs.length)) = true then .p (frzN M n (ob.xs.getD j .bot)) off else .bot | _ => .bot) = true := by
  split
  · split <;> rfl
  · rfl
theorem frzN_R {A : Nat → Prop} {M : Mem} {w : World} {hv : Nat → Option Value} (hM : MemR A w hv M) : ∀ (n : Nat) {x : AV} {us : List Value}, R w (OwnA A hv) hv x us → R w (fun _ => False) noHv (frzN M n x) us
  | 0, x, us, hx => frz_R hM hx
  | n + 1, x, us, hx => R_sub (T := OwnA A hv) (T' := fun _ => False) (hv := hv) (hv' := noHv) (fun b h => h.elim) (fun i v h => frz_oR hM h) (fun i => frz_o1 M i) (fun i k j off us h => frzN_G hM n (frzN_R hM n) i k j off us h) (fun i k j off => frzN_G1 M n i k j off) x us hx
theorem coe_frzN (M : Mem) (n : Nat) (x : AV) : Coe true M x (frzN M n x) := by
  cases n with
  | zero => exact coe_frz M x
  | succ n =>
    intro A w hv v hM hx
    exact RV_sub (T := OwnA A hv) (T' := fun _ => False) (hv := hv) (hv' := noHv) (fun b h => h.elim) (fun i v h => frz_oR hM h) (fun i => frz_o1 M i) (fun i k j off us h => frzN_G hM n (frzN_R hM n) i k j off us h) (fun i k j off => frzN_G1 M n i k j off) x v hx
theorem coel_frzN (M : Mem) (n : Nat) : ∀ (aS : List AV), CoeL true M aS (aS.map (frzN M n))
  | [] => trivial
  | a :: aS => ⟨coe_frzN M n a, coel_frzN M n aS⟩

/-- behind a piece of code one state holds, however it was come to. -/
theorem swp_to {P : Program} {c : Code} {N : HN} {E : HE} {Rt : HR} {σ : St} (σ' : St) (h : @SWp P c σ ⟨fun s => Le s σ'⟩ E Rt) (hN : N.k σ') : @SWp P c σ N E Rt := fun C a w hS => by
  refine wp_mono (h C a w hS) fun e a' w' hq => ?_
  cases e with
  | normal => obtain ⟨s, h1, h2⟩ := hq; exact ⟨σ', hN, h1 C a' w' h2⟩
  | exit id => exact hq
  | ret => exact hq
  | goto l => exact hq
  | panic ch => exact hq
  | outgrown => exact hq

theorem le_rn {sl sl' : List AV} {M M' : Mem} (ix : List Nat) (hnd : ix.Nodup) (hM : reM ix M = M') (h : leSl (sl.map (AV.sub (reF ix) (reG ix))) sl') : Le ⟨sl, M⟩ ⟨sl', M'⟩ := by
  subst hM
  exact Le.trans (le_ren ix hnd) (le_sl h)

/-- a call whose result is a value; objects, and pointers to them, are lent. -/
theorem acall_ln {P : Program} {f : FuncId} {aS bs : List AV} {M : Mem} {K : HK (AV → Mem → Prop)} {x : AV} (n : Nat) (spec : ASpec P f bs (fun r Ms => r = x ∧ Ms = [])) (hb : aS.map (frzN M n) = bs) (hx : x.pure = true) (ht : x.tfree = true) (h : K.k x M) : ACall P f aS M (K := K) := by
  refine ⟨true, bs, _, hb ▸ coel_frzN M n aS, spec, ?_⟩
  rintro r Ms ⟨rfl, rfl⟩
  refine ⟨fun e => ⟨ht, by simp⟩, ?_⟩
  rw [AV.up, AV.sub_pure _ _ _ hx]
  simpa using h
/-- a call that hands back several objects. -/
theorem acall_os {P : Program} {f : FuncId} {aS : List AV} {M : Mem} {K : HK (AV → Mem → Prop)} {x : AV} {Ms : List Ob} (spec : ASpec P f aS (fun r Ns => r = x ∧ Ns = Ms)) (ha : AV.pureL aS = true) (h : K.k (x.up M.length) (M ++ Ms.map fun ob => some (ob.up M.length))) : ACall P f aS M (K := K) := by
  refine ⟨false, aS, _, coel_pure ha, spec, ?_⟩
  rintro r Ns ⟨rfl, rfl⟩
  exact ⟨fun e => (by cases e), h⟩
end Aw
end Go.Proofs.YtndniceeibflcaaGreatDoor

namespace Go.Proofs.YtndniceeibflcaaGreatDoor
open Aw Mp Go.RowKit
set_option linter.unusedSimpArgs false
set_option maxRecDepth 8000

/-- the error of a number. -/
def errV (n : Int) : AV := .v (.iface 139 (.agg #[.int .i64 n]))
/-- what the reading of an order answers. -/
def psA (o : By) : AV := match prs o with | none => .t [frmA (0, 0, 0, 0), .s 1 [], errV 2] | some (k, l) => .t [frmA (frmL.getD k (0, 0, 0, 0)), .s 1 (intsA l), .v .nilIface]

def fOf (w : By) : Int × Int × Int × Int := match nameL.idxOf? w with | some k => frmL.getD k (0, 0, 0, 0) | none => (0, 0, 0, 0)
def isN (w : By) : Bool := (nameL.idxOf? w).isSome
theorem frm_at : ∀ k : Fin 8, (frmL.map frmA).getD k.val .bot = frmA (frmL.getD k.val (0, 0, 0, 0)) := by
  intro k
  simp only [List.getD_eq_getElem?_getD, List.getElem?_map]
  rw [List.getElem?_eq_getElem (show k.val < frmL.length from k.isLt)]
  rfl
theorem afind_n {v : Value} (w : By) (hv : v = strV w) (hw : w.length ≤ 1000000) {K : HK (Nat → Prop)} {F : HK Prop} (h1 : ∀ k, k < 8 → nameL.idxOf? w = some k → K.k k) (h2 : nameL.idxOf? w = none → F.k) : AFind Tryz.prog 9 (nameL.map strV) v (K := K) (L := F) := by
  cases h : nameL.idxOf? w with
  | none =>
    refine afind_out9 nameL w rfl hv hw (by decide) (fun hm => ?_) (h2 h)
    unfold List.idxOf? at h
    rw [List.findIdx?_eq_none_iff] at h
    have := h w hm
    simp at this
  | some k =>
    have h' := h
    unfold List.idxOf? at h'
    rw [List.findIdx?_eq_some_iff_getElem] at h'
    obtain ⟨a, b, _⟩ := h'
    exact afind_in9 nameL w k rfl hv hw (by decide) (by decide) a (eq_of_beq b) (h1 k a h)

theorem kind_isN {W : List By} (h : 0 < W.length) (hn : isN W[0] = false) : kindB W = none := by
  unfold kindB
  have : W.headD [] = W[0] := by cases W with | nil => simp at h | cons a r => rfl
  unfold isN at hn
  rw [this]
  cases hk : nameL.idxOf? W[0] with
  | none => rfl
  | some k => rw [hk] at hn; cases hn
theorem frm_cnt : ∀ k : Fin 8, (frmL.getD k.val (0, 0, 0, 0)).2.1 = ((cntL.getD k.val 0 : Nat) : Int) ∧ cntL.getD k.val 0 ≤ 3 := by decide
theorem isN_some {w : By} (h : isN w = true) : ∃ k, k < 8 ∧ nameL.idxOf? w = some k ∧ fOf w = frmL.getD k (0, 0, 0, 0) ∧ w = nameL.getD k [] := by
  unfold isN at h
  cases hk : nameL.idxOf? w with
  | none => rw [hk] at h; cases h
  | some k =>
    have hk' := hk
    unfold List.idxOf? at hk'
    rw [List.findIdx?_eq_some_iff_getElem] at hk'
    obtain ⟨a, b, _⟩ := hk'
    refine ⟨k, a, rfl, by unfold fOf; rw [hk], ?_⟩
    rw [List.getD_eq_getElem?_getD, List.getElem?_eq_getElem a]
    exact (eq_of_beq b).symm
theorem z112 : zeroA Tryz.prog 112 = some (frmA (0, 0, 0, 0)) := by kernel_rfl
theorem ok70 : okFn Tryz.prog 70 = true := by kernel_rfl
theorem s70 (o : By) (ho : o.length ≤ 9223372036854775807) : ASpec Tryz.prog 70 [S o] (fun r Ms => r = psA o ∧ Ms = []) := by
  refine aspec_of (own := [2, 3, 6, 8]) Tryz.func70 rfl ok70 ?_
  simp only [wB, awp, binC, cmpC, asI, asN, lenA, mkA, Aw.newRow, St.ev, St.step, setS, killS, AV.kill, AV.killL, Mem.kill, Nat.reduceAdd, Nat.reduceEqDiff, Nat.reduceSub, Int.reduceAdd, Int.reduceSub, lenK, Tryz.ntmps70]
  have hnone : prs o = none → psA o = .t [frmA (0, 0, 0, 0), .s 1 [], errV 2] := fun h => by unfold psA; rw [h]
  by_cases h1 : (o.length : Int) < 1
  · simp only [wB, awp, asQ, asB, asN, obA, storeA, fillA, putsA, Aw.newRow, St.ev, St.step, setS, killS, AV.kill, AV.killL, Mem.kill, AV.cells, AV.flat, AV.single, AV.cellular, Value.oneCell', Nat.reduceAdd, Nat.reduceEqDiff, Nat.reduceLeDiff, Int.reduceAdd, Aw.valOf, Aw.valsOf, cc139, decide_eq_true h1]
    refine aend_frz rfl ⟨?_, rfl⟩
    rw [hnone (prs_short (by omega))]
    rfl
  simp only [wB, awp, binC, cmpC, asB, asI, lenA, St.ev, St.step, setS, killS, AV.kill, AV.killL, Mem.kill, lenK, decide_eq_false h1]
  by_cases h2 : (30 : Int) < o.length
  · simp only [wB, awp, asQ, asN, obA, storeA, fillA, putsA, Aw.newRow, St.ev, St.step, setS, killS, AV.kill, AV.killL, Mem.kill, AV.cells, AV.flat, AV.single, AV.cellular, Value.oneCell', Nat.reduceAdd, Nat.reduceEqDiff, Nat.reduceLeDiff, Int.reduceAdd, Aw.valOf, Aw.valsOf, cc139, decide_eq_true h2]
    refine aend_frz rfl ⟨?_, rfl⟩
    rw [hnone (prs_short (by omega))]
    rfl
  simp only [wB, awp, St.ev, St.step, setS, killS, AV.kill, AV.killL, Mem.kill, Nat.reduceAdd, Nat.reduceEqDiff, Int.reduceAdd, decide_eq_false h2]
  refine acall_v (s95 o 32 (by omega)) rfl (by simp [AV.pure, AV.pureL, strsA_pure]) ?_
  obtain ⟨W, hW⟩ : ∃ W, W = splB 32 o := ⟨_, rfl⟩
  have hWl := spl_len 32 o
  rw [← hW] at hWl ⊢
  have hWp : 0 < W.length := by omega
  simp only [wB, awp, asN, St.ev, St.step, setS, killS, AV.kill, AV.killL, Mem.kill, Nat.reduceEqDiff]
  refine swp_to ⟨[S o, .bot, .q 0 4 0 0, .o 1, .v .nilIface, .s 1 (strsA W), .q 2 4 0 0, B (isN W[0]), .bot, .bot, .bot, .bot, .bot, .bot, .bot, .bot, .bot, .bot, .bot, .bot, .bot, .bot, .bot, .bot, .bot, .bot, .bot, .bot, .bot, .bot, .bot, .bot, .bot, .bot, .bot, .bot, .bot, .bot, .bot, .bot, .bot, .bot, .bot, .bot, .bot, .bot, .bot, .bot, .bot, .bot, .bot, .bot, .bot, .bot, .bot, .bot, .bot, .bot, .bot, .bot, .bot, .bot, .bot, .bot, .bot, .bot, .bot, .bot, .bot, .bot, .bot, .bot, .bot, .bot, .bot, .bot, .bot, .bot, .bot, .bot, .bot, .bot, .bot, .bot, .bot], [some ⟨none, 112, 4, [frmA (0, 0, 0, 0)]⟩, some ⟨none, 3, 1, []⟩, some ⟨none, 112, 4, [frmA (fOf W[0])]⟩]⟩ (swp_draw (own := [2, 3, 6, 8]) (.take 1 .plain [] (.take 2 .reads [] (.take 3 .reads [] (.alt 0 (.take 4 .reads [] (.take 5 .plain [] (.take 6 .plain [] (.take 7 .plain [] (.alt 8 (.alt 9 (.take 10 .plain [] (.done)) (.nil)) (.nil)))))) (.alt 8 (.alt 0 (.take 4 .reads [] (.take 5 .plain [] (.take 6 .plain [] (.take 7 .plain [] (.alt 9 (.take 10 .plain [] (.done)) (.nil)))))) (.nil)) (.nil)))))) [⟨28, 0, 0, 0, false⟩, ⟨29, 32, 0, 0, true⟩, ⟨30, 268435456, 2, 0, true⟩, ⟨31, 536870912, 4, 0, true⟩, ⟨32, 1207959552, 9, 0, true⟩, ⟨27, 2147483648, 16, 0, true⟩, ⟨33, 67108864, 32, 0, true⟩, ⟨34, 67108864, 32, 0, true⟩, ⟨7, 0, 0, 0, false⟩, ⟨0, 4294967360, 383, 1, false⟩, ⟨8, 8589934592, 1023, 0, true⟩] mo (by kernel_rfl) ?_) ?_
  · simp only [wB, idxC, asP, asS, asI, loadA, mkA, Aw.newRow, St.ev, St.step, setS, killS, AV.kill, AV.killL, Mem.kill, AV.cells, AV.flat, AV.single, Nat.reduceAdd, Nat.reduceEqDiff, Int.reduceAdd, Int.reduceLE, ASch, St.put, Md.mem, Md.need, aget_strs hWp]
    have hpp : AV.pureL (frmL.map frmA) = true := rfl
    have hwl : (W[0]).length ≤ 1000000 := by have := hWl.2.2 _ (List.getElem_mem hWp); omega
    have aget : ∀ (k : Nat), k < 8 → ∀ K : HK (AV → Prop), @AGet (frmL.map frmA) k K = K.k (frmA (frmL.getD k (0, 0, 0, 0))) := fun k hk K => by
      have := frm_at ⟨k, hk⟩
      simp only [List.getD_eq_getElem?_getD] at this ⊢
      have hk' : k < (frmL.map frmA).length := hk
      rw [List.getElem?_eq_getElem hk'] at this
      simp only [Option.getD_some] at this
      simp only [AGet, List.getElem?_eq_getElem hk', this, Option.some.injEq, exists_eq_left']
    refine ⟨acall_o s96 rfl hpp ?_, acall_o s96 rfl hpp ?_⟩
    · simp only [wB, asO, obA, St.ev, St.step, setS, killS, AV.kill, AV.killL, Mem.kill, Nat.reduceAdd, Int.reduceAdd, ASch, Md.mem, Aw.valOf, aget_strs hWp, mo142, AV.up, AV.sub, z112]
      refine afind_n W[0] rfl hwl (fun k hk he => ?_) (fun he => ?_)
      · have e1 : fOf W[0] = frmL.getD k (0, 0, 0, 0) := by unfold fOf; rw [he]
        have e2 : isN W[0] = true := by unfold isN; rw [he]; rfl
        simp only [wB, asQ, asT, asN, obA, storeA, putsA, mkA, Aw.newRow, St.ev, St.step, setS, killS, AV.kill, AV.killL, Mem.kill, AV.cells, AV.flat, AV.single, AV.cellular, Nat.reduceAdd, Nat.reduceEqDiff, Nat.reduceLeDiff, Int.reduceAdd, ASch, St.put, Md.mem, Md.need, aget k hk, e1, e2, frmA]
        exact le_rn [0, 1, 3] (by decide) rfl (by simp [leSl, AV.sub, reF, reG, List.idxOf?, List.findIdx?, List.findIdx?.go])
      · have e1 : fOf W[0] = (0, 0, 0, 0) := by unfold fOf; rw [he]
        have e2 : isN W[0] = false := by unfold isN; rw [he]; rfl
        simp only [wB, asQ, asT, asN, obA, storeA, putsA, mkA, Aw.newRow, St.ev, St.step, setS, killS, AV.kill, AV.killL, Mem.kill, AV.cells, AV.flat, AV.single, AV.cellular, Nat.reduceAdd, Nat.reduceEqDiff, Nat.reduceLeDiff, Int.reduceAdd, ASch, St.put, Md.mem, Md.need, e1, e2, frmA]
        exact le_rn [0, 1, 3] (by decide) rfl (by simp [leSl, AV.sub, reF, reG, List.idxOf?, List.findIdx?, List.findIdx?.go])
    · simp only [wB, asO, obA, St.ev, St.step, setS, killS, AV.kill, AV.killL, Mem.kill, Nat.reduceAdd, Int.reduceAdd, ASch, Md.mem, Aw.valOf, aget_strs hWp, mo142, AV.up, AV.sub, z112]
      refine afind_n W[0] rfl hwl (fun k hk he => ?_) (fun he => ?_)
      · have e1 : fOf W[0] = frmL.getD k (0, 0, 0, 0) := by unfold fOf; rw [he]
        have e2 : isN W[0] = true := by unfold isN; rw [he]; rfl
        simp only [wB, asQ, asT, asN, obA, storeA, putsA, St.ev, St.step, setS, killS, AV.kill, AV.killL, Mem.kill, AV.cells, AV.flat, AV.single, AV.cellular, Nat.reduceAdd, Nat.reduceEqDiff, Nat.reduceLeDiff, Int.reduceAdd, ASch, St.put, Md.mem, Md.need, aget k hk, e1, e2, frmA]
        exact le_rn [0, 1, 2] (by decide) rfl (by simp [leSl, AV.sub, reF, reG, List.idxOf?, List.findIdx?, List.findIdx?.go])
      · have e1 : fOf W[0] = (0, 0, 0, 0) := by unfold fOf; rw [he]
        have e2 : isN W[0] = false := by unfold isN; rw [he]; rfl
        simp only [wB, asQ, asT, asN, obA, storeA, putsA, St.ev, St.step, setS, killS, AV.kill, AV.killL, Mem.kill, AV.cells, AV.flat, AV.single, AV.cellular, Nat.reduceAdd, Nat.reduceEqDiff, Nat.reduceLeDiff, Int.reduceAdd, ASch, St.put, Md.mem, Md.need, e1, e2, frmA]
        exact le_rn [0, 1, 2] (by decide) rfl (by simp [leSl, AV.sub, reF, reG, List.idxOf?, List.findIdx?, List.findIdx?.go])
  simp only [wB, awp, asB, St.ev, St.step, setS, killS, AV.kill, AV.killL, Mem.kill, Nat.reduceAdd, Nat.reduceEqDiff, Int.reduceAdd]
  cases hn : isN W[0] with
  | false =>
    simp only [wB, awp, asQ, asB, obA, storeA, fillA, putsA, St.ev, St.step, setS, killS, AV.kill, AV.killL, Mem.kill, AV.cells, AV.flat, AV.single, AV.cellular, Value.oneCell', Nat.reduceAdd, Nat.reduceEqDiff, Nat.reduceLeDiff, Int.reduceAdd, Aw.valOf, Aw.valsOf, cc139]
    refine aend_frz rfl ⟨?_, rfl⟩
    rw [hnone (prs_kind (by rw [← hW]; exact kind_isN hWp hn))]
    rfl
  | true =>
  obtain ⟨k, hk8, hk, hf, hwk⟩ := isN_some hn
  obtain ⟨hc, hc3⟩ := frm_cnt ⟨k, hk8⟩
  simp only at hc hc3
  have hhd : W.headD [] = W[0] := by cases W with | nil => simp at hWp | cons a r => rfl
  generalize hFE : fOf W[0] = F at hf ⊢
  obtain ⟨f0, f1, f2, f3⟩ := F
  rw [← hf] at hc
  simp only at hc
  subst hc
  simp only [wB, awp, binC, arithC, cmpC, asP, asQ, asB, asI, obA, lenA, loadA, St.ev, St.step, setS, killS, AV.kill, AV.killL, Mem.kill, AV.cells, AV.flat, AV.single, Nat.reduceAdd, Nat.reduceEqDiff, Nat.reduceLeDiff, Int.reduceAdd, isU, lenK, strsA_len, frmA]
  refine ⟨by unfold lim; omega, ?_⟩
  by_cases h3 : (W.length : Int) = ((cntL.getD k 0 : Nat) : Int) + 1
  case neg =>
    simp only [wB, awp, asQ, asN, obA, storeA, fillA, putsA, Aw.newRow, St.ev, St.step, setS, killS, AV.kill, AV.killL, Mem.kill, AV.cells, AV.flat, AV.single, AV.cellular, Value.oneCell', Nat.reduceAdd, Nat.reduceEqDiff, Nat.reduceLeDiff, Int.reduceAdd, Aw.valOf, Aw.valsOf, cc139, decide_eq_false h3]
    refine aend_frz rfl ⟨?_, rfl⟩
    have : kindB W = none := by
      unfold kindB
      rw [hhd, hk]
      simp only [Option.bind_some]
      rw [if_neg (by omega)]
    rw [hnone (prs_kind (hW ▸ this))]
    rfl
  have hkd : kindB W = some k := by
    unfold kindB
    rw [hhd, hk]
    simp only [Option.bind_some]
    rw [if_pos (by omega)]
  simp only [wB, awp, asS, asN, bndA, lenA, Aw.newRow, St.ev, St.step, setS, killS, AV.kill, AV.killL, Mem.kill, Nat.reduceAdd, Nat.reduceEqDiff, Int.reduceAdd, Int.reduceLE, lenK, strsA_len, decide_eq_true h3]
  refine ⟨by omega, ?_⟩
  obtain ⟨V, hV⟩ : ∃ V, V = W.drop 1 := ⟨_, rfl⟩
  have hVl : V.length = cntL.getD k 0 := by rw [hV]; simp only [List.length_drop]; omega
  have hVm : ∀ w ∈ V, w ∈ (splB 32 o).drop 1 := fun w hw => by rw [← hW, ← hV]; exact hw
  have hVs : ∀ w ∈ V, w.length ≤ 1000000 := fun w hw => by have := hWl.2.2 w (List.mem_of_mem_drop (by rw [← hV]; exact hw)); omega
  refine swp_loop' (fun m : Nat => ⟨[S o, .bot, .q 0 4 0 0, .o 1, .v .nilIface, .s 1 (strsA W), .q 2 4 0 0, .bot, .o 3, .bot, .bot, .bot, .bot, .bot, .bot, .bot, .bot, .bot, .bot, .bot, .bot, .bot, .bot, .bot, .bot, .bot, .bot, .bot, .bot, .bot, .bot, .bot, .bot, .bot, .bot, .bot, .bot, .bot, .bot, .bot, .bot, .bot, .bot, .bot, .bot, .bot, .bot, .bot, .s 1 (strsA V), I V.length, I m, .bot, .bot, .bot, .bot, .bot, .bot, .bot, .bot, .bot, .bot, .bot, .bot, .bot, .bot, .bot, .bot, .bot, .bot, .bot, .bot, .bot, .bot, .bot, .bot, .bot, .bot, .bot, .bot, .bot, .bot, .bot, .bot, .bot, .bot], [some ⟨none, 112, 4, [frmA (0, 0, 0, 0)]⟩, some ⟨none, 3, 1, []⟩, some ⟨none, 112, 4, [frmA (f0, ((cntL.getD k 0 : Nat) : Int), f2, f3)]⟩, some ⟨none, 3, 1, intsA ((V.take m).map numB)⟩]⟩) (fun m => m ≤ V.length ∧ ∀ w ∈ V.take m, 0 ≤ numB w) (fun m => V.length - m) 0 (le_sl' ?_ ?_) ⟨Nat.zero_le _, by simp⟩ ?_
  · simp [intsA, frmA]
  · simp only [leSl, true_or, or_true, true_and, and_true, List.length_cons, List.length_nil]
    have e1 : (strsA W).take W.length = strsA W := List.take_of_length_le (by rw [strsA_len]; exact Nat.le_refl _)
    simp only [leSl, e1, hV, strsA_drop, List.drop_one, and_true, or_true, true_and, strsA_len, List.length_tail, Int.toNat_natCast, Int.natCast_zero, or_true]
    exact .inr (by simp [strsA])
  rintro m ⟨hm, hnn⟩
  refine awp_sound (own := [2, 3, 6, 8]) _ _ _ _ _ ?_
  simp only [wB, awp, binC, cmpC, asB, asI, St.ev, St.step, setS, killS, AV.kill, AV.killL, Mem.kill, Nat.reduceAdd, Nat.reduceEqDiff, Int.reduceAdd, frmA]
  have bad : ∀ w ∈ V, numB w < 0 → psA o = .t [frmA (0, 0, 0, 0), .s 1 [], errV 2] := fun w hw hn => hnone (prs_neg (hVm w hw) hn)
  by_cases h : m < V.length
  case neg =>
    have h' : ¬ (m : Int) < (V.length : Int) := by omega
    simp only [wB, awp, asP, asQ, asN, obA, loadA, storeA, putsA, St.ev, St.step, setS, killS, AV.kill, AV.killL, Mem.kill, AV.cells, AV.flat, AV.single, AV.cellular, Nat.reduceAdd, Nat.reduceEqDiff, Nat.reduceLeDiff, Int.reduceAdd, decide_eq_false h']
    have e : V.take m = V := List.take_of_length_le (by omega)
    refine aend_frz rfl ⟨?_, rfl⟩
    have hp : prs o = some (k, V.map numB) := by
      rw [hV, hW]
      exact prs_ok (by omega) (hW ▸ hkd) (by rw [← hW, ← hV, ← e]; exact hnn)
    unfold psA
    rw [hp, e]
    simp only [← hf]
    simp [frz, AV.sub, AV.subL, intsA_pure, frmA]
  have h' : (m : Int) < (V.length : Int) := by omega
  have hmem : V[m] ∈ V := List.getElem_mem h
  simp only [wB, awp, idxC, asP, asS, asI, asN, loadA, St.ev, St.step, setS, killS, AV.kill, AV.killL, Mem.kill, AV.cells, AV.flat, AV.single, Nat.reduceAdd, Nat.reduceEqDiff, Int.reduceAdd, decide_eq_true h', aget_strs h, Int.toNat_natCast]
  refine ⟨by omega, ?_⟩
  refine acall_e (s97 V[m] (hVs _ hmem)) rfl ?_
  have at1 : 0 ≤ numB V[m] → atoiB V[m] = (numB V[m], true) := fun hn => by
    rcases num_some V[m] with h0 | ⟨n, h1, h2, h3⟩
    · omega
    · unfold atoiB
      rw [h2, ← h3, atoi_itoa (by omega) (by omega)]
  rintro x (⟨hx, rfl⟩ | ⟨hx, t, v, rfl⟩)
  case inr =>
    refine ⟨rfl, ?_⟩
    have hn : numB V[m] < 0 := by
      rcases Int.lt_or_le (numB V[m]) 0 with h0 | h0
      · exact h0
      · rw [at1 h0] at hx; cases hx
    simp only [wB, awp, binC, eqC, asQ, asT, asG, asB, asI, asN, obA, storeA, fillA, putsA, Aw.newRow, St.ev, St.step, setS, killS, AV.kill, AV.killL, Mem.kill, AV.cells, AV.flat, AV.single, AV.cellular, Value.oneCell', Nat.reduceAdd, Nat.reduceEqDiff, Nat.reduceLeDiff, Int.reduceAdd, isNI, ptrN, ifcN, asStr, Aw.valOf, Aw.valsOf, nt114, cc139]
    refine aend_frz rfl ⟨?_, rfl⟩
    rw [bad _ hmem (hn)]
    rfl
  refine ⟨rfl, ?_⟩
  simp only [wB, awp, binC, cmpC, eqC, asT, asG, asB, asI, asN, St.ev, St.step, setS, killS, AV.kill, AV.killL, Mem.kill, Nat.reduceAdd, Nat.reduceEqDiff, Int.reduceAdd, isNI, ptrN, ifcN, asStr, nt114]
  generalize hq : (atoiB V[m]).1 = q
  have nb : ¬ (0 ≤ q ∧ q ≤ 99 ∧ Lib.itoa q = V[m]) → numB V[m] < 0 := fun hh => by
    rcases Int.lt_or_le (numB V[m]) 0 with h0 | h0
    · exact h0
    · rcases num_some V[m] with h5 | ⟨n, h1, h2, h3⟩
      · omega
      · rw [at1 h0] at hq
        simp only at hq
        subst hq
        exact absurd ⟨by omega, by omega, by rw [h2]; exact h3⟩ hh
  by_cases c1 : q < 0
  · simp only [wB, awp, asQ, asB, asN, obA, storeA, fillA, putsA, Aw.newRow, St.ev, St.step, setS, killS, AV.kill, AV.killL, Mem.kill, AV.cells, AV.flat, AV.single, AV.cellular, Value.oneCell', Nat.reduceAdd, Nat.reduceEqDiff, Nat.reduceLeDiff, Int.reduceAdd, Aw.valOf, Aw.valsOf, cc139, decide_eq_true c1]
    refine aend_frz rfl ⟨?_, rfl⟩
    rw [bad _ hmem (nb (by omega))]
    rfl
  simp only [wB, binC, cmpC, asB, asI, St.ev, St.step, setS, killS, AV.kill, AV.killL, Mem.kill, decide_eq_false c1]
  by_cases c2 : 99 < q
  · simp only [wB, awp, asQ, asB, asN, obA, storeA, fillA, putsA, Aw.newRow, St.ev, St.step, setS, killS, AV.kill, AV.killL, Mem.kill, AV.cells, AV.flat, AV.single, AV.cellular, Value.oneCell', Nat.reduceAdd, Nat.reduceEqDiff, Nat.reduceLeDiff, Int.reduceAdd, Aw.valOf, Aw.valsOf, cc139, decide_eq_true c2]
    refine aend_frz rfl ⟨?_, rfl⟩
    rw [bad _ hmem (nb (by omega))]
    rfl
  simp only [wB, St.ev, St.step, setS, killS, AV.kill, AV.killL, Mem.kill, decide_eq_false c2]
  refine acall_v (s64 q (by unfold lim; omega)) rfl rfl ?_
  by_cases c3 : Lib.itoa q = V[m]
  · have hq' : numB V[m] = q := num_of (by omega) (by omega) c3
    have htk : V.take (m + 1) = V.take m ++ [V[m]] := by
      rw [List.take_add_one, List.getElem?_eq_getElem h]; rfl
    have hX : (V.take (m + 1)).map numB = (V.take m).map numB ++ [q] := by rw [htk, List.map_append]; simp only [List.map_cons, List.map_nil, hq']
    simp only [wB, awp, binC, arithC, cmpC, eqC, asO, asS, asG, asB, asI, asN, obA, St.ev, St.step, setS, killS, AV.kill, AV.killL, Mem.kill, AV.cells, AV.flat, AV.single, AV.cellular, AV.size, AV.pure, AV.pureL, Value.oneCell', Nat.reduceAdd, Nat.reduceEqDiff, Nat.reduceMul, Nat.reduceLeDiff, Int.reduceAdd, Int.reduceMul, isU, asStr, strC, decide_eq_true c3]
    refine ⟨⟨Nat.zero_lt_one, rfl⟩, ⟨Nat.zero_lt_one, by simp; omega⟩, by unfold lim; omega, m + 1, le_sl' ?_ (by simp [leSl]), ⟨h, fun w hw => ?_⟩, by omega⟩
    · rw [hX, killL_pure _ _ (intsA_pure _)]; simp [intsA, frmA]
    · rw [htk] at hw
      rcases List.mem_append.1 hw with hw | hw
      · exact hnn w hw
      · rw [List.mem_singleton.1 hw, hq']; omega
  simp only [wB, awp, binC, eqC, asQ, asG, asB, asI, asN, obA, storeA, fillA, putsA, Aw.newRow, St.ev, St.step, setS, killS, AV.kill, AV.killL, Mem.kill, AV.cells, AV.flat, AV.single, AV.cellular, Value.oneCell', Nat.reduceAdd, Nat.reduceEqDiff, Nat.reduceLeDiff, Int.reduceAdd, asStr, strC, Aw.valOf, Aw.valsOf, cc139, decide_eq_false c3]
  refine aend_frz rfl ⟨?_, rfl⟩
  rw [bad _ hmem (nb fun hh => c3 hh.2.2)]
  rfl
end Go.Proofs.YtndniceeibflcaaGreatDoor

namespace Go.Proofs.YtndniceeibflcaaGreatDoor
open Aw Mp Go.RowKit
set_option linter.unusedSimpArgs false

theorem ok99 : okFn Tryz.prog 99 = true := by kernel_rfl
theorem s99 (l : List Int) (hl : l.length ≤ 100000) : ASpec Tryz.prog 99 [.s 1 (intsA l)] (fun r Ms => r = .o 0 ∧ Ms = [⟨none, 3, 1, intsA l⟩]) := by
  refine aspec_of (own := [2, 5]) Tryz.func99 rfl ok99 ?_
  simp only [wB, awp, binC, asS, asG, asB, asI, asN, asE, Aw.newRow, St.ev, St.step, setS, killS, AV.kill, AV.killL, Mem.kill, Nat.reduceAdd, Nat.reduceEqDiff, Nat.reduceSub, Int.reduceAdd, Int.reduceSub, ptrN, ifcN, asStr, Tryz.ntmps99]
  intro b hb
  cases b with
  | true =>
    have hn : l = [] := by have := hb rfl; simpa [intsA] using this
    subst hn
    simp only [wB, awp, asN, Aw.newRow, St.ev, St.step, setS, killS, AV.kill, AV.killL, Mem.kill, Nat.reduceAdd, Nat.reduceEqDiff, Int.reduceAdd]
    exact aend_exp 1 rfl rfl rfl ⟨rfl, rfl⟩
  | false =>
    simp only [wB, awp, asO, asS, asN, obA, Aw.newRow, St.ev, St.step, setS, killS, AV.kill, AV.killL, Mem.kill, AV.cells, AV.flat, AV.single, AV.cellular, Value.oneCell', Nat.reduceAdd, Nat.reduceEqDiff, Nat.reduceMul, Nat.reduceLeDiff, Int.reduceAdd, Int.reduceMul]
    refine ⟨⟨by decide, rfl⟩, ⟨by decide, by omega⟩, ?_⟩
    exact aend_exp 1 rfl rfl (intsA_pure l) ⟨rfl, rfl⟩

theorem ok100 : okFn Tryz.prog 100 = true := by kernel_rfl
theorem s100 (l : List G4) (hl : l.length ≤ 100000) : ASpec Tryz.prog 100 [.s 4 (gtsA l)] (fun r Ms => r = .o 0 ∧ Ms = [⟨none, 81, 4, gtsA l⟩]) := by
  refine aspec_of (own := [2, 5]) Tryz.func100 rfl ok100 ?_
  simp only [wB, awp, binC, asS, asG, asB, asI, asN, asE, Aw.newRow, St.ev, St.step, setS, killS, AV.kill, AV.killL, Mem.kill, Nat.reduceAdd, Nat.reduceEqDiff, Nat.reduceSub, Int.reduceAdd, Int.reduceSub, ptrN, ifcN, asStr, Tryz.ntmps100]
  intro b hb
  cases b with
  | true =>
    have hn : l = [] := by have := hb rfl; simpa [gtsA] using this
    subst hn
    simp only [wB, awp, asN, Aw.newRow, St.ev, St.step, setS, killS, AV.kill, AV.killL, Mem.kill, Nat.reduceAdd, Nat.reduceEqDiff, Int.reduceAdd]
    exact aend_exp 1 rfl rfl rfl ⟨rfl, rfl⟩
  | false =>
    simp only [wB, awp, asO, asS, asN, obA, Aw.newRow, St.ev, St.step, setS, killS, AV.kill, AV.killL, Mem.kill, AV.cells, AV.flat, AV.single, AV.cellular, Value.oneCell', Nat.reduceAdd, Nat.reduceEqDiff, Nat.reduceMul, Nat.reduceLeDiff, Int.reduceAdd, Int.reduceMul, gtsA_len]
    refine ⟨⟨by decide, rfl⟩, ⟨by decide, by omega⟩, ?_⟩
    exact aend_exp 1 rfl rfl (gtsA_pure l) ⟨rfl, rfl⟩

theorem ok66 : okFn Tryz.prog 66 = true := by kernel_rfl
theorem s66 (l : List (Int × Int)) (hl : l.length ≤ 100000) : ASpec Tryz.prog 66 [.s 2 (prsA l)] (fun r Ms => r = .o 0 ∧ Ms = [⟨none, 79, 2, prsA l⟩]) := by
  refine aspec_of (own := [2, 5]) Tryz.func66 rfl ok66 ?_
  simp only [wB, awp, binC, asS, asG, asB, asI, asN, asE, Aw.newRow, St.ev, St.step, setS, killS, AV.kill, AV.killL, Mem.kill, Nat.reduceAdd, Nat.reduceEqDiff, Nat.reduceSub, Int.reduceAdd, Int.reduceSub, ptrN, ifcN, asStr, Tryz.ntmps66]
  intro b hb
  cases b with
  | true =>
    have hn : l = [] := by have := hb rfl; simpa [prsA] using this
    subst hn
    simp only [wB, awp, asN, Aw.newRow, St.ev, St.step, setS, killS, AV.kill, AV.killL, Mem.kill, Nat.reduceAdd, Nat.reduceEqDiff, Int.reduceAdd]
    exact aend_exp 1 rfl rfl rfl ⟨rfl, rfl⟩
  | false =>
    simp only [wB, awp, asO, asS, asN, obA, Aw.newRow, St.ev, St.step, setS, killS, AV.kill, AV.killL, Mem.kill, AV.cells, AV.flat, AV.single, AV.cellular, Value.oneCell', Nat.reduceAdd, Nat.reduceEqDiff, Nat.reduceMul, Nat.reduceLeDiff, Int.reduceAdd, Int.reduceMul, prsA_len]
    refine ⟨⟨by decide, rfl⟩, ⟨by decide, by omega⟩, ?_⟩
    exact aend_exp 1 rfl rfl (prsA_pure l) ⟨rfl, rfl⟩

/-- the least, the greatest. -/
def minP (x : Int) (l : List Int) : Int := l.foldl min x
def maxP (x : Int) (l : List Int) : Int := l.foldl max x
theorem minP_take {x : Int} {l : List Int} {k : Nat} (h : k < l.length) : minP x (l.take (k + 1)) = min (minP x (l.take k)) l[k] := by
  unfold minP; rw [List.take_add_one, List.getElem?_eq_getElem h, List.foldl_append]; rfl
theorem maxP_take {x : Int} {l : List Int} {k : Nat} (h : k < l.length) : maxP x (l.take (k + 1)) = max (maxP x (l.take k)) l[k] := by
  unfold maxP; rw [List.take_add_one, List.getElem?_eq_getElem h, List.foldl_append]; rfl
theorem ok146 : okFn Tryz.prog 146 = true := by kernel_rfl
theorem s146 (l : List Int) (hp : 0 < l.length) (hl : l.length ≤ 100000) : ASpec Tryz.prog 146 [.s 1 (intsA l)] (fun r Ms => r = I (minP (l.getD 0 0) l) ∧ Ms = []) := by
  refine aspec_of (own := []) Tryz.func146 rfl ok146 ?_
  simp only [wB, awp, binC, cmpC, asB, asI, asN, lenA, St.ev, St.step, setS, killS, AV.kill, AV.killL, Mem.kill, Nat.reduceAdd, Nat.reduceSub, Int.reduceAdd, Int.reduceSub, lenK, Tryz.ntmps146]
  have h0 : ¬ ((l.length : Nat) : Int) < 1 := by omega
  have hg : l.getD 0 0 = l[0] := by rw [List.getD_eq_getElem?_getD, List.getElem?_eq_getElem hp]; rfl
  have h1 : minP l[0] (l.take 1) = l[0] := by
    cases l with
    | nil => simp at hp
    | cons a r => simp [minP]
  rw [hg]
  simp only [wB, awp, idxC, asP, asS, asI, asN, loadA, St.ev, St.step, setS, killS, AV.kill, AV.killL, Mem.kill, AV.cells, AV.flat, AV.single, Nat.reduceAdd, Int.reduceAdd, Int.reduceLE, decide_eq_false h0, aget_ints hp]
  refine swp_loop' (fun m : Nat => ⟨[.s 1 (intsA l), .bot, .bot, I (minP l[0] (l.take m)), I m, .bot, .bot, .bot, .bot, .bot, .bot, .bot, .bot, .bot, .bot, .bot, .bot, .bot, .bot, .bot, .bot, .bot, .bot, .bot, .bot], []⟩) (fun m => 1 ≤ m ∧ m ≤ l.length) (fun m => l.length - m) 1 (le_sl (by simp [leSl, h1])) ⟨Nat.le_refl _, hp⟩ ?_
  rintro m ⟨hm1, hm⟩
  refine awp_sound (own := []) _ _ _ _ _ ?_
  simp only [wB, awp, binC, cmpC, asB, asI, lenA, St.ev, St.step, setS, killS, AV.kill, AV.killL, Mem.kill, Nat.reduceAdd, Int.reduceAdd, lenK]
  by_cases h : m < l.length
  · have h' : (m : Int) < (l.length : Int) := by omega
    simp only [wB, awp, binC, idxC, arithC, cmpC, asP, asS, asI, asN, minmaxA, loadA, St.ev, St.step, setS, killS, AV.kill, AV.killL, Mem.kill, AV.cells, AV.flat, AV.single, Nat.reduceAdd, Int.reduceAdd, isU, decide_eq_true h', aget_ints h, Int.toNat_natCast, ← minP_take h]
    exact ⟨by omega, by unfold lim; omega, m + 1, le_sl (by simp [leSl]), ⟨by omega, h⟩, by omega⟩
  · have h' : ¬ (m : Int) < (l.length : Int) := by omega
    simp only [wB, awp, asN, St.ev, St.step, setS, killS, AV.kill, AV.killL, Mem.kill, Nat.reduceAdd, Int.reduceAdd, decide_eq_false h']
    refine aend_frz rfl ⟨?_, rfl⟩
    rw [List.take_of_length_le (by omega)]
    rfl

theorem ok147 : okFn Tryz.prog 147 = true := by kernel_rfl
theorem s147 (l : List Int) (hp : 0 < l.length) (hl : l.length ≤ 100000) : ASpec Tryz.prog 147 [.s 1 (intsA l)] (fun r Ms => r = I (maxP (l.getD 0 0) l) ∧ Ms = []) := by
  refine aspec_of (own := []) Tryz.func147 rfl ok147 ?_
  simp only [wB, awp, binC, cmpC, asB, asI, asN, lenA, St.ev, St.step, setS, killS, AV.kill, AV.killL, Mem.kill, Nat.reduceAdd, Nat.reduceSub, Int.reduceAdd, Int.reduceSub, lenK, Tryz.ntmps147]
  have h0 : ¬ ((l.length : Nat) : Int) < 1 := by omega
  have hg : l.getD 0 0 = l[0] := by rw [List.getD_eq_getElem?_getD, List.getElem?_eq_getElem hp]; rfl
  have h1 : maxP l[0] (l.take 1) = l[0] := by
    cases l with
    | nil => simp at hp
    | cons a r => simp [maxP]
  rw [hg]
  simp only [wB, awp, idxC, asP, asS, asI, asN, loadA, St.ev, St.step, setS, killS, AV.kill, AV.killL, Mem.kill, AV.cells, AV.flat, AV.single, Nat.reduceAdd, Int.reduceAdd, Int.reduceLE, decide_eq_false h0, aget_ints hp]
  refine swp_loop' (fun m : Nat => ⟨[.s 1 (intsA l), .bot, .bot, I (maxP l[0] (l.take m)), I m, .bot, .bot, .bot, .bot, .bot, .bot, .bot, .bot, .bot, .bot, .bot, .bot, .bot, .bot, .bot, .bot, .bot, .bot, .bot, .bot], []⟩) (fun m => 1 ≤ m ∧ m ≤ l.length) (fun m => l.length - m) 1 (le_sl (by simp [leSl, h1])) ⟨Nat.le_refl _, hp⟩ ?_
  rintro m ⟨hm1, hm⟩
  refine awp_sound (own := []) _ _ _ _ _ ?_
  simp only [wB, awp, binC, cmpC, asB, asI, lenA, St.ev, St.step, setS, killS, AV.kill, AV.killL, Mem.kill, Nat.reduceAdd, Int.reduceAdd, lenK]
  by_cases h : m < l.length
  · have h' : (m : Int) < (l.length : Int) := by omega
    simp only [wB, awp, binC, idxC, arithC, cmpC, asP, asS, asI, asN, minmaxA, loadA, St.ev, St.step, setS, killS, AV.kill, AV.killL, Mem.kill, AV.cells, AV.flat, AV.single, Nat.reduceAdd, Int.reduceAdd, isU, decide_eq_true h', aget_ints h, Int.toNat_natCast, ← maxP_take h]
    exact ⟨by omega, by unfold lim; omega, m + 1, le_sl (by simp [leSl]), ⟨by omega, h⟩, by omega⟩
  · have h' : ¬ (m : Int) < (l.length : Int) := by omega
    simp only [wB, awp, asN, St.ev, St.step, setS, killS, AV.kill, AV.killL, Mem.kill, Nat.reduceAdd, Int.reduceAdd, decide_eq_false h']
    refine aend_frz rfl ⟨?_, rfl⟩
    rw [List.take_of_length_le (by omega)]
    rfl

/-- the error of the first rule that is broken. -/
def rlA (l : List (Bool × Int)) : List AV := l.map fun r => .g [B r.1, I r.2]
def fstE (l : List (Bool × Int)) : AV := match l.find? (·.1) with | some r => errV r.2 | none => .v .nilIface
theorem rlA_len (l : List (Bool × Int)) : (rlA l).length = l.length := by simp [rlA]
theorem aget_rl {l : List (Bool × Int)} {j : Nat} (h : j < l.length) (K : HK (AV → Prop)) : @AGet (rlA l) j K = K.k (.g [B l[j].1, I l[j].2]) := by simp [AGet, rlA, h]
theorem find_skip {l : List (Bool × Int)} {m : Nat} (hno : ∀ j, j < m → ∀ h : j < l.length, l[j].1 = false) (h : m < l.length) (hb : l[m].1 = true) : l.find? (·.1) = some l[m] := by
  rw [List.find?_eq_some_iff_getElem]
  exact ⟨hb, m, h, rfl, fun j hj => by rw [hno j hj (by omega)]; rfl⟩
theorem find_end {l : List (Bool × Int)} (hno : ∀ j, ∀ h : j < l.length, l[j].1 = false) : l.find? (·.1) = none := by
  rw [List.find?_eq_none]
  intro x hx
  obtain ⟨j, hj, rfl⟩ := List.mem_iff_getElem.1 hx
  rw [hno j hj]
  simp
theorem ok101 : okFn Tryz.prog 101 = true := by kernel_rfl
theorem s101 (l : List (Bool × Int)) (hl : l.length ≤ 100000) : ASpec Tryz.prog 101 [.s 2 (rlA l)] (fun r Ms => r = fstE l ∧ Ms = []) := by
  refine aspec_of (own := [4]) Tryz.func101 rfl ok101 ?_
  simp only [wB, awp, asN, lenA, St.ev, St.step, setS, killS, AV.kill, AV.killL, Mem.kill, Nat.reduceAdd, Nat.reduceEqDiff, Nat.reduceSub, Int.reduceAdd, Int.reduceSub, lenK, Tryz.ntmps101, rlA_len]
  refine swp_loop' (fun m : Nat => ⟨[.s 2 (rlA l), .bot, .bot, .bot, .bot, .s 2 (rlA l), I l.length, I m, .bot, .bot, .bot, .bot, .bot, .bot, .bot, .bot, .bot, .bot], []⟩) (fun m => m ≤ l.length ∧ ∀ j, j < m → ∀ h : j < l.length, l[j].1 = false) (fun m => l.length - m) 0 (le_sl (by simp [leSl])) ⟨Nat.zero_le _, fun j h => absurd h (Nat.not_lt_zero _)⟩ ?_
  rintro m ⟨hm, hno⟩
  refine awp_sound (own := [4]) _ _ _ _ _ ?_
  simp only [wB, awp, binC, cmpC, asB, asI, St.ev, St.step, setS, killS, AV.kill, AV.killL, Mem.kill, Nat.reduceAdd, Nat.reduceEqDiff, Int.reduceAdd]
  by_cases h : m < l.length
  · have h' : (m : Int) < (l.length : Int) := by omega
    simp only [wB, awp, idxC, asP, asQ, asS, asB, asI, obA, loadA, storeA, putsA, mkA, Aw.newRow, St.ev, St.step, setS, killS, AV.kill, AV.killL, Mem.kill, AV.cells, AV.flat, AV.single, AV.cellular, Nat.reduceAdd, Nat.reduceEqDiff, Nat.reduceLeDiff, Int.reduceAdd, decide_eq_true h', aget_rl h, Int.toNat_natCast]
    refine ⟨by omega, ?_⟩
    cases hb : l[m].1 with
    | true =>
      simp only [wB, awp, asP, asQ, asN, obA, loadA, fillA, putsA, St.ev, St.step, setS, killS, AV.kill, AV.killL, Mem.kill, AV.cells, AV.flat, AV.single, AV.cellular, Value.oneCell', Nat.reduceAdd, Nat.reduceEqDiff, Nat.reduceLeDiff, Int.reduceAdd, Aw.valOf, Aw.valsOf, cc139]
      refine aend_frz rfl ⟨?_, rfl⟩
      unfold fstE
      rw [find_skip hno h hb]
      rfl
    | false =>
      simp only [wB, awp, binC, arithC, cmpC, asI, St.ev, St.step, setS, killS, AV.kill, AV.killL, Mem.kill, Nat.reduceAdd, Nat.reduceEqDiff, Int.reduceAdd, isU]
      exact ⟨by unfold lim; omega, m + 1, le_all (by simp [leSl]) rfl, ⟨h, upto hno fun _ => hb⟩, by omega⟩
  · have h' : ¬ (m : Int) < (l.length : Int) := by omega
    simp only [wB, awp, asN, St.ev, St.step, setS, killS, AV.kill, AV.killL, Mem.kill, Nat.reduceAdd, Nat.reduceEqDiff, Int.reduceAdd, decide_eq_false h']
    refine aend_frz rfl ⟨?_, rfl⟩
    unfold fstE
    rw [find_end fun j hj => hno j (by omega) hj]
    rfl
end Go.Proofs.YtndniceeibflcaaGreatDoor

namespace Go.Proofs.YtndniceeibflcaaGreatDoor
open Aw Mp Go.RowKit
set_option linter.unusedSimpArgs false
set_option maxRecDepth 8000

theorem subL_pure (F : Nat → AV) (G : Nat → Nat → Nat → Nat → AV) : ∀ {l : List AV}, AV.pureL l = true → AV.subL F G l = l
  | [], _ => rfl
  | x :: l, h => by
    simp only [AV.pureL, Bool.and_eq_true] at h
    simp only [AV.subL, AV.sub_pure F G x h.1, subL_pure F G h.2]
theorem intsA_sub (F : Nat → AV) (G : Nat → Nat → Nat → Nat → AV) (l : List Int) : AV.subL F G (intsA l) = intsA l := subL_pure F G (intsA_pure l)
theorem gtsA_sub (F : Nat → AV) (G : Nat → Nat → Nat → Nat → AV) (l : List G4) : AV.subL F G (gtsA l) = gtsA l := subL_pure F G (gtsA_pure l)
theorem prsA_sub (F : Nat → AV) (G : Nat → Nat → Nat → Nat → AV) (l : List (Int × Int)) : AV.subL F G (prsA l) = prsA l := subL_pure F G (prsA_pure l)
theorem strsA_sub (F : Nat → AV) (G : Nat → Nat → Nat → Nat → AV) (l : List By) : AV.subL F G (strsA l) = strsA l := subL_pure F G (strsA_pure l)
theorem intsA_free (Z : List Nat) (l : List Int) : AV.freeL Z (intsA l) = true := freeL_pure Z (intsA_pure l)
theorem gtsA_free (Z : List Nat) (l : List G4) : AV.freeL Z (gtsA l) = true := freeL_pure Z (gtsA_pure l)
theorem prsA_free (Z : List Nat) (l : List (Int × Int)) : AV.freeL Z (prsA l) = true := freeL_pure Z (prsA_pure l)
theorem strsA_free (Z : List Nat) (l : List By) : AV.freeL Z (strsA l) = true := freeL_pure Z (strsA_pure l)

theorem intsA_set' (l : List Int) (i : Nat) (x : Int) : (intsA l).set i (I x) = intsA (l.set i x) := by simp [intsA, List.map_set]

/-- a state, its rows frozen; a state whose rows are objects. -/
def stA (s : MS) : AV := .g [.s 1 (intsA s.place), .s 1 (intsA s.heats), .s 4 (gtsA s.circ), I s.moves, I s.cools, I s.done]
def stO' (i j k : Nat) (s : MS) : AV := .g [.o i, .o j, .o k, I s.moves, I s.cools, I s.done]
def rowP (l : List Int) : Ob := ⟨none, 3, 1, intsA l⟩
def rowC (l : List G4) : Ob := ⟨none, 81, 4, gtsA l⟩

theorem ok72 : okFn Tryz.prog 72 = true := by kernel_rfl
theorem s72 (s : MS) (h1 : s.place.length ≤ 1000) (h2 : s.heats.length ≤ 1000) (h3 : s.circ.length ≤ 1000) : ASpec Tryz.prog 72 [stA s] (fun r Ms => r = stO' 0 1 2 s ∧ Ms = [rowP s.place, rowP s.heats, rowC s.circ]) := by
  refine aspec_of (own := [1, 2]) Tryz.func72 rfl ok72 ?_
  simp only [wB, awp, mkA, Aw.newRow, St.ev, St.step, setS, killS, AV.kill, AV.killL, Mem.kill, AV.cellular, AV.size, AV.sizeL, Nat.reduceAdd, Nat.reduceEqDiff, Nat.reduceSub, Int.reduceAdd, Int.reduceSub, Tryz.ntmps72, stA]
  refine swp_draw (own := [1, 2]) (.take 0 .plain [] (.take 1 .reads [] (.take 3 .plain [] (.take 4 .reads [] (.take 6 .plain [] (.take 7 .reads [] (.alt 2 (.take 9 .plain [] (.alt 5 (.alt 8 (.alt 10 (.take 11 .plain [] (.alt 12 (.take 13 .plain [] (.alt 14 (.done) (.nil))) (.nil))) (.nil)) (.nil)) (.nil))) (.nil)))))))) [⟨4, 2, 0, 0, true⟩, ⟨5, 8, 1, 0, true⟩, ⟨6, 16, 2, 0, false⟩, ⟨7, 2, 0, 0, true⟩, ⟨8, 64, 8, 0, true⟩, ⟨9, 128, 20, 0, false⟩, ⟨10, 2, 0, 0, true⟩, ⟨11, 512, 64, 0, true⟩, ⟨12, 1024, 160, 0, false⟩, ⟨13, 2, 223, 0, true⟩, ⟨0, 4128, 991, 1, false⟩, ⟨14, 2, 1791, 0, true⟩, ⟨0, 8448, 3839, 1, false⟩, ⟨15, 2, 8191, 0, true⟩, ⟨0, 18432, 16383, 1, false⟩] mo (by kernel_rfl) ?_
  simp only [wB, asP, asQ, obA, loadA, St.ev, setS, AV.cells, AV.flat, AV.single, Nat.reduceAdd, Nat.reduceEqDiff, Nat.reduceLeDiff, Int.reduceAdd, ASch, St.put, Md.mem, Md.need]
  refine acall_o (s99 s.place (by omega)) (by simp [AV.pureL, AV.pure, intsA_pure]) (intsA_pure _) ?_
  simp only [wB, asP, asQ, St.ev, St.step, setS, killS, AV.kill, AV.killL, Mem.kill, Nat.reduceAdd, Nat.reduceEqDiff, Int.reduceAdd, ASch, St.put, Md.mem, Md.need, AV.up, AV.sub]
  refine acall_o (s99 s.heats (by omega)) (by simp [AV.pureL, AV.pure, intsA_pure]) (intsA_pure _) ?_
  simp only [wB, St.ev, St.step, setS, killS, AV.kill, AV.killL, Mem.kill, Nat.reduceAdd, Int.reduceAdd, ASch, AV.up, AV.sub]
  refine acall_o (s100 s.circ (by omega)) (by simp [AV.pureL, AV.pure, gtsA_pure]) (gtsA_pure _) ?_
  simp only [wB, awp, asP, asQ, obA, loadA, storeA, putsA, St.ev, St.step, setS, killS, AV.kill, AV.killL, Mem.kill, AV.cells, AV.flat, AV.single, AV.cellular, Nat.reduceAdd, Nat.reduceEqDiff, Nat.reduceLeDiff, Int.reduceAdd, ASch, St.put, Md.mem, Md.need, AV.up, AV.sub]
  exact aend_ren [2, 3, 4] (by decide) [rowP s.place, rowP s.heats, rowC s.circ] rfl (by simp [reM, intsA_sub, gtsA_sub, rowP, rowC]) ⟨rfl, rfl⟩

theorem ok104 : okFn Tryz.prog 104 = true := by kernel_rfl
/-- the memory of a state that is worked on. -/
def memS (s : MS) : Mem := [none, none, none, none, some (rowP s.place), some (rowP s.heats), some (rowC s.circ), some ⟨none, 105, 6, [stO' 4 5 6 s]⟩]
theorem m104 (s : MS) (i : Nat) (hi : i < s.heats.length) (n : Int) (hn : 0 ≤ n ∧ n ≤ 1000) (hh : ∀ h ∈ s.heats, 0 ≤ h ∧ h ≤ 1000) : MSpec Tryz.prog 104 [.q 7 6 0 0, I i, I n] (memS s) (fun r N => r = .t [] ∧ N = memS { s with heats := bump s.heats i n }) := by
  refine mspec_of2 (own := []) Tryz.func104 rfl ok104 ?_
  intro vs
  simp only [awp, List.length_cons, List.length_nil, List.replicate_succ, List.replicate_zero, List.cons_append, List.nil_append, Nat.zero_add, Nat.reduceAdd, Nat.reduceSub, Int.reduceAdd, Int.reduceSub, Tryz.ntmps104, memS, stO', rowP, rowC]
  have hl : s.heats[i] ∈ s.heats := List.getElem_mem hi
  have hh' := hh _ hl
  have hg : s.heats.getD i 0 = s.heats[i] := by rw [List.getD_eq_getElem?_getD, List.getElem?_eq_getElem hi]; rfl
  refine swp_draw (own := []) (.take 0 .plain [] (.take 1 .plain [] (.take 2 .plain [] (.take 3 .reads [] (.take 4 .plain [] (.take 5 .plain [] (.take 6 .plain [] (.take 7 .plain [] (.take 8 .reads [] (.take 9 .plain [] (.take 10 .reads [] (.take 11 .reads [] (.take 12 .plain [] (.take 13 .plain [] (.take 14 .reads [] (.take 15 .reads [] (.alt 16 (.done) (.nil)))))))))))))))))) [⟨7, 1, 0, 0, true⟩, ⟨8, 64, 1, 0, true⟩, ⟨9, 128, 2, 0, true⟩, ⟨10, 256, 4, 0, true⟩, ⟨11, 2, 0, 0, true⟩, ⟨12, 1, 0, 0, true⟩, ⟨13, 2048, 32, 0, true⟩, ⟨14, 4096, 64, 0, true⟩, ⟨15, 8192, 128, 0, true⟩, ⟨16, 2, 0, 0, true⟩, ⟨17, 49152, 768, 0, true⟩, ⟨18, 65536, 1024, 0, true⟩, ⟨19, 4, 0, 0, true⟩, ⟨20, 393216, 6144, 0, true⟩, ⟨21, 524288, 8192, 0, true⟩, ⟨22, 1536, 32767, 0, true⟩, ⟨0, 3145728, 65535, 1, false⟩] mo (by kernel_rfl) ?_
  simp only [wB, binC, idxC, arithC, cmpC, asP, asQ, asO, asS, asI, obA, minmaxA, loadA, storeA, putsA, St.ev, St.step, setS, killS, AV.kill, AV.killL, Mem.kill, AV.cells, AV.flat, AV.single, AV.cellular, Value.oneCell', Nat.reduceAdd, Nat.reduceEqDiff, Nat.reduceLeDiff, Int.reduceAdd, ASch, St.put, Md.mem, Md.need, isU, aget_ints hi, Int.toNat_natCast, intsA_set']
  refine ⟨⟨by omega, by omega⟩, by unfold lim; omega, ⟨by omega, by omega⟩, _, .t [], memS { s with heats := bump s.heats i n }, [], Le.refl _, rfl, ?_, rfl, rfl, ?_, ⟨rfl, rfl⟩⟩
  · simp only [memS, stO', rowP, rowC, bump, hg]
    rfl
  · simp [freeM, memS, stO', rowP, rowC, intsA_free, gtsA_free, AV.freeL, AV.free, Zr]
end Go.Proofs.YtndniceeibflcaaGreatDoor

namespace Go.Proofs.YtndniceeibflcaaGreatDoor
namespace Aw
open Go.RowKit
set_option linter.unusedSimpArgs false

def subM : Mem → Mem → Prop
  | [], _ => True
  | none :: M, _ :: Mc => subM M Mc
  | some ob :: M, c :: Mc => c = some ob ∧ subM M Mc
  | _ :: _, [] => False
theorem subM_get : ∀ (M Mc : Mem), subM M Mc → ∀ (i : Nat) (ob : Ob), M[i]? = some (some ob) → Mc[i]? = some (some ob)
  | [], _, _, i, ob, h => by simp at h
  | none :: M, [], hs, i, ob, h => hs.elim
  | some o :: M, [], hs, i, ob, h => hs.elim
  | none :: M, c :: Mc, hs, i, ob, h => by
    cases i with
    | zero => simp at h
    | succ i => exact subM_get M Mc hs i ob (by simpa using h)
  | some o :: M, c :: Mc, hs, i, ob, h => by
    cases i with
    | zero => simp at h; subst h; rw [hs.1]; rfl
    | succ i => exact subM_get M Mc hs.2 i ob (by simpa using h)
def lvL (M : Mem) : List Bool := M.map Option.isSome
theorem lvL_eq {M M' : Mem} (h : lvL M' = lvL M) (i : Nat) : liveI M' i = liveI M i := by
  have : (M'[i]?).map Option.isSome = (M[i]?).map Option.isSome := by
    have := congrArg (fun l => l[i]?) h
    simpa [lvL] using this
  unfold liveI
  cases h1 : M'[i]? with
  | none => rw [h1] at this; cases h2 : M[i]? with
    | none => rfl
    | some o => rw [h2] at this; cases this
  | some o1 => rw [h1] at this; cases h2 : M[i]? with
    | none => rw [h2] at this; cases this
    | some o2 =>
      rw [h2] at this
      simp only [Option.map_some, Option.some.injEq] at this
      cases o1 <;> cases o2 <;> simp_all
def deadL (M : Mem) (n : Nat) : List Nat := (List.range n).filter fun i => !liveI M i
theorem mem_deadL {M : Mem} {n i : Nat} (hi : i < n) (h : liveI M i = false) : i ∈ deadL M n := by
  unfold deadL
  rw [List.mem_filter]
  exact ⟨List.mem_range.2 hi, by rw [h]; rfl⟩
/-- the memory behind a call, object by object. -/
def combR (F : Nat → AV) (G : Nat → Nat → Nat → Nat → AV) : Mem → Mem → Mem → Mem
  | _, [], _ => []
  | some _ :: M, _ :: Mc, c :: M' => c :: combR F G M Mc M'
  | some _ :: M, _ :: Mc, [] => none :: combR F G M Mc []
  | none :: M, c :: Mc, M' => (c.map fun ob => { ob with xs := AV.subL F G ob.xs }) :: combR F G M Mc (M'.drop 1)
  | [], c :: Mc, M' => (c.map fun ob => { ob with xs := AV.subL F G ob.xs }) :: combR F G [] Mc (M'.drop 1)
theorem combR_get (F : Nat → AV) (G : Nat → Nat → Nat → Nat → AV) : ∀ (M Mc M' : Mem) (i : Nat), i < Mc.length → (combR F G M Mc M')[i]? = some (if liveI M i = true then (M'[i]?).getD none else ((Mc[i]?).getD none).map fun ob => { ob with xs := AV.subL F G ob.xs })
  | _, [], _, i, hi => by simp at hi
  | some o :: M, c :: Mc, c' :: M', i, hi => by
    cases i with
    | zero => rfl
    | succ i =>
      have := combR_get F G M Mc M' i (by simpa using hi)
      simp only [combR, List.getElem?_cons_succ]
      rw [this]
      rfl
  | some o :: M, c :: Mc, [], i, hi => by
    cases i with
    | zero => rfl
    | succ i =>
      have := combR_get F G M Mc [] i (by simpa using hi)
      simp only [combR, List.getElem?_cons_succ]
      rw [this]
      rfl
  | none :: M, c :: Mc, M', i, hi => by
    cases i with
    | zero => simp [combR, liveI]
    | succ i =>
      have := combR_get F G M Mc (M'.drop 1) i (by simpa using hi)
      rw [List.getElem?_drop, Nat.add_comm 1 i] at this
      simp only [combR, List.getElem?_cons_succ]
      rw [this]
      rfl
  | [], c :: Mc, M', i, hi => by
    cases i with
    | zero => simp [combR, liveI]
    | succ i =>
      have := combR_get F G [] Mc (M'.drop 1) i (by simpa using hi)
      rw [List.getElem?_drop, Nat.add_comm 1 i] at this
      simp only [combR, List.getElem?_cons_succ]
      rw [this]
      rfl
theorem combR_len (F : Nat → AV) (G : Nat → Nat → Nat → Nat → AV) : ∀ (M Mc M' : Mem), (combR F G M Mc M').length = Mc.length
  | _, [], _ => by simp [combR]
  | some o :: M, c :: Mc, c' :: M' => by simp only [combR, List.length_cons, combR_len F G M Mc M']
  | some o :: M, c :: Mc, [] => by simp only [combR, List.length_cons, combR_len F G M Mc []]
  | none :: M, c :: Mc, M' => by simp only [combR, List.length_cons, combR_len F G M Mc (M'.drop 1)]
  | [], c :: Mc, M' => by simp only [combR, List.length_cons, combR_len F G [] Mc (M'.drop 1)]
theorem combM_combR (M : Mem) (ars : List AV) (Mc M' : Mem) : combM M ars Mc M' = combR (keepF M ars) (keepG M ars) M Mc M' := by
  apply List.ext_getElem?
  intro i
  rcases Nat.lt_or_ge i Mc.length with hi | hi
  · rw [combM_at hi, combR_get _ _ M Mc M' i hi]
  · rw [List.getElem?_eq_none (by unfold combM; simpa using hi), List.getElem?_eq_none (by rw [combR_len]; exact hi)]
/-- a function is lent the objects of M out of Mc. -/
theorem fspec_of {P : Program} {f : FuncId} {ars : List AV} {M Mc M' N : Mem} {x : AV} (spec : MSpec P f ars M (fun r N => r = x ∧ N = M')) (Z : List Nat) (hl : lvL M' = lvL M) (hsub : subM M Mc) (hZ : deadL M Mc.length = Z) (hfa : AV.freeL Z ars = true) (hfm : freeM Z M = true)
    (hN : combR (keepF M ars) (keepG M ars) M Mc M' = N) : FSpec P f ars M Mc x N := by
  have := MSpec.frame spec (fun i hi => by rw [lvL_eq hl i]; exact hi) (Mc := Mc) (subM_get M Mc hsub) (Z := Z) (fun i hi hd => hZ ▸ mem_deadL hi hd) hfa hfm
  rw [combM_combR, hN] at this
  exact this
end Aw
end Go.Proofs.YtndniceeibflcaaGreatDoor

namespace Go.Proofs.YtndniceeibflcaaGreatDoor
open Aw Mp Go.RowKit
set_option linter.unusedSimpArgs false
set_option maxRecDepth 8000

/-- what a machine is made of besides what it is worked on: the lock's word, the zones, the limit, the links, the state, the log, the orders. -/
structure Mch where
  mu : Int
  n : Int
  lim : Int
  ls : List (Int × Int)
  st : MS
  log : By
  ords : List By
def Mch.cells (m : Mch) (L O : AV) : AV := .g [.v (.int .i32 m.mu), .v (.int .u32 0), I m.n, L, I m.lim, .s 1 (intsA m.st.place), .s 1 (intsA m.st.heats), .s 4 (gtsA m.st.circ), I m.st.moves, I m.st.cools, I m.st.done, O, S m.log]
def Mch.ob (m : Mch) : Ob := ⟨none, 107, 13, [m.cells (.s 2 (prsA m.ls)) (.o 2)]⟩
def Mch.od (m : Mch) : Ob := ⟨none, 9, 1, strsA m.ords⟩
def rowS (i j k : Nat) (s : MS) : Ob := ⟨none, 105, 6, [stO' i j k s]⟩
def memG (m : Mch) (t : MS) : Mem := [some m.ob, none, some m.od, none, some (rowP t.place), some (rowP t.heats), some (rowC t.circ), some (rowS 4 5 6 t)]

theorem ok145 : okFn Tryz.prog 145 = true := by kernel_rfl
theorem s145 (m : Mch) (t : MS) (z : Nat) (hz : z < t.heats.length) : ASpec Tryz.prog 145 [I z, .p (.p (stA t) 0) 0, .p (.p (m.cells (.s 2 (prsA m.ls)) (.s 1 (strsA m.ords))) 0) 0] (fun r Ms => r = B (decide (m.lim < t.heats.getD z 0)) ∧ Ms = []) := by
  refine aspec_of (own := []) Tryz.func145 rfl ok145 ?_
  have hg : t.heats.getD z 0 = t.heats[z] := by rw [List.getD_eq_getElem?_getD, List.getElem?_eq_getElem hz]; rfl
  simp only [wB, awp, asN, St.ev, St.step, setS, killS, AV.kill, AV.killL, Mem.kill, AV.cells, Nat.reduceAdd, Nat.reduceSub, Int.reduceAdd, Int.reduceSub, Tryz.ntmps145, stA, Mch.cells]
  refine swp_draw (own := []) (.take 0 .reads [] (.take 1 .plain [] (.take 2 .plain [] (.take 3 .reads [] (.take 4 .plain [] (.take 5 .reads [] (.take 6 .reads [] (.take 7 .reads [] (.take 8 .plain [] (.take 9 .plain [] (.take 10 .reads [] (.take 11 .plain [] (.take 12 .plain [] (.done)))))))))))))) [⟨6, 2, 0, 0, true⟩, ⟨7, 32, 1, 0, true⟩, ⟨8, 64, 2, 0, true⟩, ⟨9, 128, 4, 0, true⟩, ⟨10, 1, 0, 0, true⟩, ⟨11, 768, 24, 0, true⟩, ⟨12, 1024, 32, 0, true⟩, ⟨13, 4, 0, 0, true⟩, ⟨14, 4096, 128, 0, true⟩, ⟨15, 8192, 256, 0, true⟩, ⟨16, 16384, 512, 0, true⟩, ⟨17, 34816, 1088, 0, true⟩, ⟨5, 65536, 4095, 0, true⟩] mo (by kernel_rfl) ?_
  simp only [wB, awp, binC, idxC, cmpC, asP, asS, asI, asN, loadA, St.ev, setS, AV.cells, AV.flat, AV.single, Nat.reduceAdd, Nat.reduceEqDiff, Nat.reduceLeDiff, Int.reduceAdd, ASch, St.put, Md.mem, Md.need, aget_ints hz, Int.toNat_natCast, hg]
  exact ⟨by omega, aend_frz rfl ⟨rfl, rfl⟩⟩

/-- the error's value. -/
def erV (e : Int) : AV := if e = 0 then .v .nilIface else errV e
theorem fstE_pure (l : List (Bool × Int)) : (fstE l).pure = true := by unfold fstE; split <;> rfl
theorem fst4 (a b c d : Bool) : fstE [(a, 1), (b, 9), (c, 8), (d, 3)] = erV (if a then 1 else if b then 9 else if c then 8 else if d then 3 else 0) := by
  cases a <;> cases b <;> cases c <;> cases d <;> rfl

theorem free_G (k : Nat) (m : Mch) (t : MS) : freeM (Zr 8 k) (memG m t) = true := by
  have h : ∀ i, i < 8 → (Zr 8 k).contains i = false := fun i hi => by
    cases hc : (Zr 8 k).contains i with
    | false => rfl
    | true => have := mem_Zr.1 (List.contains_iff_mem.1 hc); omega
  simp [freeM, memG, Mch.ob, Mch.od, Mch.cells, rowP, rowC, rowS, stO', AV.freeL, AV.free, intsA_free, gtsA_free, prsA_free, strsA_free, -List.contains_eq_mem, h]
theorem m104i (s : MS) (x : Int) (hx : 0 ≤ x ∧ x < s.heats.length) (n : Int) (hn : 0 ≤ n ∧ n ≤ 1000) (hh : ∀ h ∈ s.heats, 0 ≤ h ∧ h ≤ 1000) : MSpec Tryz.prog 104 [.q 7 6 0 0, I x, I n] (memS s) (fun r N => r = .t [] ∧ N = memS { s with heats := bump s.heats x.toNat n }) := by
  have := m104 s x.toNat (by omega) n hn hh
  rwa [show ((x.toNat : Nat) : Int) = x by omega] at this
theorem free_S (Z : List Nat) (s : MS) (h : (Z.contains 4 || Z.contains 5 || Z.contains 6) = false) : freeM Z (memS s) = true := by
  simp only [Bool.or_eq_false_iff] at h
  simp [freeM, memS, rowP, rowC, stO', AV.freeL, AV.free, intsA_free, gtsA_free, -List.contains_eq_mem, h.1.1, h.1.2, h.2]
theorem ok105 : okFn Tryz.prog 105 = true := by kernel_rfl
/-- the state behind a gate of one ion. -/
def nx1 (t : MS) (k x y : Int) : MS := { t with circ := t.circ ++ [⟨k, x, -1, y⟩], heats := bump t.heats x.toNat 1, done := t.done + 1 }
theorem m105a (m : Mch) (t : MS) {c : Nat} (hI : InvS m.n c t) (hc : c ≤ 1000) (k x y : Int) (hx : 0 ≤ x ∧ x < t.place.length) :
    MSpec Tryz.prog 105 [.q 7 6 0 0, .q 0 13 0 0, I k, I 1, I y, .s 1 (intsA [x])] (memG m t) (fun r N => r = erV (er1 m.lim t x y) ∧ N = memG m (if er1 m.lim t x y = 0 then nx1 t k x y else t)) := by
  refine mspec_of2 (own := [6, 7, 19, 1018]) Tryz.func105 rfl ok105 ?_
  intro vs
  have hxl : x.toNat < t.heats.length := by rw [hI.hl]; omega
  have hxn : ((x.toNat : Nat) : Int) = x := by omega
  have e1 : ((1 : Nat) : Int) = 1 := rfl
  have hhe : t.heats.getD x.toNat 0 = t.heats[x.toNat] := by rw [List.getD_eq_getElem?_getD, List.getElem?_eq_getElem hxl]; rfl
  simp only [wB, awp, binC, cmpC, asB, asI, asN, lenA, Aw.newRow, St.ev, St.step, setS, killS, AV.kill, AV.killL, Mem.kill, AV.cells, AV.single, AV.cellular, AV.size, Value.oneCell', Nat.reduceAdd, Nat.reduceEqDiff, Nat.reduceSub, Int.reduceAdd, Int.reduceSub, Int.reduceEq, lenK, Tryz.ntmps105, memG, e1, Mch.ob, Mch.od, Mch.cells, rowP, rowC, rowS, stO', ghost]
  refine ⟨rfl, acall_ln 2 (s75 [x] (fun z => decide (m.lim < t.heats.getD z.toNat 0)) 145 [.p (.p (stA t) 0) 0, .p (.p (m.cells (.s 2 (prsA m.ls)) (.s 1 (strsA m.ords))) 0) 0] (by simp) rfl (fun z hz => ?_)) ?_ rfl rfl ?_⟩
  · obtain rfl : z = x := by simpa using hz
    rw [← hxn]
    exact s145 m t z.toNat hxl
  · simp [frzN, AV.sub, AV.subL, intsA_pure, gtsA_pure, strsA_pure, prsA_pure, stA, Mch.cells, frz]
  have hany : [x].any (fun z => decide (m.lim < t.heats.getD z.toNat 0)) = decide (m.lim < t.heats.getD x.toNat 0) := by simp
  simp only [wB, awp, asN, St.ev, St.step, setS, killS, AV.kill, AV.killL, Mem.kill, Nat.reduceEqDiff, hany]
  refine swp_draw (own := [6, 7, 19]) (.take 0 .plain [] (.take 1 .reads [] (.take 2 .plain [] (.take 3 .plain [] (.take 4 .plain [] (.take 5 .reads [] (.take 6 .reads [] (.take 7 .plain [] (.take 8 .reads [] (.take 9 .reads [] (.take 10 .plain [] (.take 11 .plain [] (.take 12 .plain [] (.done)))))))))))))) [⟨57, 32, 0, 0, true⟩, ⟨58, 72057594037927936, 1, 0, true⟩, ⟨59, 144115188075855872, 2, 0, true⟩, ⟨60, 288230376151711744, 4, 0, true⟩, ⟨61, 576460752303423520, 8, 0, true⟩, ⟨62, 1729382256910270464, 24, 0, true⟩, ⟨63, 2882303761517117440, 40, 0, true⟩, ⟨64, 576460752303423520, 8, 0, true⟩, ⟨65, 9799832789158199296, 136, 0, true⟩, ⟨66, 19023204826012975104, 264, 0, true⟩, ⟨67, 42081634918149914624, 584, 0, true⟩, ⟨68, 74363437047141629952, 1032, 0, true⟩, ⟨18, 147573952589676412928, 4095, 0, true⟩] mo (by kernel_rfl) ?_
  simp only [wB, awp, binC, cmpC, asB, asI, asN, lenA, St.ev, St.step, setS, killS, AV.kill, AV.killL, Mem.kill, Nat.reduceAdd, Nat.reduceEqDiff, Int.reduceAdd, Int.reduceEq, ASch, St.put, Md.mem, Md.need, lenK, e1]
  by_cases c1 : y < 1
  · simp only [wB, binC, cmpC, asP, asQ, asB, asI, obA, lenA, loadA, fillA, putsA, St.ev, St.step, setS, killS, AV.kill, AV.killL, Mem.kill, AV.cells, AV.flat, AV.single, AV.cellular, AV.size, AV.sizeL, AV.pure, AV.pureL, Value.oneCell', Nat.reduceAdd, Nat.reduceEqDiff, Nat.reduceMul, Nat.reduceLeDiff, Int.reduceAdd, Int.reduceMul, lenK, decide_eq_true c1, gtsA_len]
    refine ⟨⟨by decide, rfl⟩, acall_v (s101 [(true, 1), (false, 9), (decide (m.lim < t.heats.getD x.toNat 0), 8), (decide ((t.circ.length : Int) = 10), 3)] (Nat.le_of_ble_eq_true rfl)) rfl (fstE_pure _) ?_⟩
    have he : er1 m.lim t x y = 1 := by unfold er1; rw [if_pos (.inl c1)]
    simp only [wB, awp, binC, eqC, asG, asB, asI, asN, St.ev, St.step, setS, killS, AV.kill, AV.killL, Mem.kill, Nat.reduceAdd, Nat.reduceEqDiff, Int.reduceAdd, Int.reduceEq, isNI, ptrN, ifcN, asStr, nt114, fst4, erV, errV]
    exact ⟨_, _, memG m t, _, Le.refl _, rfl, rfl, rfl, rfl, free_G _ m t, by simp [he], by simp [he]⟩
  simp only [wB, binC, cmpC, asB, asI, St.ev, St.step, setS, killS, AV.kill, AV.killL, Mem.kill, decide_eq_false c1]
  by_cases c2 : 16 ≤ y
  · simp only [wB, binC, cmpC, asP, asQ, asB, asI, obA, lenA, loadA, fillA, putsA, St.ev, St.step, setS, killS, AV.kill, AV.killL, Mem.kill, AV.cells, AV.flat, AV.single, AV.cellular, AV.size, AV.sizeL, AV.pure, AV.pureL, Value.oneCell', Nat.reduceAdd, Nat.reduceEqDiff, Nat.reduceMul, Nat.reduceLeDiff, Int.reduceAdd, Int.reduceMul, lenK, decide_eq_true c2, gtsA_len]
    refine ⟨⟨by decide, rfl⟩, acall_v (s101 [(true, 1), (false, 9), (decide (m.lim < t.heats.getD x.toNat 0), 8), (decide ((t.circ.length : Int) = 10), 3)] (Nat.le_of_ble_eq_true rfl)) rfl (fstE_pure _) ?_⟩
    have he : er1 m.lim t x y = 1 := by unfold er1; rw [if_pos (.inr c2)]
    simp only [wB, awp, binC, eqC, asG, asB, asI, asN, St.ev, St.step, setS, killS, AV.kill, AV.killL, Mem.kill, Nat.reduceAdd, Nat.reduceEqDiff, Int.reduceAdd, Int.reduceEq, isNI, ptrN, ifcN, asStr, nt114, fst4, erV, errV]
    exact ⟨_, _, memG m t, _, Le.refl _, rfl, rfl, rfl, rfl, free_G _ m t, by simp [he], by simp [he]⟩
  simp only [wB, binC, cmpC, asP, asQ, asB, asI, obA, lenA, loadA, fillA, putsA, St.ev, St.step, setS, killS, AV.kill, AV.killL, Mem.kill, AV.cells, AV.flat, AV.single, AV.cellular, AV.size, AV.sizeL, AV.pure, AV.pureL, Value.oneCell', Nat.reduceAdd, Nat.reduceEqDiff, Nat.reduceMul, Nat.reduceLeDiff, Int.reduceAdd, Int.reduceMul, lenK, decide_eq_false c2, gtsA_len]
  refine ⟨⟨by decide, rfl⟩, acall_v (s101 [(false, 1), (false, 9), (decide (m.lim < t.heats.getD x.toNat 0), 8), (decide ((t.circ.length : Int) = 10), 3)] (Nat.le_of_ble_eq_true rfl)) rfl (fstE_pure _) ?_⟩
  have he : er1 m.lim t x y = if decide (m.lim < t.heats.getD x.toNat 0) = true then 8 else if decide ((t.circ.length : Int) = 10) = true then 3 else 0 := by
    unfold er1
    rw [if_neg (by omega)]
    have : (t.circ.length = 10) = ((t.circ.length : Int) = 10) := propext ⟨fun h => by omega, fun h => by omega⟩
    simp only [decide_eq_true_eq, this]
  simp only [fst4, Bool.false_eq_true, if_false]
  by_cases c3 : m.lim < t.heats.getD x.toNat 0
  · rw [decide_eq_true c3] at he
    simp only [wB, awp, binC, eqC, asG, asB, asI, asN, St.ev, St.step, setS, killS, AV.kill, AV.killL, Mem.kill, Nat.reduceAdd, Nat.reduceEqDiff, Int.reduceAdd, Int.reduceEq, isNI, ptrN, ifcN, asStr, nt114, decide_eq_true c3, erV, errV]
    exact ⟨_, _, memG m t, _, Le.refl _, rfl, rfl, rfl, rfl, free_G _ m t, by simp [he], by simp [he]⟩
  by_cases c4 : (t.circ.length : Int) = 10
  · rw [decide_eq_false c3, decide_eq_true c4] at he
    simp only [wB, awp, binC, eqC, asG, asB, asI, asN, St.ev, St.step, setS, killS, AV.kill, AV.killL, Mem.kill, Nat.reduceAdd, Nat.reduceEqDiff, Int.reduceAdd, Int.reduceEq, isNI, ptrN, ifcN, asStr, nt114, decide_eq_false c3, decide_eq_true c4, erV, errV]
    exact ⟨_, _, memG m t, _, Le.refl _, rfl, rfl, rfl, rfl, free_G _ m t, by simp [he], by simp [he]⟩
  rw [decide_eq_false c3, decide_eq_false c4] at he
  have he : er1 m.lim t x y = 0 := he
  simp only [wB, awp, binC, eqC, asG, asB, asI, asN, St.ev, St.step, setS, killS, AV.kill, AV.killL, Mem.kill, Nat.reduceAdd, Nat.reduceEqDiff, Int.reduceAdd, Int.reduceNeg, isNI, ptrN, ifcN, asStr, nt114, decide_eq_false c3, decide_eq_false c4, erV, errV]
  refine acall_v (s146 [x] (by simp) (by simp)) rfl rfl ?_
  rw [show minP ([x].getD 0 0) [x] = x by simp [minP]]
  simp only [wB, awp, binC, cmpC, asQ, asB, asI, obA, lenA, storeA, fillA, putsA, mkA, Aw.newRow, St.ev, St.step, setS, killS, AV.kill, AV.killL, Mem.kill, AV.cells, AV.flat, AV.single, AV.cellular, Value.oneCell', Nat.reduceAdd, Nat.reduceEqDiff, Nat.reduceLeDiff, Int.reduceAdd, Int.reduceNeg, Int.reduceEq, lenK, e1]
  obtain ⟨gh, hgh⟩ : ∃ gh, gh = some (ghost vs [AV.q 7 6 0 0, AV.q 0 13 0 0, I k, I 1, I y, AV.s 1 (intsA [x])]) := ⟨_, rfl⟩
  refine swp_to ⟨[.bot, .bot, .bot, I 1, .bot, .s 1 (intsA [x]), .q 9 1 0 0, .bot, .bot, .bot, .bot, .bot, .bot, .bot, .bot, .bot, .bot, .bot, .bot, .bot, .bot, .bot, .bot, .bot, .bot, .bot, .bot, .bot, .bot, .bot, .bot, .bot, .bot, .bot, .bot, .bot, .bot, .bot, .bot, .bot, .bot, .bot, .bot, .bot, .bot, .bot, .bot, .bot, .bot, .bot, .bot, .bot, .bot, .bot, .bot, .bot, .bot, .bot, .bot, .bot, .bot, .bot, .bot, .bot, .bot, .bot, .bot, .bot, .bot, .bot, .bot, .bot, .bot, .bot, .bot, .bot, .bot, .bot, .bot, .bot, .bot, .bot, .bot, .bot, .bot, .bot, .bot, .bot, .bot, .bot, .bot, .bot, .bot, .bot, .bot, .bot, .bot, .bot, .bot, .bot, .bot, .bot, .bot, .bot, .bot, .bot, .bot, .bot, .bot, .bot, .bot, .bot, .bot, .bot, .bot, .bot, .bot, .bot, .bot, .bot, .bot, .bot, .bot, .bot, .bot, .bot, .bot, .bot, .bot, .bot, .bot, .bot, .bot, .bot], memG m { t with circ := t.circ ++ [⟨k, x, -1, y⟩] } ++ [gh, some ⟨none, 149, 1, [.q 7 6 0 0]⟩, some ⟨none, 32, 1, [.q 0 13 0 0]⟩, some ⟨none, 81, 4, [gA ⟨k, x, -1, y⟩]⟩]⟩ (swp_draw (own := [6, 7, 19]) (.take 1 .reads [] (.take 2 .plain [] (.take 3 .plain [] (.take 4 .reads [] (.take 5 .reads [] (.take 6 .plain [] (.alt 0 (.alt 7 (.take 8 .plain [] (.take 9 .plain [] (.alt 10 (.done) (.nil)))) (.nil)) (.alt 7 (.take 0 .reads [] (.take 8 .plain [] (.take 9 .plain [] (.alt 10 (.done) (.nil))))) (.nil))))))))) [⟨107, 64, 0, 0, true⟩, ⟨108, 64, 0, 0, true⟩, ⟨109, 162259276829213363391578010288128, 2, 0, true⟩, ⟨110, 324518553658426726783156020576256, 4, 0, true⟩, ⟨111, 649037107316853453566312041152512, 8, 0, true⟩, ⟨112, 524288, 0, 0, true⟩, ⟨113, 2596148429267413814265248164610048, 32, 0, true⟩, ⟨114, 6490371073168534535663120411525120, 80, 2, false⟩, ⟨115, 81129638414606681695789005144064, 255, 0, true⟩, ⟨116, 20769187434139310514121985316880384, 511, 0, true⟩, ⟨0, 51922968585348276285304963292200960, 767, 1, false⟩] mo (by kernel_rfl) ?_) ?_
  · simp only [wB, asP, asQ, asO, asS, obA, loadA, storeA, putsA, St.ev, St.step, setS, killS, AV.kill, AV.killL, Mem.kill, AV.cells, AV.flat, AV.single, AV.cellular, AV.size, AV.sizeL, AV.pure, AV.pureL, Value.oneCell', Nat.reduceAdd, Nat.reduceEqDiff, Nat.reduceMul, Nat.reduceLeDiff, Int.reduceAdd, Int.reduceMul, Int.reduceNeg, ASch, St.put, Md.mem, Md.need, gtsA_len]
    have hle : (0 : Nat) < 4 := by decide
    have hcl : t.circ.length ≤ 999999 := by have := hI.c10; omega
    refine ⟨⟨hle, rfl⟩, ⟨⟨hle, hcl⟩, le_sl' ?_ (by simp [leSl])⟩, ⟨hle, hcl⟩, le_sl' ?_ (by simp [leSl])⟩ <;>
    simp only [memG, Mch.ob, Mch.od, Mch.cells, rowP, rowC, rowS, stO', hgh, ghost, prsA_kill, strsA_kill, intsA_kill, gtsA_kill, gtsA_app, List.cons_append, List.nil_append, gA]
  have hdl := hI.dn
  simp only [wB, awp, binC, arithC, cmpC, asP, asQ, asI, obA, lenA, loadA, storeA, putsA, St.ev, St.step, setS, killS, AV.kill, AV.killL, Mem.kill, AV.cells, AV.flat, AV.single, AV.cellular, Value.oneCell', Nat.reduceAdd, Nat.reduceEqDiff, Nat.reduceLeDiff, Int.reduceAdd, Int.reduceNeg, isU, lenK, e1, memG, Mch.ob, Mch.od, Mch.cells, rowP, rowC, rowS, stO', hgh, ghost]
  refine ⟨by unfold lim; omega, ?_⟩
  refine swp_loop' (fun j : Nat => ⟨[.bot, .bot, .bot, I 1, .bot, .s 1 (intsA [x]), .q 9 1 0 0, .bot, .bot, .bot, .bot, .bot, .bot, .bot, .bot, .bot, .bot, .bot, .bot, .bot, .bot, .bot, .bot, .bot, .bot, .bot, .bot, .bot, .bot, .bot, .bot, .bot, .bot, .bot, .bot, .bot, .bot, .bot, .bot, .bot, .bot, .bot, .bot, .bot, .bot, .bot, .bot, .bot, .bot, .bot, .bot, .bot, .bot, .bot, .bot, .bot, .bot, .bot, .bot, .bot, .bot, .bot, .bot, .bot, .bot, .bot, .bot, .bot, .bot, .bot, .bot, .bot, .bot, .bot, .bot, .bot, .bot, .bot, .bot, .bot, .bot, .bot, .bot, .bot, .bot, .bot, .bot, .bot, .bot, .bot, .bot, .bot, .bot, .bot, .bot, .bot, .bot, .bot, .bot, .bot, .bot, .bot, .bot, .bot, .bot, .bot, .bot, .bot, .bot, .bot, .bot, .bot, .bot, .bot, .bot, .bot, .bot, .bot, .bot, .bot, .bot, .bot, .bot, .s 1 (intsA [x]), I 1, I j, .bot, .bot, .bot, .bot, .bot, .bot, .bot, .bot], memG m { t with circ := t.circ ++ [⟨k, x, -1, y⟩], done := t.done + 1, heats := if j = 0 then t.heats else bump t.heats x.toNat 1 } ++ [gh, some ⟨none, 149, 1, [.q 7 6 0 0]⟩, some ⟨none, 32, 1, [.q 0 13 0 0]⟩, some ⟨none, 81, 4, [gA ⟨k, x, -1, y⟩]⟩]⟩) (fun j => j ≤ 1) (fun j => 1 - j) 0 (le_sl' ?_ (by simp [leSl])) (Nat.zero_le _) ?_
  · simp only [memG, Mch.ob, Mch.od, Mch.cells, rowP, rowC, rowS, stO', hgh, ghost, List.cons_append, List.nil_append, gA, if_true]
  intro j hj
  refine awp_sound (own := [6, 7, 19, 1018]) _ _ _ _ _ ?_
  simp only [wB, awp, binC, cmpC, asB, asI, St.ev, St.step, setS, killS, AV.kill, AV.killL, Mem.kill, AV.cells, Nat.reduceAdd, Nat.reduceEqDiff, Int.reduceAdd, Int.reduceNeg, memG, Mch.ob, Mch.od, Mch.cells, rowP, rowC, rowS, stO', hgh, ghost, gA]
  rcases (show j = 0 ∨ j = 1 by omega) with rfl | rfl
  case inr =>
    simp only [wB, awp, asN, St.ev, St.step, setS, killS, AV.kill, AV.killL, Mem.kill, Nat.reduceAdd, Nat.reduceEqDiff, Int.reduceAdd, Int.reduceNeg, Int.reduceLT, memG, e1]
    exact ⟨_, _, memG m (nx1 t k x y), _, Le.refl _, rfl, rfl, rfl, rfl, free_G _ m _, by simp [he, erV], by simp [he, memG]⟩
  simp only [wB, awp, idxC, asP, asS, asI, asN, loadA, St.ev, St.step, setS, killS, AV.kill, AV.killL, Mem.kill, AV.cells, AV.flat, AV.single, Nat.reduceAdd, Nat.reduceEqDiff, Int.reduceAdd, Int.reduceNeg, Int.reduceLE, Int.reduceLT, aget_ints (show 0 < [x].length by simp), Int.natCast_zero, List.getElem_cons_zero]
  refine swp_fm (own := [6, 7, 19]) 3 rfl rfl rfl ?_
  simp only [wB, asP, asQ, obA, loadA, St.ev, St.step, setS, killS, AV.kill, AV.killL, Mem.kill, AV.cells, AV.flat, AV.single, Int.reduceNeg, List.take_succ_cons, List.take_zero]
  refine acall_f (fspec_of (m104i { t with circ := t.circ ++ [⟨k, x, -1, y⟩], done := t.done + 1 } x ⟨hx.1, by simp only; rw [hI.hl]; exact hx.2⟩ 1 (by omega) hI.hin) [0, 1, 2, 3, 8, 9, 10, 11] rfl (by exact ⟨rfl, rfl, rfl, rfl, trivial⟩) rfl rfl (free_S _ _ (by decide)) (N := memG m { t with circ := t.circ ++ [⟨k, x, -1, y⟩], done := t.done + 1, heats := bump t.heats x.toNat 1 } ++ [gh, some ⟨none, 149, 1, [.q 7 6 0 0]⟩, some ⟨none, 32, 1, [.q 0 13 0 0]⟩, some ⟨none, 81, 4, [gA ⟨k, x, -1, y⟩]⟩]) ?_) ?_
  · simp only [memG, memS, Mch.ob, Mch.od, Mch.cells, rowP, rowC, rowS, stO', combR, List.cons_append, List.nil_append, Option.map_some, Option.map_none, List.drop_succ_cons, List.drop_zero, prsA_sub, strsA_sub, intsA_sub, gtsA_sub, AV.sub, AV.subL, keepF, keepG, liveI, List.getElem?_cons_succ, List.getElem?_cons_zero, List.getElem?_nil, AV.isO, AV.isQ, List.any_cons, List.any_nil, ghost, gA, List.take_succ_cons, List.take_zero, List.drop_nil, hgh]
    rfl
  · simp only [wB, awp, binC, arithC, cmpC, asI, St.ev, St.step, setS, killS, AV.kill, AV.killL, Mem.kill, AV.cells, Nat.reduceAdd, Nat.reduceEqDiff, Nat.reduceSub, Int.reduceAdd, Int.reduceSub, Int.reduceNeg, isU, memG, memS, Mch.ob, Mch.od, Mch.cells, rowP, rowC, rowS, stO', List.drop_succ_cons, AV.sub, keepG, liveI, AV.isQ, List.any_cons, List.any_nil, ghost, gA, List.drop_nil, hgh]
    refine ⟨by unfold lim; omega, 1, le_sl' ?_ (by simp [leSl]), Nat.le_refl _, by omega⟩
    simp only [memG, memS, Mch.ob, Mch.od, Mch.cells, rowP, rowC, rowS, stO', combR, List.cons_append, List.nil_append, Option.map_some, Option.map_none, List.drop_succ_cons, List.drop_zero, prsA_sub, strsA_sub, intsA_sub, gtsA_sub, AV.sub, AV.subL, keepF, keepG, liveI, List.getElem?_cons_succ, List.getElem?_cons_zero, List.getElem?_nil, AV.isO, AV.isQ, List.any_cons, List.any_nil, ghost, gA, List.take_succ_cons, List.take_zero, List.drop_nil, hgh, if_neg (show ¬ (1 : Nat) = 0 by decide)]
end Go.Proofs.YtndniceeibflcaaGreatDoor

namespace Go.Proofs.YtndniceeibflcaaGreatDoor
open Aw Mp Go.RowKit
set_option linter.unusedSimpArgs false
set_option maxRecDepth 8000

theorem mem_up {n : Int} {p : Int → Bool} {q : Int} (h0 : 0 ≤ q) (hn : q < n) : memL (upL n.toNat p) q = p q := by
  unfold memL upL
  cases hp : p q with
  | true =>
    refine decide_eq_true ?_
    rw [List.mem_filter]
    refine ⟨List.mem_map.2 ⟨q.toNat, List.mem_range.2 (by omega), by omega⟩, hp⟩
  | false =>
    refine decide_eq_false fun h => ?_
    rw [List.mem_filter, hp] at h
    cases h.2
theorem getD_eq {l : List Int} {i : Nat} (h : i < l.length) : l.getD i 0 = l[i] := by rw [List.getD_eq_getElem?_getD, List.getElem?_eq_getElem h]; rfl
/-- the state behind a gate of two ions. -/
def nx2 (t : MS) (x w y : Int) : MS := { t with circ := t.circ ++ [⟨2, min x w, max x w, y⟩], heats := bump (bump t.heats x.toNat 2) w.toNat 2, done := t.done + 1 }

end Go.Proofs.YtndniceeibflcaaGreatDoor
