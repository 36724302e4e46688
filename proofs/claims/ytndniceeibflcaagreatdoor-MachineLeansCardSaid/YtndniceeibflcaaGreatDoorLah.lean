/-
  Parts of several texts in one: MpB, MqA, MtS, MtB, MtC, MtD, MtF, MtG, MzB, MzC, MzD, McA.
-/
import Derived.Lib.Split
import Derived.Lib.ItoaNum
import Derived.Lib.AtoiAll
import Derived.Lib.Strings
import Derived.Test.YtndniceeibflcaaGreatDoorProg
import Derived.WalkKit
import Derived.Lib.ConvBytes
import Derived.LaidEql
import Derived.Lib.LaidTab
import Derived.KernelRfl
import GoSem.Claims
import GoSem.ClaimJoined
import Derived.Orders
import Derived.Laws.StructEq
import Derived.Maps.Keyed
import Derived.Maps.AppendAt
import Derived.Laws.Concat
import Derived.MapKept
import Derived.Laws.MakeOwn
import Derived.Scope
import Derived.Laws.BitsLemmas
import Derived.Maps.RangeRun
import Derived.StillTail
import Derived.OrdersIn
import Derived.TacticsIn
import Derived.RangeFuncRecord
import Derived.RangeFuncCalls
import Derived.RangeFuncSeq
import Derived.Shelf.LaysM
import Derived.Shelf.LaysC
import Derived.Shelf.Strconv.Itoa3
import Derived.Shelf.Strconv.AtoiAll
import Derived.Shelf.Strings.Search3
import Derived.Shelf.Strings.Cut
import Derived.Shelf.Strings.Prefix
import Derived.Shelf.Strings.Split
import Derived.Lib.AppendIntMem
import Derived.Test.YtndniceeibflcaaGreatDoorLaa
import Derived.Test.YtndniceeibflcaaGreatDoorLab
import Derived.Test.YtndniceeibflcaaGreatDoorLac
import Derived.Test.YtndniceeibflcaaGreatDoorLad
import Derived.Test.YtndniceeibflcaaGreatDoorLae
import Derived.Test.YtndniceeibflcaaGreatDoorLag
set_option linter.unusedSimpArgs false
set_option linter.unusedVariables false
namespace Go.Proofs.YtndniceeibflcaaGreatDoor
namespace Aw
end Aw
namespace Mp
end Mp
end Go.Proofs.YtndniceeibflcaaGreatDoor
namespace Go.Proofs.YtndniceeibflcaaGreatDoor
namespace Mp
open Go
set_option linter.unusedSimpArgs false

theorem spl_last (c : UInt8) (y : By) (hy : c ∉ y) : ∀ p : By, (splB c (p ++ c :: y)).getLast? = some y
  | [] => by simp [splB, splB_no c y hy]
  | b :: p => by
    have ih := spl_last c y hy p
    simp only [List.cons_append, splB]
    split
    · have hne := splB_ne c (p ++ c :: y)
      rw [List.getLast?_cons_of_ne_nil hne]
      exact ih
    · cases hs : splB c (p ++ c :: y) with
      | nil => exact absurd hs (splB_ne _ _)
      | cons x r =>
        rw [hs] at ih
        simp only
        cases r with
        | nil =>
          simp at ih
          -- one piece alone: there is no c
          have : splB c (p ++ c :: y) ≠ [x] := fun e => by
            have hl : ∀ q : By, 2 ≤ (splB c (q ++ c :: y)).length := by
              intro q
              induction q with
              | nil => simp [splB, splB_no c y hy]
              | cons b q ihq =>
                simp only [List.cons_append, splB]
                split
                · simp only [List.length_cons]; omega
                · split
                  · rename_i x r e; rw [e] at ihq; simpa using ihq
                  · rename_i e; rw [e] at ihq; simp at ihq
            have := hl p
            rw [e] at this
            simp at this
          exact absurd hs this
        | cons z r => simpa using ih

/-- a log is empty or ends its last line. -/
theorem lg_last : ∀ (l : List By) (b : Int) (o : By), lg b (l ++ [o]) = lg b l ++ (Lib.itoa (sumB (sumL b l) o) ++ 32 :: o) ++ [10]
  | l, b, o => by
    rw [lg_app]
    simp [lg, lineB]
theorem lg_end : ∀ (l : List By) (b : Int), lg b l = [] ∨ ∃ p, lg b l = p ++ [10]
  | [], _ => .inl rfl
  | o :: l, b => by
    rcases lg_end l (sumB b o) with h | ⟨p, h⟩
    · exact .inr ⟨Lib.itoa (sumB b o) ++ 32 :: o, by simp [lg, lineB, h]⟩
    · exact .inr ⟨lineB (sumB b o) o ++ p, by simp [lg, h]⟩
theorem trim_nil (c : UInt8) : Lib.trimSuffix [] [c] = [] := by
  unfold Lib.trimSuffix
  split <;> simp
theorem trim_at (c : UInt8) (x : By) : Lib.trimSuffix (x ++ [c]) [c] = x := by
  unfold Lib.trimSuffix Lib.hasSuffix
  rw [if_pos (by simp)]
  simp
/-- the last line of a log, without its end. -/
theorem last_line (l : List By) (o : By) (h : (10 : UInt8) ∉ o) : (splB 10 (Lib.trimSuffix (lg 0 (l ++ [o])) [10])).getLast? = some (Lib.itoa (sumL 0 (l ++ [o])) ++ 32 :: o) := by
  have hs : sumL 0 (l ++ [o]) = sumB (sumL 0 l) o := by simp [sumL]
  rw [lg_last, trim_at, hs]
  have hno : (10 : UInt8) ∉ Lib.itoa (sumB (sumL 0 l) o) ++ 32 :: o := by
    simp only [List.mem_append, List.mem_cons, not_or]
    exact ⟨itoa_no (sumB_lim _ _).1 10 (by decide), by decide, h⟩
  rcases lg_end l 0 with h | ⟨p, h⟩
  · rw [h, List.nil_append, splB_no 10 _ hno]; rfl
  · rw [h, List.append_assoc]
    exact spl_last 10 _ hno p

theorem sumL_lim (l : List By) : 0 ≤ sumL 0 l ∧ sumL 0 l < 1000003 := by
  rcases List.eq_nil_or_concat l with rfl | ⟨l, o, rfl⟩
  · simp [sumL]
  · have : sumL 0 (l ++ [o]) = sumB (sumL 0 l) o := by simp [sumL]
    rw [List.concat_eq_append, this]
    exact sumB_lim _ _
theorem dec_len10 {u : Nat} (h : u < 10000000000) : (Lib.decDigits u).length ≤ 10 := by
  have key : ∀ (k u : Nat), u < 10 ^ (k + 1) → Lib.nDigits u ≤ k + 1 := by
    intro k
    induction k with
    | zero => intro u h; rw [Lib.nDigits_small (by simpa using h)]; exact Nat.le_refl _
    | succ k ih =>
      intro u h
      by_cases hs : u < 10
      · rw [Lib.nDigits_small hs]; omega
      · rw [Lib.nDigits_big hs]
        have := ih (u / 10) (by rw [Nat.pow_succ] at h; omega)
        omega
  rw [Lib.decDigits_length]
  exact key 9 u (by omega)
theorem line_len {b : Int} {o : By} (h : ordB o = true) : (lineB (sumB b o) o).length ≤ 42 := by
  obtain ⟨_, h2, _⟩ := (ordB_iff o).1 h
  have hs := sumB_lim b o
  have : (Lib.itoa (sumB b o)).length ≤ 10 := by
    unfold Lib.itoa
    rw [if_neg (by omega)]
    exact dec_len10 (by omega)
  simp only [lineB, List.length_append, List.length_cons, List.length_nil]
  omega
theorem lg_size : ∀ (l : List By) (b : Int), (∀ o ∈ l, ordB o = true) → (lg b l).length ≤ 42 * l.length
  | [], _, _ => by simp [lg]
  | o :: l, b, h => by
    have h1 := lg_size l (sumB b o) (fun x hx => h x (by simp [hx]))
    have h2 := line_len (b := b) (h o (by simp))
    simp only [lg, List.length_append, List.length_cons]; omega
end Mp
end Go.Proofs.YtndniceeibflcaaGreatDoor

namespace Go.Proofs.YtndniceeibflcaaGreatDoor
namespace Mp
open Go
set_option linter.unusedSimpArgs false

def dig (b : UInt8) : Bool := decide (48 ≤ b.toNat ∧ b.toNat ≤ 57)
def stepV (n : Int) (c : UInt8) : Int := 10 * n + ((c.toNat : Int) - 48)
def valB (w : By) : Int := w.foldl stepV 0
/-- the number of a word; -1 if it is none. -/
def numB (w : By) : Int := if w.length < 1 ∨ 2 < w.length then -1 else if w.head? = some 48 ∧ 1 < w.length then -1 else if w.all dig = false then -1 else valB w

theorem dig_of {b : UInt8} (h : dig b = true) : ∃ d : Fin 10, b = UInt8.ofNat (48 + d.val) := by
  unfold dig at h
  have h := of_decide_eq_true h
  refine ⟨⟨b.toNat - 48, by omega⟩, ?_⟩
  simp only
  rw [show 48 + (b.toNat - 48) = b.toNat by omega]
  simp
theorem itoa_num : ∀ n : Fin 100, numB (Lib.itoa (n.val : Int)) = (n.val : Int) := by decide +kernel
theorem num_itoa1 : ∀ a : Fin 10, numB [UInt8.ofNat (48 + a.val)] = a.val ∧ Lib.itoa (a.val : Int) = [UInt8.ofNat (48 + a.val)] := by decide +kernel
theorem num_itoa2 : ∀ a b : Fin 10, a.val ≠ 0 → numB [UInt8.ofNat (48 + a.val), UInt8.ofNat (48 + b.val)] = ((10 * a.val + b.val : Nat) : Int) ∧ Lib.itoa ((10 * a.val + b.val : Nat) : Int) = [UInt8.ofNat (48 + a.val), UInt8.ofNat (48 + b.val)] := by decide +kernel
theorem num_some (w : By) : numB w = -1 ∨ ∃ n : Nat, n < 100 ∧ numB w = n ∧ Lib.itoa (n : Int) = w := by
  by_cases h : numB w = -1
  · exact .inl h
  right
  have h0 := h
  unfold numB at h
  split at h
  · exact absurd rfl h
  split at h
  · exact absurd rfl h
  split at h
  · exact absurd rfl h
  rename_i h1 h2 h3
  match w, h1, h2, h3 with
  | [], h1, _, _ => simp at h1
  | [a], _, _, h3 =>
    simp at h3
    obtain ⟨d, rfl⟩ := dig_of h3
    obtain ⟨e1, e2⟩ := num_itoa1 d
    exact ⟨d.val, by omega, e1, e2⟩
  | [a, b], _, h2, h3 =>
    simp at h3 h2
    obtain ⟨h3, h4⟩ := h3
    obtain ⟨d, rfl⟩ := dig_of h3
    obtain ⟨e, rfl⟩ := dig_of h4
    have hd : d.val ≠ 0 := fun hd => h2 (by rw [hd]; rfl)
    obtain ⟨e1, e2⟩ := num_itoa2 d e hd
    exact ⟨10 * d.val + e.val, by omega, e1, e2⟩
  | a :: b :: c :: l, h1, _, _ => simp at h1
theorem num_lim (w : By) : -1 ≤ numB w ∧ numB w < 100 := by
  rcases num_some w with h | ⟨n, h1, h2, _⟩ <;> omega
theorem num_of {w : By} {n : Int} (h0 : 0 ≤ n) (h1 : n ≤ 99) (h : Lib.itoa n = w) : numB w = n := by
  obtain ⟨m, rfl⟩ : ∃ m : Nat, n = m := ⟨n.toNat, by omega⟩
  rw [← h]
  exact itoa_num ⟨m, by omega⟩

def nameL : List By := [[108, 111, 97, 100], [109, 111, 118, 101], [99, 111, 111, 108], [119, 97, 105, 116], [116, 117, 114, 110], [115, 112, 105, 110], [106, 111, 105, 110], [100, 114, 111, 112]]
def cntL : List Nat := [1, 2, 1, 1, 2, 2, 3, 0]
/-- the kind and the words of an order. -/
def kindB (w : List By) : Option Nat := (nameL.idxOf? (w.headD [])).bind fun k => if w.length = cntL.getD k 0 + 1 then some k else none
/-- the kind and the numbers of an order. -/
def prs (o : By) : Option (Nat × List Int) :=
  if o.length < 1 ∨ 30 < o.length then none else
  (kindB (splB 32 o)).bind fun k => if ∀ w ∈ (splB 32 o).drop 1, 0 ≤ numB w then some (k, ((splB 32 o).drop 1).map numB) else none

theorem kind_some {w : List By} {k : Nat} (h : kindB w = some k) : k < 8 ∧ w.headD [] = nameL.getD k [] ∧ w.length = cntL.getD k 0 + 1 := by
  unfold kindB at h
  rw [Option.bind_eq_some_iff] at h
  obtain ⟨j, hj, h⟩ := h
  split at h
  · injection h with h
    subst h
    unfold List.idxOf? at hj
    rw [List.findIdx?_eq_some_iff_getElem] at hj
    obtain ⟨h1, h2, _⟩ := hj
    refine ⟨h1, ?_, by assumption⟩
    rw [List.getD_eq_getElem?_getD, List.getElem?_eq_getElem h1]
    simpa using (eq_of_beq h2).symm
  · cases h
theorem prs_some {o : By} {k : Nat} {l : List Int} (h : prs o = some (k, l)) : (1 ≤ o.length ∧ o.length ≤ 30) ∧ kindB (splB 32 o) = some k ∧ (∀ w ∈ (splB 32 o).drop 1, 0 ≤ numB w) ∧ l = ((splB 32 o).drop 1).map numB := by
  unfold prs at h
  split at h
  · cases h
  rw [Option.bind_eq_some_iff] at h
  obtain ⟨j, hj, h⟩ := h
  split at h
  · simp only [Option.some.injEq, Prod.mk.injEq] at h
    obtain ⟨rfl, rfl⟩ := h
    exact ⟨by omega, hj, by assumption, rfl⟩
  · cases h
theorem prs_len {o : By} {k : Nat} {l : List Int} (h : prs o = some (k, l)) : k < 8 ∧ l.length = cntL.getD k 0 ∧ ∀ x ∈ l, 0 ≤ x ∧ x ≤ 99 := by
  obtain ⟨_, h1, h2, rfl⟩ := prs_some h
  obtain ⟨a, b, c⟩ := kind_some h1
  refine ⟨a, by simp only [List.length_map, List.length_drop]; omega, fun x hx => ?_⟩
  obtain ⟨w, hw, rfl⟩ := List.mem_map.1 hx
  have := num_lim w
  exact ⟨h2 w hw, by omega⟩
theorem spl_len (c : UInt8) : ∀ l : By, (splB c l).length ≤ l.length + 1 ∧ 1 ≤ (splB c l).length ∧ ∀ w ∈ splB c l, w.length ≤ l.length
  | [] => by simp [splB]
  | b :: l => by
    obtain ⟨h1, h2, h3⟩ := spl_len c l
    unfold splB
    split
    · refine ⟨by simp; omega, by simp, fun w hw => ?_⟩
      rcases List.mem_cons.1 hw with rfl | hw
      · simp
      · have := h3 w hw; simp; omega
    · split
      · rename_i x r hx
        rw [hx] at h1 h2 h3
        refine ⟨by simp at h1 ⊢; omega, by simp, fun w hw => ?_⟩
        rcases List.mem_cons.1 hw with rfl | hw
        · have := h3 x (by simp); simp; omega
        · have := h3 w (by simp [hw]); simp; omega
      · simp
end Mp
end Go.Proofs.YtndniceeibflcaaGreatDoor

namespace Go.Proofs.YtndniceeibflcaaGreatDoor
open Go.Shelf
def Tryz.laysM171_ren : Go.Shelf.Ren := ⟨fun | 171 => 64 | 243 => 91 | 246 => 126 | 283 => 163 | 284 => 164 | 285 => 165 | 286 => 166 | 129 => 194 | 317 => 193 | 318 => 195 | 319 => 196 | 320 => 197 | 337 => 207 | 338 => 208 | n => n, fun | 3 => 3 | 9 => 9 | 2 => 2 | 4 => 4 | 171 => 208 | 0 => 0 | 53 => 209 | 37 => 121 | 5 => 5 | 173 => 212 | 212 => 246 | 51 => 99 | 20 => 20 | 213 => 247 | 46 => 46 | 232 => 263 | 233 => 264 | n => n, fun | 17 => 2 | 18 => 5 | 19 => 6 | n => n⟩
theorem Tryz.laysM171 : Go.Proofs.LaysM.n171 Tryz.prog Tryz.laysM171_ren := {
  mixed := by kernel_rfl
  f129 := Tryz.func194.trans (congrArg some (by kernel_rfl))
  f171 := Tryz.func64.trans (congrArg some (by kernel_rfl))
  f243 := Tryz.func91.trans (congrArg some (by kernel_rfl))
  f246 := Tryz.func126.trans (congrArg some (by kernel_rfl))
  f283 := Tryz.func163.trans (congrArg some (by kernel_rfl))
  f284 := Tryz.func164.trans (congrArg some (by kernel_rfl))
  f285 := Tryz.func165.trans (congrArg some (by kernel_rfl))
  f286 := Tryz.func166.trans (congrArg some (by kernel_rfl))
  f317 := Tryz.func193.trans (congrArg some (by kernel_rfl))
  f318 := Tryz.func195.trans (congrArg some (by kernel_rfl))
  f319 := Tryz.func196.trans (congrArg some (by kernel_rfl))
  f320 := Tryz.func197.trans (congrArg some (by kernel_rfl))
  f337 := Tryz.func207.trans (congrArg some (by kernel_rfl))
  f338 := Tryz.func208.trans (congrArg some (by kernel_rfl))
  t0 := Tryz.underlying0
  a0 := Tryz.isAgg0
  z0 := Tryz.sizeOf0
  v0 := Tryz.zeroValue0
  t2 := Tryz.underlying2
  a2 := Tryz.isAgg2
  z2 := Tryz.sizeOf2
  v2 := Tryz.zeroValue2
  t3 := Tryz.underlying3
  a3 := Tryz.isAgg3
  z3 := Tryz.sizeOf3
  v3 := Tryz.zeroValue3
  t4 := Tryz.underlying4
  a4 := Tryz.isAgg4
  z4 := Tryz.sizeOf4
  v4 := Tryz.zeroValue4
  t5 := Tryz.underlying5
  a5 := Tryz.isAgg5
  z5 := Tryz.sizeOf5
  v5 := Tryz.zeroValue5
  t9 := Tryz.underlying9
  a9 := Tryz.isAgg9
  z9 := Tryz.sizeOf9
  v9 := Tryz.zeroValue9
  t20 := Tryz.underlying20
  a20 := Tryz.isAgg20
  z20 := Tryz.sizeOf20
  v20 := Tryz.zeroValue20
  t37 := Tryz.underlying121
  a37 := Tryz.isAgg121
  z37 := Tryz.sizeOf121
  v37 := Tryz.zeroValue121
  t46 := Tryz.underlying46
  a46 := Tryz.isAgg46
  z46 := Tryz.sizeOf46
  v46 := Tryz.zeroValue46
  t51 := Tryz.underlying99
  a51 := Tryz.isAgg99
  z51 := Tryz.sizeOf99
  v51 := Tryz.zeroValue99
  t53 := Tryz.underlying209
  a53 := Tryz.isAgg209
  z53 := Tryz.sizeOf209
  v53 := Tryz.zeroValue209
  t171 := Tryz.underlying208
  a171 := Tryz.isAgg208
  z171 := Tryz.sizeOf208
  v171 := Tryz.zeroValue208
  t173 := Tryz.underlying212
  a173 := Tryz.isAgg212
  z173 := Tryz.sizeOf212
  v173 := Tryz.zeroValue212
  t212 := Tryz.underlying246
  a212 := Tryz.isAgg246
  z212 := Tryz.sizeOf246
  v212 := Tryz.zeroValue246
  t213 := Tryz.underlying247
  a213 := Tryz.isAgg247
  z213 := Tryz.sizeOf247
  t232 := Tryz.underlying263
  a232 := Tryz.isAgg263
  z232 := Tryz.sizeOf263
  v232 := Tryz.zeroValue263
  t233 := Tryz.underlying264
  a233 := Tryz.isAgg264
  z233 := Tryz.sizeOf264
  v233 := Tryz.zeroValue264
  g17 := by kernel_rfl
  g18 := by kernel_rfl
  g19 := by kernel_rfl
  i0 := by kernel_rfl
  i2 := by kernel_rfl
  i3 := by kernel_rfl
  i4 := by kernel_rfl
  i5 := by kernel_rfl
  i9 := by kernel_rfl
  i20 := by kernel_rfl
  i37 := by kernel_rfl
  i46 := by kernel_rfl
  i51 := by kernel_rfl
  i53 := by kernel_rfl
  i171 := by kernel_rfl
  i173 := by kernel_rfl
  i212 := by kernel_rfl
  i232 := by kernel_rfl
  i233 := by kernel_rfl
  m17 := by kernel_rfl
  m18 := by kernel_rfl
  m19 := by kernel_rfl }
open Go.RowKit Go.Sort Go.Lib in
theorem Tryz.strconv_Itoa (n : Int) (h0 : -9223372036854775808 ≤ n) (h1 : n ≤ 9223372036854775807) (w : World) (htab : Lib.TabIs Tryz.prog w Aw.powN .u64 Lib.pow10Tab) :
    Calls Tryz.prog 64 #[.int .i64 n] w fun e w' => e = .returned (.string ⟨(Lib.itoa n).toArray⟩) ∧ ∃ k os, w' = grow (w.drewN k) os := Any.strconv_Itoa Tryz.laysM171 n h0 h1 w (Eq.mp (by kernel_rfl) htab)
open Go.RowKit Go.Sort Go.Lib in
def Tryz.laysC172_ren : Go.Shelf.Ren := ⟨fun | 172 => 97 | 244 => 137 | 245 => 138 | 247 => 176 | 279 => 177 | 280 => 178 | 281 => 179 | 282 => 180 | 287 => 201 | 316 => 202 | 171 => 64 | 205 => 203 | 321 => 210 | 322 => 211 | 243 => 91 | 246 => 126 | 283 => 163 | 284 => 164 | 285 => 165 | 286 => 166 | 129 => 194 | 317 => 193 | 318 => 195 | 319 => 196 | 320 => 197 | 337 => 207 | 338 => 208 | n => n, fun | 9 => 9 | 3 => 3 | 75 => 114 | 76 => 144 | 4 => 4 | 5 => 5 | 167 => 219 | 37 => 121 | 0 => 0 | 85 => 220 | 2 => 2 | 168 => 222 | 53 => 209 | 175 => 251 | 46 => 46 | 210 => 255 | 127 => 259 | 145 => 262 | 143 => 260 | 21 => 21 | 171 => 208 | 173 => 212 | 212 => 246 | 51 => 99 | 20 => 20 | 213 => 247 | 232 => 263 | 233 => 264 | 80 => 36 | n => n, fun | 15 => 3 | 16 => 4 | 17 => 2 | 18 => 5 | 19 => 6 | n => n⟩
theorem Tryz.laysC172 : Go.Proofs.LaysC.n172 Tryz.prog Tryz.laysC172_ren := {
  mixed := by kernel_rfl
  f129 := Tryz.func194.trans (congrArg some (by kernel_rfl))
  f171 := Tryz.func64.trans (congrArg some (by kernel_rfl))
  f172 := Tryz.func97.trans (congrArg some (by kernel_rfl))
  f205 := Tryz.func203.trans (congrArg some (by kernel_rfl))
  f243 := Tryz.func91.trans (congrArg some (by kernel_rfl))
  f244 := Tryz.func137.trans (congrArg some (by kernel_rfl))
  f245 := Tryz.func138.trans (congrArg some (by kernel_rfl))
  f246 := Tryz.func126.trans (congrArg some (by kernel_rfl))
  f247 := Tryz.func176.trans (congrArg some (by kernel_rfl))
  f279 := Tryz.func177.trans (congrArg some (by kernel_rfl))
  f280 := Tryz.func178.trans (congrArg some (by kernel_rfl))
  f281 := Tryz.func179.trans (congrArg some (by kernel_rfl))
  f282 := Tryz.func180.trans (congrArg some (by kernel_rfl))
  f283 := Tryz.func163.trans (congrArg some (by kernel_rfl))
  f284 := Tryz.func164.trans (congrArg some (by kernel_rfl))
  f285 := Tryz.func165.trans (congrArg some (by kernel_rfl))
  f286 := Tryz.func166.trans (congrArg some (by kernel_rfl))
  f287 := Tryz.func201.trans (congrArg some (by kernel_rfl))
  f316 := Tryz.func202.trans (congrArg some (by kernel_rfl))
  f317 := Tryz.func193.trans (congrArg some (by kernel_rfl))
  f318 := Tryz.func195.trans (congrArg some (by kernel_rfl))
  f319 := Tryz.func196.trans (congrArg some (by kernel_rfl))
  f320 := Tryz.func197.trans (congrArg some (by kernel_rfl))
  f321 := Tryz.func210.trans (congrArg some (by kernel_rfl))
  f322 := Tryz.func211.trans (congrArg some (by kernel_rfl))
  f337 := Tryz.func207.trans (congrArg some (by kernel_rfl))
  f338 := Tryz.func208.trans (congrArg some (by kernel_rfl))
  t0 := Tryz.underlying0
  a0 := Tryz.isAgg0
  z0 := Tryz.sizeOf0
  v0 := Tryz.zeroValue0
  t2 := Tryz.underlying2
  a2 := Tryz.isAgg2
  z2 := Tryz.sizeOf2
  v2 := Tryz.zeroValue2
  t3 := Tryz.underlying3
  a3 := Tryz.isAgg3
  z3 := Tryz.sizeOf3
  v3 := Tryz.zeroValue3
  t4 := Tryz.underlying4
  a4 := Tryz.isAgg4
  z4 := Tryz.sizeOf4
  v4 := Tryz.zeroValue4
  t5 := Tryz.underlying5
  a5 := Tryz.isAgg5
  z5 := Tryz.sizeOf5
  v5 := Tryz.zeroValue5
  t9 := Tryz.underlying9
  a9 := Tryz.isAgg9
  z9 := Tryz.sizeOf9
  v9 := Tryz.zeroValue9
  t20 := Tryz.underlying20
  a20 := Tryz.isAgg20
  z20 := Tryz.sizeOf20
  v20 := Tryz.zeroValue20
  t21 := Tryz.underlying21
  a21 := Tryz.isAgg21
  z21 := Tryz.sizeOf21
  v21 := Tryz.zeroValue21
  t37 := Tryz.underlying121
  a37 := Tryz.isAgg121
  z37 := Tryz.sizeOf121
  v37 := Tryz.zeroValue121
  t46 := Tryz.underlying46
  a46 := Tryz.isAgg46
  z46 := Tryz.sizeOf46
  v46 := Tryz.zeroValue46
  t51 := Tryz.underlying99
  a51 := Tryz.isAgg99
  z51 := Tryz.sizeOf99
  v51 := Tryz.zeroValue99
  t53 := Tryz.underlying209
  a53 := Tryz.isAgg209
  z53 := Tryz.sizeOf209
  v53 := Tryz.zeroValue209
  t75 := Tryz.underlying114
  a75 := Tryz.isAgg114
  z75 := Tryz.sizeOf114
  v75 := Tryz.zeroValue114
  t76 := Tryz.underlying144
  a76 := Tryz.isAgg144
  z76 := Tryz.sizeOf144
  v76 := Tryz.zeroValue144
  t85 := Tryz.underlying220
  a85 := Tryz.isAgg220
  z85 := Tryz.sizeOf220
  v85 := Tryz.zeroValue220
  t127 := Tryz.underlying259
  a127 := Tryz.isAgg259
  z127 := Tryz.sizeOf259
  v127 := Tryz.zeroValue259
  t143 := Tryz.underlying260
  a143 := Tryz.isAgg260
  z143 := Tryz.sizeOf260
  v143 := Tryz.zeroValue260
  t145 := Tryz.underlying262
  a145 := Tryz.isAgg262
  z145 := Tryz.sizeOf262
  v145 := Tryz.zeroValue262
  t167 := Tryz.underlying219
  a167 := Tryz.isAgg219
  z167 := Tryz.sizeOf219
  v167 := Tryz.zeroValue219
  t168 := Tryz.underlying222
  a168 := Tryz.isAgg222
  z168 := Tryz.sizeOf222
  v168 := Tryz.zeroValue222
  t171 := Tryz.underlying208
  a171 := Tryz.isAgg208
  z171 := Tryz.sizeOf208
  v171 := Tryz.zeroValue208
  t173 := Tryz.underlying212
  a173 := Tryz.isAgg212
  z173 := Tryz.sizeOf212
  v173 := Tryz.zeroValue212
  t175 := Tryz.underlying251
  a175 := Tryz.isAgg251
  z175 := Tryz.sizeOf251
  v175 := Tryz.zeroValue251
  t210 := Tryz.underlying255
  a210 := Tryz.isAgg255
  z210 := Tryz.sizeOf255
  v210 := Tryz.zeroValue255
  t212 := Tryz.underlying246
  a212 := Tryz.isAgg246
  z212 := Tryz.sizeOf246
  v212 := Tryz.zeroValue246
  t213 := Tryz.underlying247
  a213 := Tryz.isAgg247
  z213 := Tryz.sizeOf247
  t232 := Tryz.underlying263
  a232 := Tryz.isAgg263
  z232 := Tryz.sizeOf263
  v232 := Tryz.zeroValue263
  t233 := Tryz.underlying264
  a233 := Tryz.isAgg264
  z233 := Tryz.sizeOf264
  v233 := Tryz.zeroValue264
  g15 := by kernel_rfl
  g16 := by kernel_rfl
  g17 := by kernel_rfl
  g18 := by kernel_rfl
  g19 := by kernel_rfl
  t80 := Tryz.underlying36
  a80 := Tryz.isAgg36
  z80 := Tryz.sizeOf36
  v80 := Tryz.zeroValue36
  i0 := by kernel_rfl
  i2 := by kernel_rfl
  i3 := by kernel_rfl
  i4 := by kernel_rfl
  i5 := by kernel_rfl
  i9 := by kernel_rfl
  i20 := by kernel_rfl
  i21 := by kernel_rfl
  i37 := by kernel_rfl
  i46 := by kernel_rfl
  i51 := by kernel_rfl
  i53 := by kernel_rfl
  i75 := by kernel_rfl
  i76 := by kernel_rfl
  i80 := by kernel_rfl
  i85 := by kernel_rfl
  i127 := by kernel_rfl
  i143 := by kernel_rfl
  i145 := by kernel_rfl
  i167 := by kernel_rfl
  i168 := by kernel_rfl
  i171 := by kernel_rfl
  i173 := by kernel_rfl
  i175 := by kernel_rfl
  i210 := by kernel_rfl
  i212 := by kernel_rfl
  i232 := by kernel_rfl
  i233 := by kernel_rfl
  m15 := by kernel_rfl
  m16 := by kernel_rfl
  m17 := by kernel_rfl
  m18 := by kernel_rfl
  m19 := by kernel_rfl
  c0 := by kernel_rfl
  c2 := by kernel_rfl
  c3 := by kernel_rfl
  c4 := by kernel_rfl
  c5 := by kernel_rfl
  c9 := by kernel_rfl
  c20 := by kernel_rfl
  c21 := by kernel_rfl
  c37 := by kernel_rfl
  c46 := by kernel_rfl
  c51 := by kernel_rfl
  c53 := by kernel_rfl
  c75 := by kernel_rfl
  c76 := by kernel_rfl
  c80 := by kernel_rfl
  c85 := by kernel_rfl
  c127 := by kernel_rfl
  c143 := by kernel_rfl
  c145 := by kernel_rfl
  c167 := by kernel_rfl
  c168 := by kernel_rfl
  c171 := by kernel_rfl
  c173 := by kernel_rfl
  c175 := by kernel_rfl
  c210 := by kernel_rfl
  c212 := by kernel_rfl
  c213 := by kernel_rfl
  c232 := by kernel_rfl
  c233 := by kernel_rfl }
open Go.RowKit in
theorem Tryz.strconv_Atoi_ok (s : ByteArray) (hmax : s.size ≤ 9223372036854775806) (v : Int) (h : Lib.atoiAll s.data.toList = .ok v) (w : World) :
    Calls Tryz.prog 97 #[.string s] w fun e w' => e = .returned (.tuple #[.int .i64 v, .nilIface]) ∧ (w' = w ∨ ∃ t, w' = Lib.bytesWorld w 5 t) := Any.strconv_Atoi_ok Tryz.laysC172 s hmax v h w
open Go.RowKit in
theorem Tryz.strconv_Atoi_syntax (s : ByteArray) (hlim : s.size ≤ 281474976710656) (h : ∀ v, Lib.atoiAll s.data.toList ≠ .ok v) (h' : Lib.atoiAll s.data.toList ≠ .range) (ev : Value) (w : World) (hv : w.cell? ⟨3, 0, none⟩ = some ev) (hev : ev = .nilIface ∨ ∃ te pe, ev = .iface te pe) :
    Calls Tryz.prog 97 #[.string s] w fun e w' => ∃ N, e = .returned (.tuple #[.int .i64 (0), .iface 222 (.pointer (some ⟨N, 0, none⟩))]) ∧ w.heap.size ≤ N ∧ w'.heap[N]? = some (.cells #[.string ⟨#[65, 116, 111, 105]⟩, .string s, ev] 255 (0, 0)) ∧ Below w.heap.size w w' := Any.strconv_Atoi_syntax Tryz.laysC172 s hlim (by cases q : Lib.atoiAll s.data.toList with | ok v => exact absurd q (h v) | range => exact absurd q h' | _ => rfl) ev w hv hev
open Go.RowKit in
theorem Tryz.strconv_Atoi_range (s : ByteArray) (hlim : s.size ≤ 281474976710656) (h : Lib.atoiAll s.data.toList = .range) (ev : Value) (w : World) (hv : w.cell? ⟨4, 0, none⟩ = some ev) (hev : ev = .nilIface ∨ ∃ te pe, ev = .iface te pe) :
    Calls Tryz.prog 97 #[.string s] w fun e w' => ∃ N, e = .returned (.tuple #[.int .i64 (Lib.atoiSat s.data.toList), .iface 222 (.pointer (some ⟨N, 0, none⟩))]) ∧ w.heap.size ≤ N ∧ w'.heap[N]? = some (.cells #[.string ⟨#[65, 116, 111, 105]⟩, .string s, ev] 255 (0, 0)) ∧ Below w.heap.size w w' := Any.strconv_Atoi_range Tryz.laysC172 s hlim h ev w hv hev
def Tryz.lays144_ren : Go.Shelf.Ren := ⟨fun | 144 => 90 | 143 => 125 | 219 => 124 | 217 => 159 | 225 => 160 | 224 => 161 | 267 => 162 | 266 => 191 | 314 => 192 | n => n, fun | 9 => 9 | 4 => 4 | 3 => 3 | 5 => 5 | 46 => 46 | 146 => 243 | 51 => 99 | n => n, fun | 1 => 1 | n => n⟩
theorem Tryz.lays144 : Go.Proofs.Lays.n144 Tryz.prog Tryz.lays144_ren := {
  mixed := by kernel_rfl
  f143 := Tryz.func125.trans (congrArg some (by kernel_rfl))
  f144 := Tryz.func90.trans (congrArg some (by kernel_rfl))
  f217 := Tryz.func159.trans (congrArg some (by kernel_rfl))
  f219 := Tryz.func124.trans (congrArg some (by kernel_rfl))
  f224 := Tryz.func161.trans (congrArg some (by kernel_rfl))
  f225 := Tryz.func160.trans (congrArg some (by kernel_rfl))
  f266 := Tryz.func191.trans (congrArg some (by kernel_rfl))
  f267 := Tryz.func162.trans (congrArg some (by kernel_rfl))
  f314 := Tryz.func192.trans (congrArg some (by kernel_rfl))
  t3 := Tryz.underlying3
  a3 := Tryz.isAgg3
  z3 := Tryz.sizeOf3
  v3 := Tryz.zeroValue3
  t4 := Tryz.underlying4
  a4 := Tryz.isAgg4
  z4 := Tryz.sizeOf4
  v4 := Tryz.zeroValue4
  t5 := Tryz.underlying5
  a5 := Tryz.isAgg5
  z5 := Tryz.sizeOf5
  v5 := Tryz.zeroValue5
  t9 := Tryz.underlying9
  a9 := Tryz.isAgg9
  z9 := Tryz.sizeOf9
  v9 := Tryz.zeroValue9
  t46 := Tryz.underlying46
  a46 := Tryz.isAgg46
  z46 := Tryz.sizeOf46
  v46 := Tryz.zeroValue46
  t51 := Tryz.underlying99
  a51 := Tryz.isAgg99
  z51 := Tryz.sizeOf99
  v51 := Tryz.zeroValue99
  t146 := Tryz.underlying243
  a146 := Tryz.isAgg243
  z146 := Tryz.sizeOf243
  v146 := Tryz.zeroValue243
  g1 := by kernel_rfl }
open Go.RowKit Go.Lib in
theorem Tryz.strings_Contains_one (s : ByteArray) (c : UInt8) (w : World) :
    Calls Tryz.prog 90 #[.string s, .string ⟨#[c]⟩] w fun e w' => e = .returned (.bool (decide (0 ≤ Lib.indexByte s.data.toList c))) ∧ w' = w := Any.strings_Contains_one Tryz.lays144 s c w
def Tryz.lays145_ren : Go.Shelf.Ren := ⟨fun | 145 => 62 | 220 => 89 | 219 => 124 | 217 => 159 | 225 => 160 | 224 => 161 | 267 => 162 | 266 => 191 | 314 => 192 | n => n, fun | 9 => 9 | 4 => 4 | 59 => 92 | 3 => 3 | 5 => 5 | 46 => 46 | 146 => 243 | 51 => 99 | n => n, fun | 1 => 1 | n => n⟩
theorem Tryz.lays145 : Go.Proofs.Lays.n145 Tryz.prog Tryz.lays145_ren := {
  mixed := by kernel_rfl
  f145 := Tryz.func62.trans (congrArg some (by kernel_rfl))
  f217 := Tryz.func159.trans (congrArg some (by kernel_rfl))
  f219 := Tryz.func124.trans (congrArg some (by kernel_rfl))
  f220 := Tryz.func89.trans (congrArg some (by kernel_rfl))
  f224 := Tryz.func161.trans (congrArg some (by kernel_rfl))
  f225 := Tryz.func160.trans (congrArg some (by kernel_rfl))
  f266 := Tryz.func191.trans (congrArg some (by kernel_rfl))
  f267 := Tryz.func162.trans (congrArg some (by kernel_rfl))
  f314 := Tryz.func192.trans (congrArg some (by kernel_rfl))
  t3 := Tryz.underlying3
  a3 := Tryz.isAgg3
  z3 := Tryz.sizeOf3
  v3 := Tryz.zeroValue3
  t4 := Tryz.underlying4
  a4 := Tryz.isAgg4
  z4 := Tryz.sizeOf4
  v4 := Tryz.zeroValue4
  t5 := Tryz.underlying5
  a5 := Tryz.isAgg5
  z5 := Tryz.sizeOf5
  v5 := Tryz.zeroValue5
  t9 := Tryz.underlying9
  a9 := Tryz.isAgg9
  z9 := Tryz.sizeOf9
  v9 := Tryz.zeroValue9
  t46 := Tryz.underlying46
  a46 := Tryz.isAgg46
  z46 := Tryz.sizeOf46
  v46 := Tryz.zeroValue46
  t51 := Tryz.underlying99
  a51 := Tryz.isAgg99
  z51 := Tryz.sizeOf99
  v51 := Tryz.zeroValue99
  t59 := Tryz.underlying92
  a59 := Tryz.isAgg92
  z59 := Tryz.sizeOf92
  v59 := Tryz.zeroValue92
  t146 := Tryz.underlying243
  a146 := Tryz.isAgg243
  z146 := Tryz.sizeOf243
  v146 := Tryz.zeroValue243
  g1 := by kernel_rfl }
open Go.RowKit Go.Lib in
theorem Tryz.strings_Cut (s sep : ByteArray) (m : Int) (w : World) (hs : s.size < 4294967281) (hm : w.cell? ⟨1, 0, none⟩ = some (.int .i64 m)) :
    Calls Tryz.prog 62 #[.string s, .string sep] w fun e w' => e = .returned (.tuple #[.string ⟨(Lib.cut s.data.toList sep.data.toList).1.toArray⟩, .string ⟨(Lib.cut s.data.toList sep.data.toList).2.1.toArray⟩, .bool (Lib.cut s.data.toList sep.data.toList).2.2]) ∧ ∃ n, w' = w.drewN n := Any.strings_Cut Tryz.lays145 s sep m w hs hm
def Tryz.lays102_ren : Go.Shelf.Ren := ⟨fun | 102 => 148 | 209 => 185 | 207 => 204 | n => n, fun | 9 => 9 | 4 => 4 | 3 => 3 | n => n, fun | n => n⟩
theorem Tryz.lays102 : Go.Proofs.Lays.n102 Tryz.prog Tryz.lays102_ren := {
  mixed := by kernel_rfl
  f102 := Tryz.func148.trans (congrArg some (by kernel_rfl))
  f207 := Tryz.func204.trans (congrArg some (by kernel_rfl))
  f209 := Tryz.func185.trans (congrArg some (by kernel_rfl))
  t3 := Tryz.underlying3
  a3 := Tryz.isAgg3
  z3 := Tryz.sizeOf3
  v3 := Tryz.zeroValue3
  t4 := Tryz.underlying4
  a4 := Tryz.isAgg4
  z4 := Tryz.sizeOf4
  v4 := Tryz.zeroValue4
  t9 := Tryz.underlying9
  a9 := Tryz.isAgg9
  z9 := Tryz.sizeOf9
  v9 := Tryz.zeroValue9 }
open Go.RowKit Go.Lib in
theorem Tryz.strings_TrimSuffix (s p : ByteArray) (w : World) (hs : s.size ≤ 9223372036854775807) :
    Calls Tryz.prog 148 #[.string s, .string p] w fun e w' => e = .returned (.string ⟨(Lib.trimSuffix s.data.toList p.data.toList).toArray⟩) ∧ w' = w := Any.strings_TrimSuffix Tryz.lays102 s p w hs
def Tryz.lays146_ren : Go.Shelf.Ren := ⟨fun | 146 => 95 | 221 => 136 | 268 => 174 | 138 => 175 | 143 => 125 | 195 => 198 | 197 => 199 | 218 => 200 | 219 => 124 | 260 => 209 | 217 => 159 | 225 => 160 | 224 => 161 | 267 => 162 | 266 => 191 | 314 => 192 | n => n, fun | 9 => 9 | 31 => 27 | 3 => 3 | 4 => 4 | 0 => 0 | 105 => 249 | 21 => 21 | 5 => 5 | 46 => 46 | 119 => 265 | 139 => 268 | 138 => 267 | 146 => 243 | 51 => 99 | n => n, fun | 1 => 1 | 3 => 7 | 4 => 8 | n => n⟩
theorem Tryz.lays146 : Go.Proofs.Lays.n146 Tryz.prog Tryz.lays146_ren := {
  mixed := by kernel_rfl
  f138 := Tryz.func175.trans (congrArg some (by kernel_rfl))
  f143 := Tryz.func125.trans (congrArg some (by kernel_rfl))
  f146 := Tryz.func95.trans (congrArg some (by kernel_rfl))
  f195 := Tryz.func198.trans (congrArg some (by kernel_rfl))
  f197 := Tryz.func199.trans (congrArg some (by kernel_rfl))
  f217 := Tryz.func159.trans (congrArg some (by kernel_rfl))
  f218 := Tryz.func200.trans (congrArg some (by kernel_rfl))
  f219 := Tryz.func124.trans (congrArg some (by kernel_rfl))
  f221 := Tryz.func136.trans (congrArg some (by kernel_rfl))
  f224 := Tryz.func161.trans (congrArg some (by kernel_rfl))
  f225 := Tryz.func160.trans (congrArg some (by kernel_rfl))
  f260 := Tryz.func209.trans (congrArg some (by kernel_rfl))
  f266 := Tryz.func191.trans (congrArg some (by kernel_rfl))
  f267 := Tryz.func162.trans (congrArg some (by kernel_rfl))
  f268 := Tryz.func174.trans (congrArg some (by kernel_rfl))
  f314 := Tryz.func192.trans (congrArg some (by kernel_rfl))
  t0 := Tryz.underlying0
  a0 := Tryz.isAgg0
  z0 := Tryz.sizeOf0
  v0 := Tryz.zeroValue0
  t3 := Tryz.underlying3
  a3 := Tryz.isAgg3
  z3 := Tryz.sizeOf3
  v3 := Tryz.zeroValue3
  t4 := Tryz.underlying4
  a4 := Tryz.isAgg4
  z4 := Tryz.sizeOf4
  v4 := Tryz.zeroValue4
  t5 := Tryz.underlying5
  a5 := Tryz.isAgg5
  z5 := Tryz.sizeOf5
  v5 := Tryz.zeroValue5
  t9 := Tryz.underlying9
  a9 := Tryz.isAgg9
  z9 := Tryz.sizeOf9
  v9 := Tryz.zeroValue9
  t21 := Tryz.underlying21
  a21 := Tryz.isAgg21
  z21 := Tryz.sizeOf21
  v21 := Tryz.zeroValue21
  t31 := Tryz.underlying27
  a31 := Tryz.isAgg27
  z31 := Tryz.sizeOf27
  v31 := Tryz.zeroValue27
  t46 := Tryz.underlying46
  a46 := Tryz.isAgg46
  z46 := Tryz.sizeOf46
  v46 := Tryz.zeroValue46
  t51 := Tryz.underlying99
  a51 := Tryz.isAgg99
  z51 := Tryz.sizeOf99
  v51 := Tryz.zeroValue99
  t105 := Tryz.underlying249
  a105 := Tryz.isAgg249
  z105 := Tryz.sizeOf249
  v105 := Tryz.zeroValue249
  t119 := Tryz.underlying265
  a119 := Tryz.isAgg265
  z119 := Tryz.sizeOf265
  t138 := Tryz.underlying267
  a138 := Tryz.isAgg267
  z138 := Tryz.sizeOf267
  v138 := Tryz.zeroValue267
  t139 := Tryz.underlying268
  a139 := Tryz.isAgg268
  z139 := Tryz.sizeOf268
  v139 := Tryz.zeroValue268
  t146 := Tryz.underlying243
  a146 := Tryz.isAgg243
  z146 := Tryz.sizeOf243
  v146 := Tryz.zeroValue243
  g1 := by kernel_rfl
  g3 := by kernel_rfl
  g4 := by kernel_rfl }
open Go.RowKit Go.Lib in
theorem Tryz.strings_Split (s sep : ByteArray) (m : Int) (w : World) (hs : s.size < 4294967281) (hm : w.cell? ⟨1, 0, none⟩ = some (.int .i64 m)) (h1 : 1 ≤ sep.size) :
    Calls Tryz.prog 95 #[.string s, .string sep] w fun e w' =>
      e = .returned (.slice (some ⟨w.heap.size, 0, none⟩) (Lib.countB s sep + 1) (Lib.countB s sep + 1)) ∧ w' = w.alloc (.cells ((Lib.splitB sep 0 (Lib.countB s sep) s).map Value.string).toArray 9) := Any.strings_Split Tryz.lays146 (by kernel_rfl) s sep m w hs hm h1
end Go.Proofs.YtndniceeibflcaaGreatDoor

namespace Go.Proofs.YtndniceeibflcaaGreatDoor
open Aw Mp Go.RowKit
set_option linter.unusedSimpArgs false

theorem below_drewN {B : Nat} (w : World) (n : Nat) : Below B w (w.drewN n) := ⟨rfl, rfl, rfl, Nat.le_refl _, fun _ _ => rfl⟩

theorem ok62 : okFn Tryz.prog 62 = true := by kernel_rfl
theorem s62 (l : By) (c : UInt8) (hl : l.length < 4294967281) : ASpec Tryz.prog 62 [S l, S [c]] (fun r Ms => r = .t [S (cutB c l).1, S (cutB c l).2.1, B (cutB c l).2.2] ∧ Ms = []) := by
  refine aspec_cl ok62 ?_
  intro w vs A hG hA hv
  simp only [RVL, RV] at hv
  obtain ⟨_, _, rfl, rfl, _, _, rfl, rfl, rfl⟩ := hv
  obtain ⟨m, hm⟩ := hG.maxLen
  refine (Tryz.strings_Cut ⟨l.toArray⟩ ⟨#[c]⟩ m w (by show l.toArray.size < _; simpa using hl) hm).mono ?_
  rintro e w' ⟨rfl, n, rfl⟩
  refine ⟨_, _, rfl, ⟨rfl, rfl⟩, below_drewN w n, fun T _ => ?_⟩
  simp [RV, RVL, cut_one]

theorem ok64 : okFn Tryz.prog 64 = true := by kernel_rfl
theorem s64 (n : Int) (hn : lim n) : ASpec Tryz.prog 64 [I n] (fun r Ms => r = S (Lib.itoa n) ∧ Ms = []) := by
  refine aspec_cl ok64 ?_
  intro w vs A hG hA hv
  simp only [RVL, RV] at hv
  obtain ⟨_, _, rfl, rfl, rfl⟩ := hv
  refine (Tryz.strconv_Itoa n hn.1 hn.2 w hG.pow).mono ?_
  rintro e w' ⟨rfl, k, os, rfl⟩
  exact ⟨_, _, rfl, ⟨rfl, rfl⟩, Lib.below_grow _ w (Nat.le_refl _) k os, fun T _ => by simp [RV]⟩

theorem indexByte_pos (c : UInt8) : ∀ l : By, decide (0 ≤ Lib.indexByte l c) = l.contains c
  | [] => rfl
  | b :: l => by
    have ih := indexByte_pos c l
    have hge := Lib.indexByte_ge l c
    unfold Lib.indexByte
    by_cases hb : b = c
    · subst hb; simp
    · have h1 : (b == c) = false := by simp [hb]
      have h2 : (c == b) = false := by simp [Ne.symm hb]
      rw [List.contains_cons, h2, Bool.false_or, ← ih, h1]
      simp only [Bool.false_eq_true, if_false]
      split
      · rename_i h; rw [beq_iff_eq] at h; rw [h]
      · rename_i h
        have : Lib.indexByte l c ≠ -1 := by simpa using h
        congr 1
        exact propext ⟨fun _ => by omega, fun _ => by omega⟩

theorem ok90 : okFn Tryz.prog 90 = true := by kernel_rfl
theorem s90 (l : By) (c : UInt8) : ASpec Tryz.prog 90 [S l, S [c]] (fun r Ms => r = B (l.contains c) ∧ Ms = []) := by
  refine aspec_cl ok90 ?_
  intro w vs A hG hA hv
  simp only [RVL, RV] at hv
  obtain ⟨_, _, rfl, rfl, _, _, rfl, rfl, rfl⟩ := hv
  refine (Tryz.strings_Contains_one ⟨l.toArray⟩ c w).mono ?_
  rintro e w' ⟨rfl, rfl⟩
  exact ⟨_, _, rfl, ⟨rfl, rfl⟩, Below.refl _ _, fun T _ => by simp only [RV]; rw [← indexByte_pos]⟩

/-- a text without its last byte, if that is c. -/
def trimB (c : UInt8) (l : By) : By := Lib.trimSuffix l [c]
theorem ok148 : okFn Tryz.prog 148 = true := by kernel_rfl
theorem s148 (l : By) (c : UInt8) (hl : l.length ≤ 1000000000) : ASpec Tryz.prog 148 [S l, S [c]] (fun r Ms => r = S (trimB c l) ∧ Ms = []) := by
  refine aspec_cl ok148 ?_
  intro w vs A hG hA hv
  simp only [RVL, RV] at hv
  obtain ⟨_, _, rfl, rfl, _, _, rfl, rfl, rfl⟩ := hv
  refine (Tryz.strings_TrimSuffix ⟨l.toArray⟩ ⟨#[c]⟩ w (by show l.toArray.size ≤ _; simp; omega)).mono ?_
  rintro e w' ⟨rfl, rfl⟩
  exact ⟨_, _, rfl, ⟨rfl, rfl⟩, Below.refl _ _, fun T _ => by simp [RV, trimB]⟩

theorem ok95 : okFn Tryz.prog 95 = true := by kernel_rfl
theorem s95 (l : By) (c : UInt8) (hl : l.length ≤ 1000000) : ASpec Tryz.prog 95 [S l, S [c]] (fun r Ms => r = .s 1 (strsA (splB c l)) ∧ Ms = []) := by
  refine aspec_cl ok95 ?_
  intro w vs A hG hA hv
  simp only [RVL, RV] at hv
  obtain ⟨_, _, rfl, rfl, _, _, rfl, rfl, rfl⟩ := hv
  obtain ⟨m, hm⟩ := hG.maxLen
  have hsz : (ByteArray.mk l.toArray).size = l.length := by show l.toArray.size = _; simp
  refine (Tryz.strings_Split ⟨l.toArray⟩ ⟨#[c]⟩ m w (by rw [hsz]; omega) hm (Nat.le_refl 1)).mono ?_
  rintro e w' ⟨rfl, rfl⟩
  have hall := Lib.splitB_all ⟨#[c]⟩ (Nat.le_refl 1) 0 _ ⟨l.toArray⟩ rfl
  have hle := Lib.countB_le ⟨#[c]⟩ (Nat.le_refl 1) _ ⟨l.toArray⟩ (Nat.le_refl _)
  rw [hsz] at hle
  have hdat := Lib.splitB_data ⟨#[c]⟩ 0 (Lib.countB ⟨l.toArray⟩ ⟨#[c]⟩) ⟨l.toArray⟩
  have hsp : Lib.splitK [c] 0 (Lib.countB ⟨l.toArray⟩ ⟨#[c]⟩) l = splB c l := by
    rw [← split_one]
    rfl
  obtain ⟨bs, hbs⟩ : ∃ bs, bs = Lib.splitB ⟨#[c]⟩ 0 (Lib.countB ⟨l.toArray⟩ ⟨#[c]⟩) ⟨l.toArray⟩ := ⟨_, rfl⟩
  rw [← hbs] at hall hdat ⊢
  have hd2 : bs.map (·.data.toList) = splB c l := by rw [hdat]; exact hsp
  have hlen : (splB c l).length = bs.length := by rw [← hd2]; simp
  refine ⟨_, _, rfl, ⟨rfl, rfl⟩, (Below.refl _ w).alloc (Nat.le_refl _) _, fun T hT => ?_⟩
  simp only [RV, R]
  refine ⟨_, _, bs.map Value.string, by rw [strsA_len, hlen, hall], by rw [strsA_len, hlen, hall]; exact Nat.le_refl _, by simp only [maxLen]; omega, by intro x hx; obtain ⟨q, _, rfl⟩ := List.mem_map.1 hx; rfl, ?_, fun _ => ⟨w.heap.size, 0, rfl, by simp, fun h => absurd (hA _ (hT _ h)) (Nat.lt_irrefl _), fun j u hu => ?_⟩⟩
  · rw [← hd2]
    have key : ∀ (w' : World) (bs : List ByteArray), RL w' T noHv (strsA (bs.map (·.data.toList))) (bs.map Value.string) := by
      intro w' bs
      induction bs with
      | nil => simp [strsA, RL]
      | cons b bs ih =>
        simp only [strsA, List.map_cons, RL] at ih ⊢
        exact ⟨[.string b], _, rfl, ⟨by cases b; rfl, rfl⟩, ih⟩
    exact key _ bs
  · rw [Nat.zero_add]
    have hn := heap_alloc_new w (.cells (bs.map Value.string).toArray 9)
    rw [cell_of_row _ w.heap.size _ _ _ _ hn]
    simpa using hu

/-- how a text is read as a number: the number, and whether there is an error. -/
def atoiB (l : By) : Int × Bool := match Lib.atoiAll l with | .ok v => (v, true) | .range => (Lib.atoiSat l, false) | _ => (0, false)
theorem ok97 : okFn Tryz.prog 97 = true := by kernel_rfl
theorem s97 (l : By) (hl : l.length ≤ 1000000) : ASpec Tryz.prog 97 [S l] (fun r Ms => (((atoiB l).2 = true ∧ r = .t [I (atoiB l).1, .v .nilIface]) ∨ ((atoiB l).2 = false ∧ ∃ t v, r = .t [I (atoiB l).1, .v (.iface t v)])) ∧ Ms = []) := by
  refine aspec_cl ok97 ?_
  intro w vs A hG hA hv
  simp only [RVL, RV] at hv
  obtain ⟨_, _, rfl, rfl, rfl⟩ := hv
  have hsz : (ByteArray.mk l.toArray).size = l.length := by show l.toArray.size = _; simp
  have hdt : (ByteArray.mk l.toArray).data.toList = l := by simp
  cases h : Lib.atoiAll l with
  | ok v =>
    refine (Tryz.strconv_Atoi_ok ⟨l.toArray⟩ (by rw [hsz]; omega) v (by rw [hdt]; exact h) w).mono ?_
    rintro e w' ⟨rfl, hw⟩
    refine ⟨_, .t [I v, .v .nilIface], rfl, ⟨.inl ⟨by simp [atoiB, h], by simp [atoiB, h]⟩, rfl⟩, ?_, fun T _ => by simp [RV, RVL]⟩
    rcases hw with rfl | ⟨t, rfl⟩
    · exact Below.refl _ _
    · exact ⟨rfl, rfl, rfl, by rw [Lib.bytesWorld_size]; exact Nat.le_succ _, fun j hj => Lib.bytesWorld_at_old w 5 t j hj⟩
  | range =>
    obtain ⟨te, pe, hc⟩ := hG.rng
    refine (Tryz.strconv_Atoi_range ⟨l.toArray⟩ (by rw [hsz]; omega) (by rw [hdt]; exact h) _ w hc (.inr ⟨te, pe, rfl⟩)).mono ?_
    rintro e w' ⟨N, rfl, _, _, hb⟩
    exact ⟨_, .t [I (Lib.atoiSat l), .v (.iface 222 (.pointer (some ⟨N, 0, none⟩)))], rfl, ⟨.inr ⟨by simp [atoiB, h], 222, .pointer (some ⟨N, 0, none⟩), by simp [atoiB, h]⟩, rfl⟩, hb, fun T _ => by simp [RV, RVL]⟩
  | _ =>
    obtain ⟨te, pe, hc⟩ := hG.syn
    refine (Tryz.strconv_Atoi_syntax ⟨l.toArray⟩ (by rw [hsz]; omega) (fun v e => by rw [hdt, h] at e; cases e) (fun e => by rw [hdt, h] at e; cases e) _ w hc (.inr ⟨te, pe, rfl⟩)).mono ?_
    rintro e w' ⟨N, rfl, _, _, hb⟩
    exact ⟨_, .t [I 0, .v (.iface 222 (.pointer (some ⟨N, 0, none⟩)))], rfl, ⟨.inr ⟨by simp [atoiB, h], 222, .pointer (some ⟨N, 0, none⟩), by simp [atoiB, h]⟩, rfl⟩, hb, fun T _ => by simp [RV, RVL]⟩
end Go.Proofs.YtndniceeibflcaaGreatDoor

namespace Go.Proofs.YtndniceeibflcaaGreatDoor
open Aw Mp Go.RowKit
set_option linter.unusedSimpArgs false

theorem mod2 (b : Int) : (b.tmod 1000003 + 1000003).tmod 1000003 = b % 1000003 := by
  rcases Int.le_total 0 b with h | h
  · rw [Int.tmod_eq_emod_of_nonneg h, Int.tmod_eq_emod_of_nonneg (by omega)]
    omega
  · obtain ⟨c, rfl⟩ : ∃ c, b = -c := ⟨-b, by omega⟩
    rw [Int.neg_tmod, Int.tmod_eq_emod_of_nonneg (show 0 ≤ c by omega), Int.tmod_eq_emod_of_nonneg (by omega)]
    omega
theorem mod1 (b : Int) : (if b.tmod 1000003 < 0 then b.tmod 1000003 + 1000003 else b.tmod 1000003) = b % 1000003 := by
  rcases Int.le_total 0 b with h | h
  · rw [Int.tmod_eq_emod_of_nonneg h, if_neg (by omega)]
  · obtain ⟨c, rfl⟩ : ∃ c, b = -c := ⟨-b, by omega⟩
    rw [Int.neg_tmod, Int.tmod_eq_emod_of_nonneg (by omega)]
    split <;> omega
theorem tmod_lim (b : Int) : -1000003 < b.tmod 1000003 ∧ b.tmod 1000003 < 1000003 := by
  rcases Int.le_total 0 b with h | h
  · rw [Int.tmod_eq_emod_of_nonneg h]; omega
  · obtain ⟨c, rfl⟩ : ∃ c, b = -c := ⟨-b, by omega⟩
    rw [Int.neg_tmod, Int.tmod_eq_emod_of_nonneg (by omega)]; omega
theorem sum_take {b : Int} {l : By} {k : Nat} (h : k < l.length) : sumB b (l.take (k + 1)) = (sumB b (l.take k) * 257 + (l[k].toNat : Int) + 1).tmod 1000003 := by
  have hlim := (sumB_lim b (l.take k)).1
  rw [List.take_add_one, List.getElem?_eq_getElem h]
  simp only [Option.toList_some]
  unfold sumB at hlim ⊢
  rw [List.foldl_append, Int.tmod_eq_emod_of_nonneg (by omega)]
  rfl

theorem ok28 : okFn Tryz.prog 28 = true := by kernel_rfl
theorem s28 (b : Int) (l : By) (hl : l.length ≤ 1000000) : ASpec Tryz.prog 28 [I b, S l] (fun r Ms => r = I (sumB b l) ∧ Ms = []) := by
  refine aspec_of (own := []) Tryz.func28 rfl ok28 ?_
  have ht := tmod_lim b
  simp only [wB, awp, binC, arithC, cmpC, asI, asN, lenA, St.ev, St.step, setS, killS, AV.kill, AV.killL, Mem.kill, Nat.reduceAdd, Nat.reduceSub, Int.reduceAdd, Int.reduceSub, Int.reduceEq, isU, asStr, lenK, io5, us9, bytesA_len, Tryz.ntmps28, mod2]
  refine ⟨by unfold lim; omega, hl, ?_⟩
  refine swp_loop' (fun k : Nat => ⟨[I b, S l, .bot, .bot, .bot, I (sumB b (l.take k)), .bot, .bot, .bot, .bot, .bot, .bot, .bot, .s 1 (bytesA l), I l.length, I k, .bot, .bot, .bot, .bot, .bot, .bot, .bot, .bot, .bot, .bot, .bot, .bot], []⟩) (fun k => k ≤ l.length) (fun k => l.length - k) 0 (le_sl (by simp [leSl, sumB])) (Nat.zero_le _) ?_
  intro k hk
  refine awp_sound (own := []) _ _ _ _ _ ?_
  simp only [wB, awp, binC, cmpC, asB, asI, St.ev, St.step, setS, killS, AV.kill, AV.killL, Mem.kill, Nat.reduceAdd, Int.reduceAdd]
  by_cases h : k < l.length
  · have h' : (k : Int) < l.length := by omega
    have hs := sumB_lim b (l.take k)
    have hc : (l[k].toNat : Int) ≤ 255 := by have := l[k].toNat_lt; omega
    simp only [wB, awp, binC, idxC, arithC, cmpC, asP, asS, asI, asN, loadA, St.ev, St.step, setS, killS, AV.kill, AV.killL, Mem.kill, AV.cells, AV.flat, AV.single, Nat.reduceAdd, Int.reduceAdd, Int.reduceEq, isU, io3, io5, wrap_byte, decide_eq_true h', Int.toNat_natCast, aget_bytes h]
    refine ⟨by omega, by unfold lim; omega, by unfold lim; omega, by unfold lim; omega, by unfold lim; omega, k + 1, ?_, by omega, by omega⟩
    rw [sum_take h]
    exact le_sl (by simp [leSl])
  · have h' : ¬ (k : Int) < l.length := by omega
    simp only [wB, awp, asN, St.ev, St.step, setS, killS, AV.kill, AV.killL, Mem.kill, Nat.reduceAdd, Int.reduceAdd, decide_eq_false h']
    refine aend_frz rfl ⟨?_, rfl⟩
    rw [List.take_of_length_le (by omega)]
    rfl

theorem ok32 : okFn Tryz.prog 32 = true := by kernel_rfl
theorem s32 (b : Int) (l : By) (hl : l.length ≤ 1000000) : ASpec Tryz.prog 32 [I b, S l] (fun r Ms => r = I (sumB b l) ∧ Ms = []) := by
  refine aspec_of (own := []) Tryz.func32 rfl ok32 ?_
  have ht := tmod_lim b
  have h1 := mod1 b
  by_cases h0 : b.tmod 1000003 < 0
  case' pos => (rw [if_pos h0] at h1; simp only [wB, awp, binC, arithC, cmpC, asB, asI, asN, St.ev, St.step, setS, killS, AV.kill, AV.killL, Mem.kill, Nat.reduceAdd, Nat.reduceSub, Int.reduceAdd, Int.reduceSub, Int.reduceEq, isU, Tryz.ntmps32, decide_eq_true h0, h1]; refine ⟨by unfold lim; omega, ?_⟩)
  case' neg => (rw [if_neg h0] at h1; have h0' : ¬ b % 1000003 < 0 := by omega
                simp only [wB, awp, binC, arithC, cmpC, asB, asI, asN, St.ev, St.step, setS, killS, AV.kill, AV.killL, Mem.kill, Nat.reduceAdd, Nat.reduceSub, Int.reduceAdd, Int.reduceSub, Int.reduceEq, isU, Tryz.ntmps32, h1, decide_eq_false h0'])
  all_goals
    refine swp_loop' (fun k : Nat => ⟨[I b, S l, .bot, .bot, .bot, I (sumB b (l.take k)), I k, .bot, .bot, .bot, .bot, .bot, .bot, .bot, .bot, .bot, .bot, .bot, .bot, .bot, .bot, .bot, .bot, .bot, .bot, .bot, .bot, .bot, .bot], []⟩) (fun k => k ≤ l.length) (fun k => l.length - k) 0 (le_sl (by simp [leSl, sumB])) (Nat.zero_le _) ?_
    intro k hk
    refine awp_sound (own := []) _ _ _ _ _ ?_
    simp only [wB, awp, binC, cmpC, asB, asI, lenA, St.ev, St.step, setS, killS, AV.kill, AV.killL, Mem.kill, Nat.reduceAdd, Int.reduceAdd, lenK]
    by_cases h : k < l.length
    · have h' : (k : Int) < l.length := by omega
      have hs := sumB_lim b (l.take k)
      have hc : (l[k].toNat : Int) ≤ 255 := by have := l[k].toNat_lt; omega
      have hg : l.getD k 0 = l[k] := by rw [List.getD_eq_getElem?_getD, List.getElem?_eq_getElem h]; rfl
      simp only [wB, awp, binC, arithC, cmpC, asI, asN, St.ev, St.step, setS, killS, AV.kill, AV.killL, Mem.kill, Nat.reduceAdd, Int.reduceAdd, Int.reduceEq, isU, asStr, io3, io5, wrap_byte, decide_eq_true h', Int.toNat_natCast, hg]
      refine ⟨by unfold lim; omega, ⟨by omega, h'⟩, by unfold lim; omega, by unfold lim; omega, by unfold lim; omega, k + 1, ?_, by omega, by omega⟩
      rw [sum_take h]
      exact le_sl (by simp [leSl])
    · have h' : ¬ (k : Int) < l.length := by omega
      simp only [wB, awp, asN, St.ev, St.step, setS, killS, AV.kill, AV.killL, Mem.kill, Nat.reduceAdd, Int.reduceAdd, decide_eq_false h']
      refine aend_frz rfl ⟨?_, rfl⟩
      rw [List.take_of_length_le (by omega)]
      rfl
theorem nDigits_le : ∀ (k u : Nat), u < 10 ^ (k + 1) → Lib.nDigits u ≤ k + 1
  | 0, u, h => by rw [Lib.nDigits_small (by simpa using h)]; exact Nat.le_refl _
  | k + 1, u, h => by
    by_cases hs : u < 10
    · rw [Lib.nDigits_small hs]; omega
    · rw [Lib.nDigits_big hs]
      have := nDigits_le k (u / 10) (by rw [Nat.pow_succ] at h; omega)
      omega
theorem dec_len {u : Nat} (h : u ≤ 1000000000) : (Lib.decDigits u).length ≤ 10 := by
  rw [Lib.decDigits_length]
  exact nDigits_le 9 u (by omega)
theorem itoa_len {n : Int} (h0 : 0 ≤ n) (h : n ≤ 1000000000) : (Lib.itoa n).length ≤ 10 := by
  unfold Lib.itoa
  rw [if_neg (by omega)]
  exact dec_len (by omega)
theorem itoa_nat (n : Nat) : Lib.itoa (n : Int) = Lib.decDigits n := by
  unfold Lib.itoa
  rw [if_neg (by omega)]
  simp

theorem ten (n : Nat) (h : n < 10) : (([48, 49, 50, 51, 52, 53, 54, 55, 56, 57] : List UInt8).take (n + 1)).drop n = Lib.decDigits n := by
  rw [Lib.decDigits, dif_pos h]
  have : ∀ m < 10, (([48, 49, 50, 51, 52, 53, 54, 55, 56, 57] : List UInt8).take (m + 1)).drop m = [UInt8.ofNat (48 + m)] := by decide
  exact this n h

theorem ok83 : okFn Tryz.prog 83 = true := by kernel_rfl
theorem s83 (n : Nat) (hn : n ≤ 1000000000) : ASpec Tryz.prog 83 [I n] (fun r Ms => r = S (Lib.decDigits n) ∧ Ms = []) := by
  induction n using Nat.strongRecOn with
  | _ n ih =>
    refine aspec_of (own := []) Tryz.func83 rfl ok83 ?_
    by_cases h : n < 10
    · have h' : (n : Int) < 10 := by omega
      have e : ((n : Int) + 1).toNat = n + 1 := by omega
      simp only [wB, awp, binC, arithC, cmpC, asS, asB, asI, asN, bndA, St.ev, St.step, setS, killS, AV.kill, AV.killL, Mem.kill, Nat.reduceAdd, Nat.reduceSub, Int.reduceAdd, Int.reduceSub, isU, asStr, Tryz.ntmps83, decide_eq_true h', Int.toNat_natCast, e, ten n h]
      exact ⟨by unfold lim; omega, ⟨by omega, by omega, by simp; omega⟩, aend_frz rfl ⟨rfl, rfl⟩⟩
    · have h' : ¬ (n : Int) < 10 := by omega
      have e1 : (n : Int).tdiv 10 = ((n / 10 : Nat) : Int) := (Int.ofNat_tdiv n 10).symm
      have e2 : (n : Int).tmod 10 = ((n % 10 : Nat) : Int) := (Int.ofNat_tmod n 10).symm
      simp only [wB, awp, binC, arithC, cmpC, asB, asI, asN, St.ev, St.step, setS, killS, AV.kill, AV.killL, Mem.kill, Nat.reduceAdd, Nat.reduceSub, Int.reduceAdd, Int.reduceSub, Int.reduceEq, isU, Tryz.ntmps83, decide_eq_false h', e1]
      refine ⟨by unfold lim; omega, acall_v (ih (n / 10) (by omega) (by omega)) rfl rfl ?_⟩
      simp only [wB, binC, arithC, cmpC, asI, St.ev, St.step, setS, killS, AV.kill, AV.killL, Mem.kill, Int.reduceEq, isU, e2]
      refine acall_v (ih (n % 10) (by omega) (by omega)) rfl rfl ?_
      simp only [wB, awp, binC, eqC, asG, asB, asI, asN, St.ev, St.step, setS, killS, AV.kill, AV.killL, Mem.kill, asStr, strC]
      have l1 := dec_len (u := n / 10) (by omega)
      have l2 := dec_len (u := n % 10) (by omega)
      refine ⟨by omega, aend_frz rfl ⟨?_, rfl⟩⟩
      have e3 : Lib.decDigits n = Lib.decDigits (n / 10) ++ [UInt8.ofNat (48 + n % 10)] := by conv => lhs; rw [Lib.decDigits, dif_neg h]
      have e4 : Lib.decDigits (n % 10) = [UInt8.ofNat (48 + n % 10)] := by rw [Lib.decDigits, dif_pos (by omega)]
      rw [e3, ← e4]
      rfl

theorem ok63 : okFn Tryz.prog 63 = true := by kernel_rfl
theorem s63 (l : By) : ASpec Tryz.prog 63 [S l] (fun r Ms => r = B (ordB l) ∧ Ms = []) := by
  refine aspec_of (own := []) Tryz.func63 rfl ok63 ?_
  simp only [wB, awp, binC, cmpC, asI, asN, lenA, St.ev, St.step, setS, killS, AV.kill, AV.killL, Mem.kill, Nat.reduceAdd, Nat.reduceSub, Int.reduceAdd, Int.reduceSub, lenK, Tryz.ntmps63]
  by_cases h1 : (1 : Int) ≤ l.length
  · simp only [wB, binC, cmpC, asB, asI, lenA, St.ev, St.step, setS, killS, AV.kill, AV.killL, Mem.kill, lenK, decide_eq_true h1]
    by_cases h2 : (l.length : Int) ≤ 30
    · simp only [wB, St.ev, St.step, setS, killS, AV.kill, AV.killL, Mem.kill, decide_eq_true h2]
      refine acall_v (s90 l 10) rfl rfl ?_
      simp only [wB, awp, asB, asN, St.ev, St.step, setS, killS, AV.kill, AV.killL, Mem.kill]
      refine aend_frz rfl ⟨?_, rfl⟩
      have e1 : decide (1 ≤ l.length) = true := decide_eq_true (by omega)
      have e2 : decide (l.length ≤ 30) = true := decide_eq_true (by omega)
      simp only [ordB, e1, e2, Bool.true_and]
      rfl
    · simp only [wB, awp, asB, asN, St.ev, St.step, setS, killS, AV.kill, AV.killL, Mem.kill, decide_eq_false h2]
      refine aend_frz rfl ⟨?_, rfl⟩
      have e2 : decide (l.length ≤ 30) = false := decide_eq_false (by omega)
      simp only [ordB, e2, Bool.and_false, Bool.false_and]
      rfl
  · simp only [wB, awp, asB, asN, St.ev, St.step, setS, killS, AV.kill, AV.killL, Mem.kill, decide_eq_false h1]
    refine aend_frz rfl ⟨?_, rfl⟩
    have e2 : decide (1 ≤ l.length) = false := decide_eq_false (by omega)
    simp only [ordB, e2, Bool.false_and]
    rfl

end Go.Proofs.YtndniceeibflcaaGreatDoor

namespace Go.Proofs.YtndniceeibflcaaGreatDoor
open Aw Mp Go.RowKit
set_option linter.unusedSimpArgs false

theorem acall_e {P : Program} {f : FuncId} {xs : List AV} {M : Mem} {K : HK (AV → Mem → Prop)} {post : AV → Prop} (spec : ASpec P f xs (fun r Ms => post r ∧ Ms = [])) (ha : AV.pureL xs = true) (h : ∀ x, post x → x.pure = true ∧ K.k x M) : ACall P f xs M (K := K) := by
  refine ⟨false, xs, _, coel_pure ha, spec, ?_⟩
  rintro r Ms ⟨hp, rfl⟩
  obtain ⟨h1, h2⟩ := h r hp
  refine ⟨fun e => (by cases e), ?_⟩
  rw [AV.up, AV.sub_pure _ _ _ h1]
  simpa using h2
theorem aget_strs' {l : List By} {j : Nat} {y : By} (h : l[j]? = some y) (K : HK (AV → Prop)) : @AGet (strsA l) j K = K.k (S y) := by simp [AGet, strsA, h]

theorem ok106 : okFn Tryz.prog 106 = true := by kernel_rfl
theorem s106_of (l : By) (x y : By) (n : Int) (hl : l.length ≤ 1000000) (hx : (splB 10 (trimB 10 l)).getLast? = some x) (hc : (cutB 32 x).1 = y) (hy : (atoiB y).1 = n) (hxl : x.length ≤ 1000000) (hyl : y.length ≤ 1000000) : ASpec Tryz.prog 106 [S l] (fun r Ms => r = I n ∧ Ms = []) := by
  refine aspec_of (own := []) Tryz.func106 rfl ok106 ?_
  simp only [wB, awp, asN, St.ev, St.step, setS, killS, AV.kill, AV.killL, Mem.kill, Nat.reduceAdd, Nat.reduceSub, Int.reduceAdd, Int.reduceSub, Tryz.ntmps106]
  refine acall_v (s148 l 10 (by omega)) rfl rfl ?_
  simp only [wB, St.ev, St.step, setS, killS, AV.kill, AV.killL, Mem.kill]
  have htl : (trimB 10 l).length ≤ 1000000 := by
    unfold trimB Lib.trimSuffix
    split
    · simp; omega
    · exact hl
  refine acall_v (s95 (trimB 10 l) 10 htl) rfl rfl ?_
  have hne : 0 < (splB 10 (trimB 10 l)).length := List.length_pos_iff.2 (splB_ne _ _)
  have hlen : (splB 10 (trimB 10 l)).length ≤ 1000001 := by
    have key : ∀ q : By, (splB 10 q).length ≤ q.length + 1 := by
      intro q
      induction q with
      | nil => simp [splB]
      | cons b q ih =>
        unfold splB
        split
        · simp only [List.length_cons]; omega
        · split
          · rename_i z r e; rw [e] at ih; simp only [List.length_cons] at ih ⊢; omega
          · simp
    have := key (trimB 10 l)
    omega
  have hat : (splB 10 (trimB 10 l))[(((splB 10 (trimB 10 l)).length : Int) - 1).toNat]? = some x := by
    rw [List.getLast?_eq_getElem?] at hx
    rw [show (((splB 10 (trimB 10 l)).length : Int) - 1).toNat = (splB 10 (trimB 10 l)).length - 1 by omega]
    exact hx
  simp only [wB, awp, binC, idxC, arithC, cmpC, asP, asS, asI, asN, lenA, loadA, St.ev, St.step, setS, killS, AV.kill, AV.killL, Mem.kill, AV.cells, AV.flat, AV.single, Nat.reduceAdd, Int.reduceAdd, isU, lenK, strsA_len, aget_strs' hat]
  refine ⟨by unfold lim; omega, by omega, acall_v (s62 x 32 (by omega)) rfl rfl ?_⟩
  simp only [wB, awp, asT, asN, St.ev, St.step, setS, killS, AV.kill, AV.killL, Mem.kill, Nat.reduceAdd, Int.reduceAdd]
  refine acall_e (s97 _ (by rw [hc]; exact hyl)) rfl ?_
  rintro r (⟨_, rfl⟩ | ⟨_, t, v, rfl⟩)
  · refine ⟨rfl, ?_⟩
    simp only [wB, awp, asT, asN, St.ev, St.step, setS, killS, AV.kill, AV.killL, Mem.kill, Nat.reduceAdd, Int.reduceAdd]
    exact aend_frz rfl ⟨by rw [hc, hy]; rfl, rfl⟩
  · refine ⟨rfl, ?_⟩
    simp only [wB, awp, asT, asN, St.ev, St.step, setS, killS, AV.kill, AV.killL, Mem.kill, Nat.reduceAdd, Int.reduceAdd]
    exact aend_frz rfl ⟨by rw [hc, hy]; rfl, rfl⟩
theorem s106 (l : List By) (hl : l.length ≤ 10000) (ho : ∀ o ∈ l, ordB o = true) : ASpec Tryz.prog 106 [S (lg 0 l)] (fun r Ms => r = I (sumL 0 l) ∧ Ms = []) := by
  have hsz := lg_size l 0 ho
  have hlim := sumL_lim l
  rcases List.eq_nil_or_concat l with rfl | ⟨l, o, rfl⟩
  · exact s106_of (lg 0 []) [] [] 0 (by simp [lg]) (by simp [trimB, lg, trim_nil, splB]) rfl rfl (by simp) (by simp)
  · rw [List.concat_eq_append] at *
    obtain ⟨_, h2, h3⟩ := (ordB_iff o).1 (ho o (by simp))
    have hil := itoa_len hlim.1 (by omega)
    refine s106_of (lg 0 (l ++ [o])) _ (Lib.itoa (sumL 0 (l ++ [o]))) _ (by omega) (last_line l o h3) (by rw [cutB_at 32 _ _ (itoa_no hlim.1 32 (by decide))]) ?_ (by simp only [List.length_append, List.length_cons]; omega) (by omega)
    simp [atoiB, atoi_itoa hlim.1 (by omega)]

theorem ok74 : okFn Tryz.prog 74 = true := by kernel_rfl
theorem s74 (l : List By) (o : By) (hl : l.length ≤ 10000) (ho : ∀ o ∈ l, ordB o = true) (hol : o.length ≤ 30) : ASpec Tryz.prog 74 [S (lg 0 l), S o] (fun r Ms => r = S (lg 0 (l ++ [o])) ∧ Ms = []) := by
  have hsz := lg_size l 0 ho
  have hs := sumB_lim (sumL 0 l) o
  have hil := itoa_len hs.1 (by omega)
  refine aspec_of (own := []) Tryz.func74 rfl ok74 ?_
  simp only [wB, awp, asN, St.ev, St.step, setS, killS, AV.kill, AV.killL, Mem.kill, Nat.reduceAdd, Nat.reduceSub, Int.reduceAdd, Int.reduceSub, Tryz.ntmps74]
  refine acall_v (s106 l hl ho) rfl rfl ?_
  simp only [wB, St.ev, St.step, setS, killS, AV.kill, AV.killL, Mem.kill]
  refine acall_v (s28 _ o (by omega)) rfl rfl ?_
  simp only [wB, St.ev, St.step, setS, killS, AV.kill, AV.killL, Mem.kill]
  refine acall_v (s64 _ (by unfold lim; omega)) rfl rfl ?_
  simp only [wB, awp, binC, eqC, asG, asB, asI, asN, St.ev, St.step, setS, killS, AV.kill, AV.killL, Mem.kill, Nat.reduceLeDiff, asStr, strC]
  refine ⟨by omega, by omega, by omega, by omega, aend_frz rfl ⟨?_, rfl⟩⟩
  rw [lg_last]
  simp [frz, AV.sub]

theorem sumL_take {l : List By} {k : Nat} (h : k < l.length) : sumL 0 (l.take (k + 1)) = sumB (sumL 0 (l.take k)) l[k] := by
  rw [List.take_add_one, List.getElem?_eq_getElem h]
  simp only [Option.toList_some]
  unfold sumL
  rw [List.foldl_append]
  rfl
theorem lg_take {l : List By} {k : Nat} (h : k < l.length) : lg 0 (l.take (k + 1)) = lg 0 (l.take k) ++ lineB (sumB (sumL 0 (l.take k)) l[k]) l[k] := by
  rw [List.take_add_one, List.getElem?_eq_getElem h]
  simp only [Option.toList_some]
  rw [lg_app]
  simp [lg]
theorem ok36 : okFn Tryz.prog 36 = true := by kernel_rfl
theorem s36 (l : List By) (hl : l.length ≤ 10000) (ho : ∀ o ∈ l, ordB o = true) : ASpec Tryz.prog 36 [.s 1 (strsA l)] (fun r Ms => r = S (lg 0 l) ∧ Ms = []) := by
  refine aspec_of (own := []) Tryz.func36 rfl ok36 ?_
  simp only [wB, awp, asN, St.ev, St.step, setS, killS, AV.kill, AV.killL, Mem.kill, Nat.reduceAdd, Nat.reduceSub, Int.reduceAdd, Int.reduceSub, Tryz.ntmps36]
  refine swp_loop' (fun k : Nat => ⟨[.s 1 (strsA l), .bot, .bot, S (lg 0 (l.take k)), I (sumL 0 (l.take k)), I k, .bot, .bot, .bot, .bot, .bot, .bot, .bot, .bot, .bot, .bot, .bot, .bot, .bot, .bot, .bot, .bot, .bot, .bot, .bot, .bot, .bot, .bot, .bot, .bot], []⟩) (fun k => k ≤ l.length) (fun k => l.length - k) 0 (le_sl (by simp [leSl, lg, sumL])) (Nat.zero_le _) ?_
  intro k hk
  refine awp_sound (own := []) _ _ _ _ _ ?_
  simp only [wB, awp, binC, cmpC, asB, asI, lenA, St.ev, St.step, setS, killS, AV.kill, AV.killL, Mem.kill, Nat.reduceAdd, Int.reduceAdd, lenK, strsA_len]
  by_cases h : k < l.length
  · have h' : (k : Int) < l.length := by omega
    have hok := ho _ (List.getElem_mem h)
    obtain ⟨_, h30, _⟩ := (ordB_iff _).1 hok
    have hs := sumB_lim (sumL 0 (l.take k)) l[k]
    obtain ⟨n, hn⟩ : ∃ n : Nat, (n : Int) = sumB (sumL 0 (l.take k)) l[k] := ⟨(sumB (sumL 0 (l.take k)) l[k]).toNat, by omega⟩
    have hsz := lg_size (l.take k) 0 (fun o h => ho o (List.mem_of_mem_take h))
    rw [List.length_take] at hsz
    have hdl := dec_len (u := n) (by omega)
    simp only [wB, awp, idxC, asP, asS, asI, loadA, St.ev, St.step, setS, killS, AV.kill, AV.killL, Mem.kill, AV.cells, AV.flat, AV.single, Nat.reduceAdd, Int.reduceAdd, decide_eq_true h', Int.toNat_natCast, aget_strs h]
    refine ⟨by omega, acall_v (s32 _ _ (by omega)) rfl rfl ?_⟩
    simp only [wB, awp, asN, St.ev, St.step, setS, killS, AV.kill, AV.killL, Mem.kill, ← hn]
    refine swp_draw (own := []) (.take 0 .plain [] (.take 1 .plain [] (.take 5 .plain [] (.take 6 .plain [] (.take 7 .reads [] (.take 8 .reads [] (.alt 2 (.take 3 .plain [] (.take 4 .plain [] (.take 9 .plain [] (.take 10 .plain [] (.take 11 .plain [] (.done)))))) (.nil)))))))) [⟨19, 8, 0, 0, true⟩, ⟨20, 16, 0, 0, true⟩, ⟨21, 524288, 2, 0, false⟩, ⟨22, 1310720, 5, 0, true⟩, ⟨23, 2097152, 8, 0, true⟩, ⟨24, 1, 0, 0, true⟩, ⟨25, 32, 0, 0, true⟩, ⟨26, 25165824, 96, 0, true⟩, ⟨27, 33554432, 128, 0, true⟩, ⟨28, 71303168, 272, 0, true⟩, ⟨29, 134217728, 512, 0, true⟩, ⟨4, 268435456, 2047, 0, true⟩] mo (by kernel_rfl) ?_
    simp only [wB, idxC, asP, asS, asI, loadA, St.ev, setS, AV.cells, AV.flat, AV.single, ASch, St.put, Md.mem, Md.need, Int.toNat_natCast, aget_strs h]
    refine ⟨by omega, acall_v (s83 n (by omega)) rfl rfl ?_⟩
    simp only [wB, awp, binC, arithC, cmpC, eqC, asG, asB, asI, asN, St.ev, St.step, setS, killS, AV.kill, AV.killL, Mem.kill, Nat.reduceAdd, Nat.reduceLeDiff, Int.reduceAdd, ASch, St.put, Md.mem, Md.need, isU, asStr, strC]
    refine ⟨by omega, by omega, by omega, by omega, by unfold lim; omega, k + 1, ?_, by omega, by omega⟩
    rw [lg_take h, sumL_take h, ← hn]
    simp only [lineB, itoa_nat]
    exact le_sl (by simp [leSl])
  · have h' : ¬ (k : Int) < l.length := by omega
    simp only [wB, awp, asN, St.ev, St.step, setS, killS, AV.kill, AV.killL, Mem.kill, Nat.reduceAdd, Int.reduceAdd, decide_eq_false h']
    refine aend_frz rfl ⟨?_, rfl⟩
    rw [List.take_of_length_le (by omega)]
    rfl
end Go.Proofs.YtndniceeibflcaaGreatDoor

namespace Go.Proofs.YtndniceeibflcaaGreatDoor
open Aw Mp Go.RowKit
set_option linter.unusedSimpArgs false

theorem rd_stop {k : Nat} {b : Int} {log : By} (h : okLine b log = false) : rd k b log = ([], log) := by
  cases k with
  | zero => rfl
  | succ k => rw [rd_succ, if_neg (by rw [h]; simp)]
theorem rest_len {b : Int} {log : By} (h : okLine b log = true) : (restOf log).length ≤ log.length := by
  have := (okLine_split h).2
  conv => rhs; rw [this]
  simp

theorem ok19 : okFn Tryz.prog 19 = true := by kernel_rfl
theorem s19 (L : By) (hL : L.length ≤ 1000000) : ASpec Tryz.prog 19 [S L] (fun r Ms => r = .t [.s 1 (strsA (rd 100 0 L).1), S (rd 100 0 L).2] ∧ Ms = []) := by
  refine aspec_of (own := [4]) Tryz.func19 rfl ok19 ?_
  simp only [wB, awp, asN, Aw.newRow, St.ev, St.step, setS, killS, AV.kill, AV.killL, Mem.kill, Nat.reduceAdd, Nat.reduceEqDiff, Nat.reduceSub, Int.reduceAdd, Int.reduceSub, Tryz.ntmps19]
  refine swp_loop' (fun s : List By × Int × By => ⟨[S s.2.2, .bot, .bot, .bot, .o 0, I s.2.1, .bot, .bot, .bot, .bot, .bot, .bot, .bot, .bot, .bot, .bot, .bot, .bot, .bot, .bot, .bot, .bot, .bot, .bot, .bot, .bot, .bot, .bot, .bot, .bot, .bot, .bot, .bot, .bot, .bot, .bot, .bot, .bot, .bot, .bot, .bot, .bot, .bot, .bot, .bot, .bot, .bot, .bot, .bot, .bot, .bot, .bot, .bot, .bot, .bot, .bot], [some ⟨none, 9, 1, strsA s.1⟩]⟩) (fun s => s.1.length ≤ 100 ∧ rd 100 0 L = (s.1 ++ (rd (100 - s.1.length) s.2.1 s.2.2).1, (rd (100 - s.1.length) s.2.1 s.2.2).2) ∧ s.2.2.length ≤ L.length) (fun s => 100 - s.1.length) ([], 0, L) (le_sl (by simp [leSl])) ⟨by simp, by simp, Nat.le_refl _⟩ ?_
  rintro ⟨p, b, log⟩ ⟨hp, hrd, hlog⟩
  simp only at hp hrd hlog
  have hc1 : (cutB 10 log).1.length ≤ log.length := by
    cases h : (cutB 10 log).2.2 with
    | true => obtain ⟨e, _⟩ := cutB_yes 10 log h; conv => rhs; rw [e]
              simp
    | false => rw [(cutB_no 10 log h).1]; exact Nat.le_refl _
  have hc2 : (cutB 32 (cutB 10 log).1).2.1.length ≤ (cutB 10 log).1.length := by
    cases h : (cutB 32 (cutB 10 log).1).2.2 with
    | true => obtain ⟨e, _⟩ := cutB_yes 32 _ h; conv => rhs; rw [e]
              simp; omega
    | false => rw [(cutB_no 32 _ h).2.1]; simp
  have hsum := sumB_lim b (cutB 32 (cutB 10 log).1).2.1
  have stop : okLine b log = false → rd 100 0 L = (p, log) := fun h => by rw [hrd, rd_stop h]; simp
  refine awp_sound (own := [4]) _ _ _ _ _ ?_
  simp only [wB, awp, binC, cmpC, asB, asI, lenA, St.ev, St.step, setS, killS, AV.kill, AV.killL, Mem.kill, Nat.reduceAdd, Nat.reduceEqDiff, Int.reduceAdd, lenK, strsA_len]
  by_cases h : (p.length : Int) < 100
  case neg =>
    simp only [wB, awp, asN, St.ev, St.step, setS, killS, AV.kill, AV.killL, Mem.kill, Nat.reduceAdd, Nat.reduceEqDiff, Int.reduceAdd, decide_eq_false h]
    have e : 100 - p.length = 0 := by omega
    rw [e] at hrd
    refine aend_frz rfl ⟨?_, rfl⟩
    rw [hrd]
    simp [frz, AV.sub, AV.subL, strsA_pure, rd]
  simp only [wB, awp, St.ev, St.step, setS, killS, AV.kill, AV.killL, Mem.kill, Nat.reduceAdd, Nat.reduceEqDiff, Int.reduceAdd, decide_eq_true h]
  refine acall_v (s62 log 10 (by omega)) rfl rfl ?_
  simp only [wB, awp, asT, asN, St.ev, St.step, setS, killS, AV.kill, AV.killL, Mem.kill, Nat.reduceAdd, Nat.reduceEqDiff, Int.reduceAdd]
  refine acall_v (s62 (cutB 10 log).1 32 (by omega)) rfl rfl ?_
  simp only [wB, awp, asT, asN, St.ev, St.step, setS, killS, AV.kill, AV.killL, Mem.kill, Nat.reduceAdd, Nat.reduceEqDiff, Int.reduceAdd]
  refine acall_v (s28 b _ (by omega)) rfl rfl ?_
  cases h1 : (cutB 10 log).2.2 with
  | false =>
    simp only [wB, awp, asB, asN, St.ev, St.step, setS, killS, AV.kill, AV.killL, Mem.kill, Nat.reduceAdd, Nat.reduceEqDiff, Int.reduceAdd]
    refine aend_frz rfl ⟨?_, rfl⟩
    rw [stop (by simp [okLine, h1])]
    simp [frz, AV.sub, AV.subL, strsA_pure]
  | true =>
  cases h2 : (cutB 32 (cutB 10 log).1).2.2 with
  | false =>
    simp only [wB, awp, asB, asN, St.ev, St.step, setS, killS, AV.kill, AV.killL, Mem.kill, Nat.reduceAdd, Nat.reduceEqDiff, Int.reduceAdd]
    refine aend_frz rfl ⟨?_, rfl⟩
    rw [stop (by simp [okLine, h1, h2])]
    simp [frz, AV.sub, AV.subL, strsA_pure]
  | true =>
  simp only [wB, awp, asB, asN, St.ev, St.step, setS, killS, AV.kill, AV.killL, Mem.kill, Nat.reduceAdd, Nat.reduceEqDiff, Int.reduceAdd]
  refine acall_v (s63 _) rfl rfl ?_
  cases h3 : ordB (cutB 32 (cutB 10 log).1).2.1 with
  | false =>
    simp only [wB, awp, asB, asN, St.ev, St.step, setS, killS, AV.kill, AV.killL, Mem.kill, Nat.reduceAdd, Nat.reduceEqDiff, Int.reduceAdd]
    refine aend_frz rfl ⟨?_, rfl⟩
    rw [stop (by simp [okLine, h1, h2, h3])]
    simp [frz, AV.sub, AV.subL, strsA_pure]
  | true =>
  simp only [wB, asB, St.ev, St.step, setS, killS, AV.kill, AV.killL, Mem.kill]
  refine acall_v (s64 _ (by unfold lim; omega)) rfl rfl ?_
  by_cases h4 : Lib.itoa (sumB b (cutB 32 (cutB 10 log).1).2.1) = (cutB 32 (cutB 10 log).1).1
  · have hok : okLine b log = true := by simp [okLine, h1, h2, h3, h4]
    have hrl := rest_len hok
    simp only [wB, awp, binC, eqC, asO, asS, asG, asB, asI, asN, obA, St.ev, St.step, setS, killS, AV.kill, AV.killL, Mem.kill, AV.cells, AV.flat, AV.single, AV.cellular, AV.size, AV.pure, AV.pureL, Value.oneCell', Nat.reduceAdd, Nat.reduceEqDiff, Nat.reduceMul, Nat.reduceLeDiff, Int.reduceAdd, Int.reduceMul, asStr, strC, strsA_len, decide_eq_true h4]
    refine ⟨by decide, ⟨by decide, by omega⟩, (p ++ [ordOf log], sumB b (ordOf log), restOf log), ?_, ⟨by simp; omega, ?_, by simp only; omega⟩, by simp; omega⟩
    · rw [strsA_kill, strsA_app]
      exact le_sl (by simp [leSl, ordOf, restOf])
    · simp only [List.length_append, List.length_cons, List.length_nil]
      rw [hrd, show 100 - p.length = (100 - (p.length + (0 + 1))) + 1 by omega, rd_succ, if_pos hok]
      simp
  · simp only [wB, awp, binC, eqC, asG, asB, asI, asN, St.ev, St.step, setS, killS, AV.kill, AV.killL, Mem.kill, Nat.reduceAdd, Nat.reduceEqDiff, Int.reduceAdd, asStr, strC, decide_eq_false h4]
    refine aend_frz rfl ⟨?_, rfl⟩
    rw [stop (by simp [okLine, h1, h2, h3, h4])]
    simp [frz, AV.sub, AV.subL, strsA_pure]

end Go.Proofs.YtndniceeibflcaaGreatDoor

namespace Go.Proofs.YtndniceeibflcaaGreatDoor
open Aw Mp Go.RowKit
set_option linter.unusedSimpArgs false

theorem byte_ne {x c : UInt8} (h : x ≠ c) : ¬ (x.toNat : Int) = c.toNat := fun e => h (UInt8.toNat_inj.1 (by omega))
end Go.Proofs.YtndniceeibflcaaGreatDoor

namespace Go.Proofs.YtndniceeibflcaaGreatDoor
open Aw Mp Go.RowKit
set_option linter.unusedSimpArgs false

theorem ok79 : okFn Tryz.prog 79 = true := by kernel_rfl
theorem s79 (x lo hi : Int) : ASpec Tryz.prog 79 [I x, I lo, I hi] (fun r Ms => r = B (decide (lo ≤ x ∧ x ≤ hi)) ∧ Ms = []) := by
  refine aspec_of (own := []) Tryz.func79 rfl ok79 ?_
  simp only [wB, awp, binC, cmpC, asI, asN, St.ev, St.step, setS, killS, AV.kill, AV.killL, Mem.kill, Nat.reduceAdd, Nat.reduceSub, Int.reduceAdd, Int.reduceSub, Tryz.ntmps79]
  by_cases h : lo ≤ x
  · simp only [wB, awp, binC, cmpC, asB, asI, asN, St.ev, St.step, setS, killS, AV.kill, AV.killL, Mem.kill, decide_eq_true h]
    exact aend_frz rfl ⟨by simp [h]; rfl, rfl⟩
  · simp only [wB, awp, asB, asN, St.ev, St.step, setS, killS, AV.kill, AV.killL, Mem.kill, decide_eq_false h]
    exact aend_frz rfl ⟨by simp [h]; rfl, rfl⟩

theorem mem_take_of {α : Type} {l : List α} {j k : Nat} (hk : k < l.length) (hj : j < k) (e : l[j]'(by omega) = l[k]) : l[k] ∈ l.take k := by
  rw [← e]; exact List.mem_take_iff_getElem.2 ⟨j, by omega, rfl⟩
theorem not_mem_take {α : Type} {l : List α} {k : Nat} (hk : k < l.length) (h : ∀ j, j < k → ∀ hj : j < l.length, l[j] ≠ l[k]) : l[k] ∉ l.take k := by
  intro hm
  obtain ⟨j, hj, e⟩ := List.mem_iff_getElem.1 hm
  rw [List.getElem_take] at e
  have hj' : j < k := by simp at hj; omega
  exact h j hj' (by omega) e

theorem ok78 : okFn Tryz.prog 78 = true := by kernel_rfl
theorem s78 (n : Int) (ls : List (Int × Int)) (hl : ls.length ≤ 1000000) : ASpec Tryz.prog 78 [trapA n ls] (fun r Ms => r = I (vT n ls) ∧ Ms = []) := by
  refine aspec_of (own := []) Tryz.func78 rfl ok78 ?_
  simp only [wB, awp, asP, asN, loadA, St.ev, St.step, setS, killS, AV.kill, AV.killL, Mem.kill, AV.cells, AV.flat, AV.single, AV.cellular, AV.pure, AV.pureL, Nat.reduceAdd, Nat.reduceEqDiff, Nat.reduceSub, Nat.reduceLeDiff, Int.reduceAdd, Int.reduceSub, Tryz.ntmps78, trapA]
  refine acall_v (s79 n 1 6) rfl rfl ?_
  by_cases h0 : ¬ (1 ≤ n ∧ n ≤ 6)
  · simp only [wB, awp, asB, asN, St.ev, St.step, setS, killS, AV.kill, AV.killL, Mem.kill, Nat.reduceAdd, Int.reduceAdd, decide_eq_false h0]
    exact aend_frz rfl ⟨by rw [vT, if_pos (by omega)]; rfl, rfl⟩
  have h1 : 1 ≤ n ∧ n ≤ 6 := Decidable.not_not.1 h0
  simp only [wB, awp, asB, asN, St.ev, St.step, setS, killS, AV.kill, AV.killL, Mem.kill, Nat.reduceAdd, Int.reduceAdd, decide_eq_true h1]
  refine swp_loop' (fun k : Nat => ⟨[.bot, .p (.g [I n, .s 2 (prsA ls)]) 0, .bot, I k, .bot, .bot, .bot, .bot, .bot, .bot, .bot, .bot, .bot, .bot, .bot, .bot, .bot, .bot, .bot, .bot, .bot, .bot, .bot, .bot, .bot, .bot, .bot, .bot, .bot, .bot, .bot, .bot, .bot, .bot, .bot, .bot, .bot, .bot, .bot, .bot, .bot, .bot, .bot, .bot, .bot, .bot, .bot, .bot, .bot, .bot, .bot, .bot, .bot, .bot, .bot, .bot, .bot, .bot, .bot, .bot, .bot, .bot, .bot], []⟩) (fun k => k ≤ ls.length ∧ ∀ j, j < k → ∀ h : j < ls.length, okLn n ls[j]) (fun k => ls.length - k) 0 (le_sl (by simp [leSl, prsA_len])) ⟨Nat.zero_le _, by omega⟩ ?_
  rintro k ⟨hk, hno⟩
  refine awp_sound (own := []) _ _ _ _ _ ?_
  simp only [wB, awp, binC, cmpC, asP, asB, asI, lenA, loadA, St.ev, St.step, setS, killS, AV.kill, AV.killL, Mem.kill, AV.cells, AV.flat, AV.single, Nat.reduceAdd, Nat.reduceEqDiff, Nat.reduceLeDiff, Int.reduceAdd, lenK, prsA_len]
  by_cases h : k < ls.length
  · have h' : (k : Int) < (ls.length : Int) := by omega
    simp only [wB, awp, binC, idxC, cmpC, asP, asQ, asS, asI, obA, loadA, storeA, putsA, mkA, Aw.newRow, St.ev, St.step, setS, killS, AV.kill, AV.killL, Mem.kill, AV.cells, AV.flat, AV.single, AV.cellular, Nat.reduceAdd, Nat.reduceEqDiff, Nat.reduceLeDiff, Int.reduceAdd, decide_eq_true h', aget_prs h, Int.toNat_natCast]
    have bad : ¬ okLn n ls[k] → ¬ ∀ l ∈ ls, okLn n l := fun hb ha => hb (ha _ (List.getElem_mem h))
    have ret : ¬ okLn n ls[k] → vT n ls = 1 := fun hb => by rw [vT, if_neg (by omega), if_neg (bad hb)]
    refine ⟨by omega, ?_⟩
    by_cases c1 : ls[k].1 < 0
    · simp only [wB, awp, asB, asN, St.ev, St.step, setS, killS, AV.kill, AV.killL, Mem.kill, Nat.reduceAdd, Int.reduceAdd, decide_eq_true c1]
      exact aend_frz rfl ⟨by rw [ret (fun hb => by have := hb.1; omega)]; rfl, rfl⟩
    simp only [wB, binC, cmpC, asP, asQ, asB, asI, obA, loadA, St.ev, St.step, setS, killS, AV.kill, AV.killL, Mem.kill, AV.cells, AV.flat, AV.single, Nat.reduceAdd, Nat.reduceEqDiff, Nat.reduceLeDiff, Int.reduceAdd, decide_eq_false c1]
    by_cases c2 : n ≤ ls[k].2
    · simp only [wB, awp, asB, asN, St.ev, St.step, setS, killS, AV.kill, AV.killL, Mem.kill, Nat.reduceAdd, Int.reduceAdd, decide_eq_true c2]
      exact aend_frz rfl ⟨by rw [ret (fun hb => by have := hb.2.1; omega)]; rfl, rfl⟩
    simp only [wB, awp, binC, cmpC, asP, asQ, asB, asI, obA, loadA, St.ev, St.step, setS, killS, AV.kill, AV.killL, Mem.kill, AV.cells, AV.flat, AV.single, Nat.reduceAdd, Nat.reduceEqDiff, Nat.reduceLeDiff, Int.reduceAdd, decide_eq_false c2]
    by_cases c3 : ls[k].2 ≤ ls[k].1
    · simp only [wB, awp, asN, St.ev, St.step, setS, killS, AV.kill, AV.killL, Mem.kill, Nat.reduceAdd, Int.reduceAdd, decide_eq_true c3]
      exact aend_frz rfl ⟨by rw [ret (fun hb => by have := hb.2.2; omega)]; rfl, rfl⟩
    simp only [wB, awp, binC, arithC, cmpC, asI, asN, St.ev, St.step, setS, killS, AV.kill, AV.killL, Mem.kill, Nat.reduceAdd, Int.reduceAdd, isU, decide_eq_false c3]
    exact ⟨by unfold lim; omega, k + 1, le_all (by simp [leSl]) rfl, ⟨h, upto hno fun _ => ⟨by omega, by omega, by omega⟩⟩, by omega⟩
  · have h' : ¬ (k : Int) < (ls.length : Int) := by omega
    have good : ∀ l ∈ ls, okLn n l := fun l hm => by
      obtain ⟨j, hj, rfl⟩ := List.mem_iff_getElem.1 hm
      exact hno j (by omega) hj
    simp only [wB, awp, asN, St.ev, St.step, setS, killS, AV.kill, AV.killL, Mem.kill, Nat.reduceAdd, Int.reduceAdd, decide_eq_false h']
    clear hno h h' hk
    refine swp_loop' (fun k : Nat => ⟨[.bot, .p (.g [I n, .s 2 (prsA ls)]) 0, .bot, .bot, .bot, I k, .bot, .bot, .bot, .bot, .bot, .bot, .bot, .bot, .bot, .bot, .bot, .bot, .bot, .bot, .bot, .bot, .bot, .bot, .bot, .bot, .bot, .bot, .bot, .bot, .bot, .bot, .bot, .bot, .bot, .bot, .bot, .bot, .bot, .bot, .bot, .bot, .bot, .bot, .bot, .bot, .bot, .bot, .bot, .bot, .bot, .bot, .bot, .bot, .bot, .bot, .bot, .bot, .bot, .bot, .bot, .bot, .bot], []⟩) (fun k => k ≤ ls.length ∧ ∀ j, j < k → ∀ h : j < ls.length, ls[j] ∉ ls.take j) (fun k => ls.length - k) 0 (le_sl (by simp [leSl, prsA_len])) ⟨Nat.zero_le _, by omega⟩ ?_
    rintro k ⟨hk, hno⟩
    refine awp_sound (own := []) _ _ _ _ _ ?_
    simp only [wB, awp, binC, cmpC, asP, asB, asI, lenA, loadA, St.ev, St.step, setS, killS, AV.kill, AV.killL, Mem.kill, AV.cells, AV.flat, AV.single, Nat.reduceAdd, Nat.reduceEqDiff, Nat.reduceLeDiff, Int.reduceAdd, lenK, prsA_len]
    by_cases h : k < ls.length
    · have h' : (k : Int) < (ls.length : Int) := by omega
      simp only [wB, awp, asN, St.ev, St.step, setS, killS, AV.kill, AV.killL, Mem.kill, Nat.reduceAdd, Int.reduceAdd, decide_eq_true h']
      refine swp_loop' (fun j : Nat => ⟨[.bot, .p (.g [I n, .s 2 (prsA ls)]) 0, .bot, .bot, .bot, I k, I j, .bot, .bot, .bot, .bot, .bot, .bot, .bot, .bot, .bot, .bot, .bot, .bot, .bot, .bot, .bot, .bot, .bot, .bot, .bot, .bot, .bot, .bot, .bot, .bot, .bot, .bot, .bot, .bot, .bot, .bot, .bot, .bot, .bot, .bot, .bot, .bot, .bot, .bot, .bot, .bot, .bot, .bot, .bot, .bot, .bot, .bot, .bot, .bot, .bot, .bot, .bot, .bot, .bot, .bot, .bot, .bot], []⟩) (fun j => j ≤ k ∧ ∀ i, i < j → ∀ h' : i < ls.length, ls[i] ≠ ls[k]) (fun j => k - j) 0 (le_sl (by simp [leSl, prsA_len])) ⟨Nat.zero_le _, by omega⟩ ?_
      rintro j ⟨hj, hni⟩
      refine awp_sound (own := []) _ _ _ _ _ ?_
      simp only [wB, awp, binC, cmpC, asB, asI, St.ev, St.step, setS, killS, AV.kill, AV.killL, Mem.kill, Nat.reduceAdd, Int.reduceAdd]
      by_cases hjk : j < k
      · have hjk' : (j : Int) < (k : Int) := by omega
        have hjl : j < ls.length := by omega
        simp only [awp, ACond_true, decide_eq_true hjk']
        refine swp_draw (own := []) (.take 0 .plain [] (.take 1 .reads [] (.take 2 .plain [] (.take 3 .reads [] (.take 4 .reads [] (.take 5 .plain [] (.take 6 .reads [] (.take 7 .plain [] (.take 8 .reads [] (.take 9 .reads [] (.take 10 .plain [] (.done)))))))))))) [⟨53, 2, 0, 0, true⟩, ⟨54, 4503599627370496, 1, 0, true⟩, ⟨55, 64, 0, 0, true⟩, ⟨56, 27021597764222976, 6, 0, true⟩, ⟨57, 36028797018963968, 8, 0, true⟩, ⟨58, 2, 0, 0, true⟩, ⟨59, 144115188075855872, 32, 0, true⟩, ⟨60, 32, 0, 0, true⟩, ⟨61, 864691128455135232, 192, 0, true⟩, ⟨62, 1152921504606846976, 256, 0, true⟩, ⟨63, 2377900603251621888, 528, 0, true⟩] mo (by kernel_rfl) ?_
        simp only [wB, awp, binC, idxC, eqC, asP, asS, asG, asB, asI, loadA, St.ev, setS, AV.cells, AV.flat, AV.single, ints, Nat.reduceAdd, Nat.reduceEqDiff, Nat.reduceLeDiff, Int.reduceAdd, ASch, St.put, Md.mem, Md.need, aget_prs h, aget_prs hjl, Int.toNat_natCast]
        refine ⟨by omega, by omega, ?_⟩
        by_cases e : ls[j] = ls[k]
        · have e' : [ls[j].1, ls[j].2] = [ls[k].1, ls[k].2] := by rw [e]
          simp only [wB, awp, asN, St.ev, St.step, setS, killS, AV.kill, AV.killL, Mem.kill, Nat.reduceAdd, Int.reduceAdd, St.put, decide_eq_true e']
          refine aend_frz rfl ⟨?_, rfl⟩
          rw [vT, if_neg (by omega), if_pos good, if_neg (not_nodup h (mem_take_of h hjk e))]
          rfl
        · have e' : ¬ [ls[j].1, ls[j].2] = [ls[k].1, ls[k].2] := fun x => e (by simp at x; exact Prod.ext x.1 x.2)
          simp only [wB, awp, binC, arithC, cmpC, asI, asN, St.ev, St.step, setS, killS, AV.kill, AV.killL, Mem.kill, Nat.reduceAdd, Int.reduceAdd, St.put, isU, decide_eq_false e']
          exact ⟨by unfold lim; omega, j + 1, le_sl (by simp [leSl]), ⟨hjk, upto hni fun _ => e⟩, by omega⟩
      · have hjk' : ¬ (j : Int) < (k : Int) := by omega
        simp only [wB, awp, binC, arithC, cmpC, asI, asN, St.ev, St.step, setS, killS, AV.kill, AV.killL, Mem.kill, Nat.reduceAdd, Nat.reduceEqDiff, Int.reduceAdd, isU, decide_eq_false hjk']
        exact ⟨by unfold lim; omega, k + 1, le_sl (by simp [leSl]), ⟨h, upto hno fun _ => not_mem_take h fun i hi hi' => hni i (by omega) hi'⟩, by omega⟩
    · have h' : ¬ (k : Int) < (ls.length : Int) := by omega
      simp only [wB, awp, asN, St.ev, St.step, setS, killS, AV.kill, AV.killL, Mem.kill, Nat.reduceAdd, Int.reduceAdd, decide_eq_false h']
      refine aend_frz rfl ⟨?_, rfl⟩
      rw [vT, if_neg (by omega), if_pos good, if_pos (nodup_of fun j hj => hno j (by omega) hj)]
      rfl

theorem ok116 : okFn Tryz.prog 116 = true := by kernel_rfl
theorem s116 (n : Int) (ls : List (Int × Int)) (z : Int) : ASpec Tryz.prog 116 [I z, .p (trapA n ls) 0] (fun r Ms => r = B (!decide (0 ≤ z ∧ z < n)) ∧ Ms = []) := by
  refine aspec_of (own := []) Tryz.func116 rfl ok116 ?_
  simp only [wB, awp, asP, asN, loadA, St.ev, St.step, setS, killS, AV.kill, AV.killL, Mem.kill, AV.cells, AV.flat, AV.single, Nat.reduceAdd, Nat.reduceSub, Nat.reduceLeDiff, Int.reduceAdd, Int.reduceSub, Tryz.ntmps116, trapA]
  refine acall_v (s117 n ls z) rfl rfl ?_
  simp only [wB, awp, asB, asN, St.ev, St.step, setS, killS, AV.kill, AV.killL, Mem.kill]
  exact aend_frz rfl ⟨rfl, rfl⟩

def idxP (l : List Int) (p : Int → Bool) : Int := match l.findIdx? p with | some i => (i : Int) | none => -1
theorem idxP_some {l : List Int} {p : Int → Bool} {k : Nat} (h : k < l.length) (hno : ∀ j, j < k → ∀ h : j < l.length, p l[j] = false) (hx : p l[k] = true) : idxP l p = k := by
  have : l.findIdx? p = some k := by
    rw [List.findIdx?_eq_some_iff_getElem]
    exact ⟨h, hx, fun j hj => by rw [hno j hj (by omega)]; simp⟩
  simp [idxP, this]
theorem idxP_none {l : List Int} {p : Int → Bool} (hno : ∀ j, ∀ h : j < l.length, p l[j] = false) : idxP l p = -1 := by
  have : l.findIdx? p = none := by
    rw [List.findIdx?_eq_none_iff]
    intro y hy
    obtain ⟨j, hj, rfl⟩ := List.mem_iff_getElem.1 hy
    exact hno j hj
  simp [idxP, this]
theorem idxP_any (l : List Int) (p : Int → Bool) : decide (0 ≤ idxP l p) = l.any p := by
  unfold idxP
  cases h : l.findIdx? p with
  | none =>
    rw [List.findIdx?_eq_none_iff] at h
    have : l.any p = false := by rw [List.any_eq_false]; intro x hx; rw [h x hx]; simp
    simp [this]
  | some i =>
    rw [List.findIdx?_eq_some_iff_getElem] at h
    obtain ⟨hi, hx, _⟩ := h
    have : l.any p = true := List.any_eq_true.2 ⟨_, List.getElem_mem hi, hx⟩
    simp [this]

theorem ok107 : okFn Tryz.prog 107 = true := by kernel_rfl
theorem s107 (l : List Int) (p : Int → Bool) (f : FuncId) (cap : List AV) (hl : l.length ≤ 1000000) (hc : AV.pureL cap = true) (hs : ∀ z ∈ l, ASpec Tryz.prog f (I z :: cap) (fun r Ms => r = B (p z) ∧ Ms = [])) :
    ASpec Tryz.prog 107 [.s 1 (intsA l), .f (.func f) cap] (fun r Ms => r = I (idxP l p) ∧ Ms = []) := by
  refine aspec_of (own := []) Tryz.func107 rfl ok107 ?_
  simp only [wB, awp, asN, lenA, St.ev, St.step, setS, killS, AV.kill, AV.killL, Mem.kill, Nat.reduceAdd, Nat.reduceSub, Int.reduceAdd, Int.reduceSub, lenK, Tryz.ntmps107]
  refine swp_loop' (fun k : Nat => ⟨[.s 1 (intsA l), .f (.func f) cap, .bot, .bot, .bot, .bot, .bot, I l.length, I k, .bot, .bot, .bot, .bot, .bot, .bot, .bot, .bot, .bot, .bot], []⟩) (fun k => k ≤ l.length ∧ ∀ j, j < k → ∀ h : j < l.length, p l[j] = false) (fun k => l.length - k) 0 (le_sl (by simp [leSl, intsA_len])) ⟨Nat.zero_le _, by omega⟩ ?_
  rintro k ⟨hk, hno⟩
  refine awp_sound (own := []) _ _ _ _ _ ?_
  simp only [wB, awp, binC, cmpC, asB, asI, St.ev, St.step, setS, killS, AV.kill, AV.killL, Mem.kill, Nat.reduceAdd, Int.reduceAdd]
  by_cases h : k < l.length
  · have h' : (k : Int) < (l.length : Int) := by omega
    simp only [wB, awp, idxC, asP, asS, asF, asI, asN, loadA, St.ev, St.step, setS, killS, AV.kill, AV.killL, Mem.kill, AV.cells, AV.flat, AV.single, Nat.reduceAdd, Int.reduceAdd, decide_eq_true h', aget_ints h, Int.toNat_natCast]
    refine ⟨by omega, acall_v (hs l[k] (List.getElem_mem h)) (by simp [AV.pureL, AV.pure, hc]) rfl ?_⟩
    cases hx : p l[k] with
    | true =>
      simp only [wB, awp, asB, asN, St.ev, St.step, setS, killS, AV.kill, AV.killL, Mem.kill, Nat.reduceAdd, Int.reduceAdd]
      exact aend_frz rfl ⟨by rw [idxP_some h hno hx]; rfl, rfl⟩
    | false =>
      simp only [wB, awp, binC, arithC, cmpC, asB, asI, St.ev, St.step, setS, killS, AV.kill, AV.killL, Mem.kill, Nat.reduceAdd, Int.reduceAdd, isU]
      exact ⟨by unfold lim; omega, k + 1, le_sl (by simp [leSl, intsA_len]), ⟨h, upto hno fun _ => hx⟩, by omega⟩
  · have h' : ¬ (k : Int) < (l.length : Int) := by omega
    simp only [wB, awp, asN, St.ev, St.step, setS, killS, AV.kill, AV.killL, Mem.kill, Nat.reduceAdd, Int.reduceAdd, Int.reduceNeg, decide_eq_false h']
    exact aend_frz rfl ⟨by rw [idxP_none fun j hj => hno j (by omega) hj]; rfl, rfl⟩

theorem ok75 : okFn Tryz.prog 75 = true := by kernel_rfl
theorem s75 (l : List Int) (p : Int → Bool) (f : FuncId) (cap : List AV) (hl : l.length ≤ 1000000) (hc : AV.pureL cap = true) (hs : ∀ z ∈ l, ASpec Tryz.prog f (I z :: cap) (fun r Ms => r = B (p z) ∧ Ms = [])) :
    ASpec Tryz.prog 75 [.s 1 (intsA l), .f (.func f) cap] (fun r Ms => r = B (l.any p) ∧ Ms = []) := by
  refine aspec_of (own := []) Tryz.func75 rfl ok75 ?_
  simp only [wB, awp, asN, St.ev, St.step, setS, killS, AV.kill, AV.killL, Mem.kill, Nat.reduceAdd, Nat.reduceSub, Int.reduceAdd, Int.reduceSub, Tryz.ntmps75]
  refine acall_v (s107 l p f cap hl hc hs) (by simp [AV.pureL, AV.pure, hc]) rfl ?_
  simp only [wB, awp, binC, cmpC, asI, asN, St.ev, St.step, setS, killS, AV.kill, AV.killL, Mem.kill, idxP_any]
  exact aend_frz rfl ⟨rfl, rfl⟩

/-- the first error of a place in a right trap. -/
def vP (n : Int) (l : List Int) : Int := if 4 < l.length then 3 else if ∀ z ∈ l, 0 ≤ z ∧ z < n then (if l.Nodup then 0 else 6) else 1

theorem ok86 : okFn Tryz.prog 86 = true := by kernel_rfl
theorem s86 (n : Int) (ls : List (Int × Int)) (l : List Int) (hl : l.length ≤ 1000000) : ASpec Tryz.prog 86 [trapA n ls, .s 1 (intsA l)] (fun r Ms => r = I (vP n l) ∧ Ms = []) := by
  refine aspec_of (own := []) Tryz.func86 rfl ok86 ?_
  simp only [wB, awp, binC, cmpC, asB, asI, asN, lenA, St.ev, St.step, setS, killS, AV.kill, AV.killL, Mem.kill, AV.cellular, AV.pure, AV.pureL, Nat.reduceAdd, Nat.reduceSub, Int.reduceAdd, Int.reduceSub, lenK, Tryz.ntmps86, trapA]
  by_cases h0 : (4 : Int) < l.length
  · simp only [wB, awp, asN, St.ev, St.step, setS, killS, AV.kill, AV.killL, Mem.kill, Nat.reduceAdd, Int.reduceAdd, decide_eq_true h0]
    exact aend_frz rfl ⟨by rw [vP, if_pos (by omega)]; rfl, rfl⟩
  simp only [wB, awp, St.ev, St.step, setS, killS, AV.kill, AV.killL, Mem.kill, AV.single, AV.cellular, Value.oneCell', Nat.reduceAdd, Int.reduceAdd, decide_eq_false h0]
  refine ⟨rfl, acall_v (s75 l (fun z => !decide (0 ≤ z ∧ z < n)) 116 [.p (trapA n ls) 0] hl rfl (fun z _ => s116 n ls z)) rfl rfl ?_⟩
  by_cases ha : ∀ z ∈ l, 0 ≤ z ∧ z < n
  · have hb : (l.any fun z => !decide (0 ≤ z ∧ z < n)) = false := by
      rw [List.any_eq_false]; intro z hz; simp [ha z hz]
    simp only [wB, awp, asB, lenA, St.ev, St.step, setS, killS, AV.kill, AV.killL, Mem.kill, Nat.reduceAdd, Int.reduceAdd, lenK, hb]
    refine swp_loop' (fun k : Nat => ⟨[.bot, .s 1 (intsA l), .bot, .bot, .bot, .bot, .bot, .bot, .bot, .bot, .bot, .bot, .bot, .s 1 (intsA l), I l.length, I k, .bot, .bot, .bot, .bot, .bot, .bot, .bot, .bot, .bot, .bot], []⟩) (fun k => k ≤ l.length ∧ ∀ j, j < k → ∀ h : j < l.length, l[j] ∉ l.take j) (fun k => l.length - k) 0 (le_sl (by simp [leSl, intsA_len])) ⟨Nat.zero_le _, by omega⟩ ?_
    rintro k ⟨hk, hno⟩
    refine awp_sound (own := []) _ _ _ _ _ ?_
    simp only [wB, awp, binC, cmpC, asB, asI, St.ev, St.step, setS, killS, AV.kill, AV.killL, Mem.kill, Nat.reduceAdd, Int.reduceAdd]
    by_cases h : k < l.length
    · have h' : (k : Int) < (l.length : Int) := by omega
      simp only [wB, awp, idxC, asP, asS, asI, asN, bndA, loadA, St.ev, St.step, setS, killS, AV.kill, AV.killL, Mem.kill, AV.cells, AV.flat, AV.single, Nat.reduceAdd, Int.reduceAdd, Int.reduceLE, decide_eq_true h', aget_ints h, bndA, intsA_take, List.drop_zero, Int.toNat_natCast]
      refine ⟨by omega, by omega, acall_v (s102 (l.take k) l[k] (by simp only [List.length_take]; omega)) rfl rfl ?_⟩
      by_cases hm : l[k] ∈ l.take k
      · simp only [wB, awp, asB, asN, St.ev, St.step, setS, killS, AV.kill, AV.killL, Mem.kill, Nat.reduceAdd, Int.reduceAdd, (memL_eq _ _).2 hm]
        refine aend_frz rfl ⟨?_, rfl⟩
        rw [vP, if_neg (by omega), if_pos ha, if_neg (not_nodup h hm)]
        rfl
      · have hm' : memL (l.take k) l[k] = false := by rw [Bool.eq_false_iff, ne_eq, memL_eq]; exact hm
        simp only [wB, awp, binC, arithC, cmpC, asB, asI, St.ev, St.step, setS, killS, AV.kill, AV.killL, Mem.kill, Nat.reduceAdd, Int.reduceAdd, isU, hm']
        exact ⟨by unfold lim; omega, k + 1, le_sl (by simp [leSl]), ⟨h, upto hno fun _ => hm⟩, by omega⟩
    · have h' : ¬ (k : Int) < (l.length : Int) := by omega
      simp only [wB, awp, asN, St.ev, St.step, setS, killS, AV.kill, AV.killL, Mem.kill, Nat.reduceAdd, Int.reduceAdd, decide_eq_false h']
      refine aend_frz rfl ⟨?_, rfl⟩
      rw [vP, if_neg (by omega), if_pos ha, if_pos (nodup_of fun j hj => hno j (by omega) hj)]
      rfl
  · have hb : (l.any fun z => !decide (0 ≤ z ∧ z < n)) = true := by
      rw [List.any_eq_true]
      simp only [Classical.not_forall] at ha
      obtain ⟨z, hz, hn⟩ := ha
      exact ⟨z, hz, by simp only [decide_eq_false hn, Bool.not_false]⟩
    simp only [wB, awp, asB, asN, St.ev, St.step, setS, killS, AV.kill, AV.killL, Mem.kill, Nat.reduceAdd, Int.reduceAdd, hb]
    refine aend_frz rfl ⟨?_, rfl⟩
    rw [vP, if_neg (by omega), if_neg ha]
    rfl
end Go.Proofs.YtndniceeibflcaaGreatDoor

namespace Go.Proofs.YtndniceeibflcaaGreatDoor
open Aw Mp Go.RowKit
set_option linter.unusedSimpArgs false

/-- the first error of a trap and a place. -/
def vTP (n : Int) (ls : List (Int × Int)) (l : List Int) : Int := if vT n ls = 0 then vP n l else vT n ls
theorem ok48 : okFn Tryz.prog 48 = true := by kernel_rfl
theorem s48 (n : Int) (ls : List (Int × Int)) (l : List Int) (hls : ls.length ≤ 1000000) (hl : l.length ≤ 1000000) : ASpec Tryz.prog 48 [trapA n ls, .s 1 (intsA l)] (fun r Ms => r = I (vTP n ls l) ∧ Ms = []) := by
  refine aspec_of (own := []) Tryz.func48 rfl ok48 ?_
  simp only [wB, awp, asP, asN, loadA, St.ev, St.step, setS, killS, AV.kill, AV.killL, Mem.kill, AV.cells, AV.flat, AV.single, AV.cellular, AV.pure, AV.pureL, Nat.reduceAdd, Nat.reduceSub, Nat.reduceLeDiff, Int.reduceAdd, Int.reduceSub, Tryz.ntmps48, trapA]
  refine acall_v (s65 n ls hls) rfl rfl ?_
  by_cases h : vT n ls = 0
  · simp only [wB, awp, binC, cmpC, asP, asB, asI, asN, loadA, St.ev, St.step, setS, killS, AV.kill, AV.killL, Mem.kill, AV.cells, AV.flat, AV.single, Nat.reduceAdd, Nat.reduceLeDiff, Int.reduceAdd, decide_eq_true h]
    refine acall_v (s86 n ls l hl) rfl rfl ?_
    simp only [wB, awp, asN, St.ev, St.step, setS, killS, AV.kill, AV.killL, Mem.kill]
    exact aend_frz rfl ⟨by rw [vTP, if_pos h]; rfl, rfl⟩
  · simp only [wB, awp, binC, cmpC, asB, asI, asN, St.ev, St.step, setS, killS, AV.kill, AV.killL, Mem.kill, Nat.reduceAdd, Int.reduceAdd, decide_eq_false h]
    exact aend_frz rfl ⟨by rw [vTP, if_neg h]; rfl, rfl⟩
end Go.Proofs.YtndniceeibflcaaGreatDoor

namespace Go.Proofs.YtndniceeibflcaaGreatDoor
open Aw Mp Go.RowKit
set_option linter.unusedSimpArgs false

/-- the first numbers of which something holds. -/
def upL (k : Nat) (p : Int → Bool) : List Int := ((List.range k).map fun (i : Nat) => (i : Int)).filter p
theorem upL_true {k : Nat} {p : Int → Bool} (h : p k = true) : upL (k + 1) p = upL k p ++ [(k : Int)] := by simp [upL, List.range_succ, h]
theorem upL_false {k : Nat} {p : Int → Bool} (h : p k = false) : upL (k + 1) p = upL k p := by simp [upL, List.range_succ, h]
theorem upL_len (k : Nat) (p : Int → Bool) : (upL k p).length ≤ k := by
  have := List.length_filter_le p ((List.range k).map fun (i : Nat) => (i : Int))
  simpa [upL] using this

theorem ok144 : okFn Tryz.prog 144 = true := by kernel_rfl
theorem s144 (n : Int) (ls : List (Int × Int)) (z : Int) (hn : n ≤ 100) (hl : ls.length ≤ 1000000) : ASpec Tryz.prog 144 [trapA n ls, I z] (fun r Ms => r = .s 1 (intsA (upL n.toNat (lnk ls z))) ∧ Ms = []) := by
  refine aspec_of (own := [5]) Tryz.func144 rfl ok144 ?_
  simp only [wB, awp, asP, asN, loadA, Aw.newRow, St.ev, St.step, setS, killS, AV.kill, AV.killL, Mem.kill, AV.cells, AV.flat, AV.single, AV.cellular, AV.pure, AV.pureL, Nat.reduceAdd, Nat.reduceEqDiff, Nat.reduceSub, Nat.reduceLeDiff, Int.reduceAdd, Int.reduceSub, Tryz.ntmps144, trapA]
  refine swp_loop' (fun k : Nat => ⟨[.bot, I z, .p (.g [I n, .s 2 (prsA ls)]) 0, .bot, .bot, .o 0, .bot, .bot, I n, I k, .bot, .bot, .bot, .bot, .bot, .bot, .bot, .bot, .bot, .bot, .bot, .bot], [some ⟨none, 3, 1, intsA (upL k (lnk ls z))⟩]⟩) (fun k => k ≤ n.toNat) (fun k => n.toNat - k) 0 (le_sl (by simp [leSl])) (Nat.zero_le _) ?_
  intro k hk
  refine awp_sound (own := [5]) _ _ _ _ _ ?_
  simp only [wB, awp, binC, cmpC, asB, asI, St.ev, St.step, setS, killS, AV.kill, AV.killL, Mem.kill, Nat.reduceAdd, Nat.reduceEqDiff, Int.reduceAdd]
  by_cases h : (k : Int) < n
  · simp only [wB, awp, asP, asN, loadA, St.ev, St.step, setS, killS, AV.kill, AV.killL, Mem.kill, AV.cells, AV.flat, AV.single, Nat.reduceAdd, Nat.reduceEqDiff, Nat.reduceLeDiff, Int.reduceAdd, decide_eq_true h]
    refine acall_v (s184 n ls z k hl) rfl rfl ?_
    cases hz : lnk ls z k with
    | true =>
      simp only [wB, awp, binC, arithC, cmpC, asO, asS, asB, asI, asN, obA, St.ev, St.step, setS, killS, AV.kill, AV.killL, Mem.kill, AV.cells, AV.flat, AV.single, AV.cellular, AV.size, AV.pure, AV.pureL, Value.oneCell', Nat.reduceAdd, Nat.reduceEqDiff, Nat.reduceMul, Nat.reduceLeDiff, Int.reduceAdd, Int.reduceMul, isU, intsA_kill]
      have := upL_len k (lnk ls z)
      exact ⟨⟨by omega, by decide⟩, ⟨by omega, by omega⟩, by unfold lim; omega, k + 1, by rw [upL_true hz, ← intsA_app]; exact le_sl (by simp [leSl]), by omega, by omega⟩
    | false =>
      simp only [wB, awp, binC, arithC, cmpC, asB, asI, St.ev, St.step, setS, killS, AV.kill, AV.killL, Mem.kill, Nat.reduceAdd, Nat.reduceEqDiff, Int.reduceAdd, isU]
      exact ⟨by unfold lim; omega, k + 1, by rw [upL_false hz]; exact le_sl (by simp [leSl]), by omega, by omega⟩
  · simp only [wB, awp, asN, St.ev, St.step, setS, killS, AV.kill, AV.killL, Mem.kill, Nat.reduceAdd, Nat.reduceEqDiff, Int.reduceAdd, decide_eq_false h]
    refine aend_frz rfl ⟨?_, rfl⟩
    have : k = n.toNat := by omega
    subst this
    simp [frz, AV.sub, intsA_pure]

theorem ok103 : okFn Tryz.prog 103 = true := by kernel_rfl
theorem s103 (n : Int) (ls : List (Int × Int)) (z : Int) (hl : ls.length ≤ 1000000) : ASpec Tryz.prog 103 [trapA n ls, I z] (fun r Ms => r = (if vT n ls ≠ 0 then .t [.s 1 [], I (vT n ls)] else if 0 ≤ z ∧ z < n then .t [.s 1 (intsA (upL n.toNat (lnk ls z))), I 0] else .t [.s 1 [], I 4]) ∧ Ms = []) := by
  refine aspec_of (own := [4]) Tryz.func103 rfl ok103 ?_
  simp only [wB, awp, asP, asN, loadA, Aw.newRow, St.ev, St.step, setS, killS, AV.kill, AV.killL, Mem.kill, AV.cells, AV.flat, AV.single, AV.cellular, AV.pure, AV.pureL, Nat.reduceAdd, Nat.reduceEqDiff, Nat.reduceSub, Nat.reduceLeDiff, Int.reduceAdd, Int.reduceSub, Tryz.ntmps103, trapA]
  refine acall_v (s65 n ls hl) rfl rfl ?_
  by_cases h : ¬ vT n ls = 0
  · simp only [wB, awp, binC, cmpC, asB, asI, asN, Aw.newRow, St.ev, St.step, setS, killS, AV.kill, AV.killL, Mem.kill, Nat.reduceAdd, Nat.reduceEqDiff, Int.reduceAdd, decide_eq_true h, decide_eq_false h]
    exact aend_frz rfl ⟨by rw [if_pos h]; simp [frz, AV.sub, AV.subL, AV.pureL], rfl⟩
  have hv : vT n ls = 0 := Decidable.not_not.1 h
  have hn : n ≤ 6 := by
    unfold vT at hv
    split at hv
    · omega
    · omega
  simp only [wB, awp, binC, cmpC, asP, asB, asI, asN, loadA, St.ev, St.step, setS, killS, AV.kill, AV.killL, Mem.kill, AV.cells, AV.flat, AV.single, Nat.reduceAdd, Nat.reduceEqDiff, Nat.reduceLeDiff, Int.reduceAdd, decide_eq_true hv]
  refine acall_v (s117 n ls z) rfl rfl ?_
  by_cases hz : 0 ≤ z ∧ z < n
  · simp only [wB, awp, asP, asB, loadA, St.ev, St.step, setS, killS, AV.kill, AV.killL, Mem.kill, AV.cells, AV.flat, AV.single, Nat.reduceAdd, Nat.reduceEqDiff, Nat.reduceLeDiff, Int.reduceAdd, decide_eq_true hz]
    refine acall_v (s144 n ls z (by omega) hl) rfl rfl ?_
    simp only [wB, awp, asN, St.ev, St.step, setS, killS, AV.kill, AV.killL, Mem.kill, Nat.reduceEqDiff]
    exact aend_frz rfl ⟨by rw [if_neg h, if_pos hz]; simp [frz, AV.sub, AV.subL, AV.pureL], rfl⟩
  · simp only [wB, awp, asB, asN, Aw.newRow, St.ev, St.step, setS, killS, AV.kill, AV.killL, Mem.kill, Nat.reduceAdd, Nat.reduceEqDiff, Int.reduceAdd, decide_eq_false hz]
    exact aend_frz rfl ⟨by rw [if_neg h, if_neg hz]; simp [frz, AV.sub, AV.subL, AV.pureL], rfl⟩
end Go.Proofs.YtndniceeibflcaaGreatDoor

namespace Go.Proofs.YtndniceeibflcaaGreatDoor
open Aw Mp Go.RowKit
set_option linter.unusedSimpArgs false

/-- a gate. -/
structure G4 where
  k : Int
  a : Int
  b : Int
  t : Int
  deriving DecidableEq, Inhabited, Repr

def gA (g : G4) : AV := .g [I g.k, I g.a, I g.b, I g.t]
def gtsA (l : List G4) : List AV := l.map gA
theorem gtsA_len (l : List G4) : (gtsA l).length = l.length := by simp [gtsA]
theorem aget_gts {l : List G4} {j : Nat} (h : j < l.length) (K : HK (AV → Prop)) : @AGet (gtsA l) j K = K.k (.g [I l[j].k, I l[j].a, I l[j].b, I l[j].t]) := by simp [AGet, gtsA, gA, h]
theorem gtsA_pure (l : List G4) : AV.pureL (gtsA l) = true := pureL_map gA (fun _ => rfl) l
theorem gtsA_kill (Z : List Nat) (l : List G4) : AV.killL Z (gtsA l) = gtsA l := killL_pure Z _ (gtsA_pure l)
theorem gtsA_app (l : List G4) (k a b t : Int) : gtsA l ++ [.g [I k, I a, I b, I t]] = gtsA (l ++ [⟨k, a, b, t⟩]) := by simp [gtsA, gA]
theorem freeL_pure (Z : List Nat) {l : List AV} (h : AV.pureL l = true) : AV.freeL Z l = true := by
  have one : ∀ a : AV, a.pure = true → a.free Z = true := fun a => by
    refine AV.rec (motive_1 := fun a => a.pure = true → a.free Z = true) (motive_2 := fun l => AV.pureL l = true → AV.freeL Z l = true) ?_ ?_ ?_ ?_ ?_ ?_ ?_ ?_ ?_ ?_ ?_ a <;> intros <;> simp_all [AV.pure, AV.pureL, AV.free, AV.freeL]
  induction l with
  | nil => rfl
  | cons x l ih =>
    simp only [AV.pureL, Bool.and_eq_true] at h
    simp [AV.freeL, one x h.1, ih h.2]
/-- whether it is a gate of n qubits. -/
def okG (n : Int) (g : G4) : Bool := decide (1 ≤ g.t ∧ g.t < 16 ∧ (((g.k = 0 ∨ g.k = 1) ∧ 0 ≤ g.a ∧ g.a < n ∧ g.b = -1) ∨ (g.k = 2 ∧ 0 ≤ g.a ∧ g.a < g.b ∧ g.b < n)))

theorem ok120 : okFn Tryz.prog 120 = true := by kernel_rfl
end Go.Proofs.YtndniceeibflcaaGreatDoor
