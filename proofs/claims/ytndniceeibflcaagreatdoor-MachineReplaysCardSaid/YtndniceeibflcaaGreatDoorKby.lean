/-
  Parts of several texts in one: MtG.
-/
import Derived.Test.YtndniceeibflcaaGreatDoorProg
import Derived.WalkKit
import Derived.Lib.ConvBytes
import Derived.LaidEql
import Derived.Lib.ItoaNum
import Derived.Lib.LaidTab
import Derived.KernelRfl
import GoSem.Claims
import GoSem.ClaimJoined
import Derived.Orders
import Derived.Laws.StructEq
import Derived.Maps.Keyed
import Derived.Lib.Strings
import Derived.Maps.AppendAt
import Derived.Laws.Concat
import Derived.MapKept
import Derived.Laws.MakeOwn
import Derived.Scope
import Derived.Laws.BitsLemmas
import Derived.Maps.RangeRun
import Derived.StillTail
import Derived.OrdersIn
import Derived.TacticsIn
import Derived.RangeFuncRecord
import Derived.RangeFuncCalls
import Derived.RangeFuncSeq
import Derived.Lib.Split
import Derived.Lib.AtoiAll
import Derived.Shelf.LaysM
import Derived.Shelf.LaysC
import Derived.Shelf.Strconv.Itoa3
import Derived.Shelf.Strconv.AtoiAll
import Derived.Shelf.Strings.Search3
import Derived.Shelf.Strings.Cut
import Derived.Shelf.Strings.Prefix
import Derived.Shelf.Strings.Split
import Derived.Lib.AppendIntMem
import Derived.Test.YtndniceeibflcaaGreatDoorKaa
import Derived.Test.YtndniceeibflcaaGreatDoorKac
import Derived.Test.YtndniceeibflcaaGreatDoorKad
import Derived.Test.YtndniceeibflcaaGreatDoorKae
import Derived.Test.YtndniceeibflcaaGreatDoorKag
import Derived.Test.YtndniceeibflcaaGreatDoorKav
import Derived.Test.YtndniceeibflcaaGreatDoorKbi
import Derived.Test.YtndniceeibflcaaGreatDoorKbq
import Derived.Test.YtndniceeibflcaaGreatDoorKbp
import Derived.Test.YtndniceeibflcaaGreatDoorKaj
set_option linter.unusedSimpArgs false
set_option linter.unusedVariables false
namespace Go.Proofs.YtndniceeibflcaaGreatDoor
namespace Aw
end Aw
namespace Mp
end Mp
end Go.Proofs.YtndniceeibflcaaGreatDoor
namespace Go.Proofs.YtndniceeibflcaaGreatDoor
open Aw Mp Go.RowKit
set_option linter.unusedSimpArgs false

theorem cut_scan (c : UInt8) : ∀ (R : By), (∀ j, j < (cutB c R).1.length → ∃ x, R[j]? = some x ∧ x ≠ c) ∧ (cutB c R).1.length ≤ R.length ∧
    ((cutB c R).2.2 = true → R[(cutB c R).1.length]? = some c) ∧ ((cutB c R).2.2 = false → (cutB c R).1.length = R.length)
  | [] => by simp [cutB]
  | b :: R => by
    obtain ⟨h1, h2, h3, h4⟩ := cut_scan c R
    unfold cutB
    by_cases hb : b = c
    · rw [if_pos hb]
      simp [hb]
    · rw [if_neg hb]
      refine ⟨fun j hj => ?_, by simpa using h2, fun h => by simpa using h3 h, fun h => by simpa using h4 h⟩
      cases j with
      | zero => exact ⟨b, by simp, hb⟩
      | succ j => obtain ⟨x, h5, h6⟩ := h1 j (by simpa using hj); exact ⟨x, by simpa using h5, h6⟩
theorem drop_get (L : By) (i j : Nat) : (L.drop i)[j]? = L[i + j]? := by simp
theorem getD_of {L : By} {k : Nat} {x : UInt8} (h : L[k]? = some x) : L.getD k 0 = x := by rw [List.getD_eq_getElem?_getD, h]; rfl
theorem lt_of_get {α : Type} {L : List α} {k : Nat} {x : α} (h : L[k]? = some x) : k < L.length := (List.getElem?_eq_some_iff.1 h).1
theorem cut_td {c : UInt8} {R : By} : R.take (cutB c R).1.length = (cutB c R).1 := by
  cases h : (cutB c R).2.2 with
  | true => exact (cutB_td c R h).1
  | false => rw [(cutB_no c R h).1]; simp

theorem ok38 : okFn Tryz.prog 38 = true := by kernel_rfl
theorem s38 (L : By) (hL : L.length ≤ 1000000) : ASpec Tryz.prog 38 [S L] (fun r Ms => r = .t [.s 1 (strsA (rd 100 0 L).1), S (rd 100 0 L).2] ∧ Ms = []) := by
  refine aspec_of (own := [4]) Tryz.func38 rfl ok38 ?_
  simp only [wB, awp, asN, Aw.newRow, St.ev, St.step, setS, killS, AV.kill, AV.killL, Mem.kill, Nat.reduceAdd, Nat.reduceEqDiff, Nat.reduceSub, Int.reduceAdd, Int.reduceSub, Tryz.ntmps38]
  refine swp_loop' (fun s : List By × Int × Nat => ⟨[S L, .bot, .bot, .bot, .o 0, I s.2.2, I s.2.1, .bot, .bot, .bot, .bot, .bot, .bot, .bot, .bot, .bot, .bot, .bot, .bot, .bot, .bot, .bot, .bot, .bot, .bot, .bot, .bot, .bot, .bot, .bot, .bot, .bot, .bot, .bot, .bot, .bot, .bot, .bot, .bot, .bot, .bot, .bot, .bot, .bot, .bot, .bot, .bot, .bot, .bot, .bot, .bot, .bot, .bot, .bot, .bot, .bot, .bot, .bot, .bot, .bot, .bot, .bot, .bot, .bot, .bot, .bot, .bot, .bot, .bot, .bot, .bot, .bot, .bot, .bot, .bot, .bot, .bot, .bot, .bot], [some ⟨none, 9, 1, strsA s.1⟩]⟩) (fun s => s.1.length ≤ 100 ∧ rd 100 0 L = (s.1 ++ (rd (100 - s.1.length) s.2.1 (L.drop s.2.2)).1, (rd (100 - s.1.length) s.2.1 (L.drop s.2.2)).2) ∧ s.2.2 ≤ L.length) (fun s => 100 - s.1.length) ([], 0, 0) (le_sl (by simp [leSl])) ⟨by simp, by simp, Nat.zero_le _⟩ ?_
  rintro ⟨p, b, i⟩ ⟨hp, hrd, hi⟩
  simp only at hp hrd hi
  obtain ⟨R, hR⟩ : ∃ R, R = L.drop i := ⟨_, rfl⟩
  rw [← hR] at hrd
  have hRl : R.length = L.length - i := by rw [hR]; simp
  have hRg : ∀ j, R[j]? = L[i + j]? := fun j => by rw [hR]; exact drop_get L i j
  have stop : okLine b R = false → rd 100 0 L = (p, R) := fun h => by rw [hrd, rd_stop h]; simp
  have hdrop : (L.take (L.length : Int).toNat).drop i = R := by rw [hR]; simp
  obtain ⟨a1, a2, a3, a4⟩ := cut_scan 10 R
  obtain ⟨b1, b2, b3, b4⟩ := cut_scan 32 (cutB 10 R).1
  obtain ⟨e1, he1⟩ : ∃ e, e = (cutB 10 R).1.length := ⟨_, rfl⟩
  obtain ⟨e2, he2⟩ : ∃ e, e = (cutB 32 (cutB 10 R).1).1.length := ⟨_, rfl⟩
  rw [← he1] at a1 a2 a3 a4
  rw [← he2, ← he1] at b2
  rw [← he2] at b1 b3 b4
  rw [← he1] at b4
  have hline : ∀ j, j < e1 → (cutB 10 R).1[j]? = L[i + j]? := fun j hj => by
    rw [← hRg, ← cut_td (c := 10) (R := R), ← he1, List.getElem?_take, if_pos hj]
  refine awp_sound (own := [4]) _ _ _ _ _ ?_
  simp only [wB, awp, binC, cmpC, asB, asI, lenA, St.ev, St.step, setS, killS, AV.kill, AV.killL, Mem.kill, Nat.reduceAdd, Nat.reduceEqDiff, Int.reduceAdd, lenK, strsA_len]
  by_cases h : (p.length : Int) < 100
  case neg =>
    simp only [awp, ACond_false, if_true, decide_eq_false h]
    refine swp_draw (own := []) (.take 0 .plain [] (.take 1 .plain [] (.take 2 .plain [] (.take 3 .plain [] (.take 4 .plain [] (.take 5 .plain [] (.done))))))) [⟨76, 16, 0, 0, true⟩, ⟨77, 1, 0, 0, true⟩, ⟨78, 32, 0, 0, true⟩, ⟨79, 226673591177742970257408, 6, 0, true⟩, ⟨3, 37778931862957161709568, 1, 0, true⟩, ⟨4, 302231454903657293676544, 31, 0, true⟩] mo (by kernel_rfl) ?_
    simp only [wB, awp, asS, asN, bndA, St.ev, setS, ASch, St.put, Md.mem, Md.need, asStr, Int.toNat_natCast]
    have e : 100 - p.length = 0 := by omega
    rw [e] at hrd
    refine ⟨by omega, aend_frz rfl ⟨?_, rfl⟩⟩
    rw [hrd]
    simp [frz, AV.sub, AV.subL, strsA_pure, rd, hR]
  simp only [wB, awp, asN, St.ev, St.step, setS, killS, AV.kill, AV.killL, Mem.kill, Nat.reduceAdd, Nat.reduceEqDiff, Int.reduceAdd, decide_eq_true h]
  -- the line's end
  refine swp_loop' (fun k : Nat => ⟨[S L, .bot, .bot, .bot, .o 0, I i, I b, I k, .bot, .bot, .bot, .bot, .bot, .bot, .bot, .bot, .bot, .bot, .bot, .bot, .bot, .bot, .bot, .bot, .bot, .bot, .bot, .bot, .bot, .bot, .bot, .bot, .bot, .bot, .bot, .bot, .bot, .bot, .bot, .bot, .bot, .bot, .bot, .bot, .bot, .bot, .bot, .bot, .bot, .bot, .bot, .bot, .bot, .bot, .bot, .bot, .bot, .bot, .bot, .bot, .bot, .bot, .bot, .bot, .bot, .bot, .bot, .bot, .bot, .bot, .bot, .bot, .bot, .bot, .bot, .bot, .bot, .bot, .bot], [some ⟨none, 9, 1, strsA p⟩]⟩) (fun k => i ≤ k ∧ k ≤ i + e1) (fun k => i + e1 - k) i (le_sl (by simp [leSl])) ⟨Nat.le_refl _, by omega⟩ ?_
  rintro k ⟨hk1, hk2⟩
  refine awp_sound (own := [4]) _ _ _ _ _ ?_
  simp only [wB, awp, binC, cmpC, asI, lenA, St.ev, St.step, setS, killS, AV.kill, AV.killL, Mem.kill, Nat.reduceAdd, Nat.reduceEqDiff, Int.reduceAdd, lenK]
  by_cases hk : k < i + e1
  · obtain ⟨x, hx, hx10⟩ := a1 (k - i) (by omega)
    rw [hRg, show i + (k - i) = k by omega] at hx
    have hkl := lt_of_get hx
    have h' : (k : Int) < L.length := by omega
    have h10 := byte_ne hx10
    have h10' : ¬ (x.toNat : Int) = 10 := h10
    simp only [wB, awp, binC, arithC, cmpC, asB, asI, asN, St.ev, St.step, setS, killS, AV.kill, AV.killL, Mem.kill, Nat.reduceAdd, Nat.reduceEqDiff, Int.reduceAdd, isU, asStr, decide_eq_true h', Int.toNat_natCast, getD_of hx, decide_eq_false h10']
    exact ⟨⟨by omega, h'⟩, by unfold lim; omega, k + 1, le_sl (by simp [leSl]), ⟨by omega, by omega⟩, by omega⟩
  obtain rfl : k = i + e1 := by omega
  have e10 : (((10 : UInt8).toNat : Nat) : Int) = 10 := rfl
  have e32 : (((32 : UInt8).toNat : Nat) : Int) = 32 := rfl
  cases hf1 : (cutB 10 R).2.2
  case' false => (have h' : ¬ ((i + e1 : Nat) : Int) < L.length := by have := a4 hf1; omega
                  simp only [wB, awp, asB, asN, St.ev, St.step, setS, killS, AV.kill, AV.killL, Mem.kill, Nat.reduceAdd, Nat.reduceEqDiff, Int.reduceAdd, decide_eq_false h'])
  case' true => (have hx := a3 hf1; rw [hRg] at hx; have hkl := lt_of_get hx
                 have h' : ((i + e1 : Nat) : Int) < L.length := by omega
                 simp only [wB, awp, binC, cmpC, asB, asI, asN, St.ev, St.step, setS, killS, AV.kill, AV.killL, Mem.kill, Nat.reduceAdd, Nat.reduceEqDiff, Int.reduceAdd, asStr, decide_eq_true h', Int.toNat_natCast, getD_of hx, decide_eq_true e10]
                 refine ⟨⟨by omega, h'⟩, ?_⟩)
  all_goals
    refine swp_loop' (fun k : Nat => ⟨[S L, .bot, .bot, .bot, .o 0, I i, I b, I (i + e1 : Nat), I k, .bot, .bot, .bot, .bot, .bot, .bot, .bot, .bot, .bot, .bot, .bot, .bot, .bot, .bot, .bot, .bot, .bot, .bot, .bot, .bot, .bot, .bot, .bot, .bot, .bot, .bot, .bot, .bot, .bot, .bot, .bot, .bot, .bot, .bot, .bot, .bot, .bot, .bot, .bot, .bot, .bot, .bot, .bot, .bot, .bot, .bot, .bot, .bot, .bot, .bot, .bot, .bot, .bot, .bot, .bot, .bot, .bot, .bot, .bot, .bot, .bot, .bot, .bot, .bot, .bot, .bot, .bot, .bot, .bot, .bot], [some ⟨none, 9, 1, strsA p⟩]⟩) (fun k => i ≤ k ∧ k ≤ i + e2) (fun k => i + e2 - k) i (le_sl (by simp [leSl])) ⟨Nat.le_refl _, by omega⟩ ?_
    clear hk hk1 hk2
    rintro k ⟨hk1, hk2⟩
    refine awp_sound (own := [4]) _ _ _ _ _ ?_
    simp only [wB, awp, binC, cmpC, asI, St.ev, St.step, setS, killS, AV.kill, AV.killL, Mem.kill, Nat.reduceAdd, Nat.reduceEqDiff, Int.reduceAdd]
    by_cases hk : k < i + e2
    case pos =>
      obtain ⟨x, hx, hx32⟩ := b1 (k - i) (by omega)
      rw [hline _ (by omega), show i + (k - i) = k by omega] at hx
      have hkl := lt_of_get hx
      have h' : (k : Int) < (i + e1 : Nat) := by omega
      have h32 := byte_ne hx32
      have h32' : ¬ (x.toNat : Int) = 32 := h32
      simp only [wB, awp, binC, arithC, cmpC, asB, asI, asN, St.ev, St.step, setS, killS, AV.kill, AV.killL, Mem.kill, Nat.reduceAdd, Nat.reduceEqDiff, Int.reduceAdd, isU, asStr, decide_eq_true h', Int.toNat_natCast, getD_of hx, decide_eq_false h32']
      exact ⟨⟨by omega, by omega⟩, by unfold lim; omega, k + 1, le_sl (by simp [leSl]), ⟨by omega, by omega⟩, by omega⟩
    obtain rfl : k = i + e2 := by omega
    clear hk1 hk2 hk
    cases hf2 : (cutB 32 (cutB 10 R).1).2.2
    case' false => (have h' : ¬ ((i + e2 : Nat) : Int) < (i + e1 : Nat) := by have := b4 hf2; omega
                    simp only [wB, awp, binC, cmpC, asB, asI, lenA, St.ev, St.step, setS, killS, AV.kill, AV.killL, Mem.kill, Nat.reduceAdd, Nat.reduceEqDiff, Int.reduceAdd, lenK, decide_eq_false h'])
    case' true => (have hx := b3 hf2
                   have hlt : e2 < e1 := by have := lt_of_get hx; omega
                   rw [hline _ hlt] at hx
                   have h' : ((i + e2 : Nat) : Int) < (i + e1 : Nat) := by omega
                   have hkl := lt_of_get hx
                   simp only [wB, awp, binC, cmpC, asB, asI, lenA, St.ev, St.step, setS, killS, AV.kill, AV.killL, Mem.kill, Nat.reduceAdd, Nat.reduceEqDiff, Int.reduceAdd, asStr, lenK, decide_eq_true h', Int.toNat_natCast, getD_of hx, decide_eq_true e32]
                   refine ⟨⟨by omega, by omega⟩, ?_⟩)
  · have hlt1 := lt_of_get (a3 hf1)
    have hlt2 : e2 < e1 := by have := lt_of_get (b3 hf2); omega
    have h1 : ¬ ((i + e1 : Nat) : Int) = L.length := by omega
    have h2 : ¬ ((i + e2 : Nat) : Int) = (i + e1 : Nat) := by omega
    have c1 : (((i + e2 : Nat) : Int) + 1).toNat = i + (e2 + 1) := by omega
    have hl : (cutB 10 R).1 = R.take e1 := by rw [he1, cut_td]
    have hord : (L.take (i + e1)).drop (i + (e2 + 1)) = ordOf R := by
      rw [← List.drop_drop, List.drop_take, ← hR, show i + e1 - i = e1 by omega, ← hl, he2, (cutB_td 32 _ hf2).2]
      rfl
    have hsm : (L.take (i + e2)).drop i = (cutB 32 (cutB 10 R).1).1 := by
      have h3 : R.take e2 = (cutB 10 R).1.take e2 := by rw [hl, List.take_take, Nat.min_eq_left (by omega)]
      rw [List.drop_take, ← hR, show i + e2 - i = e2 by omega, h3, he2, cut_td]
    have hrest : L.drop (i + e1 + 1) = restOf R := by
      rw [Nat.add_assoc, ← List.drop_drop, ← hR, he1, (cutB_td 10 _ hf1).2]
      rfl
    have hol : (ordOf R).length ≤ L.length := by rw [← hord]; simp; omega
    have hsum := sumB_lim b (ordOf R)
    obtain ⟨n, hn⟩ : ∃ n : Nat, (n : Int) = sumB b (ordOf R) := ⟨(sumB b (ordOf R)).toNat, by omega⟩
    simp only [wB, awp, binC, arithC, cmpC, asS, asB, asI, asN, bndA, St.ev, St.step, setS, killS, AV.kill, AV.killL, Mem.kill, Nat.reduceAdd, Nat.reduceEqDiff, Int.reduceAdd, isU, asStr, decide_eq_false h1, decide_eq_false h2, c1, Int.toNat_natCast, hord]
    refine ⟨by unfold lim; omega, ⟨by omega, by omega, by omega⟩, ?_⟩
    refine swp_draw (own := []) (.take 0 .plain [] (.alt 1 (.take 2 .plain [] (.take 3 .plain [] (.take 4 .plain [] (.take 5 .plain [] (.take 8 .plain [] (.take 9 .plain [] (.take 10 .plain [] (.take 11 .plain [] (.alt 6 (.alt 7 (.take 12 .plain [] (.take 13 .plain [] (.done))) (.nil)) (.nil)))))))))) (.nil))) [⟨53, 512, 0, 0, true⟩, ⟨54, 4503599627370496, 1, 0, false⟩, ⟨55, 9007199254740992, 2, 0, true⟩, ⟨56, 18014398509481984, 6, 0, true⟩, ⟨57, 36028797018964032, 8, 0, true⟩, ⟨58, 36028797018964480, 8, 0, true⟩, ⟨59, 252201579132747776, 56, 0, false⟩, ⟨60, 324259173170675712, 72, 0, false⟩, ⟨61, 36028797018963969, 8, 0, true⟩, ⟨62, 36028797018964000, 8, 0, true⟩, ⟨63, 36028797018964224, 8, 0, true⟩, ⟨64, 8106479329266892800, 1800, 0, true⟩, ⟨65, 9835861586177163264, 2184, 0, true⟩, ⟨66, 18482772870728515584, 4104, 0, true⟩] mo (by kernel_rfl) ?_
    simp only [wB, St.ev, setS, ASch, St.put, Md.mem, Md.need]
    refine acall_v (s85 _ (by omega)) rfl rfl ?_
    cases h3 : ordB (ordOf R) with
    | false =>
      simp only [wB, awp, asB, St.ev, St.step, setS, killS, AV.kill, AV.killL, Mem.kill, Nat.reduceEqDiff, ASch, St.put, Md.mem, Md.need]
      refine swp_draw (own := []) (.take 0 .plain [] (.take 1 .plain [] (.take 2 .plain [] (.take 3 .plain [] (.take 4 .plain [] (.take 5 .plain [] (.done))))))) [⟨76, 16, 0, 0, true⟩, ⟨77, 1, 0, 0, true⟩, ⟨78, 32, 0, 0, true⟩, ⟨79, 226673591177742970257408, 6, 0, true⟩, ⟨3, 37778931862957161709568, 1, 0, true⟩, ⟨4, 302231454903657293676544, 31, 0, true⟩] mo (by kernel_rfl) ?_
      simp only [wB, awp, asS, asN, bndA, St.ev, setS, ASch, St.put, Md.mem, Md.need, asStr, Int.toNat_natCast]
      exact ⟨by omega, aend_frz rfl ⟨by rw [stop (by simp only [okLine, hf1, hf2]; rw [show (cutB 32 (cutB 10 R).1).2.1 = ordOf R from rfl, h3]; rfl)]; simp [frz, AV.sub, AV.subL, strsA_pure, hR], rfl⟩⟩
    | true =>
    simp only [wB, asS, asB, bndA, St.ev, St.step, setS, killS, AV.kill, AV.killL, Mem.kill, ASch, St.put, Md.mem, Md.need, asStr, Int.toNat_natCast, hsm]
    refine ⟨by omega, acall_v (s32 b _ (by omega)) rfl rfl ?_⟩
    simp only [wB, St.ev, St.step, setS, killS, AV.kill, AV.killL, Mem.kill, ASch, ← hn]
    refine acall_v (s83 n (by omega)) rfl rfl ?_
    by_cases h4 : Lib.decDigits n = (cutB 32 (cutB 10 R).1).1
    · have hok : okLine b R = true := by
        simp only [okLine, hf1, hf2]
        rw [show (cutB 32 (cutB 10 R).1).2.1 = ordOf R from rfl, h3, ← hn, itoa_nat, h4]
        simp
      have hrl := rest_len hok
      simp only [wB, awp, binC, eqC, asG, asB, asI, St.ev, St.step, setS, killS, AV.kill, AV.killL, Mem.kill, Nat.reduceAdd, Nat.reduceEqDiff, Int.reduceAdd, ASch, St.put, Md.mem, Md.need, asStr, strC, decide_eq_true h4]
      refine acall_v (s32 b _ (by omega)) rfl rfl ?_
      simp only [wB, awp, binC, arithC, cmpC, asO, asS, asI, asN, obA, St.ev, St.step, setS, killS, AV.kill, AV.killL, Mem.kill, AV.cells, AV.flat, AV.single, AV.cellular, AV.size, AV.pure, AV.pureL, Value.oneCell', Nat.reduceAdd, Nat.reduceEqDiff, Nat.reduceMul, Nat.reduceLeDiff, Int.reduceAdd, Int.reduceMul, isU, strsA_len, strsA_kill, strsA_app]
      refine ⟨by decide, ⟨by decide, by omega⟩, by unfold lim; omega, (p ++ [ordOf R], sumB b (ordOf R), i + e1 + 1), le_sl (by simp [leSl]), ⟨by simp; omega, ?_, by simp only; omega⟩, by simp; omega⟩
      simp only [List.length_append, List.length_cons, List.length_nil, hrest]
      rw [hrd, show 100 - p.length = (100 - (p.length + (0 + 1))) + 1 by omega, rd_succ, if_pos hok]
      simp
    · simp only [wB, awp, binC, eqC, asG, asB, asI, St.ev, St.step, setS, killS, AV.kill, AV.killL, Mem.kill, Nat.reduceEqDiff, ASch, St.put, Md.mem, Md.need, asStr, strC, decide_eq_false h4]
      refine swp_draw (own := []) (.take 0 .plain [] (.take 1 .plain [] (.take 2 .plain [] (.take 3 .plain [] (.take 4 .plain [] (.take 5 .plain [] (.done))))))) [⟨76, 16, 0, 0, true⟩, ⟨77, 1, 0, 0, true⟩, ⟨78, 32, 0, 0, true⟩, ⟨79, 226673591177742970257408, 6, 0, true⟩, ⟨3, 37778931862957161709568, 1, 0, true⟩, ⟨4, 302231454903657293676544, 31, 0, true⟩] mo (by kernel_rfl) ?_
      simp only [wB, awp, asS, asN, bndA, St.ev, setS, ASch, St.put, Md.mem, Md.need, asStr, Int.toNat_natCast]
      refine ⟨by omega, aend_frz rfl ⟨?_, rfl⟩⟩
      rw [stop (by
        simp only [okLine, hf1, hf2]
        rw [show (cutB 32 (cutB 10 R).1).2.1 = ordOf R from rfl, h3, ← hn, itoa_nat]
        simp [h4])]
      simp [frz, AV.sub, AV.subL, strsA_pure, hR]
  · have h1 : ¬ ((i + e1 : Nat) : Int) = L.length := by have := lt_of_get (a3 hf1); omega
    have h2 : ((i + e2 : Nat) : Int) = (i + e1 : Nat) := by have := b4 hf2; omega
    simp only [wB, awp, binC, cmpC, asB, asI, St.ev, St.step, setS, killS, AV.kill, AV.killL, Mem.kill, Nat.reduceEqDiff, decide_eq_false h1, decide_eq_true h2]
    refine swp_draw (own := []) (.take 0 .plain [] (.take 1 .plain [] (.take 2 .plain [] (.take 3 .plain [] (.take 4 .plain [] (.take 5 .plain [] (.done))))))) [⟨76, 16, 0, 0, true⟩, ⟨77, 1, 0, 0, true⟩, ⟨78, 32, 0, 0, true⟩, ⟨79, 226673591177742970257408, 6, 0, true⟩, ⟨3, 37778931862957161709568, 1, 0, true⟩, ⟨4, 302231454903657293676544, 31, 0, true⟩] mo (by kernel_rfl) ?_
    simp only [wB, awp, asS, asN, bndA, St.ev, setS, ASch, St.put, Md.mem, Md.need, asStr, Int.toNat_natCast]
    exact ⟨by omega, aend_frz rfl ⟨by rw [stop (by simp [okLine, hf1, hf2])]; simp [frz, AV.sub, AV.subL, strsA_pure, hR], rfl⟩⟩
  all_goals
    have h1 : ((i + e1 : Nat) : Int) = L.length := by have := a4 hf1; omega
    simp only [wB, awp, asB, St.ev, St.step, setS, killS, AV.kill, AV.killL, Mem.kill, Nat.reduceEqDiff, decide_eq_true h1]
    refine swp_draw (own := []) (.take 0 .plain [] (.take 1 .plain [] (.take 2 .plain [] (.take 3 .plain [] (.take 4 .plain [] (.take 5 .plain [] (.done))))))) [⟨76, 16, 0, 0, true⟩, ⟨77, 1, 0, 0, true⟩, ⟨78, 32, 0, 0, true⟩, ⟨79, 226673591177742970257408, 6, 0, true⟩, ⟨3, 37778931862957161709568, 1, 0, true⟩, ⟨4, 302231454903657293676544, 31, 0, true⟩] mo (by kernel_rfl) ?_
    simp only [wB, awp, asS, asN, bndA, St.ev, setS, ASch, St.put, Md.mem, Md.need, asStr, Int.toNat_natCast]
    exact ⟨by omega, aend_frz rfl ⟨by rw [stop (by simp [okLine, hf1])]; simp [frz, AV.sub, AV.subL, strsA_pure, hR], rfl⟩⟩

end Go.Proofs.YtndniceeibflcaaGreatDoor
