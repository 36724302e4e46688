/-
  Parts of several texts in one: MpA.
-/
import Derived.Lib.Split
import Derived.Lib.ItoaNum
import Derived.Lib.AtoiAll
import Derived.Test.YtndniceeibflcaaGreatDoorKab
import Derived.Test.YtndniceeibflcaaGreatDoorKag
import Derived.Test.YtndniceeibflcaaGreatDoorKav
set_option linter.unusedSimpArgs false
set_option linter.unusedVariables false
namespace Go.Proofs.YtndniceeibflcaaGreatDoor
namespace Aw
end Aw
namespace Mp
end Mp
end Go.Proofs.YtndniceeibflcaaGreatDoor
namespace Go.Proofs.YtndniceeibflcaaGreatDoor
namespace Mp
open Go
set_option linter.unusedSimpArgs false

theorem okLine_line (b : Int) (o t : By) (h : ordB o = true) : okLine b (lineB (sumB b o) o ++ t) = true ∧ ordOf (lineB (sumB b o) o ++ t) = o ∧ restOf (lineB (sumB b o) o ++ t) = t := by
  obtain ⟨_, _, h10⟩ := (ordB_iff o).1 h
  have hs := (sumB_lim b o).1
  have e1 : cutB 10 (lineB (sumB b o) o ++ t) = (Lib.itoa (sumB b o) ++ 32 :: o, t, true) := by
    unfold lineB
    rw [List.append_assoc]
    refine cutB_at 10 _ t ?_
    simp only [List.mem_append, List.mem_cons, not_or]
    exact ⟨itoa_no hs 10 (by decide), by decide, h10⟩
  have e2 : cutB 32 (Lib.itoa (sumB b o) ++ 32 :: o) = (Lib.itoa (sumB b o), o, true) := cutB_at 32 _ o (itoa_no hs 32 (by decide))
  unfold okLine ordOf restOf
  rw [e1]
  simp only
  rw [e2]
  simp [h]

/-- what is written is read again. -/
theorem rd_of_lg : ∀ (l : List By) (k : Nat) (b : Int) (t : By), (∀ o ∈ l, ordB o = true) → rd (l.length + k) b (lg b l ++ t) = (l ++ (rd k (sumL b l) t).1, (rd k (sumL b l) t).2)
  | [], k, b, t, _ => by simp [lg, sumL]
  | o :: l, k, b, t, h => by
    obtain ⟨h1, h2, h3⟩ := okLine_line b o (lg (sumB b o) l ++ t) (h o (by simp))
    have ih := rd_of_lg l k (sumB b o) t (fun x hx => h x (by simp [hx]))
    rw [show (o :: l).length + k = (l.length + k) + 1 by simp; omega]
    simp only [lg, List.append_assoc]
    rw [rd_succ, if_pos h1, h2, h3, ih]
    rfl
theorem rd_nil (k : Nat) (b : Int) : rd k b [] = ([], []) := by
  cases k with
  | zero => rfl
  | succ k => simp [rd, okLine, cutB]
theorem rd_all {l : List By} (hl : l.length ≤ 100) (ho : ∀ o ∈ l, ordB o = true) : rd 100 0 (lg 0 l) = (l, []) := by
  have := rd_of_lg l (100 - l.length) 0 [] ho
  rw [show l.length + (100 - l.length) = 100 by omega] at this
  simpa [rd_nil] using this

end Mp
end Go.Proofs.YtndniceeibflcaaGreatDoor
