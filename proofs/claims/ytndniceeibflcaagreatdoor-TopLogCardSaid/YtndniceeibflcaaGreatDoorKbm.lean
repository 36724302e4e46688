/-
  Parts of several texts in one: MpA.
-/
import Derived.Lib.Split
import Derived.Lib.ItoaNum
import Derived.Lib.AtoiAll
import Derived.Test.YtndniceeibflcaaGreatDoorKag
import Derived.Test.YtndniceeibflcaaGreatDoorKav
set_option linter.unusedSimpArgs false
set_option linter.unusedVariables false
namespace Go.Proofs.YtndniceeibflcaaGreatDoor
namespace Aw
end Aw
namespace Mp
end Mp
end Go.Proofs.YtndniceeibflcaaGreatDoor
namespace Go.Proofs.YtndniceeibflcaaGreatDoor
namespace Mp
open Go
set_option linter.unusedSimpArgs false

/-- what is read is written as the beginning again. -/
theorem rd_lg : ∀ (k : Nat) (b : Int) (log : By), lg b (rd k b log).1 ++ (rd k b log).2 = log
  | 0, _, _ => rfl
  | k + 1, b, log => by
    unfold rd
    split
    · rename_i hk
      have ih := rd_lg k (sumB b (ordOf log)) (restOf log)
      simp only [lg, List.append_assoc]
      rw [ih]
      exact (okLine_split hk).2.symm
    · rfl
end Mp
end Go.Proofs.YtndniceeibflcaaGreatDoor
