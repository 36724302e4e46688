/-
  Parts of several texts in one: MpA.
-/
import Derived.Lib.Split
import Derived.Lib.ItoaNum
import Derived.Lib.AtoiAll
import Derived.Test.YtndniceeibflcaaGreatDoorKag
import Derived.Test.YtndniceeibflcaaGreatDoorKav
set_option linter.unusedSimpArgs false
set_option linter.unusedVariables false
namespace Go.Proofs.YtndniceeibflcaaGreatDoor
namespace Aw
end Aw
namespace Mp
end Mp
end Go.Proofs.YtndniceeibflcaaGreatDoor
namespace Go.Proofs.YtndniceeibflcaaGreatDoor
namespace Mp
open Go
set_option linter.unusedSimpArgs false

theorem rd_len : ∀ (k : Nat) (b : Int) (log : By), (rd k b log).1.length ≤ k
  | 0, _, _ => by simp [rd]
  | k + 1, b, log => by
    unfold rd
    split
    · have := rd_len k (sumB b (ordOf log)) (restOf log)
      simp only [List.length_cons]; omega
    · simp
end Mp
end Go.Proofs.YtndniceeibflcaaGreatDoor
