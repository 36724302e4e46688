/-
  Parts of several texts in one: MpA.
-/
import Derived.Lib.Split
import Derived.Lib.ItoaNum
import Derived.Lib.AtoiAll
import Derived.Test.YtndniceeibflcaaGreatDoorKag
import Derived.Test.YtndniceeibflcaaGreatDoorKav
set_option linter.unusedSimpArgs false
set_option linter.unusedVariables false
namespace Go.Proofs.YtndniceeibflcaaGreatDoor
namespace Aw
end Aw
namespace Mp
end Mp
end Go.Proofs.YtndniceeibflcaaGreatDoor
namespace Go.Proofs.YtndniceeibflcaaGreatDoor
namespace Mp
open Go
set_option linter.unusedSimpArgs false

theorem rd_ord : ∀ (k : Nat) (b : Int) (log : By), ∀ o ∈ (rd k b log).1, ordB o = true
  | 0, _, _, o, h => by simp [rd] at h
  | k + 1, b, log, o, h => by
    unfold rd at h
    split at h
    · rename_i hk
      rcases List.mem_cons.1 h with rfl | h
      · exact (okLine_split hk).1
      · exact rd_ord k _ _ o h
    · simp at h
end Mp
end Go.Proofs.YtndniceeibflcaaGreatDoor
