/-
  Parts of several texts in one: MwJ.
-/
import Derived.Test.YtndniceeibflcaaGreatDoorProg
import Derived.WalkKit
import Derived.Lib.ConvBytes
import Derived.LaidEql
import Derived.Lib.ItoaNum
import Derived.Lib.LaidTab
import Derived.KernelRfl
import GoSem.Claims
import GoSem.ClaimJoined
import Derived.Orders
import Derived.Laws.StructEq
import Derived.Maps.Keyed
import Derived.Lib.Strings
import Derived.Maps.AppendAt
import Derived.Laws.Concat
import Derived.MapKept
import Derived.Laws.MakeOwn
import Derived.Scope
import Derived.Laws.BitsLemmas
import Derived.Maps.RangeRun
import Derived.StillTail
import Derived.OrdersIn
import Derived.TacticsIn
import Derived.RangeFuncRecord
import Derived.RangeFuncCalls
import Derived.RangeFuncSeq
import Derived.Lib.Split
import Derived.Lib.AtoiAll
import Derived.Shelf.LaysM
import Derived.Shelf.LaysC
import Derived.Shelf.Strconv.Itoa3
import Derived.Shelf.Strconv.AtoiAll
import Derived.Shelf.Strings.Search3
import Derived.Shelf.Strings.Cut
import Derived.Shelf.Strings.Prefix
import Derived.Shelf.Strings.Split
import Derived.Lib.AppendIntMem
import Derived.Stop.Asserts
import Derived.RowKitTokens
import Derived.Conc.MuLone
import Derived.Test.YtndniceeibflcaaGreatDoorKaa
import Derived.Test.YtndniceeibflcaaGreatDoorKac
import Derived.Test.YtndniceeibflcaaGreatDoorKad
import Derived.Test.YtndniceeibflcaaGreatDoorKae
import Derived.Test.YtndniceeibflcaaGreatDoorKag
import Derived.Test.YtndniceeibflcaaGreatDoorKai
import Derived.Test.YtndniceeibflcaaGreatDoorKap
set_option linter.unusedSimpArgs false
set_option linter.unusedVariables false
namespace Go.Proofs.YtndniceeibflcaaGreatDoor
namespace Aw
end Aw
namespace Mp
end Mp
end Go.Proofs.YtndniceeibflcaaGreatDoor
namespace Go.Proofs.YtndniceeibflcaaGreatDoor
open Aw Mp Go.RowKit
set_option linter.unusedSimpArgs false
set_option maxRecDepth 8000

theorem ok23 : okFn Tryz.prog 23 = true := by kernel_rfl
theorem m23 (m : Mch) (hs : Sml m) : MSpec Tryz.prog 23 [.q 0 13 0 0] (memD m) (fun r N => r = S m.log ∧ N = memD m) := by
  refine mspec_of2 (own := [3, 1001]) Tryz.func23 rfl ok23 ?_
  intro vs
  obtain ⟨gh, hgh⟩ : ∃ gh, gh = some (ghost vs [AV.q 0 13 0 0]) := ⟨_, rfl⟩
  simp only [wB, awp, asN, St.ev, St.step, setS, killS, AV.kill, AV.killL, Mem.kill, Nat.reduceAdd, Nat.reduceEqDiff, Nat.reduceSub, Int.reduceAdd, Int.reduceSub, Tryz.ntmps23, ← hgh, memD]
  refine swp_fm (own := [3]) 1 rfl rfl rfl ?_
  simp only [wB, St.ev, St.step, setS, killS, AV.kill, AV.killL, Mem.kill, AV.cells, Mch.ob, Mch.od, Mch.cells, List.take_succ_cons, List.take_zero]
  refine acall_f (fspec_of (m67f m hs.mu hs.p hs.h hs.c) [1, 3] rfl (by exact ⟨rfl, rfl, trivial⟩) rfl rfl (by simp [freeM, memD, Mch.ob, Mch.od, Mch.cells, AV.freeL, AV.free, strsA_free]) (N := [some m.ob, none, some m.od, gh]) (by rw [hgh]; rfl)) ?_
  simp only [wB, awp, asQ, asT, asN, obA, storeA, putsA, mkA, Aw.newRow, St.ev, St.step, setS, killS, AV.kill, AV.killL, Mem.kill, AV.cells, AV.flat, AV.single, AV.cellular, Nat.reduceAdd, Nat.reduceEqDiff, Nat.reduceLeDiff, Int.reduceAdd, Mch.ob, Mch.od, Mch.cells, List.drop_succ_cons, List.drop_zero, AV.sub, keepG, liveI, AV.isQ, List.any_cons, List.any_nil, stA]
  exact ⟨_, _, memD m, _, Le.refl _, rfl, by rw [hgh]; rfl, rfl, rfl, free_D _ m, rfl, rfl⟩

end Go.Proofs.YtndniceeibflcaaGreatDoor
