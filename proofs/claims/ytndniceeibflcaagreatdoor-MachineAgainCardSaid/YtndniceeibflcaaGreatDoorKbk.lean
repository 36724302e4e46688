/-
  Parts of several texts in one: MxA, MxD.
-/
import Derived.Test.YtndniceeibflcaaGreatDoorProg
import Derived.WalkKit
import Derived.Lib.ConvBytes
import Derived.LaidEql
import Derived.Lib.ItoaNum
import Derived.Lib.LaidTab
import Derived.KernelRfl
import GoSem.Claims
import GoSem.ClaimJoined
import Derived.Orders
import Derived.Laws.StructEq
import Derived.Maps.Keyed
import Derived.Lib.Strings
import Derived.Maps.AppendAt
import Derived.Laws.Concat
import Derived.MapKept
import Derived.Laws.MakeOwn
import Derived.Scope
import Derived.Laws.BitsLemmas
import Derived.Maps.RangeRun
import Derived.StillTail
import Derived.OrdersIn
import Derived.TacticsIn
import Derived.RangeFuncRecord
import Derived.RangeFuncCalls
import Derived.RangeFuncSeq
import Derived.Lib.Split
import Derived.Lib.AtoiAll
import Derived.Shelf.LaysM
import Derived.Shelf.LaysC
import Derived.Shelf.Strconv.Itoa3
import Derived.Shelf.Strconv.AtoiAll
import Derived.Shelf.Strings.Search3
import Derived.Shelf.Strings.Cut
import Derived.Shelf.Strings.Prefix
import Derived.Shelf.Strings.Split
import Derived.Lib.AppendIntMem
import Derived.Stop.Asserts
import Derived.RowKitTokens
import Derived.Conc.MuLone
import Derived.Test.YtndniceeibflcaaGreatDoorKaa
import Derived.Test.YtndniceeibflcaaGreatDoorKac
import Derived.Test.YtndniceeibflcaaGreatDoorKad
import Derived.Test.YtndniceeibflcaaGreatDoorKae
import Derived.Test.YtndniceeibflcaaGreatDoorKag
import Derived.Test.YtndniceeibflcaaGreatDoorKbj
import Derived.Test.YtndniceeibflcaaGreatDoorKai
import Derived.Test.YtndniceeibflcaaGreatDoorKap
set_option linter.unusedSimpArgs false
set_option linter.unusedVariables false
namespace Go.Proofs.YtndniceeibflcaaGreatDoor
namespace Aw
end Aw
namespace Mp
end Mp
end Go.Proofs.YtndniceeibflcaaGreatDoor
namespace Go.Proofs.YtndniceeibflcaaGreatDoor
open Aw Mp Go.RowKit
set_option linter.unusedSimpArgs false
set_option maxRecDepth 8000

def kls : List (Int × Int) := [(0, 1), (1, 2)]
def oL0 : By := [108, 111, 97, 100, 32, 48]
def oL2 : By := [108, 111, 97, 100, 32, 50]
def oJ : By := [106, 111, 105, 110, 32, 48, 32, 49, 32, 52]
def oM : By := [109, 111, 118, 101, 32, 48, 32, 49]
def oC : By := [99, 111, 111, 108, 32, 48]
theorem kvN : vN 3 2 kls = 0 := by decide +kernel
theorem kvT : vT 3 kls = 0 := by decide +kernel
theorem ke1 : erO 3 2 kls [] oL0 = 0 := by decide +kernel
theorem ke2 : erO 3 2 kls [oL0] oL2 = 0 := by decide +kernel
theorem ke3 : erO 3 2 kls [oL0, oL2] oJ = 9 := by decide +kernel
theorem ke4 : erO 3 2 kls [oL0, oL2] oM = 0 := by decide +kernel
theorem ke5 : erO 3 2 kls [oL0, oL2, oM] oJ = 8 := by decide +kernel
theorem ke6 : erO 3 2 kls [oL0, oL2, oM] oC = 0 := by decide +kernel
theorem ke7 : erO 3 2 kls [oL0, oL2, oM, oC] oJ = 0 := by decide +kernel
theorem kst : (stO [oL0, oL2, oM, oC, oJ]).heats = [2, 2] := by decide +kernel
theorem kd1 : doO 3 2 kls [] oL0 = [oL0] := doO_ok ke1
theorem kd2 : doO 3 2 kls [oL0] oL2 = [oL0, oL2] := doO_ok ke2
theorem kd3 : doO 3 2 kls [oL0, oL2] oJ = [oL0, oL2] := doO_no (by rw [ke3]; decide)
theorem kd4 : doO 3 2 kls [oL0, oL2] oM = [oL0, oL2, oM] := doO_ok ke4
theorem kd5 : doO 3 2 kls [oL0, oL2, oM] oJ = [oL0, oL2, oM] := doO_no (by rw [ke5]; decide)
theorem kd6 : doO 3 2 kls [oL0, oL2, oM] oC = [oL0, oL2, oM, oC] := doO_ok ke6
theorem kd7 : doO 3 2 kls [oL0, oL2, oM, oC] oJ = [oL0, oL2, oM, oC, oJ] := doO_ok ke7
theorem ka1 : Acc 3 2 kls [oL0] := .snoc (l := []) .nil ke1
theorem ka2 : Acc 3 2 kls [oL0, oL2] := .snoc (l := [oL0]) ka1 ke2
theorem ka3 : Acc 3 2 kls [oL0, oL2, oM] := .snoc (l := [oL0, oL2]) ka2 ke4
theorem ka4 : Acc 3 2 kls [oL0, oL2, oM, oC] := .snoc (l := [oL0, oL2, oM]) ka3 ke6
theorem ka5 : Acc 3 2 kls [oL0, oL2, oM, oC, oJ] := .snoc (l := [oL0, oL2, oM, oC]) ka4 ke7
theorem ksum : sumB 0 [97] = 98 := by decide

end Go.Proofs.YtndniceeibflcaaGreatDoor

namespace Go.Proofs.YtndniceeibflcaaGreatDoor
open Aw Mp Go.RowKit
set_option linter.unusedSimpArgs false
set_option maxRecDepth 8000

theorem ok31 : okFn Tryz.prog 31 = true := by kernel_rfl
theorem k24 (l : List By) (hA : Acc 3 2 kls l) (o : By) (ho : o.length ≤ 30) : FSpec Tryz.prog 24 [.q 0 13 0 0, S o] (memD (mkM 3 2 kls l)) (memD (mkM 3 2 kls l)) (I (erO 3 2 kls l o)) (memD (mkM 3 2 kls (doO 3 2 kls l o))) := by
  have := fD (m24 3 2 kls l hA kvT (by decide) o (by omega)) [] [1] rfl rfl rfl
  simpa using this
theorem k45 (l : List By) (hA : Acc 3 2 kls l) : FSpec Tryz.prog 45 [.q 0 13 0 0] (memD (mkM 3 2 kls l)) (memD (mkM 3 2 kls l)) (.s 1 (intsA (stO l).heats)) (memD (mkM 3 2 kls l)) := by
  have := fD (m45 (mkM 3 2 kls l) (sml_of hA)) [] [1] rfl rfl rfl
  rw [List.append_nil] at this
  exact this
theorem s31 : ASpec Tryz.prog 31 [] (fun r Ms => r = B true ∧ Ms = []) := by
  refine aspec_of (own := [1002, 1004, 1006]) Tryz.func31 rfl ok31 ?_
  simp only [wB, awp, asN, fillA, putsA, St.ev, St.step, setS, killS, AV.kill, AV.killL, Mem.kill, AV.cells, AV.flat, AV.single, AV.cellular, AV.size, AV.sizeL, AV.pure, AV.pureL, Value.oneCell', Nat.reduceAdd, Nat.reduceEqDiff, Nat.reduceMul, Nat.reduceSub, Nat.reduceLeDiff, Int.reduceAdd, Int.reduceSub, Int.reduceMul, Tryz.ntmps31]
  refine ⟨⟨by decide, rfl⟩, ?_⟩
  refine acall_os (s22o 3 2 kls (by decide) kvN) rfl ?_
  simp only [wB, awp, asT, asN, St.ev, St.step, setS, killS, AV.kill, AV.killL, Mem.kill, Nat.reduceAdd, Nat.reduceEqDiff, Int.reduceAdd, AV.sub, AV.subL, AV.up, Ob.up, prsA_msub, new_sub]
  refine swp_le (σ' := ⟨[B false, .q 0 13 0 0, I 0, .bot, .bot, .bot, .bot, .bot, .bot, .bot, .bot, .bot, .bot, .bot, .bot, .bot, .bot, .bot, .bot, .bot, .bot, .bot, .bot, .bot, .bot, .bot, .bot, .bot, .bot, .bot, .bot, .bot, .bot, .bot, .bot, .bot, .bot, .bot, .bot, .bot, .bot, .bot, .bot, .bot, .bot, .bot, .bot, .bot, .bot, .bot, .bot, .bot, .bot, .bot, .bot, .bot, .bot, .bot], memD (mkM 3 2 kls [])⟩) (le_new (by simp [leSl, frz1, AV.sub])) ?_
  simp only [memD]
  refine awp_sound (own := []) _ _ _ _ _ ?_
  simp only [wB, awp, binC, cmpC, eqC, asG, asB, asI, St.ev, St.step, setS, killS, AV.kill, AV.killL, Mem.kill, Nat.reduceAdd, Int.reduceAdd, isNP, ptrN, asStr, nt32]
  refine acall_v (s28 0 [97] (by decide)) rfl rfl ?_
  simp only [wB, awp, binC, cmpC, asB, asI, St.ev, St.step, setS, killS, AV.kill, AV.killL, Mem.kill, Nat.reduceAdd, Nat.reduceEqDiff, Int.reduceAdd, ksum]
  refine swp_fs (own := []) [false, true, false, false, false, true, false, false, false, false, true, false, false, false, false, true, false, false, false, false, true, false, false, false, false, true, false, false, false, false, true, false, false] ?_
  simp only [wB, St.ev, St.step, setS, killS, AV.kill, AV.killL, Mem.kill]
  refine acall_f (k24 [] .nil oL0 (by decide)) ?_
  simp only [wB, binC, cmpC, asI, St.ev, St.step, setS, killS, AV.kill, AV.killL, Mem.kill, memD, AV.sub, keepG, liveI, AV.isQ, List.any_cons, List.any_nil, ke1, kd1]
  refine acall_f (k24 [oL0] ka1 oL2 (by decide)) ?_
  simp only [wB, binC, cmpC, asB, asI, St.ev, St.step, setS, killS, AV.kill, AV.killL, Mem.kill, memD, AV.sub, keepG, liveI, AV.isQ, List.any_cons, List.any_nil, ke2, kd2]
  refine acall_f (k24 [oL0, oL2] ka2 oJ (by decide)) ?_
  simp only [wB, binC, cmpC, asB, asI, St.ev, St.step, setS, killS, AV.kill, AV.killL, Mem.kill, memD, AV.sub, keepG, liveI, AV.isQ, List.any_cons, List.any_nil, ke3, kd3]
  refine acall_f (k24 [oL0, oL2] ka2 oM (by decide)) ?_
  simp only [wB, binC, cmpC, asB, asI, St.ev, St.step, setS, killS, AV.kill, AV.killL, Mem.kill, memD, AV.sub, keepG, liveI, AV.isQ, List.any_cons, List.any_nil, ke4, kd4]
  refine acall_f (k24 [oL0, oL2, oM] ka3 oJ (by decide)) ?_
  simp only [wB, binC, cmpC, asB, asI, St.ev, St.step, setS, killS, AV.kill, AV.killL, Mem.kill, memD, AV.sub, keepG, liveI, AV.isQ, List.any_cons, List.any_nil, ke5, kd5]
  refine acall_f (k24 [oL0, oL2, oM] ka3 oC (by decide)) ?_
  simp only [wB, binC, cmpC, asB, asI, St.ev, St.step, setS, killS, AV.kill, AV.killL, Mem.kill, memD, AV.sub, keepG, liveI, AV.isQ, List.any_cons, List.any_nil, ke6, kd6]
  refine acall_f (k24 [oL0, oL2, oM, oC] ka4 oJ (by decide)) ?_
  simp only [wB, awp, binC, cmpC, asB, asI, St.ev, St.step, setS, killS, AV.kill, AV.killL, Mem.kill, Nat.reduceAdd, Nat.reduceEqDiff, Int.reduceAdd, memD, AV.sub, keepG, liveI, AV.isQ, List.any_cons, List.any_nil, ke7, kd7]
  refine swp_fs (own := []) [false, true, false, false, false] ?_
  simp only [wB, St.ev, St.step, setS, killS, AV.kill, AV.killL, Mem.kill]
  refine acall_f (k45 [oL0, oL2, oM, oC, oJ] ka5) ?_
  simp only [wB, St.ev, St.step, setS, killS, AV.kill, AV.killL, Mem.kill, AV.cells, AV.flat, AV.single, AV.cellular, AV.size, AV.pure, AV.pureL, Value.oneCell', Nat.reduceMul, Nat.reduceLeDiff, Int.reduceMul, memD, AV.sub, keepG, liveI, AV.isQ, List.any_cons, List.any_nil, kst]
  refine ⟨⟨by decide, rfl⟩, ?_⟩
  refine acall_v (s52 [2, 2] [2, 2] (by decide) (by decide)) rfl rfl ?_
  simp only [wB, awp, asN, St.ev, St.step, setS, killS, AV.kill, AV.killL, Mem.kill]
  exact aend_frz rfl ⟨rfl, rfl⟩
end Go.Proofs.YtndniceeibflcaaGreatDoor
