/-
  Parts of several texts in one: MsB, MxH.
-/
import Derived.Test.YtndniceeibflcaaGreatDoorProg
import Derived.WalkKit
import Derived.Lib.ConvBytes
import Derived.LaidEql
import Derived.Lib.ItoaNum
import Derived.Lib.LaidTab
import Derived.KernelRfl
import GoSem.Claims
import GoSem.ClaimJoined
import Derived.Orders
import Derived.Laws.StructEq
import Derived.Maps.Keyed
import Derived.Lib.Strings
import Derived.Maps.AppendAt
import Derived.Laws.Concat
import Derived.MapKept
import Derived.Laws.MakeOwn
import Derived.Scope
import Derived.Laws.BitsLemmas
import Derived.Maps.RangeRun
import Derived.StillTail
import Derived.OrdersIn
import Derived.TacticsIn
import Derived.RangeFuncRecord
import Derived.RangeFuncCalls
import Derived.RangeFuncSeq
import Derived.Lib.Split
import Derived.Lib.AtoiAll
import Derived.Test.YtndniceeibflcaaGreatDoorRows
import Derived.Test.YtndniceeibflcaaGreatDoorChecked
import Derived.ChangeSame
import Derived.ChangeVars
import Derived.JoinedOf
import Derived.ProofKit
import Derived.RowKit
import Derived.RowKitTokens
import Derived.LaidLaws
import Derived.LaidHandle
import Derived.LaidMore
import Derived.Stop.Joined
import Derived.Stop.LaidErr
import Derived.HandedShaped
import Derived.Shelf.Vars
import Derived.Deep.Slices
import Derived.Deep.Strs
import Derived.Deep.Fields
import Derived.Lib.SmallJoins
import Derived.SliceStrings
import Derived.ChangeMaps5
import Derived.Shelf.LaysM
import Derived.Shelf.LaysC
import Derived.Shelf.Strconv.Itoa3
import Derived.Shelf.Strconv.AtoiAll
import Derived.Shelf.Strings.Search3
import Derived.Shelf.Strings.Cut
import Derived.Shelf.Strings.Prefix
import Derived.Shelf.Strings.Split
import Derived.Lib.AppendIntMem
import Derived.Stop.Asserts
import Derived.Conc.MuLone
import Derived.Test.YtndniceeibflcaaGreatDoorKaa
import Derived.Test.YtndniceeibflcaaGreatDoorKac
import Derived.Test.YtndniceeibflcaaGreatDoorKad
import Derived.Test.YtndniceeibflcaaGreatDoorKae
import Derived.Test.YtndniceeibflcaaGreatDoorKag
import Derived.Test.YtndniceeibflcaaGreatDoorKat
set_option linter.unusedSimpArgs false
set_option linter.unusedVariables false
namespace Go.Proofs.YtndniceeibflcaaGreatDoor
namespace Aw
end Aw
namespace Mp
end Mp
end Go.Proofs.YtndniceeibflcaaGreatDoor
namespace Go.Proofs.YtndniceeibflcaaGreatDoor
open Aw Go.ChangeShapes Go.WideShapes Go.ChangeAt Go.RowKit Go.Deep Go.Joins Go.Stop
set_option maxRecDepth 100000

section
variable {H : Type} {enc : TypeId × Value → H} {w : World}

theorem rl_strs (zs : List (List UInt8)) : RL w noA noHv (zs.map S) (zs.map fun l => Value.string ⟨l.toArray⟩) := by
  induction zs with
  | nil => simp [RL]
  | cons z zs ih =>
    simp only [List.map_cons, RL] at *
    exact ⟨[.string ⟨z.toArray⟩], _, rfl, ⟨rfl, rfl⟩, ih⟩
theorem sa_strs {v : Value} {r : Reach} {b1 b0 : Nat} {sp : Nat → Bool} {hd : Bool} {d : DataW H} {p : List MemPlace} (hv : Value.okWide Tryz.prog w r b1 27 v) (h : DataW.Trod enc Tryz.prog w b0 sp hd 27 v d p) : ∃ l : List (List UInt8), RV w noA noHv (.s 1 (l.map S)) v ∧ ∀ o ∈ l, o.length ≤ 9223372036854775807 := by
  obtain ⟨a0, len, cap, rfl⟩ := okWide_slice Tryz.underlying27 hv
  obtain ⟨fuel, hf⟩ := h
  rcases open_strings Tryz.underlying27 Tryz.underlying9 tc9 hf with ⟨h1, _⟩ | ⟨a, len', cap', ss, h1, _, hl, hm, hz, _, hcell, hbound⟩
  · injection h1 with h1
    refine ⟨[], ?_, by simp⟩
    rw [h1]
    simp only [RV, R]
    exact ⟨none, 0, [], rfl, Nat.le_refl _, Nat.zero_le _, by simp, by simp [RL], fun h => absurd rfl h⟩
  · injection h1 with h1
    rw [h1]
    have hzl : len' ≤ ss.length := by rw [hz]; split <;> omega
    refine ⟨(ss.take len').map fun s => s.data.toList, s_of_cells (k := 1) (us := ((ss.take len').map fun s => s.data.toList).map fun l => Value.string ⟨l.toArray⟩) (by simp; omega) hl hm (by intro y hy; simp only [List.mem_map] at hy; obtain ⟨q, _, rfl⟩ := hy; rfl) (rl_strs _) (by decide) fun j u hu => ?_, fun o ho => ?_⟩
    · simp only [List.getElem?_map, Option.map_eq_some_iff] at hu
      obtain ⟨l, ⟨z, hz1, rfl⟩, rfl⟩ := hu
      have hj : j < (ss.take len').length := (List.getElem?_eq_some_iff.1 hz1).1
      simp at hj
      have := hcell j (by omega)
      rw [this]
      congr 2
      have e : (ss.take len')[j]? = ss[j]? := by rw [List.getElem?_take, if_pos (by omega)]
      rw [e] at hz1
      rw [List.getD_eq_getElem?_getD, hz1]
      rfl
    · simp only [List.mem_map] at ho
      obtain ⟨s, hs, rfl⟩ := ho
      have := hbound s (List.mem_of_mem_take hs)
      have e : s.size = s.data.size := rfl
      unfold maxLen at this
      simp only [Array.length_toList]
      omega
theorem rr27 : Tryz.prog.readableRec 27 = true := by kernel_rfl
theorem lt27 : 27 < Tryz.prog.types.size := of_decide_eq_true (by kernel_rfl)
end
end Go.Proofs.YtndniceeibflcaaGreatDoor

namespace Go.Proofs.YtndniceeibflcaaGreatDoor
open Aw Mp Go.RowKit
set_option linter.unusedSimpArgs false
set_option maxRecDepth 8000

theorem ok21 : okFn Tryz.prog 21 = true := by kernel_rfl
theorem s21 (l : List By) : ASpec Tryz.prog 21 [.s 1 (strsA l)] (fun r Ms => r = B (decide (150 < l.length)) ∧ Ms = []) := by
  refine aspec_of (own := []) Tryz.func21 rfl ok21 ?_
  simp only [wB, awp, binC, cmpC, asI, asN, lenA, St.ev, St.step, setS, killS, AV.kill, AV.killL, Mem.kill, Nat.reduceAdd, Nat.reduceSub, Int.reduceAdd, Int.reduceSub, lenK, strsA_len, Tryz.ntmps21]
  refine aend_frz rfl ⟨?_, rfl⟩
  have : decide ((150 : Int) < l.length) = decide (150 < l.length) := decide_eq_decide.2 (by omega)
  rw [← this]
  rfl
end Go.Proofs.YtndniceeibflcaaGreatDoor
