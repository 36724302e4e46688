/-
  The law TopLog: for every input, with the listed variables as the program's text lays them, it answers true, and each argument reads as it did.
-/
import Derived.Test.YtndniceeibflcaaGreatDoorProg
import Derived.WalkKit
import Derived.Lib.ConvBytes
import Derived.LaidEql
import Derived.Lib.ItoaNum
import Derived.Lib.LaidTab
import Derived.KernelRfl
import GoSem.Claims
import GoSem.ClaimJoined
import Derived.Orders
import Derived.Laws.StructEq
import Derived.Maps.Keyed
import Derived.Lib.Strings
import Derived.Maps.AppendAt
import Derived.Laws.Concat
import Derived.MapKept
import Derived.Laws.MakeOwn
import Derived.Scope
import Derived.Laws.BitsLemmas
import Derived.Maps.RangeRun
import Derived.StillTail
import Derived.OrdersIn
import Derived.TacticsIn
import Derived.RangeFuncRecord
import Derived.RangeFuncCalls
import Derived.RangeFuncSeq
import Derived.Lib.Split
import Derived.Lib.AtoiAll
import Derived.Shelf.LaysM
import Derived.Shelf.LaysC
import Derived.Shelf.Strconv.Itoa3
import Derived.Shelf.Strconv.AtoiAll
import Derived.Shelf.Strings.Search3
import Derived.Shelf.Strings.Cut
import Derived.Shelf.Strings.Prefix
import Derived.Shelf.Strings.Split
import Derived.Lib.AppendIntMem
import Derived.Stop.Asserts
import Derived.RowKitTokens
import Derived.Conc.MuLone
import Derived.Test.YtndniceeibflcaaGreatDoorRows
import Derived.Test.YtndniceeibflcaaGreatDoorChecked
import Derived.ChangeSame
import Derived.ChangeVars
import Derived.JoinedOf
import Derived.ProofKit
import Derived.RowKit
import Derived.LaidLaws
import Derived.LaidHandle
import Derived.LaidMore
import Derived.Stop.Joined
import Derived.Stop.LaidErr
import Derived.HandedShaped
import Derived.Shelf.Vars
import Derived.Deep.Slices
import Derived.Deep.Strs
import Derived.Deep.Fields
import Derived.Lib.SmallJoins
import Derived.SliceStrings
import Derived.ChangeMaps5
import Derived.Test.YtndniceeibflcaaGreatDoorTie
import Derived.Test.YtndniceeibflcaaGreatDoorCards
import Derived.SevenTiedAt
import Derived.Test.YtndniceeibflcaaGreatDoorKaa
import Derived.Test.YtndniceeibflcaaGreatDoorKac
import Derived.Test.YtndniceeibflcaaGreatDoorKad
import Derived.Test.YtndniceeibflcaaGreatDoorKae
import Derived.Test.YtndniceeibflcaaGreatDoorKag
import Derived.Test.YtndniceeibflcaaGreatDoorKav
import Derived.Test.YtndniceeibflcaaGreatDoorKba
import Derived.Test.YtndniceeibflcaaGreatDoorKau
import Derived.Test.YtndniceeibflcaaGreatDoorKbe
import Derived.Test.YtndniceeibflcaaGreatDoorKbn
import Derived.Test.YtndniceeibflcaaGreatDoorKaf
import Derived.Test.YtndniceeibflcaaGreatDoorKbh
import Derived.Test.YtndniceeibflcaaGreatDoorKbw
import Derived.Test.YtndniceeibflcaaGreatDoorKbo
import Derived.Test.YtndniceeibflcaaGreatDoorKai
import Derived.Test.YtndniceeibflcaaGreatDoorKbs
import Derived.Test.YtndniceeibflcaaGreatDoorKbx
import Derived.Test.YtndniceeibflcaaGreatDoorKca
import Derived.Test.YtndniceeibflcaaGreatDoorKao
import Derived.Test.YtndniceeibflcaaGreatDoorKap
import Derived.Test.YtndniceeibflcaaGreatDoorKcb
import Derived.Test.YtndniceeibflcaaGreatDoorKaz
import Derived.Test.YtndniceeibflcaaGreatDoorKcl
import Derived.Test.YtndniceeibflcaaGreatDoorKbb
import Derived.Test.YtndniceeibflcaaGreatDoorKar
import Derived.Test.YtndniceeibflcaaGreatDoorKcm
import Derived.Test.YtndniceeibflcaaGreatDoorKcn
set_option linter.unusedSimpArgs false
set_option linter.unusedVariables false
namespace Go.Proofs.YtndniceeibflcaaGreatDoor
namespace Aw
end Aw
namespace Mp
end Mp
end Go.Proofs.YtndniceeibflcaaGreatDoor
namespace Go.Proofs.YtndniceeibflcaaGreatDoor
open Aw Mp Go.RowKit
set_option linter.unusedSimpArgs false
set_option maxRecDepth 8000

/-- of two logs of one machine the longer one goes on from the shorter one. -/
theorem mg_pre {X Y : List By} (h : X <+: Y) (hl : Y.length ≤ 100) (ho : ∀ o ∈ Y, ordB o = true) : mgB (lg 0 X) (lg 0 Y) = (lg 0 Y, (Y.length : Int), 0) := by
  have hx : ∀ o ∈ X, ordB o = true := fun o hm => ho o (h.subset hm)
  have hxl := h.length_le
  unfold mgB
  rw [rd_all hl ho, rd_all (by omega) hx]
  simp only [ne_eq, not_true_eq_false, or_self, if_false]
  unfold mgL
  have hn : (List.range (min X.length Y.length)).find? (fun i => !decide (X[i]? = Y[i]?)) = none := find_no fun i hi => by
    obtain ⟨m, rfl⟩ := h
    rw [List.getElem?_append_left (by omega)]
    simp
  rw [hn]
  simp only
  split
  · rfl
  · have : X = Y := h.eq_of_length (by omega)
    subst this
    rfl
theorem rd_more {l : List By} (hl : l.length ≤ 100) (ho : ∀ o ∈ l, ordB o = true) (t : By) : l.length ≤ (rd 100 0 (lg 0 l ++ t)).1.length := by
  have := rd_of_lg l (100 - l.length) 0 t ho
  rw [show l.length + (100 - l.length) = 100 by omega] at this
  rw [this]
  simp
end Go.Proofs.YtndniceeibflcaaGreatDoor

namespace Go.Proofs.YtndniceeibflcaaGreatDoor
open Aw Mp Go.RowKit
set_option linter.unusedSimpArgs false
set_option maxRecDepth 8000

theorem doO_pre (n lm : Int) (ls : List (Int × Int)) (d : List By) (o : By) : d <+: doO n lm ls d o := by
  unfold doO
  split
  · exact List.prefix_append _ _
  · exact List.prefix_refl _
theorem doL_pre (n lm : Int) (ls : List (Int × Int)) (l : List By) (i : Nat) : ∀ j, i ≤ j → j ≤ l.length → doL n lm ls (l.take i) <+: doL n lm ls (l.take j)
  | 0, h, _ => by
    obtain rfl : i = 0 := by omega
    exact List.prefix_refl _
  | j + 1, h, hj => by
    rcases Nat.lt_or_ge i (j + 1) with h1 | h1
    · have := doL_pre n lm ls l i j (by omega) (by omega)
      rw [doL_take (show j < l.length by omega)]
      exact this.trans (doO_pre _ _ _ _ _)
    · obtain rfl : i = j + 1 := by omega
      exact List.prefix_refl _
def kTx : By := [57, 56, 32, 97, 10, 57, 56]
theorem kTop : rd 100 0 kTx = ([[97]], [57, 56]) := by decide +kernel
/-- the logs of a machine, one by one. -/
def lgs (n lm : Int) (ls : List (Int × Int)) (l : List By) (k : Nat) : List By := (List.range k).map fun i => lg 0 (doL n lm ls (l.take i))
theorem lgs_len (n lm : Int) (ls : List (Int × Int)) (l : List By) (k : Nat) : (lgs n lm ls l k).length = k := by simp [lgs]
theorem lgs_at {n lm : Int} {ls : List (Int × Int)} {l : List By} {k i : Nat} (h : i < (lgs n lm ls l k).length) : (lgs n lm ls l k)[i] = lg 0 (doL n lm ls (l.take i)) := by simp [lgs]
theorem lgs_succ (n lm : Int) (ls : List (Int × Int)) (l : List By) (k : Nat) : lgs n lm ls l (k + 1) = lgs n lm ls l k ++ [lg 0 (doL n lm ls (l.take k))] := by simp [lgs, List.range_succ]
theorem ok3 : okFn Tryz.prog 3 = true := by kernel_rfl
set_option maxHeartbeats 1000000 in
theorem s3 (n lm : Int) (ls : List (Int × Int)) (l : List By) (hs : ∀ o ∈ l, o.length ≤ 9223372036854775807) (t : By) : ASpec Tryz.prog 3 [labA n ls lm, .s 1 (strsA l), S t] (fun r Ms => r = B true ∧ Ms = []) := by
  refine aspec_of (own := [11, 1007, 1013, 1014, 1015]) Tryz.func3 rfl ok3 ?_
  have h20 := s20 n lm ls
  simp only [labA] at h20
  have h19 : ASpec Tryz.prog 19 [S kTx] (fun r Ms => r = .t [.s 1 [S [97]], S [57, 56]] ∧ Ms = []) := by
    have h := s19 kTx (by decide)
    rw [kTop] at h
    exact h
  simp only [wB, awp, asN, St.ev, St.step, setS, killS, AV.kill, AV.killL, Mem.kill, AV.cellular, AV.pure, AV.pureL, Nat.reduceAdd, Nat.reduceEqDiff, Nat.reduceSub, Int.reduceAdd, Int.reduceSub, Tryz.ntmps3, labA]
  refine acall_v h19 rfl rfl ?_
  simp only [wB, awp, binC, idxC, cmpC, eqC, asP, asS, asT, asG, asB, asI, asN, lenA, loadA, St.ev, St.step, setS, killS, AV.kill, AV.killL, Mem.kill, AV.cells, AV.flat, AV.single, Nat.reduceAdd, Nat.reduceEqDiff, Nat.reduceLeDiff, Int.reduceAdd, Int.reduceLE, asStr, strC, lenK, Int.natCast_one]
  refine acall_v h20 (by simp [AV.pureL, AV.pure, prsA_pure]) rfl ?_
  by_cases h60 : 60 < ls.length
  · simp only [wB, awp, asB, asN, St.ev, St.step, setS, killS, AV.kill, AV.killL, Mem.kill, Nat.reduceAdd, Nat.reduceEqDiff, Int.reduceAdd, decide_eq_true h60]
    exact aend_frz rfl ⟨rfl, rfl⟩
  simp only [wB, St.ev, St.step, setS, killS, AV.kill, AV.killL, Mem.kill, decide_eq_false h60]
  refine acall_v (s21 l) (by simp [AV.pureL, AV.pure, strsA_pure]) rfl ?_
  by_cases h150 : 150 < l.length
  · simp only [wB, awp, asB, asN, St.ev, St.step, setS, killS, AV.kill, AV.killL, Mem.kill, Nat.reduceAdd, Nat.reduceEqDiff, Int.reduceAdd, decide_eq_true h150]
    exact aend_frz rfl ⟨rfl, rfl⟩
  simp only [wB, awp, binC, cmpC, asB, asI, lenA, St.ev, St.step, setS, killS, AV.kill, AV.killL, Mem.kill, lenK, decide_eq_false h150]
  by_cases h4 : (4000 : Int) < t.length
  · simp only [wB, awp, asN, St.ev, St.step, setS, killS, AV.kill, AV.killL, Mem.kill, Nat.reduceAdd, Nat.reduceEqDiff, Int.reduceAdd, decide_eq_true h4]
    exact aend_frz rfl ⟨rfl, rfl⟩
  simp only [wB, awp, asP, loadA, St.ev, St.step, setS, killS, AV.kill, AV.killL, Mem.kill, AV.cells, AV.flat, AV.single, Nat.reduceAdd, Nat.reduceEqDiff, Nat.reduceLeDiff, Int.reduceAdd, decide_eq_false h4]
  by_cases h0 : vN n lm ls = 0
  case neg =>
    have h22 := s22e n lm ls (by omega) h0
    simp only [trapA] at h22
    refine acall_v h22 (by simp [AV.pureL, AV.pure, prsA_pure]) rfl ?_
    simp only [wB, awp, asT, asN, St.ev, St.step, setS, killS, AV.kill, AV.killL, Mem.kill, Nat.reduceAdd, Nat.reduceEqDiff, Int.reduceAdd]
    refine awp_sound (own := []) _ _ _ _ _ ?_
    simp only [wB, awp, binC, cmpC, eqC, asG, asB, asI, asN, St.ev, St.step, setS, killS, AV.kill, AV.killL, Mem.kill, Nat.reduceAdd, Nat.reduceEqDiff, Int.reduceAdd, isNP, ptrN, asStr, nt32, decide_eq_false h0]
    exact aend_frz rfl ⟨rfl, rfl⟩
  have h22 := s22o n lm ls (by omega) h0
  have hT := (vN_ok h0).1
  simp only [trapA] at h22
  refine acall_os h22 (by simp [AV.pureL, AV.pure, prsA_pure]) ?_
  simp only [wB, awp, asT, asN, St.ev, St.step, setS, killS, AV.kill, AV.killL, Mem.kill, Nat.reduceAdd, Nat.reduceEqDiff, Int.reduceAdd, List.drop_zero, AV.sub, AV.subL, List.take_succ_cons, List.take_zero, AV.up, Ob.up, prsA_msub, new_sub]
  refine swp_le (σ' := ⟨[.bot, .s 1 (strsA l), S t, .p (.g [I n, .s 2 (prsA ls), I lm]) 0, .bot, .bot, .bot, .bot, .bot, .q 0 13 0 0, I 0, .bot, .bot, .bot, .bot, .bot, .bot, .bot, .bot, .bot, .bot, .bot, .bot, .bot, .bot, .bot, .bot, .bot, .bot, .bot, .bot, .bot, .bot, .bot, .bot, .bot, .bot, .bot, .bot, .bot, .bot, .bot, .bot, .bot, .bot, .bot, .bot, .bot, .bot, .bot, .bot, .bot, .bot, .bot, .bot, .bot, .bot, .bot, .bot, .bot, .bot, .bot, .bot, .bot, .bot, .bot, .bot, .bot, .bot, .bot, .bot, .bot, .bot, .bot, .bot, .bot, .bot, .bot, .bot, .bot, .bot, .bot, .bot, .bot, .bot, .bot, .bot, .bot, .bot, .bot, .bot, .bot, .bot, .bot, .bot, .bot, .bot, .bot, .bot, .bot, .bot, .bot, .bot, .bot, .bot, .bot, .bot, .bot, .bot, .bot, .bot, .bot, .bot, .bot, .bot, .bot, .bot, .bot, .bot, .bot, .bot, .bot, .bot, .bot, .bot, .bot, .bot, .bot, .bot, .bot, .bot, .bot, .bot, .bot, .bot, .bot, .bot, .bot, .bot, .bot, .bot, .bot, .bot, .bot, .bot, .bot, .bot, .bot, .bot, .bot, .bot, .bot, .bot, .bot, .bot, .bot, .bot, .bot, .bot, .bot, .bot, .bot, .bot, .bot, .bot, .bot, .bot, .bot, .bot, .bot, .bot, .bot, .bot, .bot, .bot, .bot, .bot, .bot, .bot, .bot, .bot, .bot, .bot, .bot, .bot, .bot, .bot, .bot, .bot, .bot, .bot, .bot, .bot, .bot, .bot, .bot, .bot, .bot, .bot, .bot, .bot, .bot, .bot, .bot, .bot, .bot, .bot, .bot, .bot, .bot], memD (mkM n lm ls [])⟩) (le_new (by simp [leSl, frz1, AV.sub, prsA_sub, prsA_msub])) ?_
  refine awp_sound (own := []) _ _ _ _ _ ?_
  simp only [wB, awp, binC, cmpC, eqC, asG, asB, asI, asN, Aw.newRow, St.ev, St.step, setS, killS, AV.kill, AV.killL, Mem.kill, Nat.reduceAdd, Nat.reduceEqDiff, Int.reduceAdd, isNP, ptrN, asStr, nt32, memD]
  refine swp_loop' (fun k : Nat => ⟨[.bot, .s 1 (strsA l), S t, .p (.g [I n, .s 2 (prsA ls), I lm]) 0, .bot, .bot, .bot, .bot, .bot, .q 0 13 0 0, .bot, .o 3, I k, .bot, .bot, .bot, .bot, .bot, .bot, .bot, .bot, .bot, .bot, .bot, .bot, .bot, .bot, .bot, .bot, .bot, .bot, .bot, .bot, .bot, .bot, .bot, .bot, .bot, .bot, .bot, .bot, .bot, .bot, .bot, .bot, .bot, .bot, .bot, .bot, .bot, .bot, .bot, .bot, .bot, .bot, .bot, .bot, .bot, .bot, .bot, .bot, .bot, .bot, .bot, .bot, .bot, .bot, .bot, .bot, .bot, .bot, .bot, .bot, .bot, .bot, .bot, .bot, .bot, .bot, .bot, .bot, .bot, .bot, .bot, .bot, .bot, .bot, .bot, .bot, .bot, .bot, .bot, .bot, .bot, .bot, .bot, .bot, .bot, .bot, .bot, .bot, .bot, .bot, .bot, .bot, .bot, .bot, .bot, .bot, .bot, .bot, .bot, .bot, .bot, .bot, .bot, .bot, .bot, .bot, .bot, .bot, .bot, .bot, .bot, .bot, .bot, .bot, .bot, .bot, .bot, .bot, .bot, .bot, .bot, .bot, .bot, .bot, .bot, .bot, .bot, .bot, .bot, .bot, .bot, .bot, .bot, .bot, .bot, .bot, .bot, .bot, .bot, .bot, .bot, .bot, .bot, .bot, .bot, .bot, .bot, .bot, .bot, .bot, .bot, .bot, .bot, .bot, .bot, .bot, .bot, .bot, .bot, .bot, .bot, .bot, .bot, .bot, .bot, .bot, .bot, .bot, .bot, .bot, .bot, .bot, .bot, .bot, .bot, .bot, .bot, .bot, .bot, .bot, .bot, .bot, .bot, .bot, .bot, .bot, .bot, .bot, .bot, .bot, .bot, .bot, .bot, .bot, .bot, .bot, .bot], memD (mkM n lm ls (doL n lm ls (l.take k))) ++ [some ⟨none, 9, 1, strsA (lgs n lm ls l k)⟩]⟩) (fun k => k ≤ l.length ∧ k ≤ 25) (fun k => 25 - k) 0 (le_sl' ?_ (by simp [leSl])) ⟨Nat.zero_le _, Nat.zero_le _⟩ ?_
  · simp [doL, lgs, memD, strsA]
  rintro k ⟨hk, hk25⟩
  have hA := doL_acc n lm ls (l.take k)
  refine awp_sound (own := [11, 1011, 1013, 1014]) _ _ _ _ _ ?_
  simp only [awp, ACond_true, List.contains_nil, List.contains_cons, beq_self_eq_true, nbeq, decide_false, Bool.or_false, Bool.or_true, Nat.reduceAdd, Nat.reduceEqDiff, Int.reduceAdd]
  refine swp_to ⟨[.bot, .s 1 (strsA l), S t, .p (.g [I n, .s 2 (prsA ls), I lm]) 0, .bot, .bot, .bot, .bot, .bot, .q 0 13 0 0, .bot, .o 3, I k, .bot, .bot, .bot, .bot, .bot, .bot, .bot, .bot, .bot, .bot, .bot, .bot, .bot, .bot, .bot, .bot, .bot, .bot, .bot, .bot, .bot, .bot, .bot, .bot, .bot, .bot, .bot, .bot, .bot, .bot, .bot, .bot, .bot, .bot, .bot, .bot, .bot, .bot, .bot, .bot, .bot, .bot, .bot, .bot, .bot, .bot, .bot, .bot, .bot, .bot, .bot, .bot, .bot, .bot, .bot, .bot, .bot, .bot, .bot, .bot, .bot, .bot, .bot, .bot, .bot, .bot, .bot, .bot, .bot, .bot, .bot, B (decide (k < l.length ∧ k < 25)), .bot, .bot, .bot, .bot, .bot, .bot, .bot, .bot, .bot, .bot, .bot, .bot, .bot, .bot, .bot, .bot, .bot, .bot, .bot, .bot, .bot, .bot, .bot, .bot, .bot, .bot, .bot, .bot, .bot, .bot, .bot, .bot, .bot, .bot, .bot, .bot, .bot, .bot, .bot, .bot, .bot, .bot, .bot, .bot, .bot, .bot, .bot, .bot, .bot, .bot, .bot, .bot, .bot, .bot, .bot, .bot, .bot, .bot, .bot, .bot, .bot, .bot, .bot, .bot, .bot, .bot, .bot, .bot, .bot, .bot, .bot, .bot, .bot, .bot, .bot, .bot, .bot, .bot, .bot, .bot, .bot, .bot, .bot, .bot, .bot, .bot, .bot, .bot, .bot, .bot, .bot, .bot, .bot, .bot, .bot, .bot, .bot, .bot, .bot, .bot, .bot, .bot, .bot, .bot, .bot, .bot, .bot, .bot, .bot, .bot, .bot, .bot, .bot, .bot, .bot, .bot, .bot, .bot, .bot, .bot, .bot, .bot, .bot, .bot, .bot], memD (mkM n lm ls (doL n lm ls (l.take k))) ++ [some ⟨none, 9, 1, strsA (lgs n lm ls l k)⟩]⟩ (awp_sound (own := []) _ _ _ _ _ ?_) ?_
  · simp only [wB, awp, binC, cmpC, asI, lenA, St.ev, St.step, setS, killS, AV.kill, AV.killL, Mem.kill, Nat.reduceAdd, Int.reduceAdd, lenK, strsA_len, strsA_len]
    by_cases h : k < l.length
    case neg =>
      simp only [wB, asB, St.ev, St.step, setS, killS, AV.kill, AV.killL, Mem.kill, decide_eq_false (show ¬ (k : Int) < l.length by omega)]
      exact le_sl (by simp [leSl, h])
    by_cases h4 : k < 25
    case neg =>
      simp only [wB, binC, cmpC, asB, asI, St.ev, St.step, setS, killS, AV.kill, AV.killL, Mem.kill, decide_eq_true (show (k : Int) < l.length by omega), decide_eq_false (show ¬ (k : Int) < 25 by omega)]
      exact le_sl (by simp [leSl, h4])
    simp only [wB, binC, cmpC, asB, asI, St.ev, St.step, setS, killS, AV.kill, AV.killL, Mem.kill, decide_eq_true (show (k : Int) < l.length by omega), decide_eq_true (show (k : Int) < 25 by omega)]
    exact le_sl (by simp [leSl, h, h4])
  simp only [w_some, awp, asB, St.ev, List.getD_cons_succ, List.getD_cons_zero]
  by_cases hb : k < l.length ∧ k < 25
  · simp only [awp, ACond_true, List.contains_nil, List.contains_cons, beq_self_eq_true, nbeq, decide_false, Bool.or_false, Bool.or_true, Nat.reduceAdd, Nat.reduceEqDiff, Int.reduceAdd, decide_eq_true hb]
    refine swp_fs (own := [11]) [false, false, true, false, false, false] ?_
    simp only [wB, St.ev, St.step, setS, killS, AV.kill, AV.killL, Mem.kill, memD]
    refine acall_f (fT (m23 _ (sml_of hA)) [some ⟨none, 9, 1, strsA (lgs n lm ls l k)⟩] (q0_free _ _ _ rfl) (tS _ _)) ?_
    simp only [wB, awp, asO, asS, asN, obA, St.ev, St.step, setS, killS, AV.kill, AV.killL, Mem.kill, AV.cells, AV.flat, AV.single, AV.cellular, AV.size, AV.pure, AV.pureL, Value.oneCell', Nat.reduceAdd, Nat.reduceEqDiff, Nat.reduceMul, Nat.reduceLeDiff, Int.reduceAdd, Int.reduceMul, strsA_len, memD, AV.sub, keepF, keepG, liveI, AV.isO, AV.isQ, List.any_cons, List.any_nil]
    refine ⟨⟨by decide, rfl⟩, ⟨by decide, by rw [lgs_len]; omega⟩, swp_le (σ' := ⟨[.bot, .s 1 (strsA l), S t, .p (.g [I n, .s 2 (prsA ls), I lm]) 0, .bot, .bot, .bot, .bot, .bot, .q 0 13 0 0, .bot, .o 3, I k, .bot, .bot, .bot, .bot, .bot, .bot, .bot, .bot, .bot, .bot, .bot, .bot, .bot, .bot, .bot, .bot, .bot, .bot, .bot, .bot, .bot, .bot, .bot, .bot, .bot, .bot, .bot, .bot, .bot, .bot, .bot, .bot, .bot, .bot, .bot, .bot, .bot, .bot, .bot, .bot, .bot, .bot, .bot, .bot, .bot, .bot, .bot, .bot, .bot, .bot, .bot, .bot, .bot, .bot, .bot, .bot, .bot, .bot, .bot, .bot, .bot, .bot, .bot, .bot, .bot, .bot, .bot, .bot, .bot, .bot, .bot, .bot, .bot, .bot, .bot, .bot, .bot, .bot, .bot, .bot, .bot, .bot, .bot, .bot, .bot, .bot, .bot, .bot, .bot, .bot, .bot, .bot, .bot, .bot, .bot, .bot, .bot, .bot, .bot, .bot, .bot, .bot, .bot, .bot, .bot, .bot, .bot, .bot, .bot, .bot, .bot, .bot, .bot, .bot, .bot, .bot, .bot, .bot, .bot, .bot, .bot, .bot, .bot, .bot, .bot, .bot, .bot, .bot, .bot, .bot, .bot, .bot, .bot, .bot, .bot, .bot, .bot, .bot, .bot, .bot, .bot, .bot, .bot, .bot, .bot, .bot, .bot, .bot, .bot, .bot, .bot, .bot, .bot, .bot, .bot, .bot, .bot, .bot, .bot, .bot, .bot, .bot, .bot, .bot, .bot, .bot, .bot, .bot, .bot, .bot, .bot, .bot, .bot, .bot, .bot, .bot, .bot, .bot, .bot, .bot, .bot, .bot, .bot, .bot, .bot, .bot, .bot, .bot, .bot, .bot, .bot, .bot, .bot, .bot, .bot, .bot, .bot], memD (mkM n lm ls (doL n lm ls (l.take k))) ++ [some ⟨none, 9, 1, strsA (lgs n lm ls l (k + 1))⟩]⟩) (le_sl' ?_ (by simp [leSl])) ?_⟩
    · rw [lgs_succ, strsA_kill, strsA_app]
      simp [memD, Mch.ob, Mch.od, Mch.cells, AV.killL, AV.kill, strsA_kill, mkM]
    refine swp_fs (own := [11]) [false, false, false, false, false, true] ?_
    simp only [wB, idxC, asP, asS, asI, loadA, St.ev, St.step, setS, killS, AV.kill, AV.killL, Mem.kill, AV.cells, AV.flat, AV.single, memD, aget_strs hb.1, Int.toNat_natCast]
    refine ⟨by omega, acall_f (f24T n lm ls hT (by omega) _ hA l[k] (hs _ (List.getElem_mem hb.1)) [some ⟨none, 9, 1, strsA (lgs n lm ls l (k + 1))⟩] (tS _ _)) ?_⟩
    simp only [wB, awp, binC, arithC, cmpC, asI, asN, St.ev, St.step, setS, killS, AV.kill, AV.killL, Mem.kill, Nat.reduceAdd, Nat.reduceEqDiff, Int.reduceAdd, isU, memD, AV.sub, keepF, keepG, liveI, AV.isO, AV.isQ, List.any_cons, List.any_nil]
    refine ⟨by unfold lim; omega, k + 1, le_sl' ?_ (by simp [leSl]), ⟨hb.1, hb.2⟩, by omega⟩
    simp [doL_take hb.1, memD]
  simp only [awp, ACond_true, ACond_false, List.contains_nil, List.contains_cons, if_true, beq_self_eq_true, nbeq, decide_false, Bool.or_false, Bool.or_true, Nat.reduceAdd, Nat.reduceEqDiff, Int.reduceAdd, decide_eq_false hb]
  refine swp_fs (own := [11]) [false, true, false] ?_
  simp only [wB, St.ev, St.step, setS, killS, AV.kill, AV.killL, Mem.kill, memD]
  refine acall_f (fT (m23 _ (sml_of hA)) [some ⟨none, 9, 1, strsA (lgs n lm ls l k)⟩] (q0_free _ _ _ rfl) (tS _ _)) ?_
  simp only [wB, awp, asN, St.ev, St.step, setS, killS, AV.kill, AV.killL, Mem.kill, Nat.reduceAdd, Nat.reduceEqDiff, Int.reduceAdd, memD, AV.sub, keepF, keepG, liveI, AV.isO, AV.isQ, List.any_cons, List.any_nil]
  have hsm := lg_small hA
  have hpr : ∀ i, i < k → doL n lm ls (l.take i) <+: doL n lm ls (l.take k) := fun i hi => doL_pre n lm ls l i k (by omega) hk
  have hA2 : ∀ i, i < k → (lg 0 (doL n lm ls (l.take i))).length ≤ 10000 := fun i _ => lg_small (doL_acc n lm ls (l.take i))
  generalize hYe : doL n lm ls (l.take k) = Y at *
  refine swp_loop' (fun i : Nat => ⟨[.bot, .bot, S t, .p (.g [I n, .s 2 (prsA ls), I lm]) 0, .bot, .bot, .bot, .bot, .bot, .bot, .bot, .o 3, .bot, S (lg 0 Y), I i, .bot, .bot, .bot, .bot, .bot, .bot, .bot, .bot, .bot, .bot, .bot, .bot, .bot, .bot, .bot, .bot, .bot, .bot, .bot, .bot, .bot, .bot, .bot, .bot, .bot, .bot, .bot, .bot, .bot, .bot, .bot, .bot, .bot, .bot, .bot, .bot, .bot, .bot, .bot, .bot, .bot, .bot, .bot, .bot, .bot, .bot, .bot, .bot, .bot, .bot, .bot, .bot, .bot, .bot, .bot, .bot, .bot, .bot, .bot, .bot, .bot, .bot, .bot, .bot, .bot, .bot, .bot, .bot, .bot, .bot, .bot, .bot, .bot, .bot, .bot, .bot, .bot, .bot, .bot, .bot, .bot, .bot, .bot, .bot, .bot, .bot, .bot, .bot, .bot, .bot, .bot, .bot, .bot, .bot, .bot, .bot, .bot, .bot, .bot, .bot, .bot, .bot, .bot, .bot, .bot, .bot, .bot, .bot, .bot, .bot, .bot, .bot, .bot, .bot, .bot, .bot, .bot, .bot, .bot, .bot, .bot, .bot, .bot, .bot, .bot, .bot, .bot, .bot, .bot, .bot, .bot, .bot, .bot, .bot, .bot, .bot, .bot, .bot, .bot, .bot, .bot, .bot, .bot, .bot, .bot, .bot, .bot, .bot, .bot, .bot, .bot, .bot, .bot, .bot, .bot, .bot, .bot, .bot, .bot, .bot, .bot, .bot, .bot, .bot, .bot, .bot, .bot, .bot, .bot, .bot, .bot, .bot, .bot, .bot, .bot, .bot, .bot, .bot, .bot, .bot, .bot, .bot, .bot, .bot, .bot, .bot, .bot, .bot, .bot, .bot, .bot, .bot, .bot, .bot, .bot], memD (mkM n lm ls Y) ++ [some ⟨none, 9, 1, strsA (lgs n lm ls l k)⟩]⟩) (fun i => i ≤ k) (fun i => k - i) 0 (le_sl' ?_ (by simp [leSl, mkM])) (Nat.zero_le _) ?_
  · simp [memD]
  intro i hi
  refine awp_sound (own := []) _ _ _ _ _ ?_
  simp only [wB, awp, binC, cmpC, asB, asI, lenA, St.ev, St.step, setS, killS, AV.kill, AV.killL, Mem.kill, Nat.reduceAdd, Int.reduceAdd, lenK, strsA_len, memD, strsA_len, lgs_len]
  by_cases h : i < k
  · have hg : i < (lgs n lm ls l k).length := by rw [lgs_len]; exact h
    simp only [wB, awp, idxC, asP, asQ, asO, asS, asI, obA, loadA, St.ev, St.step, setS, killS, AV.kill, AV.killL, Mem.kill, AV.cells, AV.flat, AV.single, Nat.reduceAdd, Int.reduceAdd, strsA_len, decide_eq_true (show (i : Int) < k by omega), strsA_len, lgs_len, aget_strs hg, Int.toNat_natCast, lgs_at hg]
    have e1 := mg_pre (hpr i h) hA.inv.1 hA.ords
    have h25 := s25 (lg 0 (doL n lm ls (l.take i))) (lg 0 Y) (by have := hA2 i h; omega) (by omega)
    have h25' := s25 (lg 0 Y) (lg 0 (doL n lm ls (l.take i))) (by omega) (by have := hA2 i h; omega)
    rw [mg_flip] at h25'
    rw [e1] at h25 h25'
    refine ⟨⟨by omega, by omega⟩, acall_v h25 rfl rfl ?_⟩
    simp only [wB, awp, idxC, asP, asQ, asO, asS, asT, asI, asN, obA, loadA, St.ev, St.step, setS, killS, AV.kill, AV.killL, Mem.kill, AV.cells, AV.flat, AV.single, Nat.reduceAdd, Int.reduceAdd, strsA_len, strsA_len, lgs_len, aget_strs hg, Int.toNat_natCast, lgs_at hg]
    refine ⟨⟨by omega, by omega⟩, acall_v h25' rfl rfl ?_⟩
    simp only [wB, awp, binC, arithC, cmpC, eqC, asT, asG, asB, asI, asN, St.ev, St.step, setS, killS, AV.kill, AV.killL, Mem.kill, Nat.reduceAdd, Int.reduceAdd, isU, asStr, strC]
    exact ⟨by unfold lim; omega, i + 1, le_sl' (by simp [memD]) (by simp [leSl]), h, by omega⟩
  simp only [wB, awp, binC, eqC, asG, asB, asI, St.ev, St.step, setS, killS, AV.kill, AV.killL, Mem.kill, Nat.reduceAdd, Nat.reduceEqDiff, Int.reduceAdd, asStr, strC, decide_eq_false (show ¬ (i : Int) < k by omega)]
  have h19t := s19 (lg 0 Y ++ t) (by simp; omega)
  have h19y := s19 (lg 0 Y) (by omega)
  rw [rd_acc hA] at h19y
  obtain ⟨w1, w2⟩ := rd_wr (lg 0 Y ++ t)
  have hmore := rd_more hA.inv.1 hA.ords t
  have h26 := s26 (rd 100 0 (lg 0 Y ++ t)).1
  rw [w1] at h26
  have hE : (rd 100 0 (lg 0 Y ++ t)).2 ≠ [] → rpO n lm ls (lg 0 Y ++ t) = (0, 10) := fun h => by unfold rpO; rw [if_neg (fun g => g h0), if_pos h]
  have h27 := s27 n lm ls (by omega) (lg 0 Y ++ t) (by simp; omega)
  unfold rpP rpM at h27
  have hlen : (lg 0 (rd 100 0 (lg 0 Y ++ t)).1).length + (rd 100 0 (lg 0 Y ++ t)).2.length = (lg 0 Y ++ t).length := by rw [← List.length_append, w2]
  rw [List.length_append] at hlen
  generalize (rd 100 0 (lg 0 Y ++ t)).1 = p at *
  generalize (rd 100 0 (lg 0 Y ++ t)).2 = u at *
  refine ⟨by omega, acall_v h19t rfl (by simp [AV.pure, AV.pureL, strsA_pure]) ?_⟩
  simp only [wB, awp, asT, asN, St.ev, St.step, setS, killS, AV.kill, AV.killL, Mem.kill, Nat.reduceAdd, Nat.reduceEqDiff, Int.reduceAdd]
  refine acall_v h19y rfl (by simp [AV.pure, AV.pureL, strsA_pure]) ?_
  simp only [wB, awp, asT, asN, St.ev, St.step, setS, killS, AV.kill, AV.killL, Mem.kill, Nat.reduceAdd, Nat.reduceEqDiff, Int.reduceAdd]
  refine acall_v h26 (by simp [AV.pureL, AV.pure, strsA_pure]) rfl ?_
  simp only [wB, awp, binC, cmpC, eqC, asT, asG, asB, asI, asN, lenA, St.ev, St.step, setS, killS, AV.kill, AV.killL, Mem.kill, Nat.reduceAdd, Nat.reduceEqDiff, Int.reduceAdd, asStr, strC, lenK, strsA_len, w2, strsA_len, decide_eq_false (show ¬ (p.length : Int) < Y.length by omega)]
  refine ⟨by omega, by omega, ?_⟩
  by_cases hu : u = []
  · subst hu
    simp only [wB, awp, asN, St.ev, St.step, setS, killS, AV.kill, AV.killL, Mem.kill, Nat.reduceAdd, Nat.reduceEqDiff, Int.reduceAdd]
    exact aend_frz rfl ⟨rfl, rfl⟩
  have hE := hE hu
  rw [hE, if_neg (by decide), if_neg (by decide)] at h27
  simp only [trapA] at h27
  simp only [wB, awp, binC, eqC, asP, asG, asB, asI, loadA, St.ev, St.step, setS, killS, AV.kill, AV.killL, Mem.kill, AV.cells, AV.flat, AV.single, Nat.reduceAdd, Nat.reduceEqDiff, Nat.reduceLeDiff, Int.reduceAdd, asStr, strC, decide_eq_false hu]
  refine ⟨by omega, acall_v h27 (by simp [AV.pureL, AV.pure, prsA_pure]) rfl ?_⟩
  simp only [wB, awp, binC, cmpC, eqC, asT, asG, asB, asI, asN, St.ev, St.step, setS, killS, AV.kill, AV.killL, Mem.kill, Nat.reduceAdd, Nat.reduceEqDiff, Int.reduceAdd, isNP, ptrN, asStr, nt32, Int.natCast_zero]
  exact aend_frz rfl ⟨rfl, rfl⟩
end Go.Proofs.YtndniceeibflcaaGreatDoor

namespace Go.Proofs.YtndniceeibflcaaGreatDoor
open Aw Go.ChangeShapes Go.WideShapes Go.ChangeAt Go.RowKit Go.Deep Go.Joins

set_option maxRecDepth 100000 in
theorem topLog_lifted (os : Os) (started : os.Started) (H : Type) (enc : TypeId × Value → H) :
    ReturnsInHanded {} Tryz.checked os 3 .any (fun w args => (Rows.topLogSpec.pre enc Tryz.prog Tryz.f3 [] false w args ∧ laidMetH Tryz.prog Rows.topLogRow.laid w) ∧ sizedMet enc Tryz.prog Tryz.f3 (OpenSpec.ofChange Rows.topLogSpec) false w args)
      (Rows.topLogSpec.post enc Tryz.prog Tryz.f3 false true false false) := by
  refine returns_laid (C := Tryz.checked) (X := fun w _ => laidMetH Tryz.prog Rows.topLogRow.laid w) (fun _ _ _ hh h => h.of_heap hh) Tryz.own started (by kernel_rfl) Tryz.func3
    (ChangeSpec.witness_at (enc := enc) (C := Tryz.checked) (os := os) (X := fun w _ => laidMetH Tryz.prog Rows.topLogRow.laid w) false (laidWorld os) #[.agg #[.int .i64 0, .slice none 0 0, .int .i64 0], .slice none 0 0, .string ⟨#[]⟩] 8 rfl (by kernel_rfl) (by kernel_rfl) (by kernel_rfl) (by kernel_rfl) (by kernel_rfl) (laidWorld_met os _)) ?_
  intro W base args ds gs before hval0 hW hsz hL hsh
  have hval : ∀ (j : Nat) t v, Tryz.f3.params[j]? = some t → args[j]? = some v → Value.okWide Tryz.prog W .any base t v := hval0
  have hG : GOk W := gok_of hL hsh
  have hW' := hW
  obtain ⟨p, q, hA0, hV, rfl, hfz, hnd⟩ := hW
  have hA : DataW.TrodAll enc Tryz.prog W 0 (fun _ => true) true Tryz.f3.params.toList args.toList ds p := hA0
  rw [Tryz.params3] at hA hval hsz
  obtain ⟨v0, v1, v2, d0, d1, d2, p0, p1, p2, rfl, rfl, rfl, h0, h1, h2⟩ := trodAll_three hA
  obtain ⟨rfl, rfl⟩ := trodVars_none hV
  obtain ⟨n0, ls0, lm0, r0⟩ := sa_lab (hval 0 26 v0 rfl rfl) h0
  obtain ⟨l1, r1, b1⟩ := sa_strs (hval 1 27 v1 rfl rfl) h1
  obtain ⟨o2, r2, e2, b2⟩ := sa_str (hval 2 9 v2 rfl rfl) h2
  have w2 : o2.length ≤ reachBytes := by
    subst e2
    simp only [List.append_nil, List.cons_append, List.nil_append, DataW.weightsEach, DataW.weights, List.all_append, List.all_cons, List.all_nil, Bool.and_true, Bool.and_eq_true, decide_eq_true_eq] at hsz
    omega
  unfold reachBytes at w2
  clear hA0 hval0
  simp only [List.append_nil] at hW'
  have hlt : ∀ x ∈ p0 ++ p1 ++ p2, x.block < W.heap.size := fun x hx => hW'.lt x (by simpa using hx)
  refine (calls_true (s3 n0 lm0 ls0 l1 b1 o2) (vs := [v0, v1, v2]) (by simp only [RVL]; exact ⟨_, _, rfl, r0, _, _, rfl, r1, _, _, rfl, r2, rfl⟩) hG).mono fun e W' ⟨he, hb⟩ => ?_
  subst he
  refine ⟨_, rfl, law_shut hW' hb rfl (fun _ _ _ => trodAll_mk1 (shut_bool Tryz.underlying4 true)) (fun sp hsp => ?_) rfl (ok_one (by kernel_rfl) rfl (okWide_bool_mk Tryz.underlying4 true))⟩
  have g := trodAll_mk3 (arg_stays Tryz.laidOut rr26 lt26 h0 hb (fun x hx => hlt x (by simp [hx])) (sp := sp) (fun x hx => hsp x (by simp [hx])))
    (arg_stays Tryz.laidOut rr27 lt27 h1 hb (fun x hx => hlt x (by simp [hx])) (sp := sp) (fun x hx => hsp x (by simp [hx])))
    (arg_stays Tryz.laidOut rr9 lt9 h2 hb (fun x hx => hlt x (by simp [hx])) (sp := sp) (fun x hx => hsp x (by simp [hx])))
  rw [← List.append_assoc] at g
  exact g

theorem topLog_func : Tryz.prog.funcNamed "quadrupole/quadrupoletop.TopLog" = some 3 := by kernel_rfl
theorem topLog_k10 : (Rows.topLogRow.inPlace == Tryz.prog.inPlace 3) = true := by kernel_rfl
theorem topLog_k11 : (Rows.topLogRow.unfollowed == Tryz.prog.unfollowed 3) = true := by kernel_rfl
theorem topLog_k12 : (Rows.topLogRow.recurses == Tryz.prog.recurses 3) = true := by kernel_rfl
theorem topLog_k13 : (Rows.topLogRow.named == Tryz.prog.varsNamed 3) = true := by kernel_rfl
theorem topLog_closed : joinedFacts Tryz.prog 3 Tryz.f3 Rows.topLogSpec Rows.topLogRow = true :=
  joined_of (by kernel_rfl) (by kernel_rfl) (by kernel_rfl) rfl rfl topLog_k10 topLog_k11 topLog_k12 topLog_k13 (by kernel_rfl) Tryz.keysE rfl Tryz.lifts Tryz.made (by kernel_rfl)
theorem topLog_goes : false = Rows.topLogRow.goesBy Tryz.prog := by kernel_rfl
theorem topLog_row : Rows.TopLogSaid :=
  OpenClaim.holds_of_wide 3 Tryz.f3 rfl rfl rfl rfl rfl rfl rfl ⟨rfl, rfl, rfl, rfl, rfl⟩ rfl rfl rfl rfl rfl topLog_func Tryz.func3 topLog_closed
    (of_decide_eq_true (by kernel_rfl)) (by unfold Func.isWrapper; rw [if_neg (of_decide_eq_false (by kernel_rfl))]; exact ⟨rfl, rfl⟩)
    (fun os started H enc _ => topLog_lifted os started H enc)

theorem topLog_holds : Rows.TopLogCardSaid :=
  Claim7.holds_tied_plain_at .later [] [.data, .data, .data, .data, .handle, .sentinel, .sentinel, .pinned] true (true, "aa03d57e40d7f46a321b7a338959e31570b187a828c7cad4885241d6f19c00d7") true
    topLog_row (fun _ h => by cases h) (by kernel_rfl) (fun _ h => by cases h) topLog_row_tie rfl ⟨rfl, rfl⟩ Tryz.mainE rfl
    (fun f fn hf hfn => by
      obtain rfl : f = 3 := Option.some.inj (topLog_func.symm.trans hf) |>.symm
      obtain rfl : fn = Tryz.f3 := (Option.some.inj (Tryz.func3.symm.trans hfn)).symm
      refine ⟨Tryz.looksE, fun j t ht => ?_⟩
      rw [Tryz.params3] at ht
      have h3 := Array.mem_of_getElem? ht
      simp only [List.mem_toArray, List.mem_cons, List.not_mem_nil, or_false] at h3
      rcases h3 with rfl | rfl | rfl
      · exact Tryz.st26
      · exact Tryz.st27
      · exact Tryz.st9)
    topLog_goes
end Go.Proofs.YtndniceeibflcaaGreatDoor
