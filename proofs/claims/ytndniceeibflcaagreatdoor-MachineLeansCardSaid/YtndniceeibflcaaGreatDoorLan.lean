/-
  Parts of several texts in one: MyA, MyB, MyC, MyD, MyE, MxH, MyG, MyI, NcA, MyK, MyL, NdA, NdB, NdC, NdE, MyP, NdD.
-/
import Derived.Test.YtndniceeibflcaaGreatDoorProg
import Derived.WalkKit
import Derived.Lib.ConvBytes
import Derived.LaidEql
import Derived.Lib.ItoaNum
import Derived.Lib.LaidTab
import Derived.KernelRfl
import GoSem.Claims
import GoSem.ClaimJoined
import Derived.Orders
import Derived.Laws.StructEq
import Derived.Maps.Keyed
import Derived.Lib.Strings
import Derived.Maps.AppendAt
import Derived.Laws.Concat
import Derived.MapKept
import Derived.Laws.MakeOwn
import Derived.Scope
import Derived.Laws.BitsLemmas
import Derived.Maps.RangeRun
import Derived.StillTail
import Derived.OrdersIn
import Derived.TacticsIn
import Derived.RangeFuncRecord
import Derived.RangeFuncCalls
import Derived.RangeFuncSeq
import Derived.Lib.Split
import Derived.Lib.AtoiAll
import Derived.Shelf.LaysM
import Derived.Shelf.LaysC
import Derived.Shelf.Strconv.Itoa3
import Derived.Shelf.Strconv.AtoiAll
import Derived.Shelf.Strings.Search3
import Derived.Shelf.Strings.Cut
import Derived.Shelf.Strings.Prefix
import Derived.Shelf.Strings.Split
import Derived.Lib.AppendIntMem
import Derived.Stop.Asserts
import Derived.RowKitTokens
import Derived.Conc.MuLone
import Derived.Test.YtndniceeibflcaaGreatDoorRows
import Derived.Test.YtndniceeibflcaaGreatDoorChecked
import Derived.ChangeSame
import Derived.ChangeVars
import Derived.JoinedOf
import Derived.ProofKit
import Derived.RowKit
import Derived.LaidLaws
import Derived.LaidHandle
import Derived.LaidMore
import Derived.Stop.Joined
import Derived.Stop.LaidErr
import Derived.HandedShaped
import Derived.Shelf.Vars
import Derived.Deep.Slices
import Derived.Deep.Strs
import Derived.Deep.Fields
import Derived.Lib.SmallJoins
import Derived.SliceStrings
import Derived.ChangeMaps5
import Derived.Shelf.RegionOpenPlain
import Derived.Deep.LoopGhost
import Derived.Deep.RegionLaw
import Derived.Lib.Walk
import Derived.Sort.WalkB12
import Derived.Lib.SliceRun
import Derived.Lib.SlicesDelete
import Derived.Test.YtndniceeibflcaaGreatDoorLaa
import Derived.Test.YtndniceeibflcaaGreatDoorLab
import Derived.Test.YtndniceeibflcaaGreatDoorLac
import Derived.Test.YtndniceeibflcaaGreatDoorLad
import Derived.Test.YtndniceeibflcaaGreatDoorLae
import Derived.Test.YtndniceeibflcaaGreatDoorLag
import Derived.Test.YtndniceeibflcaaGreatDoorLah
import Derived.Test.YtndniceeibflcaaGreatDoorLai
import Derived.Test.YtndniceeibflcaaGreatDoorLaj
import Derived.Test.YtndniceeibflcaaGreatDoorLak
import Derived.Test.YtndniceeibflcaaGreatDoorLal
import Derived.Test.YtndniceeibflcaaGreatDoorLam
set_option linter.unusedSimpArgs false
set_option linter.unusedVariables false
namespace Go.Proofs.YtndniceeibflcaaGreatDoor
namespace Aw
end Aw
namespace Mp
end Mp
end Go.Proofs.YtndniceeibflcaaGreatDoor
namespace Go.Proofs.YtndniceeibflcaaGreatDoor
open Aw Mp Go.RowKit
set_option linter.unusedSimpArgs false
set_option maxRecDepth 8000

theorem cells_sub (F : Nat → AV) (G : Nat → Nat → Nat → Nat → AV) (m : Mch) (i : Nat) : AV.subL F G [m.cells (.s 2 (prsA m.ls)) (.o i)] = [m.cells (.s 2 (prsA m.ls)) (F i)] := rfl

theorem mA (k : Nat) {f : FuncId} {ars : List AV} {x : AV} {m m' : Mch} (h : MSpec Tryz.prog f (.q 0 13 0 0 :: ars) (memD m) (fun r N => r = x ∧ N = memD m')) (ha : AV.pureL ars = true) (hx : x.pure = true) :
    MSpec Tryz.prog f (.q k 13 0 0 :: ars) (memA k m) (fun r N => r = x ∧ N = memA k m') := by
  have hnd : [k, k + 1, k + 2].Nodup := by simp
  have e0 := idx_of hnd (i := k) (j := 0) rfl
  have e1 := idx_of hnd (i := k + 1) (j := 1) rfl
  have e2 := idx_of hnd (i := k + 2) (j := 2) rfl
  have hF2 : reF [k, k + 1, k + 2] (k + 2) = .o 2 := by unfold reF; rw [e2]
  have hG : reG [k, k + 1, k + 2] k 13 0 0 = .q 0 13 0 0 := by unfold reG; rw [e0]
  have hars : ∀ F G, ars.map (AV.sub F G) = ars := fun F G => by rw [← AV.subL_map]; exact subL_pure F G ha
  have key := MSpec.ren (aT := .q k 13 0 0 :: ars) (K := memA k m) h [k, k + 1, k + 2] hnd (by simp only [List.map_cons, AV.sub, hG, hars]) (by
      unfold reM
      simp only [List.map_cons, List.map_nil]
      rw [show (memA k m)[k]? = some (some (m.obA (k + 2))) from memA_hi 0, memA_hi 1, memA_hi 2]
      simp only [List.getElem?_cons_succ, List.getElem?_cons_zero, Option.getD_some, Option.map_some, Option.map_none]
      have e3 : AV.subL (reF [k, k + 1, k + 2]) (reG [k, k + 1, k + 2]) (m.obA (k + 2)).xs = m.ob.xs := by
        show AV.subL _ _ [m.cells (.s 2 (prsA m.ls)) (.o (k + 2))] = _
        rw [cells_sub, hF2]
        rfl
      have e4 : AV.subL (reF [k, k + 1, k + 2]) (reG [k, k + 1, k + 2]) m.od.xs = m.od.xs := strsA_sub _ _ _
      rw [e3, e4]
      rfl) (by simp only [List.map_cons, hars]; rfl) (fun i hi => by
      rw [memA_len]
      simp only [List.mem_cons, List.not_mem_nil, or_false] at hi
      omega) (fun i hi => by
      rcases Nat.lt_or_ge i k with h1 | h1
      · exact .inr (memA_lo h1)
      · refine .inl (List.getElem?_eq_none ?_)
        rw [memA_len]
        simp only [List.mem_cons, List.not_mem_nil, or_false] at hi
        omega)
  have hM : baM [k, k + 1, k + 2] (memA k m).length (memD m') = memA k m' := by
    apply List.ext_getElem?
    intro i
    unfold baM
    rw [memA_len, List.getElem?_map]
    rcases Nat.lt_or_ge i (k + 3) with h1 | h1
    · rw [List.getElem?_range h1, Option.map_some]
      rcases Nat.lt_or_ge i k with h2 | h2
      · have : [k, k + 1, k + 2].idxOf? i = none := by
          rw [List.idxOf?_eq_none_iff]
          simp only [List.mem_cons, List.not_mem_nil, or_false]
          omega
        rw [this, memA_lo h2]
      · obtain ⟨d, rfl⟩ : ∃ d, i = k + d := ⟨i - k, by omega⟩
        rw [memA_hi]
        match d, h1 with
        | 0, _ => rw [show k + 0 = k from rfl, e0]; rfl
        | 1, _ => rw [e1]; rfl
        | 2, _ =>
          rw [e2]
          have e4 : AV.subL (baF [k, k + 1, k + 2]) (baG [k, k + 1, k + 2]) m'.od.xs = m'.od.xs := strsA_sub _ _ _
          show some (some { m'.od with xs := AV.subL (baF [k, k + 1, k + 2]) (baG [k, k + 1, k + 2]) m'.od.xs }) = _
          rw [e4]
          rfl
        | d + 3, h => exact absurd h (by omega)
    · rw [List.getElem?_eq_none (by simpa using h1), List.getElem?_eq_none (by rw [memA_len]; exact h1)]
      rfl
  rw [hM, AV.sub_pure _ _ _ hx] at key
  exact key

theorem combR_rep (F : Nat → AV) (G : Nat → Nat → Nat → Nat → AV) : ∀ (T X Y Z : Mem), combR F G (List.replicate T.length none ++ X) (T ++ Y) (List.replicate T.length none ++ Z) = (T.map fun c => c.map fun ob => { ob with xs := AV.subL F G ob.xs }) ++ combR F G X Y Z
  | [], _, _, _ => rfl
  | c :: T, X, Y, Z => by simp only [List.length_cons, List.replicate_succ, List.cons_append, combR, List.drop_succ_cons, List.drop_zero, List.map_cons, combR_rep F G T X Y Z]
theorem subM_rep : ∀ (T X Y : Mem), subM X Y → subM (List.replicate T.length none ++ X) (T ++ Y)
  | [], _, _, h => h
  | c :: T, X, Y, h => by
    simp only [List.length_cons, List.replicate_succ, List.cons_append]
    exact subM_rep T X Y h
theorem not_dead {M : Mem} {n i : Nat} (h : liveI M i = true) : (deadL M n).contains i = false := by
  cases hc : (deadL M n).contains i with
  | false => rfl
  | true =>
    have hm := List.contains_iff_mem.1 hc
    unfold deadL at hm
    have := (List.mem_filter.1 hm).2
    rw [h] at this
    cases this
/-- a function is lent a machine that lies at k; T1 lies before it, T2 behind it. -/
theorem fA {f : FuncId} {ars : List AV} {x : AV} {m m' : Mch} (T1 T2 : Mem) (h : MSpec Tryz.prog f (.q 0 13 0 0 :: ars) (memD m) (fun r N => r = x ∧ N = memD m')) (ha : AV.pureL ars = true) (hx : x.pure = true) (k : Nat) (hk : T1.length = k)
    (h1 : (T1.map fun c => c.map fun ob => { ob with xs := AV.subL (keepF (memA k m) (.q k 13 0 0 :: ars)) (keepG (memA k m) (.q k 13 0 0 :: ars)) ob.xs }) = T1)
    (h2 : (T2.map fun c => c.map fun ob => { ob with xs := AV.subL (keepF (memA k m) (.q k 13 0 0 :: ars)) (keepG (memA k m) (.q k 13 0 0 :: ars)) ob.xs }) = T2) :
    FSpec Tryz.prog f (.q k 13 0 0 :: ars) (memA k m) (T1 ++ some (m.obA (k + 2)) :: none :: some m.od :: T2) x (T1 ++ some (m'.obA (k + 2)) :: none :: some m'.od :: T2) := by
  have hs := mA k h ha hx
  have l0 : liveI (memA k m) k = true := liveI_some (memA_hi 0)
  have l2 : liveI (memA k m) (k + 2) = true := liveI_some (memA_hi 2)
  refine fspec_of hs _ ?_ ?_ rfl ?_ ?_ ?_
  · simp [lvL, memA]
  · subst hk
    exact subM_rep T1 _ _ ⟨rfl, rfl, trivial⟩
  · simp only [AV.freeL, AV.free, freeL_pure _ ha, not_dead l0, Bool.not_false, Bool.and_self]
  · have e2 := not_dead (n := (T1 ++ some (m.obA (k + 2)) :: none :: some m.od :: T2).length) l2
    generalize deadL (memA k m) _ = Z at e2 ⊢
    unfold freeM memA
    rw [List.all_append, Bool.and_eq_true]
    refine ⟨?_, ?_⟩
    · rw [List.all_eq_true]
      intro o ho
      rw [List.eq_of_mem_replicate ho]
    · simp [Mch.obA, Mch.od, Mch.cells, AV.freeL, AV.free, strsA_free, -List.contains_eq_mem, e2]
  · generalize keepF (memA k m) (.q k 13 0 0 :: ars) = F at *
    generalize keepG (memA k m) (.q k 13 0 0 :: ars) = G at *
    subst hk
    unfold memA
    rw [combR_rep, h1]
    show _ ++ (some (m'.obA _) :: none :: some m'.od :: combR F G [] T2 []) = _
    rw [combR_tail, h2]
end Go.Proofs.YtndniceeibflcaaGreatDoor

namespace Go.Proofs.YtndniceeibflcaaGreatDoor
open Aw Mp Go.RowKit
set_option linter.unusedSimpArgs false
set_option maxRecDepth 8000

/-- a log is replayed: the number of orders, and the error. -/
def rpO (n lm : Int) (ls : List (Int × Int)) (t : By) : Nat × Int := if vN n lm ls ≠ 0 then (0, vN n lm ls) else if (rd 100 0 t).2 ≠ [] then (0, 10) else rpL n lm ls [] (rd 100 0 t).1
theorem acc_snoc {n lm : Int} {ls : List (Int × Int)} {l : List By} {k : Nat} (h : k < l.length) (hA : Acc n lm ls (l.take k)) (he : erO n lm ls (l.take k) l[k] = 0) : Acc n lm ls (l.take (k + 1)) := by
  rw [← List.take_append_getElem h]
  exact .snoc hA he
theorem rpL_at {n lm : Int} {ls : List (Int × Int)} {l : List By} {k : Nat} (h : k < l.length) : rpL n lm ls (l.take k) (l.drop k) = if erO n lm ls (l.take k) l[k] = 0 then rpL n lm ls (l.take (k + 1)) (l.drop (k + 1)) else (k, erO n lm ls (l.take k) l[k]) := by
  rw [List.drop_eq_getElem_cons h, rpL, List.take_append_getElem]
  simp only [List.length_take, Nat.min_eq_left (Nat.le_of_lt h)]
end Go.Proofs.YtndniceeibflcaaGreatDoor

namespace Go.Proofs.YtndniceeibflcaaGreatDoor
open Aw Mp Go.RowKit
set_option linter.unusedSimpArgs false
set_option maxRecDepth 8000

theorem f24 (n lm : Int) (ls : List (Int × Int)) (hT : vT n ls = 0) (hls : ls.length ≤ 1000000) (l : List By) (hA : Acc n lm ls l) (o : By) (ho : o.length ≤ 9223372036854775807) : FSpec Tryz.prog 24 [.q 0 13 0 0, S o] (memD (mkM n lm ls l)) (memD (mkM n lm ls l)) (I (erO n lm ls l o)) (memD (mkM n lm ls (doO n lm ls l o))) := by
  have := fD (m24 n lm ls l hA hT hls o ho) [] [1] rfl rfl rfl
  simpa using this
theorem mk_ren (m : Mch) : reM [0, 2] (memD m) = [some (m.obA 1), some m.od] := by
  simp [reM, reF, reG, memD, Mch.ob, Mch.obA, Mch.od, Mch.cells, AV.sub, AV.subL, prsA_sub, strsA_sub, intsA_sub, gtsA_sub, List.idxOf?, List.findIdx?, List.findIdx?.go]
theorem ok43 : okFn Tryz.prog 43 = true := by kernel_rfl
theorem s43n (n lm : Int) (ls : List (Int × Int)) (hls : ls.length ≤ 100000) (h0 : vN n lm ls ≠ 0) (l : List By) : ASpec Tryz.prog 43 [labA n ls lm, .s 1 (strsA l)] (fun r Ms => r = .v (.pointer none) ∧ Ms = []) := by
  refine aspec_of (own := []) Tryz.func43 rfl ok43 ?_
  have h22 := s22e n lm ls hls h0
  simp only [trapA] at h22
  simp only [wB, awp, asP, asN, loadA, St.ev, St.step, setS, killS, AV.kill, AV.killL, Mem.kill, AV.cells, AV.flat, AV.single, AV.cellular, AV.pure, AV.pureL, Nat.reduceAdd, Nat.reduceEqDiff, Nat.reduceSub, Nat.reduceLeDiff, Int.reduceAdd, Int.reduceSub, Tryz.ntmps43, labA]
  refine acall_v h22 (by simp [AV.pureL, AV.pure, prsA_pure]) rfl ?_
  simp only [wB, awp, binC, cmpC, asT, asB, asI, asN, St.ev, St.step, setS, killS, AV.kill, AV.killL, Mem.kill, Nat.reduceAdd, Int.reduceAdd, decide_eq_false h0]
  exact aend_frz rfl ⟨rfl, rfl⟩
theorem s43 (n lm : Int) (ls : List (Int × Int)) (hls : ls.length ≤ 100000) (h0 : vN n lm ls = 0) (l : List By) (hs : ∀ o ∈ l, o.length ≤ 9223372036854775807) : ASpec Tryz.prog 43 [labA n ls lm, .s 1 (strsA l)] (fun r Ms => r = .q 0 13 0 0 ∧ Ms = [(mkM n lm ls (doL n lm ls (l.take 40))).obA 1, (mkM n lm ls (doL n lm ls (l.take 40))).od]) := by
  refine aspec_of (own := [1002, 1007]) Tryz.func43 rfl ok43 ?_
  have h22 := s22o n lm ls hls h0
  have hT := (vN_ok h0).1
  simp only [trapA] at h22
  simp only [wB, awp, asP, asN, loadA, St.ev, St.step, setS, killS, AV.kill, AV.killL, Mem.kill, AV.cells, AV.flat, AV.single, AV.cellular, AV.pure, AV.pureL, Nat.reduceAdd, Nat.reduceEqDiff, Nat.reduceSub, Nat.reduceLeDiff, Int.reduceAdd, Int.reduceSub, Tryz.ntmps43, labA]
  refine acall_os h22 (by simp [AV.pureL, AV.pure, prsA_pure]) ?_
  simp only [wB, awp, asT, asN, St.ev, St.step, setS, killS, AV.kill, AV.killL, Mem.kill, Nat.reduceAdd, Nat.reduceEqDiff, Int.reduceAdd, List.drop_zero, AV.sub, AV.subL, List.take_succ_cons, List.take_zero, AV.up, Ob.up, prsA_msub, new_sub]
  refine swp_le (σ' := ⟨[.bot, .s 1 (strsA l), .bot, .bot, .bot, .q 0 13 0 0, I 0, .bot, .bot, .bot, .bot, .bot, .bot, .bot, .bot, .bot, .bot, .bot, .bot, .bot, .bot, .bot, .bot, .bot, .bot, .bot, .bot, .bot, .bot, .bot, .bot, .bot, .bot, .bot, .bot, .bot, .bot, .bot, .bot], memD (mkM n lm ls [])⟩) (le_new (by simp [leSl, frz1, AV.sub])) ?_
  refine awp_sound (own := [1007]) _ _ _ _ _ ?_
  simp only [wB, awp, binC, cmpC, eqC, asG, asB, asI, asN, St.ev, St.step, setS, killS, AV.kill, AV.killL, Mem.kill, Nat.reduceAdd, Nat.reduceEqDiff, Int.reduceAdd, isNP, ptrN, asStr, nt32]
  refine swp_loop' (fun k : Nat => ⟨[.bot, .s 1 (strsA l), .bot, .bot, .bot, .q 0 13 0 0, .bot, I k, .bot, .bot, .bot, .bot, .bot, .bot, .bot, .bot, .bot, .bot, .bot, .bot, .bot, .bot, .bot, .bot, .bot, .bot, .bot, .bot, .bot, .bot, .bot, .bot, .bot, .bot, .bot, .bot, .bot, .bot, .bot], memD (mkM n lm ls (doL n lm ls (l.take k)))⟩) (fun k => k ≤ l.length ∧ k ≤ 40) (fun k => 40 - k) 0 (le_sl' ?_ (by simp [leSl])) ⟨Nat.zero_le _, Nat.zero_le _⟩ ?_
  · simp [doL]
  rintro k ⟨hk, hk4⟩
  have hA := doL_acc n lm ls (l.take k)
  refine awp_sound (own := [1007]) _ _ _ _ _ ?_
  simp only [wB, awp, binC, cmpC, asI, lenA, St.ev, St.step, setS, killS, AV.kill, AV.killL, Mem.kill, Nat.reduceAdd, Nat.reduceEqDiff, Int.reduceAdd, lenK, strsA_len, strsA_len]
  by_cases h : k < l.length
  case neg =>
    have h' : ¬ (k : Int) < l.length := by omega
    simp only [wB, awp, asB, asN, St.ev, St.step, setS, killS, AV.kill, AV.killL, Mem.kill, Nat.reduceAdd, Nat.reduceEqDiff, Int.reduceAdd, decide_eq_false h']
    have e : l.take k = l.take 40 := by rw [List.take_of_length_le (by omega), List.take_of_length_le (by omega)]
    rw [e]
    refine aend_ren [0, 2] (by decide) [(mkM n lm ls (doL n lm ls (l.take 40))).obA 1, (mkM n lm ls (doL n lm ls (l.take 40))).od] rfl (mk_ren _) ⟨rfl, rfl⟩
  have h' : (k : Int) < l.length := by omega
  by_cases h4 : k < 40
  case neg =>
    have h4' : ¬ (k : Int) < 40 := by omega
    simp only [wB, awp, binC, cmpC, asB, asI, asN, St.ev, St.step, setS, killS, AV.kill, AV.killL, Mem.kill, Nat.reduceAdd, Nat.reduceEqDiff, Int.reduceAdd, decide_eq_true h', decide_eq_false h4']
    have e : l.take k = l.take 40 := by rw [show k = 40 by omega]
    rw [e]
    refine aend_ren [0, 2] (by decide) [(mkM n lm ls (doL n lm ls (l.take 40))).obA 1, (mkM n lm ls (doL n lm ls (l.take 40))).od] rfl (mk_ren _) ⟨rfl, rfl⟩
  have h4' : (k : Int) < 40 := by omega
  simp only [wB, awp, binC, cmpC, asB, asI, St.ev, St.step, setS, killS, AV.kill, AV.killL, Mem.kill, Nat.reduceAdd, Int.reduceAdd, decide_eq_true h', decide_eq_true h4']
  refine swp_fs (own := []) [false, false, false, false, false, true] ?_
  simp only [wB, idxC, asP, asS, asI, loadA, St.ev, St.step, setS, killS, AV.kill, AV.killL, Mem.kill, AV.cells, AV.flat, AV.single, memD, aget_strs h, Int.toNat_natCast]
  refine ⟨by omega, acall_f (f24 n lm ls hT (by omega) _ hA l[k] (hs _ (List.getElem_mem h))) ?_⟩
  simp only [wB, awp, binC, arithC, cmpC, asI, asN, St.ev, St.step, setS, killS, AV.kill, AV.killL, Mem.kill, Nat.reduceAdd, Nat.reduceEqDiff, Int.reduceAdd, isU, memD, AV.sub, keepG, liveI, AV.isQ, List.any_cons, List.any_nil]
  refine ⟨by unfold lim; omega, k + 1, le_sl' ?_ (by simp [leSl]), ⟨h, h4⟩, by omega⟩
  simp [doL_take h, memD]
end Go.Proofs.YtndniceeibflcaaGreatDoor

namespace Go.Proofs.YtndniceeibflcaaGreatDoor
open Aw Mp Go.RowKit
set_option linter.unusedSimpArgs false
set_option maxRecDepth 8000

theorem ok27 : okFn Tryz.prog 27 = true := by kernel_rfl
/-- a log is replayed: the machine's pointer, and its objects. -/
def rpP (n lm : Int) (ls : List (Int × Int)) (t : By) : AV := if (rpO n lm ls t).2 = 0 then .q 0 13 0 0 else .v (.pointer none)
def rpM (n lm : Int) (ls : List (Int × Int)) (t : By) : List Ob := if (rpO n lm ls t).2 = 0 then [(mkM n lm ls (rd 100 0 t).1).obA 1, (mkM n lm ls (rd 100 0 t).1).od] else []
theorem s27 (n lm : Int) (ls : List (Int × Int)) (hls : ls.length ≤ 100000) (t : By) (ht : t.length ≤ 1000000) : ASpec Tryz.prog 27 [trapA n ls, I lm, S t] (fun r Ms => r = .t [rpP n lm ls t, I (rpO n lm ls t).1, I (rpO n lm ls t).2] ∧ Ms = rpM n lm ls t) := by
  refine aspec_of (own := [1002, 1010]) Tryz.func27 rfl ok27 ?_
  simp only [wB, awp, asP, asN, loadA, St.ev, St.step, setS, killS, AV.kill, AV.killL, Mem.kill, AV.cells, AV.flat, AV.single, AV.cellular, AV.pure, AV.pureL, Nat.reduceAdd, Nat.reduceEqDiff, Nat.reduceSub, Nat.reduceLeDiff, Int.reduceAdd, Int.reduceSub, Tryz.ntmps27, trapA]
  have hrl := rd_len 100 0 t
  have hro := rd_ord 100 0 t
  have s19t := s19 t ht
  have hE : rpO n lm ls t = if vN n lm ls ≠ 0 then (0, vN n lm ls) else if (rd 100 0 t).2 ≠ [] then (0, 10) else rpL n lm ls [] (rd 100 0 t).1 := rfl
  have hP : rpP n lm ls t = if (rpO n lm ls t).2 = 0 then .q 0 13 0 0 else .v (.pointer none) := rfl
  have hM : rpM n lm ls t = if (rpO n lm ls t).2 = 0 then [(mkM n lm ls (rd 100 0 t).1).obA 1, (mkM n lm ls (rd 100 0 t).1).od] else [] := rfl
  generalize (rd 100 0 t).1 = l at *
  generalize (rd 100 0 t).2 = u at *
  by_cases h0 : vN n lm ls = 0
  case neg =>
    have h22 := s22e n lm ls hls h0
    simp only [trapA] at h22
    refine acall_v h22 (by simp [AV.pureL, AV.pure, prsA_pure]) rfl ?_
    simp only [wB, awp, asT, asN, St.ev, St.step, setS, killS, AV.kill, AV.killL, Mem.kill, Nat.reduceAdd, Nat.reduceEqDiff, Int.reduceAdd, decide_eq_false h0]
    refine awp_sound (own := [1010]) _ _ _ _ _ ?_
    simp only [wB, awp, binC, cmpC, asB, asI, asN, St.ev, St.step, setS, killS, AV.kill, AV.killL, Mem.kill, Nat.reduceAdd, Nat.reduceEqDiff, Int.reduceAdd, decide_eq_false h0]
    have hx : rpO n lm ls t = (0, vN n lm ls) := by rw [hE, if_pos h0]
    rw [hx, if_neg h0] at hP hM
    refine aend_frz rfl ⟨?_, hM.symm⟩
    rw [hP, hx]
    rfl
  have h22 := s22o n lm ls hls h0
  have hT := (vN_ok h0).1
  simp only [trapA] at h22
  refine acall_os h22 (by simp [AV.pureL, AV.pure, prsA_pure]) ?_
  simp only [wB, awp, asT, asN, St.ev, St.step, setS, killS, AV.kill, AV.killL, Mem.kill, Nat.reduceAdd, Nat.reduceEqDiff, Int.reduceAdd, AV.sub, AV.subL, AV.up, Ob.up, prsA_msub, new_sub]
  refine swp_le (σ' := ⟨[.bot, .bot, S t, .bot, .bot, .bot, .bot, .bot, .bot, .q 0 13 0 0, I 0, .bot, .bot, .bot, .bot, .bot, .bot, .bot, .bot, .bot, .bot, .bot, .bot, .bot, .bot, .bot, .bot, .bot, .bot, .bot, .bot, .bot, .bot, .bot, .bot, .bot, .bot, .bot, .bot, .bot, .bot, .bot, .bot, .bot, .bot, .bot, .bot, .bot, .bot, .bot], memD (mkM n lm ls [])⟩) (le_new (by simp [leSl, frz1, AV.sub])) ?_
  refine awp_sound (own := [1010]) _ _ _ _ _ ?_
  simp only [wB, awp, binC, cmpC, asB, asI, St.ev, St.step, setS, killS, AV.kill, AV.killL, Mem.kill, Nat.reduceAdd, Nat.reduceEqDiff, Int.reduceAdd]
  refine acall_v s19t rfl (by simp [AV.pure, AV.pureL, strsA_pure]) ?_
  simp only [wB, awp, binC, eqC, asT, asG, asB, asI, asN, St.ev, St.step, setS, killS, AV.kill, AV.killL, Mem.kill, Nat.reduceAdd, Nat.reduceEqDiff, Int.reduceAdd, asStr, strC]
  rw [if_neg (fun g => g h0)] at hE
  by_cases h1 : u = []
  case neg =>
    simp only [wB, awp, asN, St.ev, St.step, setS, killS, AV.kill, AV.killL, Mem.kill, Nat.reduceAdd, Nat.reduceEqDiff, Int.reduceAdd, decide_eq_false h1]
    have hx : rpO n lm ls t = (0, 10) := by rw [hE, if_pos h1]
    rw [hx, if_neg (by decide)] at hP hM
    refine aend_frz rfl ⟨?_, hM.symm⟩
    rw [hP, hx]
    rfl
  rw [if_neg (fun g => g h1)] at hE
  subst h1
  simp only [wB, awp, lenA, St.ev, St.step, setS, killS, AV.kill, AV.killL, Mem.kill, Nat.reduceAdd, Nat.reduceEqDiff, Int.reduceAdd, lenK, strsA_len, strsA_len]
  refine swp_loop' (fun k : Nat => ⟨[.bot, .bot, .bot, .bot, .bot, .bot, .bot, .bot, .bot, .q 0 13 0 0, .bot, .s 1 (strsA l), .bot, .bot, .bot, .bot, .bot, .bot, .bot, .bot, .bot, .bot, .bot, .bot, .bot, .bot, .bot, .bot, .bot, .bot, .bot, .bot, .s 1 (strsA l), I l.length, I k, .bot, .bot, .bot, .bot, .bot, .bot, .bot, .bot, .bot, .bot, .bot, .bot, .bot, .bot, .bot], memD (mkM n lm ls (l.take k))⟩) (fun k => k ≤ l.length ∧ Acc n lm ls (l.take k) ∧ rpL n lm ls [] l = rpL n lm ls (l.take k) (l.drop k)) (fun k => l.length - k) 0 (le_sl' ?_ (by simp [leSl])) ⟨Nat.zero_le _, by simpa using Acc.nil, by simp⟩ ?_
  · simp
  rintro k ⟨hk, hA, hR⟩
  refine awp_sound (own := [1010]) _ _ _ _ _ ?_
  simp only [wB, awp, binC, cmpC, asB, asI, St.ev, St.step, setS, killS, AV.kill, AV.killL, Mem.kill, Nat.reduceAdd, Nat.reduceEqDiff, Int.reduceAdd]
  by_cases h : k < l.length
  case neg =>
    have h' : ¬ (k : Int) < l.length := by omega
    obtain rfl : k = l.length := by omega
    simp only [wB, awp, asN, lenA, St.ev, St.step, setS, killS, AV.kill, AV.killL, Mem.kill, Nat.reduceAdd, Nat.reduceEqDiff, Int.reduceAdd, lenK, strsA_len, decide_eq_false h', strsA_len]
    rw [List.take_length] at *
    rw [List.drop_length] at hR
    have hx : rpO n lm ls t = (l.length, 0) := hE.trans hR
    rw [hx, if_pos rfl] at hP hM
    refine aend_ren [0, 2] (by decide) [(mkM n lm ls l).obA 1, (mkM n lm ls l).od] rfl (mk_ren _) ⟨?_, hM.symm⟩
    rw [hP, hx]
    rfl
  have h' : (k : Int) < l.length := by omega
  simp only [wB, awp, idxC, asP, asS, asI, asN, loadA, St.ev, St.step, setS, killS, AV.kill, AV.killL, Mem.kill, AV.cells, AV.flat, AV.single, Nat.reduceAdd, Nat.reduceEqDiff, Int.reduceAdd, decide_eq_true h', aget_strs h, Int.toNat_natCast]
  obtain ⟨e, he⟩ : ∃ e, e = erO n lm ls (l.take k) l[k] := ⟨_, rfl⟩
  have h24 := f24 n lm ls hT (by omega) _ hA l[k] (by have := (ordB_iff _).1 (hro _ (List.getElem_mem h)); omega)
  rw [← he] at h24
  refine ⟨by omega, swp_fs (own := []) [false, false, true, false] ?_⟩
  simp only [wB, St.ev, St.step, setS, killS, AV.kill, AV.killL, Mem.kill, memD]
  refine acall_f h24 ?_
  simp only [wB, awp, binC, cmpC, asB, asI, asN, St.ev, St.step, setS, killS, AV.kill, AV.killL, Mem.kill, Nat.reduceAdd, Nat.reduceEqDiff, Int.reduceAdd, memD, AV.sub, keepG, liveI, AV.isQ, List.any_cons, List.any_nil]
  by_cases h1 : e = 0
  case neg =>
    simp only [wB, awp, asN, St.ev, St.step, setS, killS, AV.kill, AV.killL, Mem.kill, Nat.reduceAdd, Nat.reduceEqDiff, Int.reduceAdd, decide_eq_false h1]
    have hx : rpO n lm ls t = (k, e) := by rw [hE, hR, rpL_at h, ← he, if_neg h1]
    rw [hx, if_neg h1] at hP hM
    refine aend_frz rfl ⟨?_, hM.symm⟩
    rw [hP, hx]
    rfl
  have hd : doO n lm ls (l.take k) l[k] = l.take (k + 1) := by rw [doO_ok (he.symm.trans h1), List.take_append_getElem]
  simp only [wB, awp, binC, arithC, cmpC, asI, St.ev, St.step, setS, killS, AV.kill, AV.killL, Mem.kill, Nat.reduceAdd, Nat.reduceEqDiff, Int.reduceAdd, isU, decide_eq_true h1]
  refine ⟨by unfold lim; omega, k + 1, le_sl' ?_ (by simp [leSl]), ⟨h, acc_snoc h hA (he.symm.trans h1), ?_⟩, by omega⟩
  · simp [hd, memD]
  · rw [hR, rpL_at h, ← he, if_pos h1]
end Go.Proofs.YtndniceeibflcaaGreatDoor

namespace Go.Proofs.YtndniceeibflcaaGreatDoor
open Aw Mp Go.RowKit
set_option linter.unusedSimpArgs false
set_option maxRecDepth 8000

theorem ok33 : okFn Tryz.prog 33 = true := by kernel_rfl
/-- the error of a run. -/
def vR (n lm : Int) (ls : List (Int × Int)) (l : List By) : Int := if vN n lm ls ≠ 0 then vN n lm ls else if 100 < l.length then 3 else 0
theorem s33e (n lm : Int) (ls : List (Int × Int)) (hls : ls.length ≤ 100000) (l : List By) (he : vR n lm ls l ≠ 0) : ASpec Tryz.prog 33 [trapA n ls, I lm, .s 1 (strsA l)] (fun r Ms => r = .t [.s 1 [], S [], I (vR n lm ls l)] ∧ Ms = []) := by
  refine aspec_of (own := [6]) Tryz.func33 rfl ok33 ?_
  simp only [wB, awp, asP, asN, loadA, Aw.newRow, St.ev, St.step, setS, killS, AV.kill, AV.killL, Mem.kill, AV.cells, AV.flat, AV.single, AV.cellular, AV.pure, AV.pureL, Nat.reduceAdd, Nat.reduceEqDiff, Nat.reduceSub, Nat.reduceLeDiff, Int.reduceAdd, Int.reduceSub, Tryz.ntmps33, trapA]
  by_cases h0 : vN n lm ls = 0
  case neg =>
    have h22 := s22e n lm ls hls h0
    simp only [trapA] at h22
    refine acall_v h22 (by simp [AV.pureL, AV.pure, prsA_pure]) rfl ?_
    simp only [wB, awp, binC, cmpC, asT, asB, asI, asN, Aw.newRow, St.ev, St.step, setS, killS, AV.kill, AV.killL, Mem.kill, Nat.reduceAdd, Nat.reduceEqDiff, Int.reduceAdd, decide_eq_false h0]
    refine aend_frz rfl ⟨?_, rfl⟩
    unfold vR
    rw [if_pos h0]
    rfl
  have h22 := s22o n lm ls hls h0
  simp only [trapA] at h22
  refine acall_os h22 (by simp [AV.pureL, AV.pure, prsA_pure]) ?_
  simp only [wB, awp, binC, cmpC, asT, asB, asI, asN, lenA, St.ev, St.step, setS, killS, AV.kill, AV.killL, Mem.kill, Nat.reduceAdd, Nat.reduceEqDiff, Int.reduceAdd, lenK, strsA_len, AV.sub, AV.subL, AV.up, Ob.up, prsA_msub, strsA_len]
  have h1 : 100 < l.length := by
    unfold vR at he
    rw [if_neg (fun g => g h0)] at he
    exact Classical.byContradiction fun g => he (if_neg g)
  simp only [wB, awp, asN, Aw.newRow, St.ev, St.step, setS, killS, AV.kill, AV.killL, Mem.kill, Nat.reduceAdd, Nat.reduceEqDiff, Int.reduceAdd, decide_eq_true (show (100 : Int) < l.length by omega)]
  refine aend_frz rfl ⟨?_, rfl⟩
  unfold vR
  rw [if_neg (fun g => g h0), if_pos h1]
  rfl
theorem s33 (n lm : Int) (ls : List (Int × Int)) (hls : ls.length ≤ 100000) (l : List By) (hs : ∀ o ∈ l, o.length ≤ 9223372036854775807) (he : vR n lm ls l = 0) : ASpec Tryz.prog 33 [trapA n ls, I lm, .s 1 (strsA l)] (fun r Ms => r = .t [.s 1 (intsA (ersL n lm ls [] l)), S (lg 0 (doL n lm ls l)), I 0] ∧ Ms = []) := by
  have h0 : vN n lm ls = 0 := by
    refine Classical.byContradiction fun g => ?_
    unfold vR at he
    rw [if_pos g] at he
    exact g he
  have h100 : l.length ≤ 100 := by
    refine Classical.byContradiction fun g => ?_
    unfold vR at he
    rw [if_neg (fun g => g h0), if_pos (by omega)] at he
    cases he
  have hT := (vN_ok h0).1
  refine aspec_of (own := [11, 1002, 1010, 1012]) Tryz.func33 rfl ok33 ?_
  simp only [wB, awp, asP, asN, loadA, St.ev, St.step, setS, killS, AV.kill, AV.killL, Mem.kill, AV.cells, AV.flat, AV.single, AV.cellular, AV.pure, AV.pureL, Nat.reduceAdd, Nat.reduceEqDiff, Nat.reduceSub, Nat.reduceLeDiff, Int.reduceAdd, Int.reduceSub, Tryz.ntmps33, trapA]
  have h22 := s22o n lm ls hls h0
  simp only [trapA] at h22
  refine acall_os h22 (by simp [AV.pureL, AV.pure, prsA_pure]) ?_
  simp only [wB, awp, asT, asN, St.ev, St.step, setS, killS, AV.kill, AV.killL, Mem.kill, Nat.reduceAdd, Nat.reduceEqDiff, Int.reduceAdd, AV.sub, AV.subL, AV.up, Ob.up, prsA_msub, new_sub]
  refine swp_le (σ' := ⟨[.bot, .bot, .s 1 (strsA l), .bot, .bot, .bot, .bot, .bot, .bot, .q 0 13 0 0, I 0, .bot, .bot, .bot, .bot, .bot, .bot, .bot, .bot, .bot, .bot, .bot, .bot, .bot, .bot, .bot, .bot, .bot, .bot, .bot, .bot, .bot, .bot, .bot, .bot, .bot, .bot, .bot, .bot, .bot, .bot, .bot], memD (mkM n lm ls [])⟩) (le_new (by simp [leSl, frz1, AV.sub])) ?_
  refine awp_sound (own := [11, 1010, 1012]) _ _ _ _ _ ?_
  simp only [wB, awp, binC, cmpC, asB, asI, asN, lenA, Aw.newRow, St.ev, St.step, setS, killS, AV.kill, AV.killL, Mem.kill, Nat.reduceAdd, Nat.reduceEqDiff, Int.reduceAdd, lenK, strsA_len, strsA_len, decide_eq_false (show ¬ (100 : Int) < l.length by omega)]
  refine swp_loop' (fun k : Nat => ⟨[.bot, .bot, .bot, .bot, .bot, .bot, .bot, .bot, .bot, .q 0 13 0 0, .bot, .o 3, .bot, .bot, .bot, .bot, .bot, .bot, .bot, .bot, .bot, .bot, .bot, .bot, .bot, .bot, .s 1 (strsA l), I l.length, I k, .bot, .bot, .bot, .bot, .bot, .bot, .bot, .bot, .bot, .bot, .bot, .bot, .bot], memD (mkM n lm ls (doL n lm ls (l.take k))) ++ [some ⟨none, 33, 1, intsA (ersL n lm ls [] (l.take k))⟩]⟩) (fun k => k ≤ l.length) (fun k => l.length - k) 0 (le_sl' ?_ (by simp [leSl, memD])) (Nat.zero_le _) ?_
  · simp [doL, ersL, memD, intsA]
  intro k hk
  refine awp_sound (own := [11, 1010, 1012]) _ _ _ _ _ ?_
  simp only [wB, awp, binC, cmpC, asB, asI, St.ev, St.step, setS, killS, AV.kill, AV.killL, Mem.kill, Nat.reduceAdd, Nat.reduceEqDiff, Int.reduceAdd]
  have hA := doL_acc n lm ls (l.take k)
  by_cases h : k < l.length
  case neg =>
    have h' : ¬ (k : Int) < l.length := by omega
    obtain rfl : k = l.length := by omega
    simp only [awp, ACond_true, ACond_false, List.contains_nil, List.contains_cons, if_true, beq_self_eq_true, nbeq, decide_false, Bool.or_false, Bool.or_true, Nat.reduceAdd, Nat.reduceEqDiff, Int.reduceAdd, decide_eq_false h']
    rw [List.take_length] at *
    refine swp_fs (own := [11]) [false, false, true, false, false, false] ?_
    simp only [wB, St.ev, St.step, setS, killS, AV.kill, AV.killL, Mem.kill, memD]
    have h23 := fD (m23 _ (sml_of hA)) [some ⟨none, 33, 1, intsA (ersL n lm ls [] l)⟩] [1, 3] rfl rfl (by simp [intsA_sub])
    refine acall_f h23 ?_
    simp only [wB, awp, asN, St.ev, St.step, setS, killS, AV.kill, AV.killL, Mem.kill, Nat.reduceEqDiff, memD, AV.sub, keepF, keepG, liveI, AV.isO, AV.isQ, List.any_cons, List.any_nil]
    refine aend_frz rfl ⟨?_, rfl⟩
    simp [frz, AV.sub, AV.subL, intsA_pure, mkM]
  have h' : (k : Int) < l.length := by omega
  simp only [wB, awp, idxC, asP, asS, asI, asN, loadA, St.ev, St.step, setS, killS, AV.kill, AV.killL, Mem.kill, AV.cells, AV.flat, AV.single, Nat.reduceAdd, Nat.reduceEqDiff, Int.reduceAdd, decide_eq_true h', aget_strs h, Int.toNat_natCast]
  refine ⟨by omega, swp_fs (own := [11]) [false, false, false, true, false, false, false] ?_⟩
  simp only [wB, St.ev, St.step, setS, killS, AV.kill, AV.killL, Mem.kill, memD]
  have h24 := fD (m24 n lm ls _ hA hT (by omega) l[k] (hs _ (List.getElem_mem h))) [some ⟨none, 33, 1, intsA (ersL n lm ls [] (l.take k))⟩] [1, 3] rfl rfl (by simp [intsA_sub])
  refine acall_f h24 ?_
  simp only [wB, awp, binC, arithC, cmpC, asO, asS, asI, asN, obA, St.ev, St.step, setS, killS, AV.kill, AV.killL, Mem.kill, AV.cells, AV.flat, AV.single, AV.cellular, AV.size, AV.pure, AV.pureL, Value.oneCell', Nat.reduceAdd, Nat.reduceEqDiff, Nat.reduceMul, Nat.reduceLeDiff, Int.reduceAdd, Int.reduceMul, isU, memD, AV.sub, keepF, keepG, liveI, AV.isO, AV.isQ, List.any_cons, List.any_nil]
  have hel := ersL_len (n := n) (lm := lm) (ls := ls) (l.take k) []
  rw [List.length_take] at hel
  refine ⟨⟨by decide, rfl⟩, ⟨by decide, by omega⟩, by unfold lim; omega, k + 1, le_sl' ?_ (by simp [leSl]), h, by omega⟩
  rw [doL_take h, ersL_take h, intsA_kill, intsA_app]
  simp [Mch.ob, Mch.od, Mch.cells, AV.killL, AV.kill, strsA_kill, mkM]
end Go.Proofs.YtndniceeibflcaaGreatDoor

namespace Go.Proofs.YtndniceeibflcaaGreatDoor
open Aw Mp Go.RowKit
set_option linter.unusedSimpArgs false
set_option maxRecDepth 8000

theorem ok21 : okFn Tryz.prog 21 = true := by kernel_rfl
theorem s21 (l : List By) : ASpec Tryz.prog 21 [.s 1 (strsA l)] (fun r Ms => r = B (decide (150 < l.length)) ∧ Ms = []) := by
  refine aspec_of (own := []) Tryz.func21 rfl ok21 ?_
  simp only [wB, awp, binC, cmpC, asI, asN, lenA, St.ev, St.step, setS, killS, AV.kill, AV.killL, Mem.kill, Nat.reduceAdd, Nat.reduceSub, Int.reduceAdd, Int.reduceSub, lenK, strsA_len, Tryz.ntmps21]
  refine aend_frz rfl ⟨?_, rfl⟩
  have : decide ((150 : Int) < l.length) = decide (150 < l.length) := decide_eq_decide.2 (by omega)
  rw [← this]
  rfl
end Go.Proofs.YtndniceeibflcaaGreatDoor

namespace Go.Proofs.YtndniceeibflcaaGreatDoor
open Aw Mp Go.RowKit
set_option linter.unusedSimpArgs false
set_option maxRecDepth 8000

theorem ok20 : okFn Tryz.prog 20 = true := by kernel_rfl
theorem s20 (n lm : Int) (ls : List (Int × Int)) : ASpec Tryz.prog 20 [labA n ls lm] (fun r Ms => r = B (decide (60 < ls.length)) ∧ Ms = []) := by
  refine aspec_of (own := []) Tryz.func20 rfl ok20 ?_
  simp only [wB, awp, binC, cmpC, asP, asI, asN, lenA, loadA, St.ev, St.step, setS, killS, AV.kill, AV.killL, Mem.kill, AV.cells, AV.flat, AV.single, AV.cellular, AV.pure, AV.pureL, Nat.reduceAdd, Nat.reduceEqDiff, Nat.reduceSub, Nat.reduceLeDiff, Int.reduceAdd, Int.reduceSub, lenK, Tryz.ntmps20, labA, prsA_len]
  refine aend_frz rfl ⟨?_, rfl⟩
  have : decide ((60 : Int) < ls.length) = decide (60 < ls.length) := decide_eq_decide.2 (by omega)
  rw [← this]
  rfl
theorem ok6 : okFn Tryz.prog 6 = true := by kernel_rfl
theorem s6 (n lm : Int) (ls : List (Int × Int)) (l : List By) (hs : ∀ o ∈ l, o.length ≤ 9223372036854775807) : ASpec Tryz.prog 6 [labA n ls lm, .s 1 (strsA l)] (fun r Ms => r = B true ∧ Ms = []) := by
  refine aspec_of (own := [8, 11]) Tryz.func6 rfl ok6 ?_
  simp only [wB, awp, asP, asN, loadA, St.ev, St.step, setS, killS, AV.kill, AV.killL, Mem.kill, AV.cells, AV.flat, AV.single, AV.cellular, AV.pure, AV.pureL, Nat.reduceAdd, Nat.reduceEqDiff, Nat.reduceSub, Nat.reduceLeDiff, Int.reduceAdd, Int.reduceSub, Tryz.ntmps6, labA]
  have h20 := s20 n lm ls
  simp only [labA] at h20
  refine acall_v h20 (by simp [AV.pureL, AV.pure, prsA_pure]) rfl ?_
  by_cases h60 : 60 < ls.length
  · simp only [wB, awp, asB, St.ev, St.step, setS, killS, AV.kill, AV.killL, Mem.kill, Nat.reduceAdd, Nat.reduceEqDiff, Int.reduceAdd, decide_eq_true h60]
    refine acall_v s31 rfl rfl ?_
    simp only [wB, awp, asN, St.ev, St.step, setS, killS, AV.kill, AV.killL, Mem.kill, Nat.reduceEqDiff]
    exact aend_frz rfl ⟨rfl, rfl⟩
  simp only [wB, St.ev, St.step, setS, killS, AV.kill, AV.killL, Mem.kill, decide_eq_false h60]
  refine acall_v (s21 l) (by simp [AV.pureL, AV.pure, strsA_pure]) rfl ?_
  by_cases h150 : 150 < l.length
  · simp only [wB, awp, asB, St.ev, St.step, setS, killS, AV.kill, AV.killL, Mem.kill, Nat.reduceAdd, Nat.reduceEqDiff, Int.reduceAdd, decide_eq_true h150]
    refine acall_v s31 rfl rfl ?_
    simp only [wB, awp, asN, St.ev, St.step, setS, killS, AV.kill, AV.killL, Mem.kill, Nat.reduceEqDiff]
    exact aend_frz rfl ⟨rfl, rfl⟩
  simp only [wB, awp, asP, asB, loadA, St.ev, St.step, setS, killS, AV.kill, AV.killL, Mem.kill, AV.cells, AV.flat, AV.single, Nat.reduceAdd, Nat.reduceEqDiff, Nat.reduceLeDiff, Int.reduceAdd, decide_eq_false h150]
  by_cases hv : vR n lm ls l = 0
  case neg =>
    have h33 := s33e n lm ls (by omega) l hv
    simp only [trapA] at h33
    refine acall_v h33 (by simp [AV.pureL, AV.pure, prsA_pure, strsA_pure]) rfl ?_
    simp only [wB, awp, asP, asT, asN, loadA, St.ev, St.step, setS, killS, AV.kill, AV.killL, Mem.kill, AV.cells, AV.flat, AV.single, Nat.reduceAdd, Nat.reduceEqDiff, Nat.reduceLeDiff, Int.reduceAdd]
    by_cases h0 : vN n lm ls = 0
    case neg =>
      have h34 := s34e n lm ls (by omega) h0
      have hvv : vR n lm ls l = vN n lm ls := by unfold vR; rw [if_pos h0]
      simp only [trapA] at h34
      refine acall_v h34 (by simp [AV.pureL, AV.pure, prsA_pure]) rfl ?_
      simp only [wB, awp, binC, cmpC, eqC, asQ, asT, asG, asB, asI, asN, obA, lenA, storeA, putsA, mkA, Aw.newRow, St.ev, St.step, setS, killS, AV.kill, AV.killL, Mem.kill, AV.cells, AV.flat, AV.single, AV.cellular, Nat.reduceAdd, Nat.reduceEqDiff, Nat.reduceLeDiff, Int.reduceAdd, asStr, strC, lenK, rf0, decide_eq_false h0, hvv, Int.natCast_zero]
      refine acall_v s31 rfl rfl ?_
      simp only [wB, awp, asB, asN, St.ev, St.step, setS, killS, AV.kill, AV.killL, Mem.kill, Nat.reduceEqDiff]
      exact aend_frz rfl ⟨rfl, rfl⟩
    have h34 := s34o n lm ls (by omega) h0
    simp only [trapA] at h34
    refine acall_v h34 (by simp [AV.pureL, AV.pure, prsA_pure]) (by simp [AV.pure, AV.pureL, prsA_pure, rfA, strsA]) ?_
    have h100 : 100 < l.length := by
      refine Classical.byContradiction fun g => hv ?_
      unfold vR
      rw [if_neg (fun g => g h0), if_neg g]
    have hvv : vR n lm ls l = 3 := by unfold vR; rw [if_neg (fun g => g h0), if_pos h100]
    simp only [wB, awp, binC, cmpC, eqC, asQ, asT, asG, asB, asI, asN, obA, lenA, storeA, putsA, mkA, Aw.newRow, St.ev, St.step, setS, killS, AV.kill, AV.killL, Mem.kill, AV.cells, AV.flat, AV.single, AV.cellular, Nat.reduceAdd, Nat.reduceEqDiff, Nat.reduceLeDiff, Int.reduceAdd, Int.reduceEq, asStr, strC, lenK, strsA_len, rfA, strsA_len, hvv, Int.natCast_zero, decide_eq_true (show (100 : Int) < l.length by omega)]
    refine acall_v s31 rfl rfl ?_
    simp only [wB, awp, asB, asN, St.ev, St.step, setS, killS, AV.kill, AV.killL, Mem.kill, Nat.reduceEqDiff]
    exact aend_frz rfl ⟨rfl, rfl⟩
  have h0 : vN n lm ls = 0 := by
    refine Classical.byContradiction fun g => ?_
    unfold vR at hv
    rw [if_pos g] at hv
    exact g hv
  have h100 : ¬ 100 < l.length := by
    intro g
    unfold vR at hv
    rw [if_neg (fun g => g h0), if_pos g] at hv
    cases hv
  have h33 := s33 n lm ls (by omega) l hs hv
  simp only [trapA] at h33
  refine acall_v h33 (by simp [AV.pureL, AV.pure, prsA_pure, strsA_pure]) (by simp [AV.pureL, AV.pure, intsA_pure]) ?_
  simp only [wB, awp, asP, asT, asN, loadA, St.ev, St.step, setS, killS, AV.kill, AV.killL, Mem.kill, AV.cells, AV.flat, AV.single, Nat.reduceAdd, Nat.reduceEqDiff, Nat.reduceLeDiff, Int.reduceAdd]
  have h34 := s34o n lm ls (by omega) h0
  simp only [trapA] at h34
  refine acall_v h34 (by simp [AV.pureL, AV.pure, prsA_pure]) (by simp [AV.pure, AV.pureL, prsA_pure, rfA, strsA]) ?_
  have hel := ersL_len (n := n) (lm := lm) (ls := ls) l []
  simp only [wB, awp, binC, cmpC, asQ, asT, asB, asI, asN, obA, lenA, storeA, putsA, mkA, Aw.newRow, St.ev, St.step, setS, killS, AV.kill, AV.killL, Mem.kill, AV.cells, AV.flat, AV.single, AV.cellular, Nat.reduceAdd, Nat.reduceEqDiff, Nat.reduceLeDiff, Int.reduceAdd, lenK, strsA_len, rfA, strsA_len, hel, decide_eq_false (show ¬ (100 : Int) < l.length by omega)]
  refine swp_loop' (fun k : Nat => ⟨[.bot, .s 1 (strsA l), .bot, .bot, .bot, .s 1 (intsA (ersL n lm ls [] l)), S (lg 0 (doL n lm ls l)), .bot, .q 0 4 0 0, .bot, I k, .bot, .bot, .bot, .bot, .bot, .bot, .bot, .bot, .bot, .bot, .bot, .bot, .bot, .bot, .bot, .bot, .bot, .bot, .bot, .bot, .bot, .bot, .bot, .bot, .bot, .bot, .bot, .bot, .bot, .bot, .bot, .bot, .bot, .bot, .bot, .bot, .bot, .bot, .bot, .bot, .bot, .bot, .bot, .bot, .bot, .bot, .bot, .bot, .bot, .bot, .bot, .bot, .bot, .bot, .bot, .bot, .bot, .bot, .bot, .bot, .bot, .bot, .bot, .bot, .bot, .bot, .bot, .bot, .bot, .bot, .bot, .bot, .bot, .bot, .bot, .bot, .bot, .bot, .bot, .bot, .bot, .bot, .bot, .bot], [some ⟨none, 55, 4, [rfA n lm ls (doL n lm ls (l.take k))]⟩]⟩) (fun k => k ≤ l.length) (fun k => l.length - k) 0 (le_sl' ?_ (by simp [leSl])) (Nat.zero_le _) ?_
  · simp [rfA, doL]
  intro k hk
  have hA := doL_acc n lm ls (l.take k)
  refine awp_sound (own := [8, 11]) _ _ _ _ _ ?_
  simp only [wB, awp, binC, cmpC, asB, asI, lenA, St.ev, St.step, setS, killS, AV.kill, AV.killL, Mem.kill, Nat.reduceAdd, Nat.reduceEqDiff, Int.reduceAdd, lenK, strsA_len, rfA, strsA_len]
  by_cases h : k < l.length
  case neg =>
    have h' : ¬ (k : Int) < l.length := by omega
    obtain rfl : k = l.length := by omega
    rw [List.take_length] at *
    simp only [wB, awp, asP, asQ, obA, loadA, St.ev, St.step, setS, killS, AV.kill, AV.killL, Mem.kill, AV.cells, AV.flat, AV.single, Nat.reduceAdd, Nat.reduceEqDiff, Nat.reduceLeDiff, Int.reduceAdd, decide_eq_false h']
    refine acall_v (s36 _ (by have := hA.inv.1; omega) hA.ords) (by simp [AV.pureL, AV.pure, strsA_pure]) rfl ?_
    simp only [wB, binC, eqC, asG, asB, asI, St.ev, St.step, setS, killS, AV.kill, AV.killL, Mem.kill, asStr, strC]
    refine acall_v s31 rfl rfl ?_
    simp only [wB, awp, asB, asN, St.ev, St.step, setS, killS, AV.kill, AV.killL, Mem.kill, Nat.reduceEqDiff]
    exact aend_frz rfl ⟨rfl, rfl⟩
  have h' : (k : Int) < l.length := by omega
  simp only [awp, ACond_true, decide_eq_true h']
  have h35 := s35 n lm ls _ hA (by omega) l[k] (hs _ (List.getElem_mem h))
  rw [← doL_take h] at h35
  have hat := ersL_at (n := n) (lm := lm) (ls := ls) h
  have hke : k < (ersL n lm ls [] l).length := by rw [hel]; exact h
  obtain ⟨e, he⟩ : ∃ e, e = erO n lm ls (doL n lm ls (l.take k)) l[k] := ⟨_, rfl⟩
  rw [← he] at h35 hat
  simp only [rfA] at h35
  refine swp_to ⟨[.bot, .s 1 (strsA l), .bot, .bot, .bot, .s 1 (intsA (ersL n lm ls [] l)), S (lg 0 (doL n lm ls l)), .bot, .q 0 4 0 0, .bot, I k, .q 1 4 0 0, I e, .bot, .bot, .bot, .bot, .bot, .bot, .bot, .bot, .bot, .bot, .bot, .bot, .bot, .bot, .bot, .bot, .bot, .bot, .bot, .bot, .bot, .bot, .bot, .bot, .bot, .bot, .bot, .bot, .bot, .bot, .bot, .bot, .bot, .bot, .bot, .bot, .bot, .bot, .bot, .bot, .bot, .bot, .bot, .bot, .bot, .bot, .bot, .bot, .bot, .bot, .bot, .bot, .bot, .bot, .bot, .bot, .bot, .bot, .bot, .bot, .bot, .bot, .bot, .bot, .bot, .bot, .bot, .bot, .bot, .bot, .bot, .bot, .bot, .bot, .bot, .bot, .bot, .bot, .bot, .bot, .bot, .bot], [some ⟨none, 55, 4, [rfA n lm ls (doL n lm ls (l.take k))]⟩, some ⟨none, 55, 4, [rfA n lm ls (doL n lm ls (l.take (k + 1)))]⟩]⟩ (swp_draw (own := [8, 11]) (.take 0 .reads [] (.take 1 .plain [] (.take 2 .plain [] (.take 3 .reads [] (.take 4 .reads [] (.alt 5 (.take 6 .plain [] (.take 7 .plain [] (.take 8 .plain [] (.alt 9 (.alt 10 (.take 11 .plain [] (.done)) (.nil)) (.nil))))) (.alt 9 (.alt 5 (.take 6 .plain [] (.take 7 .plain [] (.take 8 .plain [] (.alt 10 (.take 11 .plain [] (.done)) (.nil))))) (.nil)) (.nil)))))))) [⟨73, 256, 0, 0, true⟩, ⟨74, 2, 0, 0, true⟩, ⟨75, 1024, 0, 0, true⟩, ⟨76, 28334198897217871282176, 6, 0, true⟩, ⟨77, 37778931862957161709568, 8, 0, true⟩, ⟨78, 80280230208783968632832, 17, 0, false⟩, ⟨72, 151115727451828646838272, 32, 0, true⟩, ⟨79, 2361183241434822606848, 64, 0, true⟩, ⟨80, 2361183241434822606848, 64, 0, true⟩, ⟨12, 0, 0, 0, false⟩, ⟨0, 302231454903657293678592, 767, 1, false⟩, ⟨13, 604462909807314587353088, 2047, 0, true⟩] mo (by kernel_rfl) ?_) ?_
  · simp only [wB, idxC, asP, asQ, asS, asI, obA, loadA, mkA, Aw.newRow, St.ev, St.step, setS, killS, AV.kill, AV.killL, Mem.kill, AV.cells, AV.flat, AV.single, Nat.reduceAdd, Nat.reduceEqDiff, Nat.reduceLeDiff, Int.reduceAdd, ASch, St.put, Md.mem, Md.need, aget_strs h, Int.toNat_natCast]
    repeat' (first
      | refine And.intro ?_ ?_
      | omega
      | (refine acall_v h35 (by simp [AV.pureL, AV.pure, prsA_pure, strsA_pure]) (by simp [AV.pure, AV.pureL, prsA_pure, strsA_pure]) ?_; simp only [wB, asQ, asT, asN, obA, storeA, putsA, mkA, Aw.newRow, St.ev, St.step, setS, killS, AV.kill, AV.killL, Mem.kill, AV.cells, AV.flat, AV.single, AV.cellular, Nat.reduceAdd, Nat.reduceEqDiff, Nat.reduceLeDiff, Int.reduceAdd, ASch, St.put, Md.mem, Md.need]))
    all_goals
      refine le_sl' ?_ (by simp [leSl])
      simp [rfA]
  simp only [wB, awp, binC, idxC, arithC, cmpC, asP, asQ, asS, asB, asI, asN, obA, loadA, storeA, putsA, St.ev, St.step, setS, killS, AV.kill, AV.killL, Mem.kill, AV.cells, AV.flat, AV.single, AV.cellular, Nat.reduceAdd, Nat.reduceEqDiff, Nat.reduceLeDiff, Int.reduceAdd, isU, rfA, aget_ints hke, Int.toNat_natCast, hat]
  refine ⟨by omega, by unfold lim; omega, k + 1, le_cut (Mx := [some ⟨none, 55, 4, [rfA n lm ls (doL n lm ls (l.take (k + 1)))]⟩]) (by simp [leSl]) ?_ rfl ?_, h, by omega⟩
  · simp [rfA]
  · simp [freeM, rfA, AV.freeL, AV.free]
end Go.Proofs.YtndniceeibflcaaGreatDoor

namespace Go.Proofs.YtndniceeibflcaaGreatDoor
open Aw Mp Go.RowKit
set_option linter.unusedSimpArgs false
set_option maxRecDepth 8000

theorem strsA_msub (F : Nat → AV) (G : Nat → Nat → Nat → Nat → AV) (l : List By) : (strsA l).map (AV.sub F G) = strsA l := by rw [← AV.subL_map, strsA_sub]
theorem acall_mk {f : FuncId} {aS : List AV} {M : Mem} {K : HK (AV → Mem → Prop)} {x : AV} {m : Mch} (spec : ASpec Tryz.prog f aS (fun r Ns => r = x ∧ Ns = [m.obA 1, m.od])) (ha : AV.pureL aS = true) (h : K.k (x.up M.length) (M ++ [some (m.obA (M.length + 1)), some m.od])) : ACall Tryz.prog f aS M (K := K) := by
  refine acall_os spec ha ?_
  have e1 : (m.obA 1).up M.length = m.obA (M.length + 1) := by
    simp [Ob.up, Mch.obA, Mch.cells, AV.up, AV.sub, AV.subL, prsA_sub, strsA_sub, intsA_sub, gtsA_sub, Nat.add_comm]
  have e2 : m.od.up M.length = m.od := by
    simp [Ob.up, Mch.od, AV.up, AV.sub, AV.subL, strsA_sub, strsA_msub]
  simp only [List.map_cons, List.map_nil, e1, e2]
  exact h
end Go.Proofs.YtndniceeibflcaaGreatDoor

namespace Go.Proofs.YtndniceeibflcaaGreatDoor
open Aw Mp Go.RowKit
set_option linter.unusedSimpArgs false
set_option maxRecDepth 8000

/-- what is told of one order that is done: the counts, the places, the gates. -/
structure Step1 (lm : Int) (ls : List (Int × Int)) (s t : MS) : Prop where
  mv : s.moves ≤ t.moves
  co : s.cools ≤ t.cools
  dn : s.done ≤ t.done
  sum : t.moves + t.cools + t.done ≤ s.moves + s.cools + s.done + 1
  len : s.place.length ≤ t.place.length ∧ t.place.length ≤ s.place.length + 1
  at' : ∀ i, i < s.place.length → t.place.getD i 0 ≠ s.place.getD i 0 → t.moves = s.moves + 1 ∧ lnk ls (s.place.getD i 0) (t.place.getD i 0) = true
  gate : s.done < t.done → ∃ g : G4, t.circ = s.circ ++ [g] ∧ ¬ memL (wrmL lm s.heats) g.a = true ∧ ¬ memL (wrmL lm s.heats) g.b = true
theorem Step1.refl (lm : Int) (ls : List (Int × Int)) (s : MS) : Step1 lm ls s s := ⟨Int.le_refl _, Int.le_refl _, Int.le_refl _, by omega, ⟨Nat.le_refl _, by omega⟩, fun i _ h => absurd rfl h, fun h => absurd h (by omega)⟩
end Go.Proofs.YtndniceeibflcaaGreatDoor

namespace Go.Proofs.YtndniceeibflcaaGreatDoor
open Aw Mp Go.RowKit
set_option linter.unusedSimpArgs false
set_option maxRecDepth 8000

theorem ok108 : okFn Tryz.prog 108 = true := by kernel_rfl
theorem s108 (a : List Int) (ha : a.length ≤ 1000000) : ASpec Tryz.prog 108 [.s 1 (intsA a), .s 1 (intsA a)] (fun r Ms => r = B true ∧ Ms = []) := by
  refine aspec_of (own := []) Tryz.func108 rfl ok108 ?_
  simp only [wB, awp, binC, cmpC, asB, asI, asN, lenA, St.ev, St.step, setS, killS, AV.kill, AV.killL, Mem.kill, Nat.reduceAdd, Nat.reduceSub, Int.reduceAdd, Int.reduceSub, lenK, Tryz.ntmps108]
  refine swp_loop' (fun k : Nat => ⟨[.s 1 (intsA a), .s 1 (intsA a), .bot, .bot, .bot, .bot, .bot, .bot, .bot, .bot, .bot, .bot, I a.length, I k, .bot, .bot, .bot, .bot, .bot, .bot, .bot, .bot, .bot, .bot, .bot, .bot], []⟩) (fun k => k ≤ a.length) (fun k => a.length - k) 0 (le_sl (by simp [leSl, intsA_len])) (Nat.zero_le _) ?_
  intro k hk
  refine awp_sound (own := []) _ _ _ _ _ ?_
  simp only [wB, awp, binC, cmpC, asB, asI, St.ev, St.step, setS, killS, AV.kill, AV.killL, Mem.kill, Nat.reduceAdd, Int.reduceAdd]
  by_cases h : k < a.length
  case neg =>
    have h' : ¬ (k : Int) < a.length := by omega
    simp only [wB, awp, asN, St.ev, St.step, setS, killS, AV.kill, AV.killL, Mem.kill, Nat.reduceAdd, Int.reduceAdd, decide_eq_false h']
    exact aend_frz rfl ⟨rfl, rfl⟩
  have h' : (k : Int) < a.length := by omega
  simp only [wB, awp, asN, St.ev, St.step, setS, killS, AV.kill, AV.killL, Mem.kill, Nat.reduceAdd, Int.reduceAdd, decide_eq_true h']
  refine swp_draw (own := []) (.take 0 .plain [] (.take 1 .plain [] (.take 2 .reads [] (.take 3 .reads [] (.take 4 .plain [] (.take 5 .plain [] (.take 6 .reads [] (.take 7 .reads [] (.take 8 .plain [] (.done)))))))))) [⟨17, 1, 0, 0, true⟩, ⟨18, 32, 0, 0, true⟩, ⟨19, 196608, 3, 0, true⟩, ⟨20, 262144, 4, 0, true⟩, ⟨21, 2, 0, 0, true⟩, ⟨22, 32, 0, 0, true⟩, ⟨23, 3145728, 48, 0, true⟩, ⟨24, 4194304, 64, 0, true⟩, ⟨25, 8912896, 136, 0, true⟩] mo (by kernel_rfl) ?_
  simp only [wB, awp, binC, idxC, arithC, cmpC, asP, asS, asB, asI, loadA, St.ev, St.step, setS, killS, AV.kill, AV.killL, Mem.kill, AV.cells, AV.flat, AV.single, Nat.reduceAdd, Int.reduceAdd, ASch, St.put, Md.mem, Md.need, isU, aget_ints h, Int.toNat_natCast]
  exact ⟨by omega, by omega, by unfold lim; omega, k + 1, le_sl (by simp [leSl]), h, by omega⟩
theorem ok109 : okFn Tryz.prog 109 = true := by kernel_rfl
theorem s109 (a : List G4) (ha : a.length ≤ 1000000) : ASpec Tryz.prog 109 [.s 4 (gtsA a), .s 4 (gtsA a)] (fun r Ms => r = B true ∧ Ms = []) := by
  refine aspec_of (own := []) Tryz.func109 rfl ok109 ?_
  simp only [wB, awp, binC, cmpC, asB, asI, asN, lenA, St.ev, St.step, setS, killS, AV.kill, AV.killL, Mem.kill, Nat.reduceAdd, Nat.reduceSub, Int.reduceAdd, Int.reduceSub, lenK, Tryz.ntmps109, gtsA_len]
  refine swp_loop' (fun k : Nat => ⟨[.s 4 (gtsA a), .s 4 (gtsA a), .bot, .bot, .bot, .bot, .bot, .bot, .bot, .bot, .bot, .bot, I a.length, I k, .bot, .bot, .bot, .bot, .bot, .bot, .bot, .bot, .bot, .bot, .bot, .bot], []⟩) (fun k => k ≤ a.length) (fun k => a.length - k) 0 (le_sl (by simp [leSl, gtsA_len])) (Nat.zero_le _) ?_
  intro k hk
  refine awp_sound (own := []) _ _ _ _ _ ?_
  simp only [wB, awp, binC, cmpC, asB, asI, St.ev, St.step, setS, killS, AV.kill, AV.killL, Mem.kill, Nat.reduceAdd, Int.reduceAdd]
  by_cases h : k < a.length
  case neg =>
    have h' : ¬ (k : Int) < a.length := by omega
    simp only [wB, awp, asN, St.ev, St.step, setS, killS, AV.kill, AV.killL, Mem.kill, Nat.reduceAdd, Int.reduceAdd, decide_eq_false h']
    exact aend_frz rfl ⟨rfl, rfl⟩
  have h' : (k : Int) < a.length := by omega
  simp only [wB, awp, asN, St.ev, St.step, setS, killS, AV.kill, AV.killL, Mem.kill, Nat.reduceAdd, Int.reduceAdd, decide_eq_true h']
  refine swp_draw (own := []) (.take 0 .plain [] (.take 1 .plain [] (.take 2 .reads [] (.take 3 .reads [] (.take 4 .plain [] (.take 5 .plain [] (.take 6 .reads [] (.take 7 .reads [] (.take 8 .plain [] (.done)))))))))) [⟨17, 1, 0, 0, true⟩, ⟨18, 32, 0, 0, true⟩, ⟨19, 196608, 3, 0, true⟩, ⟨20, 262144, 4, 0, true⟩, ⟨21, 2, 0, 0, true⟩, ⟨22, 32, 0, 0, true⟩, ⟨23, 3145728, 48, 0, true⟩, ⟨24, 4194304, 64, 0, true⟩, ⟨25, 8912896, 136, 0, true⟩] mo (by kernel_rfl) ?_
  simp only [wB, awp, binC, idxC, arithC, cmpC, eqC, asP, asS, asG, asB, asI, loadA, St.ev, St.step, setS, killS, AV.kill, AV.killL, Mem.kill, AV.cells, AV.flat, AV.single, ints, Nat.reduceAdd, Nat.reduceLeDiff, Int.reduceAdd, ASch, St.put, Md.mem, Md.need, isU, aget_gts h, Int.toNat_natCast]
  exact ⟨by omega, by omega, by unfold lim; omega, k + 1, le_sl (by simp [leSl]), h, by omega⟩
theorem ok76 : okFn Tryz.prog 76 = true := by kernel_rfl
theorem s76 (z : Int) : ASpec Tryz.prog 76 [I z] (fun r Ms => r = B (decide (z < 0)) ∧ Ms = []) := by
  refine aspec_of (own := []) Tryz.func76 rfl ok76 ?_
  simp only [wB, awp, binC, cmpC, asI, asN, St.ev, St.step, setS, killS, AV.kill, AV.killL, Mem.kill, Nat.reduceAdd, Nat.reduceSub, Int.reduceAdd, Int.reduceSub, Tryz.ntmps76]
  exact aend_frz rfl ⟨rfl, rfl⟩
theorem ok77 : okFn Tryz.prog 77 = true := by kernel_rfl
theorem s77 (t : MS) (h1 : t.place.length ≤ 1000) (h2 : t.heats.length ≤ 1000) (h3 : t.circ.length ≤ 1000) : ASpec Tryz.prog 77 [stA t, stA t] (fun r Ms => r = B true ∧ Ms = []) := by
  refine aspec_of (own := []) Tryz.func77 rfl ok77 ?_
  simp only [wB, awp, asP, asN, loadA, St.ev, St.step, setS, killS, AV.kill, AV.killL, Mem.kill, AV.cells, AV.flat, AV.single, AV.cellular, AV.pure, AV.pureL, Nat.reduceAdd, Nat.reduceEqDiff, Nat.reduceSub, Nat.reduceLeDiff, Int.reduceAdd, Int.reduceSub, Tryz.ntmps77, stA]
  refine acall_v (s108 t.place (by omega)) (by simp [AV.pureL, AV.pure, intsA_pure]) rfl ?_
  simp only [wB, asP, loadA, St.ev, St.step, setS, killS, AV.kill, AV.killL, Mem.kill, AV.cells, AV.flat, AV.single, Nat.reduceAdd, Nat.reduceEqDiff, Nat.reduceLeDiff, Int.reduceAdd]
  refine acall_v (s108 t.heats (by omega)) (by simp [AV.pureL, AV.pure, intsA_pure]) rfl ?_
  simp only [wB, asP, asB, loadA, St.ev, St.step, setS, killS, AV.kill, AV.killL, Mem.kill, AV.cells, AV.flat, AV.single, Nat.reduceAdd, Nat.reduceEqDiff, Nat.reduceLeDiff, Int.reduceAdd]
  refine acall_v (s109 t.circ (by omega)) (by simp [AV.pureL, AV.pure, gtsA_pure]) rfl ?_
  simp only [wB, awp, binC, cmpC, asP, asB, asI, asN, loadA, St.ev, St.step, setS, killS, AV.kill, AV.killL, Mem.kill, AV.cells, AV.flat, AV.single, Nat.reduceAdd, Nat.reduceEqDiff, Nat.reduceLeDiff, Int.reduceAdd]
  exact aend_frz rfl ⟨rfl, rfl⟩
end Go.Proofs.YtndniceeibflcaaGreatDoor

namespace Go.Proofs.YtndniceeibflcaaGreatDoor
open Aw Mp Go.RowKit
set_option linter.unusedSimpArgs false
set_option maxRecDepth 8000

theorem rpO_acc {n lm : Int} {ls : List (Int × Int)} {l : List By} (h0 : vN n lm ls = 0) (hA : Acc n lm ls l) : rpO n lm ls (lg 0 l) = (l.length, 0) := by
  unfold rpO
  rw [if_neg (fun g => g h0), rd_acc hA, if_neg (fun g => g rfl)]
  exact rpL_acc l [] hA
theorem s27l {n lm : Int} {ls : List (Int × Int)} (hls : ls.length ≤ 100000) {l : List By} (h0 : vN n lm ls = 0) (hA : Acc n lm ls l) : ASpec Tryz.prog 27 [.g [I n, .s 2 (prsA ls)], I lm, S (lg 0 l)] (fun r Ms => r = .t [.q 0 13 0 0, I l.length, I 0] ∧ Ms = [(mkM n lm ls l).obA 1, (mkM n lm ls l).od]) := by
  have h := s27 n lm ls hls (lg 0 l) (by have := lg_small hA; omega)
  unfold rpP rpM at h
  rw [rpO_acc h0 hA, rd_acc hA] at h
  simpa [trapA] using h
theorem ok29 : okFn Tryz.prog 29 = true := by kernel_rfl
theorem m29 (n lm : Int) (ls : List (Int × Int)) (hls : ls.length ≤ 100000) (l : List By) (h0 : vN n lm ls = 0) (hA : Acc n lm ls l) : MSpec Tryz.prog 29 [.q 0 13 0 0] (memD (mkM n lm ls l)) (fun r N => r = B true ∧ N = memD (mkM n lm ls l)) := by
  refine mspec_of2 (own := [3, 8, 1003, 1006, 1011]) Tryz.func29 rfl ok29 ?_
  intro vs
  obtain ⟨gh, hgh⟩ : ∃ gh, gh = some (ghost vs [AV.q 0 13 0 0]) := ⟨_, rfl⟩
  have hs := sml_of hA
  have hI := hA.inv.2
  obtain ⟨hT, hlm, _⟩ := vN_ok h0
  have h27 := s27l hls h0 hA
  have h67 : MSpec Tryz.prog 67 [.q 0 13 0 0] (memD (mkM n lm ls l)) (fun r N => r = .t [.g [.s 1 (intsA (stO l).place), .s 1 (intsA (stO l).heats), .s 4 (gtsA (stO l).circ), I (stO l).moves, I (stO l).cools, I (stO l).done], S (lg 0 l)] ∧ N = memD (mkM n lm ls l)) := m67f _ hs.mu hs.p hs.h hs.c
  simp only [wB, awp, binC, eqC, asG, asB, asI, asN, St.ev, St.step, setS, killS, AV.kill, AV.killL, Mem.kill, Nat.reduceAdd, Nat.reduceEqDiff, Nat.reduceSub, Int.reduceAdd, Int.reduceSub, isNP, ptrN, asStr, nt32, Tryz.ntmps29, ← hgh, memD]
  refine swp_fs (own := [3]) [false, true, false, false, false, false, false, false] ?_
  simp only [wB, St.ev, St.step, setS, killS, AV.kill, AV.killL, Mem.kill]
  refine acall_f (fD h67 [gh] [1, 3] rfl rfl (by rw [hgh]; rfl)) ?_
  simp only [wB, awp, asQ, asT, asN, obA, storeA, putsA, mkA, Aw.newRow, St.ev, St.step, setS, killS, AV.kill, AV.killL, Mem.kill, AV.cells, AV.flat, AV.single, AV.cellular, Nat.reduceAdd, Nat.reduceEqDiff, Nat.reduceLeDiff, Int.reduceAdd, memD, AV.sub, keepG, liveI, AV.isQ, List.any_cons, List.any_nil, Mch.ob, Mch.od, Mch.cells, mkM]
  have est : (mkM n lm ls l).st = stO l := rfl
  have h48 := s48 n ls (stO l).place (by omega) (by have := hI.p4; omega)
  rw [inv_place hI hT] at h48
  simp only [trapA] at h48
  refine swp_draw (own := [3, 8]) (.take 0 .plain [] (.take 1 .plain [] (.take 2 .plain [] (.take 3 .reads [] (.take 4 .plain [] (.take 5 .reads [] (.alt 6 (.take 7 .plain [] (.take 8 .plain [] (.take 9 .plain [] (.take 10 .reads [] (.alt 11 (.take 12 .plain [] (.done)) (.nil)))))) (.nil)))))))) [⟨18, 1, 0, 0, true⟩, ⟨19, 131072, 1, 0, true⟩, ⟨20, 262144, 2, 0, true⟩, ⟨21, 524288, 4, 0, true⟩, ⟨22, 8, 0, 0, true⟩, ⟨23, 2097152, 16, 0, true⟩, ⟨24, 5242880, 40, 0, false⟩, ⟨25, 8388608, 64, 0, true⟩, ⟨26, 16777216, 192, 0, true⟩, ⟨27, 33554440, 256, 0, true⟩, ⟨28, 100663296, 768, 0, true⟩, ⟨29, 167772160, 1280, 0, false⟩, ⟨30, 301989888, 2304, 0, true⟩] mo (by kernel_rfl) ?_
  simp only [wB, asP, asQ, obA, loadA, St.ev, setS, AV.cells, AV.flat, AV.single, Nat.reduceAdd, Nat.reduceEqDiff, Nat.reduceLeDiff, Int.reduceAdd, ASch, St.put, Md.mem, Md.need]
  refine acall_v h48 (by simp [AV.pureL, AV.pure, prsA_pure, intsA_pure]) rfl ?_
  simp only [wB, binC, cmpC, asP, asQ, asI, obA, loadA, St.ev, St.step, setS, killS, AV.kill, AV.killL, Mem.kill, AV.cells, AV.flat, AV.single, Nat.reduceAdd, Nat.reduceEqDiff, Nat.reduceLeDiff, Int.reduceAdd, ASch, St.put, Md.mem, Md.need]
  have h75 : ASpec Tryz.prog 75 [.s 1 (intsA (stO l).heats), .f (.func 76) []] (fun r Ms => r = B false ∧ Ms = []) := by
    have h := s75 (stO l).heats (fun z => decide (z < 0)) 76 [] (by have := hI.hl; have := hI.p4; omega) rfl (fun z _ => s76 z)
    have e : (stO l).heats.any (fun z => decide (z < 0)) = false := by
      rw [List.any_eq_false]
      intro z hz
      have := hI.hin z hz
      simpa using this.1
    rw [e] at h
    exact h
  refine acall_v h75 rfl rfl ?_
  simp only [wB, awp, asB, St.ev, St.step, setS, killS, AV.kill, AV.killL, Mem.kill, Nat.reduceAdd, Nat.reduceEqDiff, Int.reduceAdd, ASch, St.put, Md.mem, Md.need]
  refine swp_to ⟨[.q 0 13 0 0, .bot, .bot, .q 4 6 0 0, S (lg 0 l), .bot, .bot, .bot, .bot, .bot, .bot, .bot, .bot, .bot, .bot, .bot, .bot, .bot, .bot, .bot, .bot, .bot, .bot, .bot, .bot, .bot, .bot, .bot, .bot, .bot, .bot, .bot, .bot, .bot, .bot, .bot, .bot, .bot, .bot, .bot, .bot, .bot, B false, .bot, .bot, .bot, .bot, .bot, .bot, .bot, .bot, .bot, .bot, .bot, .bot, .bot, .bot, .bot, .bot, .bot, .bot, .bot, .bot, .bot, .bot, .bot, .bot, .bot, .bot, .bot, .bot, .bot], [some (mkM n lm ls l).ob, none, some (mkM n lm ls l).od, gh, some ⟨none, 105, 6, [stA (stO l)]⟩]⟩ (awp_sound (own := [3, 8]) _ _ _ _ _ ?_) ?_
  · by_cases hc : 0 < (stO l).circ.length
    · have h49 := s49 (stO l).place.length (stO l).circ (by have := hI.c10; omega)
      rw [inv_circ' hI hc] at h49
      simp only [wB, awp, binC, cmpC, asP, asQ, asI, obA, lenA, loadA, St.ev, St.step, setS, killS, AV.kill, AV.killL, Mem.kill, AV.cells, AV.flat, AV.single, Nat.reduceAdd, Nat.reduceEqDiff, Nat.reduceLeDiff, Int.reduceAdd, lenK, gtsA_len, decide_eq_true (show 0 < ((stO l).circ.length : Int) by omega)]
      refine acall_v h49 (by simp [AV.pureL, AV.pure, gtsA_pure]) rfl ?_
      simp only [wB, binC, cmpC, asB, asI, St.ev, St.step, setS, killS, AV.kill, AV.killL, Mem.kill]
      refine le_sl' ?_ (by simp [leSl])
      simp [Mch.ob, Mch.od, Mch.cells, mkM, stA]
    · simp only [wB, awp, binC, cmpC, asP, asQ, asB, asI, obA, lenA, loadA, St.ev, St.step, setS, killS, AV.kill, AV.killL, Mem.kill, AV.cells, AV.flat, AV.single, Nat.reduceAdd, Nat.reduceEqDiff, Nat.reduceLeDiff, Int.reduceAdd, lenK, gtsA_len, decide_eq_false (show ¬ 0 < ((stO l).circ.length : Int) by omega)]
      refine le_sl' ?_ (by simp [leSl])
      simp [Mch.ob, Mch.od, Mch.cells, mkM, stA]
  simp only [wB, awp, asB, St.ev, AV.cells, Mch.ob, Mch.od, Mch.cells, mkM, stA]
  refine swp_draw (own := [3, 8]) (.take 0 .plain [] (.take 1 .plain [] (.take 2 .plain [] (.take 3 .reads [] (.take 4 .plain [] (.take 5 .plain [] (.take 6 .plain [] (.take 7 .reads [] (.take 8 .plain [] (.alt 9 (.take 10 .plain [] (.take 11 .plain [] (.take 12 .plain [] (.take 13 .plain [] (.take 14 .plain [] (.take 15 .plain [] (.take 16 .plain [] (.done)))))))) (.nil))))))))))) [⟨45, 1, 0, 0, true⟩, ⟨46, 17592186044416, 1, 0, true⟩, ⟨47, 35184372088832, 2, 0, true⟩, ⟨48, 70368744177664, 4, 0, true⟩, ⟨49, 1, 0, 0, true⟩, ⟨50, 281474976710656, 16, 0, true⟩, ⟨51, 562949953421312, 32, 0, true⟩, ⟨52, 1125899906842624, 64, 0, true⟩, ⟨53, 16, 0, 0, true⟩, ⟨54, 6896136929411072, 392, 0, false⟩, ⟨44, 9007199254740992, 512, 0, true⟩, ⟨55, 8796093022208, 1024, 0, true⟩, ⟨56, 8796093022208, 1024, 0, true⟩, ⟨57, 8796093022208, 1024, 0, true⟩, ⟨6, 18014398509481984, 4095, 0, true⟩, ⟨7, 36028797018963968, 24575, 0, true⟩, ⟨8, 72057594037927936, 65535, 0, true⟩] mo (by kernel_rfl) ?_
  simp only [wB, asP, asQ, obA, loadA, St.ev, setS, AV.cells, AV.flat, AV.single, Nat.reduceAdd, Nat.reduceEqDiff, Nat.reduceLeDiff, Int.reduceAdd, ASch, St.put, Md.mem, Md.need]
  refine acall_mk h27 (by simp [AV.pureL, AV.pure, prsA_pure]) ?_
  simp only [wB, awp, binC, cmpC, asT, asB, asI, asN, St.ev, St.step, setS, killS, AV.kill, AV.killL, Mem.kill, Nat.reduceAdd, Nat.reduceEqDiff, Int.reduceAdd, ASch, St.put, Md.mem, Md.need, List.drop_succ_cons, List.drop_zero, AV.sub, AV.subL, List.take_succ_cons, List.take_zero, AV.up]
  refine swp_le (σ' := ⟨[.q 0 13 0 0, .bot, .bot, .q 4 6 0 0, S (lg 0 l), .q 5 13 0 0, .bot, .bot, .bot, .bot, .bot, .bot, .bot, .bot, .bot, .bot, .bot, .bot, .bot, .bot, .bot, .bot, .bot, .bot, .bot, .bot, .bot, .bot, .bot, .bot, .bot, .bot, .bot, .bot, .bot, .bot, .bot, .bot, .bot, .bot, .bot, .bot, .bot, .bot, .bot, .bot, .bot, .bot, .bot, .bot, .bot, .bot, .bot, .bot, .bot, .bot, .bot, .bot, .bot, .bot, .bot, .bot, .bot, .bot, .bot, .bot, .bot, .bot, .bot, .bot, .bot, .bot], [some (mkM n lm ls l).ob, none, some (mkM n lm ls l).od, gh, some ⟨none, 105, 6, [stA (stO l)]⟩, some ((mkM n lm ls l).obA 7), none, some (mkM n lm ls l).od]⟩) (le_rn [0, 1, 2, 3, 4, 5, 99, 6] (by decide) ?_ (by simp [leSl, AV.sub, AV.subL, prsA_sub, prsA_msub, reF, reG, List.idxOf?, List.findIdx?, List.findIdx?.go])) ?_
  · rw [hgh]
    simp [reM, reF, reG, Mch.ob, Mch.obA, Mch.od, Mch.cells, mkM, stA, AV.sub, AV.subL, prsA_sub, strsA_sub, intsA_sub, gtsA_sub, strsA_msub, List.idxOf?, List.findIdx?, List.findIdx?.go, ghost]
  refine swp_fs (own := [3, 8]) [false, true, false, false, false, false, false, false] ?_
  simp only [wB, St.ev, St.step, setS, killS, AV.kill, AV.killL, Mem.kill]
  have fa := fA [some (mkM n lm ls l).ob, none, some (mkM n lm ls l).od, gh, some ⟨none, 105, 6, [stA (stO l)]⟩] [] h67 rfl (by simp [AV.pure, AV.pureL, intsA_pure, gtsA_pure]) 5 rfl (by
    rw [hgh]
    simp [memA, keepF, keepG, Mch.ob, Mch.obA, Mch.od, Mch.cells, mkM, stA, AV.sub, AV.subL, prsA_sub, strsA_sub, intsA_sub, gtsA_sub, strsA_msub, ghost, liveI, AV.isO, AV.isQ]) rfl
  refine acall_f fa ?_
  have h77 := s77 (stO l) hs.p hs.h hs.c
  simp only [stA] at h77
  simp only [wB, awp, binC, eqC, asP, asQ, asT, asG, asB, asI, asN, obA, loadA, storeA, putsA, mkA, Aw.newRow, St.ev, St.step, setS, killS, AV.kill, AV.killL, Mem.kill, AV.cells, AV.flat, AV.single, AV.cellular, Nat.reduceAdd, Nat.reduceEqDiff, Nat.reduceLeDiff, Int.reduceAdd, asStr, strC, List.drop_zero, AV.sub, keepG, liveI, AV.isQ, List.any_cons, List.any_nil, List.take_succ_cons, List.take_zero, memA, stA]
  refine acall_v h77 (by simp [AV.pureL, AV.pure, intsA_pure, gtsA_pure]) rfl ?_
  simp only [wB, awp, asB, asN, St.ev, St.step, setS, killS, AV.kill, AV.killL, Mem.kill, Nat.reduceEqDiff]
  exact ⟨_, _, memD (mkM n lm ls l), _, Le.refl _, rfl, by rw [hgh]; rfl, rfl, rfl, free_D _ _, rfl, rfl⟩
end Go.Proofs.YtndniceeibflcaaGreatDoor

namespace Go.Proofs.YtndniceeibflcaaGreatDoor
namespace Aw
open Go.RowKit
set_option linter.unusedSimpArgs false

theorem combR_at {F : Nat → AV} {G : Nat → Nat → Nat → Nat → AV} {M Mc M' : Mem} {i : Nat} {ob : Ob} (h : (combR F G M Mc M')[i]? = some (some ob)) :
    (liveI M i = true ∧ M'[i]? = some (some ob)) ∨ (liveI M i = false ∧ ∃ ob0, Mc[i]? = some (some ob0) ∧ ob = { ob0 with xs := AV.subL F G ob0.xs }) := by
  have hlt : i < Mc.length := by
    have := (List.getElem?_eq_some_iff.1 h).1
    rwa [combR_len] at this
  rw [combR_get _ _ _ _ _ _ hlt] at h
  injection h with h
  cases hl : liveI M i with
  | true =>
    rw [hl, if_pos rfl] at h
    refine .inl ⟨rfl, ?_⟩
    cases hm : M'[i]? with
    | none => rw [hm] at h; cases h
    | some o => rw [hm] at h; simp at h; rw [h]
  | false =>
    rw [hl, if_neg (by simp)] at h
    refine .inr ⟨rfl, ?_⟩
    cases hm : Mc[i]? with
    | none => rw [hm] at h; cases h
    | some o =>
      rw [hm] at h
      simp only [Option.getD_some, Option.map_eq_some_iff] at h
      obtain ⟨ob0, rfl, h⟩ := h
      exact ⟨ob0, rfl, h.symm⟩
/-- the header of an object is read off the arguments. -/
def Told (aS : List AV) (i : Nat) : Prop := ∀ (w : World) (T : Nat → Prop) (hv : Nat → Option Value) (w' : World) (T' : Nat → Prop) (hv' : Nat → Option Value) (vs : List Value), RVL w T hv aS vs → RVL w' T' hv' aS vs → hv' i = hv i
theorem MSpec.frameH {P : Program} {f : FuncId} {aS : List AV} {M M' Mq : Mem} {x : AV} (h : MSpec P f aS M (fun r N => r = x ∧ N = M')) (hlive : ∀ i, liveI M i = true → liveI M' i = true)
    (hq : ∀ i, liveI Mq i = true → liveI M' i = true) (hK : ∀ i, liveI Mq i = false → liveI M' i = true → liveI M i = true ∧ Told aS i)
    {Mc : Mem} (hsub : ∀ (i : Nat) (ob : Ob), M[i]? = some (some ob) → Mc[i]? = some (some ob)) (hnew : ∀ i, liveI M i = false → liveI M' i = true → Mc[i]? = some none) {Z : List Nat} (hZ : ∀ i, i < Mc.length → liveI M i = false → i ∈ Z) (hfa : AV.freeL Z aS = true) (hfm : freeM Z M = true) :
    FSpec P f aS Mq Mc x (combR (keepF Mq aS) (keepG Mq aS) M' Mc M') := by
  refine ⟨h.1, fun w vs A hv hM hsep hvs => ?_⟩
  obtain ⟨hvc, hvcE⟩ : ∃ hvc : Nat → Option Value, hvc = fun i => if liveI M i = true then hv i else none := ⟨_, rfl⟩
  obtain ⟨A', hA'⟩ : ∃ A' : Nat → Prop, A' = fun b => A b ∨ ∃ i v, liveI M i = false ∧ hv i = some v ∧ blk v = some b := ⟨_, rfl⟩
  have hc1 : ∀ i, liveI M i = true → hvc i = hv i := fun i hi => by rw [hvcE]; simp [hi]
  have hc2 : ∀ i u, hvc i = some u → liveI M i = true ∧ hv i = some u := fun i u hu => by
    rw [hvcE] at hu
    simp only at hu
    split at hu
    · exact ⟨by assumption, hu⟩
    · cases hu
  have hO : ∀ b, Own hvc b → Own hv b := by
    rintro b ⟨i, v, hi, hb⟩
    exact ⟨i, v, (hc2 i v hi).2, hb⟩
  have hT : OwnA A' hvc = OwnA A hv := by
    funext b
    apply propext
    constructor
    · rintro (hb | hb)
      · rw [hA'] at hb
        rcases hb with hb | ⟨i, v, _, hi, hb⟩
        · exact .inl hb
        · exact .inr ⟨i, v, hi, hb⟩
      · exact .inr (hO b hb)
    · rintro (hb | ⟨i, v, hi, hb⟩)
      · exact .inl (by rw [hA']; exact .inl hb)
      · cases hl : liveI M i with
        | true => exact .inr ⟨i, v, by rw [hc1 i hl]; exact hi, hb⟩
        | false => exact .inl (by rw [hA']; exact .inr ⟨i, v, hl, hi, hb⟩)
  have hh : ∀ i u, i ∉ Z → hv i = some u → hvc i = some u := fun i u hi hu => by
    obtain ⟨ob, hob⟩ := hM.dom i u hu
    have hlt := (List.getElem?_eq_some_iff.1 hob).1
    cases hl : liveI M i with
    | true => rw [hc1 i hl]; exact hu
    | false => exact absurd (hZ i hlt hl) hi
  have hMc : MemR A' w hvc M := by
    refine ⟨fun i ob hi => ?_, fun i v hi => ?_, fun i j vi vj b hi hj => hM.inj i j vi vj b (hc2 i vi hi).2 (hc2 j vj hj).2, fun b hb => ?_, hM.gl.1, fun b h => by obtain ⟨i, v, hi, hb⟩ := h; exact hM.gl.2 b ⟨i, v, (hc2 i v hi).2, hb⟩⟩
    · obtain ⟨v, h1, h2⟩ := hM.live i ob (hsub i ob hi)
      refine ⟨v, by rw [hc1 i (liveI_some hi)]; exact h1, ?_⟩
      have hfree : AV.freeL Z ob.xs = true := by
        simp only [freeM, List.all_eq_true] at hfm
        exact hfm _ (List.mem_of_getElem? hi)
      cases hm : ob.mp with
      | some ks =>
        obtain ⟨vals, g1, g3⟩ := h2.map hm
        have := RVL_keep (Keeps.refl w (OwnA A hv)) hh _ _ g3
        rw [killL_free hfree] at this
        exact ObR.of_map hm ⟨vals, g1, hT ▸ this⟩
      | none =>
        obtain ⟨us, g1, g2, g3⟩ := h2.row hm
        have := RL_keep (Keeps.refl w (OwnA A hv)) hh _ _ g3
        rw [killL_free hfree] at this
        exact ObR.of_row hm ⟨us, g1, g2, hT ▸ this⟩
    · exact liveI_true (hc2 i v hi).1
    · rw [hA'] at hb
      rcases hb with hb | ⟨i, v, _, hi, hb⟩
      · exact hM.old b hb
      · exact hM.own_lt ⟨i, v, hi, hb⟩
  have hsep' : ∀ b, Own hvc b → ¬ A' b := by
    rintro b ⟨i, v, hi, hb⟩ hb'
    obtain ⟨hl, hi'⟩ := hc2 i v hi
    rw [hA'] at hb'
    rcases hb' with hb' | ⟨j, u, hlj, hj, hbj⟩
    · exact hsep b ⟨i, v, hi', hb⟩ hb'
    · have := hM.inj i j v u b hi' hj hb hbj
      subst this
      rw [hl] at hlj
      cases hlj
  have hvs' : RVL w (OwnA A' hvc) hvc aS vs := by
    have := RVL_keep (Keeps.refl w (OwnA A hv)) hh _ _ hvs
    rw [killL_free hfa] at this
    exact hT ▸ this
  have hnone : ∀ i u, liveI M i = false → hv i = some u → liveI M' i = false := fun i u hl hu => by
    cases hl' : liveI M' i with
    | false => rfl
    | true =>
      obtain ⟨ob, hob⟩ := hM.dom i u hu
      rw [hnew i hl hl'] at hob
      cases hob
  have hlf : ∀ i, liveI M' i = false → liveI M i = false := fun i hl => by
    cases hl' : liveI M i with
    | false => rfl
    | true => rw [hlive i hl'] at hl; cases hl
  refine (h.2 w vs A' hvc hMc hsep' hvs').mono ?_
  rintro e w' ⟨r, N, v, hvc', rfl, ⟨hr0, hN0⟩, m1, m2, m3, kp, o1, o2, o3, o4⟩
  rw [hN0] at m1
  rw [hr0] at m2
  obtain ⟨hv', hvE⟩ : ∃ hv' : Nat → Option Value, hv' = fun i => if liveI M' i = true then hvc' i else hv i := ⟨_, rfl⟩
  have d1 : ∀ i u, hvc' i = some u → liveI M' i = true := fun i u hu => by
    obtain ⟨ob, hob⟩ := m1.dom i u hu
    exact liveI_some hob
  have e1 : ∀ i, liveI M' i = true → hv' i = hvc' i := fun i hi => by rw [hvE]; simp [hi]
  have e2 : ∀ i, liveI M' i = false → hv' i = hv i := fun i hi => by rw [hvE]; simp [hi]
  have e3 : ∀ i u, i ∉ ([] : List Nat) → hvc' i = some u → hv' i = some u := fun i u _ hu => by rw [e1 i (d1 i u hu)]; exact hu
  have hT' : OwnA A' hvc' = OwnA A hv' := by
    funext b
    apply propext
    constructor
    · rintro (hb | ⟨i, v, hi, hb⟩)
      · rw [hA'] at hb
        rcases hb with hb | ⟨i, v, hl, hi, hb⟩
        · exact .inl hb
        · exact .inr ⟨i, v, by rw [e2 i (hnone i v hl hi)]; exact hi, hb⟩
      · exact .inr ⟨i, v, e3 i v (by simp) hi, hb⟩
    · rintro (hb | ⟨i, v, hi, hb⟩)
      · exact .inl (by rw [hA']; exact .inl hb)
      · cases hl : liveI M' i with
        | true => exact .inr ⟨i, v, by rw [← e1 i hl]; exact hi, hb⟩
        | false => exact .inl (by rw [hA']; exact .inr ⟨i, v, hlf i hl, by rw [← e2 i hl]; exact hi, hb⟩)
  have kpO : Keeps w (Own hv) w' (Own hv') := by
    refine ⟨kp.size, fun b hb hn => kp.block b hb fun ho => hn (hO b ho), ?_⟩
    rintro b hb ⟨i, v, hi, hbv⟩
    cases hl : liveI M' i with
    | true => exact hO b (kp.own b hb ⟨i, v, by rw [← e1 i hl]; exact hi, hbv⟩)
    | false => exact ⟨i, v, by rw [← e2 i hl]; exact hi, hbv⟩
  have kpA : Keeps w (OwnA A hv) w' (OwnA A hv') := ⟨kpO.size, fun b hb hn => kpO.block b hb (fun ho => hn (.inr ho)), fun b hb ho => ho.elim .inl (fun ho => .inr (kpO.own b hb ho))⟩
  have kpT : Keeps w' (OwnA A' hvc') w' (OwnA A hv') := by rw [hT']; exact Keeps.refl _ _
  have m3' : RVL w' (OwnA A hv') hv' aS vs := by
    have := RVL_keep kpT e3 _ _ m3
    rwa [AV.killL_nil] at this
  have hblk : ∀ i v b, liveI M i = false → hv i = some v → blk v = some b → w'.heap[b]? = w.heap[b]? := by
    intro i v b hl hi hb
    refine kp.block b (hM.own_lt ⟨i, v, hi, hb⟩) ?_
    rintro ⟨j, u, hj, hbj⟩
    obtain ⟨hlj, hj'⟩ := hc2 j u hj
    have := hM.inj i j v u b hi hj' hb hbj
    subst this
    rw [hl] at hlj
    cases hlj
  have hst : ∀ i, liveI Mq i = false → hv' i = hv i := by
    intro i hl
    cases hl' : liveI M' i with
    | false => exact e2 i hl'
    | true =>
      obtain ⟨k1, k2⟩ := hK i hl hl'
      rw [e1 i hl', k2 w _ hvc w' _ hvc' vs hvs' m3, hc1 i k1]
  have hFF : ∀ i v, hv i = some v → v.oneCell' = true → R w' (OwnA A hv') hv' (keepF Mq aS i) [v] := by
    intro i v hiv h1c
    unfold keepF
    cases hl : liveI Mq i with
    | false =>
      rw [if_neg (by simp)]
      simp only [R]
      exact ⟨v, by rw [hst i hl]; exact hiv, rfl, h1c⟩
    | true =>
      rw [if_pos rfl]
      split
      · rename_i hany
        obtain ⟨z, hz, hzi⟩ := List.any_eq_true.1 hany
        obtain rfl := AV.isO_eq hzi
        obtain ⟨p, u1, q1, q2, q3⟩ := rvl_mem _ _ _ hvs hz
        have q4 := rvl_at _ _ p _ u1 m3' q1 q2
        simp only [RV, R] at q3 q4
        obtain ⟨u2, s1, s2, _⟩ := q3
        obtain ⟨u3, s3, s4, s5⟩ := q4
        injection s2 with s2
        injection s4 with s4
        rw [hiv] at s1
        injection s1 with s1
        simp only [R]
        exact ⟨v, by rw [s3, ← s4, s2, s1], rfl, h1c⟩
      · simp only [R]; exact ⟨v, rfl, h1c⟩
  have hGG : ∀ i k j off us, R w (OwnA A hv) hv (.q i k j off) us → R w' (OwnA A hv') hv' (keepG Mq aS i k j off) us := by
    intro i k j off us hus
    unfold keepG
    cases hl : liveI Mq i with
    | false =>
      rw [if_neg (by simp)]
      simp only [R] at hus ⊢
      obtain ⟨b, n, c, s1, s2⟩ := hus
      exact ⟨b, n, c, by rw [hst i hl]; exact s1, s2⟩
    | true =>
      rw [if_pos rfl]
      split
      · rename_i hany
        obtain ⟨z, hz, hzi⟩ := List.any_eq_true.1 hany
        obtain rfl := AV.isQ_eq hzi
        obtain ⟨p, u1, q1, q2, q3⟩ := rvl_mem _ _ _ hvs hz
        have q4 := rvl_at _ _ p _ u1 m3' q1 q2
        simp only [RV, R] at q3 q4 hus ⊢
        obtain ⟨b, n, c, s1, s2⟩ := q3
        obtain ⟨b', n', c', s3, s4⟩ := q4
        obtain ⟨b'', n'', c'', s5, s6⟩ := hus
        rw [s1] at s5
        injection s5 with s5
        injection s5 with s5 _ _
        injection s5 with s5
        injection s5 with s5
        injection s2 with s2
        injection s4 with s4
        rw [s2] at s4
        injection s4 with s4
        injection s4 with s4
        injection s4 with s4
        exact ⟨b', n', c', s3, by rw [s6, ← s5, s4]⟩
      · exact R_botq hus
  refine ⟨v, hv', rfl, ⟨fun i ob hi => ?_, fun i u hi => ?_, ?_, fun b hb => Nat.lt_of_lt_of_le (hM.old b hb) kp.size, m1.gl.1, fun b ho hb => hM.gl.2 b (kpO.own b (hM.gl.1.lt hb) ho) hb⟩, ?_, m3', kpO, o1, o2, o3, o4, hst⟩
  · rcases combR_at hi with ⟨hl, hi'⟩ | ⟨hl, ob0, hi', rfl⟩
    · obtain ⟨u, g1, g2⟩ := m1.live i ob hi'
      refine ⟨u, by rw [e1 i hl]; exact g1, ?_⟩
      cases hm : ob.mp with
      | some ks =>
        obtain ⟨vals, k1, k3⟩ := g2.map hm
        have := RVL_keep kpT e3 _ _ k3
        rw [AV.killL_nil] at this
        exact ObR.of_map hm ⟨vals, k1, this⟩
      | none =>
        obtain ⟨us, k1, k2, k3⟩ := g2.row hm
        have := RL_keep kpT e3 _ _ k3
        rw [AV.killL_nil] at this
        exact ObR.of_row hm ⟨us, k1, k2, this⟩
    · obtain ⟨u, g1, g2⟩ := hM.live i ob0 hi'
      refine ⟨u, by rw [e2 i hl]; exact g1, ?_⟩
      cases hm : ob0.mp with
      | some ks =>
        obtain ⟨vals, k1, k3⟩ := g2.map hm
        exact ObR.of_map (ks := ks) rfl ⟨vals, k1.block fun b hb => hblk i _ b (hlf i hl) g1 hb, RVL_subk kpA hFF (keepF_single Mq aS) hGG (keepG_single Mq aS) _ _ k3⟩
      | none =>
        obtain ⟨us, k1, k2, k3⟩ := g2.row hm
        refine ObR.of_row rfl ⟨us, ?_, fun x hx => ?_, RL_subk kpA hFF (keepF_single Mq aS) hGG (keepG_single Mq aS) _ _ k3⟩
        · simp only [AV.subL_map, List.length_map]
          exact ownsRow_of_block k1 fun b hb => hblk i u b (hlf i hl) g1 (by rw [blk_row k1]; exact hb)
        · simp only [AV.subL_map, List.mem_map] at hx
          obtain ⟨y, hy, rfl⟩ := hx
          rw [size_sub (keepF_single Mq aS) (keepG_single Mq aS)]
          exact k2 y hy
  · cases hl : liveI M' i with
    | true =>
      rw [e1 i hl] at hi
      obtain ⟨ob, hob⟩ := m1.dom i u hi
      have hlt : i < Mc.length := by
        cases hl0 : liveI M i with
        | true =>
          obtain ⟨ob0, hob0⟩ := liveI_true hl0
          exact (List.getElem?_eq_some_iff.1 (hsub i ob0 hob0)).1
        | false => exact (List.getElem?_eq_some_iff.1 (hnew i hl0 hl)).1
      exact ⟨ob, by rw [combR_get _ _ _ _ _ _ hlt, if_pos hl, hob]; rfl⟩
    | false =>
      rw [e2 i hl] at hi
      obtain ⟨ob, hob⟩ := hM.dom i u hi
      have hlt := (List.getElem?_eq_some_iff.1 hob).1
      exact ⟨_, by rw [combR_get _ _ _ _ _ _ hlt, if_neg (by simp [hl]), hob]; rfl⟩
  · intro i j vi vj b hi hj hbi hbj
    have cross : ∀ i j vi vj b, liveI M' i = true → liveI M' j = false → hv' i = some vi → hv' j = some vj → blk vi = some b → blk vj = some b → False := by
      intro i j vi vj b hli hlj hi hj hbi hbj
      rw [e1 i hli] at hi
      rw [e2 j hlj] at hj
      have hlt := hM.own_lt ⟨j, vj, hj, hbj⟩
      have h1 := hO b (kp.own b hlt ⟨i, vi, hi, hbi⟩)
      obtain ⟨i2, v2, hi2, hb2⟩ := kp.own b hlt ⟨i, vi, hi, hbi⟩
      obtain ⟨hl2, hi2'⟩ := hc2 i2 v2 hi2
      have := hM.inj i2 j v2 vj b hi2' hj hb2 hbj
      subst this
      rw [hlive _ hl2] at hlj
      cases hlj
    cases hli : liveI M' i with
    | true =>
      cases hlj : liveI M' j with
      | true => exact m1.inj i j vi vj b (by rw [← e1 i hli]; exact hi) (by rw [← e1 j hlj]; exact hj) hbi hbj
      | false => exact (cross i j vi vj b hli hlj hi hj hbi hbj).elim
    | false =>
      cases hlj : liveI M' j with
      | true => exact (cross j i vj vi b hlj hli hj hi hbj hbi).elim
      | false => exact hM.inj i j vi vj b (by rw [← e2 i hli]; exact hi) (by rw [← e2 j hlj]; exact hj) hbi hbj
  · have := RV_keep kpT x [] hvc' hv' v e3 m2
    rwa [AV.kill_nil] at this
theorem MSpec.frameG {P : Program} {f : FuncId} {aS : List AV} {M M' : Mem} {x : AV} (h : MSpec P f aS M (fun r N => r = x ∧ N = M')) (hlive : ∀ i, liveI M i = true → liveI M' i = true)
    {Mc : Mem} (hsub : ∀ (i : Nat) (ob : Ob), M[i]? = some (some ob) → Mc[i]? = some (some ob)) (hnew : ∀ i, liveI M i = false → liveI M' i = true → Mc[i]? = some none) {Z : List Nat} (hZ : ∀ i, i < Mc.length → liveI M i = false → i ∈ Z) (hfa : AV.freeL Z aS = true) (hfm : freeM Z M = true) :
    FSpec P f aS M' Mc x (combR (keepF M' aS) (keepG M' aS) M' Mc M') :=
  MSpec.frameH h hlive (fun _ h => h) (fun i h1 h2 => by rw [h1] at h2; cases h2) hsub hnew hZ hfa hfm

end Aw
end Go.Proofs.YtndniceeibflcaaGreatDoor

namespace Go.Proofs.YtndniceeibflcaaGreatDoor
namespace Aw
open Go.RowKit
theorem mem_pad {A : Nat → Prop} {w : World} {hv : Nat → Option Value} {M : Mem} (n : Nat) (h : MemR A w hv M) : MemR A w hv (M ++ List.replicate n none) := by
  have key : ∀ (i : Nat) (ob : Ob), (M ++ List.replicate n none)[i]? = some (some ob) ↔ M[i]? = some (some ob) := by
    intro i ob
    rcases Nat.lt_or_ge i M.length with hlt | hge
    · rw [List.getElem?_append_left hlt]
    · rw [List.getElem?_append_right hge, List.getElem?_eq_none hge, List.getElem?_replicate]
      split <;> simp
  exact ⟨fun i ob hi => h.live i ob ((key i ob).1 hi), fun i v hi => by obtain ⟨ob, e⟩ := h.dom i v hi; exact ⟨ob, (key i ob).2 e⟩, h.inj, h.old, h.gl⟩
/-- room for more objects. -/
theorem le_pad {sl : List AV} {M : Mem} (n : Nat) : Le ⟨sl, M⟩ ⟨sl, M ++ List.replicate n none⟩ := by
  intro C a w hS
  obtain ⟨hv, hd, hsz, hsl, hM, hF⟩ := hS
  exact ⟨hv, hd, hsz, hsl, mem_pad n hM, hF⟩
def noneI (M : Mem) (i : Nat) : Bool := match M[i]? with | some none => true | _ => false
theorem noneI_true {M : Mem} {i : Nat} (h : noneI M i = true) : M[i]? = some none := by
  unfold noneI at h
  split at h
  · assumption
  · cases h
theorem liveI_lt {M : Mem} {i : Nat} (h : liveI M i = true) : i < M.length := by
  obtain ⟨ob, e⟩ := liveI_true h
  exact (List.getElem?_eq_some_iff.1 e).1
theorem fspec_ofG {P : Program} {f : FuncId} {ars : List AV} {M Mc M' N : Mem} {x : AV} (spec : MSpec P f ars M (fun r N => r = x ∧ N = M')) (Z : List Nat) (hl : ((List.range M.length).all fun i => !liveI M i || liveI M' i) = true) (hsub : subM M Mc)
    (hn : ((List.range M'.length).all fun i => liveI M i || (!liveI M' i || noneI Mc i)) = true) (hZ : deadL M Mc.length = Z) (hfa : AV.freeL Z ars = true) (hfm : freeM Z M = true)
    (hN : combR (keepF M' ars) (keepG M' ars) M' Mc M' = N) : FSpec P f ars M' Mc x N := by
  have := MSpec.frameG spec (fun i hi => by
    have := List.all_eq_true.1 hl i (List.mem_range.2 (liveI_lt hi))
    rw [hi] at this
    simpa using this) (Mc := Mc) (subM_get M Mc hsub) (fun i h1 h2 => by
    have := List.all_eq_true.1 hn i (List.mem_range.2 (liveI_lt h2))
    rw [h1, h2] at this
    exact noneI_true (by simpa using this)) (Z := Z) (fun i hi hd => hZ ▸ mem_deadL hi hd) hfa hfm
  rw [hN] at this
  exact this
end Aw
open Aw Mp Go.RowKit
set_option linter.unusedSimpArgs false
set_option maxRecDepth 8000

theorem m44o (m : Mch) (hs : Sml m) : MSpec Tryz.prog 44 [.q 0 13 0 0] [some m.ob, none, some m.od, none, none, none] (fun r N => r = .o 3 ∧ N = [some m.ob, none, some m.od, some (rowP m.st.place), none, none]) := by
  refine mspec_of2 (own := [3, 1001]) Tryz.func44 rfl ok44 ?_
  intro vs
  obtain ⟨gh, hgh⟩ : ∃ gh, gh = some (ghost vs [AV.q 0 13 0 0]) := ⟨_, rfl⟩
  simp only [wB, awp, asN, St.ev, St.step, setS, killS, AV.kill, AV.killL, Mem.kill, Nat.reduceAdd, Nat.reduceEqDiff, Nat.reduceSub, Int.reduceAdd, Int.reduceSub, Tryz.ntmps44, ← hgh]
  refine swp_fm (own := [3]) 1 rfl rfl rfl ?_
  simp only [wB, St.ev, St.step, setS, killS, AV.kill, AV.killL, Mem.kill, AV.cells, Mch.ob, Mch.od, Mch.cells, List.take_succ_cons, List.take_zero]
  refine acall_f (fspec_ofG (m67 m hs.mu hs.p hs.h hs.c) [1, 3, 4, 5, 6] rfl (by exact ⟨rfl, rfl, trivial⟩) rfl rfl rfl (by simp [freeM, memD, Mch.ob, Mch.od, Mch.cells, AV.freeL, AV.free, strsA_free]) (N := [some m.ob, none, some m.od, some (rowP m.st.place), some (rowP m.st.heats), some (rowC m.st.circ), gh]) (by rw [hgh]; rfl)) ?_
  simp only [wB, awp, asP, asQ, asT, asN, obA, loadA, storeA, putsA, mkA, Aw.newRow, St.ev, St.step, setS, killS, AV.kill, AV.killL, Mem.kill, AV.cells, AV.flat, AV.single, AV.cellular, Nat.reduceAdd, Nat.reduceEqDiff, Nat.reduceLeDiff, Int.reduceAdd, Mch.ob, Mch.od, Mch.cells, rowP, rowC, stO', List.drop_succ_cons, List.drop_zero, AV.sub, keepG, liveI, AV.isQ, List.any_cons, List.any_nil, List.take_succ_cons, List.take_zero]
  refine ⟨⟨[.q 0 13 0 0, .bot, .o 3, .bot, .bot, .bot, .bot, .bot, .bot, .bot, .bot, .bot], [some m.ob, none, some m.od, some (rowP m.st.place), none, none, gh, some ⟨none, 105, 6, [.g [.o 3, .s 1 (intsA m.st.heats), .s 4 (gtsA m.st.circ), I m.st.moves, I m.st.cools, I m.st.done]]⟩]⟩, _, [some m.ob, none, some m.od, some (rowP m.st.place), none, none], _, Le.trans (le_frz 4 rfl (intsA_pure _)) (Le.trans (le_frz 5 rfl (by simp only [rowC, gtsA_sub]; exact gtsA_pure _)) (le_sl' ?_ ?_)), rfl, by rw [hgh]; rfl, rfl, rfl, ?_, rfl, rfl⟩
  · rw [hgh]
    simp [frzM, memL', Mch.ob, Mch.od, Mch.cells, rowP, rowC, AV.sub, AV.subL, intsA_sub, gtsA_sub, prsA_sub, strsA_sub, ghost]
  · simp [leSl, frz1, AV.sub, AV.subL, memL']
  simp [freeM, Mch.ob, Mch.od, Mch.cells, rowP, AV.freeL, AV.free, strsA_free, intsA_free, Zr, List.range_succ]
theorem m45o (m : Mch) (hs : Sml m) : MSpec Tryz.prog 45 [.q 0 13 0 0] [some m.ob, none, some m.od, none, none, none] (fun r N => r = .o 4 ∧ N = [some m.ob, none, some m.od, none, some (rowP m.st.heats), none]) := by
  refine mspec_of2 (own := [3, 1001]) Tryz.func45 rfl ok45 ?_
  intro vs
  obtain ⟨gh, hgh⟩ : ∃ gh, gh = some (ghost vs [AV.q 0 13 0 0]) := ⟨_, rfl⟩
  simp only [wB, awp, asN, St.ev, St.step, setS, killS, AV.kill, AV.killL, Mem.kill, Nat.reduceAdd, Nat.reduceEqDiff, Nat.reduceSub, Int.reduceAdd, Int.reduceSub, Tryz.ntmps45, ← hgh]
  refine swp_fm (own := [3]) 1 rfl rfl rfl ?_
  simp only [wB, St.ev, St.step, setS, killS, AV.kill, AV.killL, Mem.kill, AV.cells, Mch.ob, Mch.od, Mch.cells, List.take_succ_cons, List.take_zero]
  refine acall_f (fspec_ofG (m67 m hs.mu hs.p hs.h hs.c) [1, 3, 4, 5, 6] rfl (by exact ⟨rfl, rfl, trivial⟩) rfl rfl rfl (by simp [freeM, memD, Mch.ob, Mch.od, Mch.cells, AV.freeL, AV.free, strsA_free]) (N := [some m.ob, none, some m.od, some (rowP m.st.place), some (rowP m.st.heats), some (rowC m.st.circ), gh]) (by rw [hgh]; rfl)) ?_
  simp only [wB, awp, asP, asQ, asT, asN, obA, loadA, storeA, putsA, mkA, Aw.newRow, St.ev, St.step, setS, killS, AV.kill, AV.killL, Mem.kill, AV.cells, AV.flat, AV.single, AV.cellular, Nat.reduceAdd, Nat.reduceEqDiff, Nat.reduceLeDiff, Int.reduceAdd, Mch.ob, Mch.od, Mch.cells, rowP, rowC, stO', List.drop_succ_cons, List.drop_zero, AV.sub, keepG, liveI, AV.isQ, List.any_cons, List.any_nil, List.take_succ_cons, List.take_zero]
  refine ⟨⟨[.q 0 13 0 0, .bot, .o 4, .bot, .bot, .bot, .bot, .bot, .bot, .bot, .bot, .bot], [some m.ob, none, some m.od, none, some (rowP m.st.heats), none, gh, some ⟨none, 105, 6, [.g [.s 1 (intsA m.st.place), .o 4, .s 4 (gtsA m.st.circ), I m.st.moves, I m.st.cools, I m.st.done]]⟩]⟩, _, [some m.ob, none, some m.od, none, some (rowP m.st.heats), none], _, Le.trans (le_frz 3 rfl (intsA_pure _)) (Le.trans (le_frz 5 rfl (by simp only [rowC, gtsA_sub]; exact gtsA_pure _)) (le_sl' ?_ ?_)), rfl, by rw [hgh]; rfl, rfl, rfl, ?_, rfl, rfl⟩
  · rw [hgh]
    simp [frzM, memL', Mch.ob, Mch.od, Mch.cells, rowP, rowC, AV.sub, AV.subL, intsA_sub, gtsA_sub, prsA_sub, strsA_sub, ghost]
  · simp [leSl, frz1, AV.sub, AV.subL, memL']
  simp [freeM, Mch.ob, Mch.od, Mch.cells, rowP, AV.freeL, AV.free, strsA_free, intsA_free, Zr, List.range_succ]
theorem m47o (m : Mch) (hs : Sml m) : MSpec Tryz.prog 47 [.q 0 13 0 0] [some m.ob, none, some m.od, none, none, none] (fun r N => r = .o 5 ∧ N = [some m.ob, none, some m.od, none, none, some (rowC m.st.circ)]) := by
  refine mspec_of2 (own := [3, 1001]) Tryz.func47 rfl ok47 ?_
  intro vs
  obtain ⟨gh, hgh⟩ : ∃ gh, gh = some (ghost vs [AV.q 0 13 0 0]) := ⟨_, rfl⟩
  simp only [wB, awp, asN, St.ev, St.step, setS, killS, AV.kill, AV.killL, Mem.kill, Nat.reduceAdd, Nat.reduceEqDiff, Nat.reduceSub, Int.reduceAdd, Int.reduceSub, Tryz.ntmps47, ← hgh]
  refine swp_fm (own := [3]) 1 rfl rfl rfl ?_
  simp only [wB, St.ev, St.step, setS, killS, AV.kill, AV.killL, Mem.kill, AV.cells, Mch.ob, Mch.od, Mch.cells, List.take_succ_cons, List.take_zero]
  refine acall_f (fspec_ofG (m67 m hs.mu hs.p hs.h hs.c) [1, 3, 4, 5, 6] rfl (by exact ⟨rfl, rfl, trivial⟩) rfl rfl rfl (by simp [freeM, memD, Mch.ob, Mch.od, Mch.cells, AV.freeL, AV.free, strsA_free]) (N := [some m.ob, none, some m.od, some (rowP m.st.place), some (rowP m.st.heats), some (rowC m.st.circ), gh]) (by rw [hgh]; rfl)) ?_
  simp only [wB, awp, asP, asQ, asT, asN, obA, loadA, storeA, putsA, mkA, Aw.newRow, St.ev, St.step, setS, killS, AV.kill, AV.killL, Mem.kill, AV.cells, AV.flat, AV.single, AV.cellular, Nat.reduceAdd, Nat.reduceEqDiff, Nat.reduceLeDiff, Int.reduceAdd, Mch.ob, Mch.od, Mch.cells, rowP, rowC, stO', List.drop_succ_cons, List.drop_zero, AV.sub, keepG, liveI, AV.isQ, List.any_cons, List.any_nil, List.take_succ_cons, List.take_zero]
  refine ⟨⟨[.q 0 13 0 0, .bot, .o 5, .bot, .bot, .bot, .bot, .bot, .bot, .bot, .bot, .bot], [some m.ob, none, some m.od, none, none, some (rowC m.st.circ), gh, some ⟨none, 105, 6, [.g [.s 1 (intsA m.st.place), .s 1 (intsA m.st.heats), .o 5, I m.st.moves, I m.st.cools, I m.st.done]]⟩]⟩, _, [some m.ob, none, some m.od, none, none, some (rowC m.st.circ)], _, Le.trans (le_frz 3 rfl (intsA_pure _)) (Le.trans (le_frz 4 rfl (by simp only [rowP, intsA_sub]; exact intsA_pure _)) (le_sl' ?_ ?_)), rfl, by rw [hgh]; rfl, rfl, rfl, ?_, rfl, rfl⟩
  · rw [hgh]
    simp [frzM, memL', Mch.ob, Mch.od, Mch.cells, rowP, rowC, AV.sub, AV.subL, intsA_sub, gtsA_sub, prsA_sub, strsA_sub, ghost]
  · simp [leSl, frz1, AV.sub, AV.subL, memL']
  simp [freeM, Mch.ob, Mch.od, Mch.cells, rowC, AV.freeL, AV.free, strsA_free, gtsA_free, Zr, List.range_succ]
end Go.Proofs.YtndniceeibflcaaGreatDoor

namespace Go.Proofs.YtndniceeibflcaaGreatDoor
open Aw Mp Go.RowKit
set_option linter.unusedSimpArgs false
set_option maxRecDepth 8000

theorem ok51 : okFn Tryz.prog 51 = true := by kernel_rfl
theorem s51 (n : Int) (ls : List (Int × Int)) (hls : ls.length ≤ 1000000) : ASpec Tryz.prog 51 [trapA n ls] (fun r Ms => r = .g [I n, .o 0] ∧ Ms = [⟨none, 79, 2, prsA ls⟩]) := by
  refine aspec_of (own := [2, 5]) Tryz.func51 rfl ok51 ?_
  simp only [wB, awp, mkA, Aw.newRow, St.ev, St.step, setS, killS, AV.kill, AV.killL, Mem.kill, AV.cellular, AV.pure, AV.pureL, Nat.reduceAdd, Nat.reduceEqDiff, Nat.reduceSub, Int.reduceAdd, Int.reduceSub, Tryz.ntmps51, trapA]
  refine swp_draw (own := [2, 5]) (.take 3 .plain [] (.take 4 .reads [] (.take 0 .over [1] (.alt 1 (.alt 2 (.alt 5 (.take 6 .plain [] (.alt 7 (.done) (.nil))) (.nil)) (.nil)) (.alt 2 (.alt 1 (.alt 5 (.take 6 .plain [] (.alt 7 (.done) (.nil))) (.nil)) (.alt 5 (.take 1 .reads [] (.take 6 .plain [] (.alt 7 (.done) (.nil)))) (.nil))) (.nil)))))) [⟨4, 2, 0, 0, true⟩, ⟨5, 8, 1, 0, true⟩, ⟨6, 0, 0, 0, false⟩, ⟨7, 2, 0, 0, true⟩, ⟨8, 64, 8, 0, true⟩, ⟨9, 160, 20, 2, false⟩, ⟨10, 272, 34, 0, true⟩, ⟨0, 516, 127, 1, false⟩] mo (by kernel_rfl) ?_
  simp only [wB, awp, asP, asQ, asO, asS, obA, loadA, storeA, fillA, putsA, Aw.newRow, St.ev, St.step, setS, killS, AV.kill, AV.killL, Mem.kill, AV.cells, AV.flat, AV.single, AV.cellular, AV.pure, Value.oneCell', Nat.reduceAdd, Nat.reduceEqDiff, Nat.reduceMul, Nat.reduceLeDiff, Int.reduceAdd, Int.reduceMul, ASch, St.put, Md.mem, Md.need, prsA_len]
  refine ⟨⟨⟨by decide, rfl⟩, ⟨by decide, hls⟩, ?_⟩, ⟨by decide, rfl⟩, ⟨⟨by decide, hls⟩, ?_⟩, ⟨by decide, hls⟩, ?_⟩ <;>
  · refine aend_exp (x := .g [I n, .o 1]) 1 ?_ rfl (prsA_pure ls) ⟨by simp [exp1, AV.sub, AV.subL], rfl⟩
    show resA Tryz.prog [.cell 2 24] _ = _
    simp [resA, resL, resOne, ti24, loadA, AV.flat, AV.cells, AV.single]
end Go.Proofs.YtndniceeibflcaaGreatDoor

namespace Go.Proofs.YtndniceeibflcaaGreatDoor
namespace Aw
open Go.RowKit
theorem fspec_ofH {P : Program} {f : FuncId} {ars : List AV} {M Mc M' N : Mem} {x : AV} (spec : MSpec P f ars M (fun r N => r = x ∧ N = M')) (Mq : Mem) (Z : List Nat) (hl : ((List.range M.length).all fun i => !liveI M i || liveI M' i) = true) (hq : ((List.range Mq.length).all fun i => !liveI Mq i || liveI M' i) = true)
    (hK : ((List.range M'.length).all fun i => liveI Mq i || (!liveI M' i || (liveI M i && decide (i = 0)))) = true) (hT : Told ars 0) (hsub : subM M Mc)
    (hn : ((List.range M'.length).all fun i => liveI M i || (!liveI M' i || noneI Mc i)) = true) (hZ : deadL M Mc.length = Z) (hfa : AV.freeL Z ars = true) (hfm : freeM Z M = true)
    (hN : combR (keepF Mq ars) (keepG Mq ars) M' Mc M' = N) : FSpec P f ars Mq Mc x N := by
  have := MSpec.frameH spec (Mq := Mq) (fun i hi => by
    have := List.all_eq_true.1 hl i (List.mem_range.2 (liveI_lt hi))
    rw [hi] at this
    simpa using this) (fun i hi => by
    have := List.all_eq_true.1 hq i (List.mem_range.2 (liveI_lt hi))
    rw [hi] at this
    simpa using this) (fun i h1 h2 => by
    have := List.all_eq_true.1 hK i (List.mem_range.2 (liveI_lt h2))
    rw [h1, h2] at this
    simp only [Bool.false_or, Bool.not_true, Bool.and_eq_true, decide_eq_true_eq] at this
    obtain ⟨h3, rfl⟩ := this
    exact ⟨h3, hT⟩) (Mc := Mc) (subM_get M Mc hsub) (fun i h1 h2 => by
    have := List.all_eq_true.1 hn i (List.mem_range.2 (liveI_lt h2))
    rw [h1, h2] at this
    exact noneI_true (by simpa using this)) (Z := Z) (fun i hi hd => hZ ▸ mem_deadL hi hd) hfa hfm
  rw [hN] at this
  exact this
theorem told_lab (n lm : Int) (l : AV) : Told [AV.g [I n, .o 0, I lm], l] 0 := by
  intro w T hv w' T' hv' vs h h'
  simp only [RVL, RV, RL, R] at h h'
  obtain ⟨u, us, rfl, ⟨cs, rfl, a1, b1, e1, ⟨rfl, _⟩, a2, b2, rfl, ⟨v, g1, rfl, _⟩, _⟩, _⟩ := h
  obtain ⟨u', us', e', ⟨cs', rfl, a1', b1', e1', ⟨rfl, _⟩, a2', b2', rfl, ⟨v', g1', rfl, _⟩, _⟩, _⟩ := h'
  injection e' with e' _
  injection e' with e'
  subst e'
  rw [e1] at e1'
  simp only [List.cons_append, List.nil_append, List.cons.injEq, true_and] at e1'
  rw [g1, g1', e1'.1]
end Aw
open Aw Mp Go.RowKit
set_option linter.unusedSimpArgs false
set_option maxRecDepth 8000

theorem m43o (n lm : Int) (ls : List (Int × Int)) (hls : ls.length ≤ 100000) (h0 : vN n lm ls = 0) (l : List By) (hs : ∀ o ∈ l, o.length ≤ 9223372036854775807) :
    MSpec Tryz.prog 43 [.g [I n, .o 0, I lm], .s 1 (strsA l)] [some ⟨none, 79, 2, prsA ls⟩, none, none, none, none] (fun r N => r = .q 2 13 0 0 ∧ N = [some ⟨none, 79, 2, prsA ls⟩, none, some ((mkM n lm ls (doL n lm ls (l.take 40))).obA 4), none, some (mkM n lm ls (doL n lm ls (l.take 40))).od]) := by
  refine mspec_of2 (own := [2, 1001, 1002, 1007]) Tryz.func43 rfl ok43 ?_
  intro vs
  obtain ⟨gh, hgh⟩ : ∃ gh, gh = some (ghost vs [AV.g [I n, .o 0, I lm], .s 1 (strsA l)]) := ⟨_, rfl⟩
  have h22 := s22o n lm ls hls h0
  have hT := (vN_ok h0).1
  simp only [trapA] at h22
  simp only [wB, awp, asN, Aw.newRow, St.ev, St.step, setS, killS, AV.kill, AV.killL, Mem.kill, AV.cellular, AV.size, AV.sizeL, Nat.reduceAdd, Nat.reduceEqDiff, Nat.reduceSub, Int.reduceAdd, Int.reduceSub, Tryz.ntmps43, ← hgh]
  refine awp_sound (own := []) _ _ _ _ _ ?_
  simp only [wB, awp, asP, asQ, obA, loadA, St.ev, St.step, setS, killS, AV.kill, AV.killL, Mem.kill, AV.cells, AV.flat, AV.single, Nat.reduceAdd, Nat.reduceEqDiff, Nat.reduceLeDiff, Int.reduceAdd]
  refine acall_los 0 h22 ?_ rfl ?_ ?_
  · simp [frzN, frz, AV.sub, AV.subL, prsA_pure]
  · intro ob hob
    simp only [List.mem_cons, List.not_mem_nil, or_false] at hob
    rcases hob with rfl | rfl | rfl
    · rfl
    · exact prsA_tfree ls
    · rfl
  simp only [wB, awp, asT, asN, St.ev, St.step, setS, killS, AV.kill, AV.killL, Mem.kill, Nat.reduceAdd, Nat.reduceEqDiff, Int.reduceAdd, List.drop_zero, AV.sub, AV.subL, List.take_succ_cons, List.take_zero, AV.up, Ob.up, prsA_msub]
  refine swp_le (σ' := ⟨[.bot, .s 1 (strsA l), .bot, .bot, .bot, .q 2 13 0 0, I 0, .bot, .bot, .bot, .bot, .bot, .bot, .bot, .bot, .bot, .bot, .bot, .bot, .bot, .bot, .bot, .bot, .bot, .bot, .bot, .bot, .bot, .bot, .bot, .bot, .bot, .bot, .bot, .bot, .bot, .bot, .bot, .bot], [some ⟨none, 79, 2, prsA ls⟩, none, some ((mkM n lm ls []).obA 4), none, some (mkM n lm ls []).od, gh]⟩) (Le.trans (le_frz 8 rfl (prsA_pure ls)) (le_rn [0, 99, 7, 98, 9, 5] (by decide) ?_ (by simp [leSl, frz1, AV.sub, AV.subL, prsA_sub, prsA_msub, strsA_sub, strsA_msub, reF, reG, List.idxOf?, List.findIdx?, List.findIdx?.go]))) ?_
  · rw [hgh]
    simp [frzM, reM, reF, reG, Mch.obA, Mch.od, Mch.cells, mkM, AV.sub, AV.subL, prsA_sub, strsA_sub, intsA_sub, gtsA_sub, strsA_msub, prsA_msub, ghost, List.idxOf?, List.findIdx?, List.findIdx?.go]
    rfl
  refine awp_sound (own := []) _ _ _ _ _ ?_
  simp only [wB, awp, binC, cmpC, eqC, asG, asB, asI, asN, St.ev, St.step, setS, killS, AV.kill, AV.killL, Mem.kill, Nat.reduceAdd, Nat.reduceEqDiff, Int.reduceAdd, isNP, ptrN, asStr, nt32]
  refine swp_loop' (fun k : Nat => ⟨[.bot, .s 1 (strsA l), .bot, .bot, .bot, .q 2 13 0 0, .bot, I k, .bot, .bot, .bot, .bot, .bot, .bot, .bot, .bot, .bot, .bot, .bot, .bot, .bot, .bot, .bot, .bot, .bot, .bot, .bot, .bot, .bot, .bot, .bot, .bot, .bot, .bot, .bot, .bot, .bot, .bot, .bot], [some ⟨none, 79, 2, prsA ls⟩, none, some ((mkM n lm ls (doL n lm ls (l.take k))).obA 4), none, some (mkM n lm ls (doL n lm ls (l.take k))).od, gh]⟩) (fun k => k ≤ l.length ∧ k ≤ 40) (fun k => 40 - k) 0 (le_sl' ?_ (by simp [leSl])) ⟨Nat.zero_le _, Nat.zero_le _⟩ ?_
  · simp [doL]
  rintro k ⟨hk, hk4⟩
  have hA := doL_acc n lm ls (l.take k)
  refine awp_sound (own := [1007]) _ _ _ _ _ ?_
  simp only [wB, awp, binC, cmpC, asI, lenA, St.ev, St.step, setS, killS, AV.kill, AV.killL, Mem.kill, Nat.reduceAdd, Nat.reduceEqDiff, Int.reduceAdd, lenK, strsA_len, strsA_len]
  by_cases h : k < l.length
  case neg =>
    have h' : ¬ (k : Int) < l.length := by omega
    simp only [wB, awp, asB, asN, St.ev, St.step, setS, killS, AV.kill, AV.killL, Mem.kill, Nat.reduceAdd, Nat.reduceEqDiff, Int.reduceAdd, decide_eq_false h']
    have e : l.take k = l.take 40 := by rw [List.take_of_length_le (by omega), List.take_of_length_le (by omega)]
    rw [e]
    refine ⟨_, _, _, [], Le.refl _, rfl, by rw [hgh]; rfl, rfl, rfl, ?_, rfl, rfl⟩
    simp [freeM, Mch.obA, Mch.od, Mch.cells, AV.freeL, AV.free, strsA_free, prsA_free, Zr]
  have h' : (k : Int) < l.length := by omega
  by_cases h4 : k < 40
  case neg =>
    have h4' : ¬ (k : Int) < 40 := by omega
    simp only [wB, awp, binC, cmpC, asB, asI, asN, St.ev, St.step, setS, killS, AV.kill, AV.killL, Mem.kill, Nat.reduceAdd, Nat.reduceEqDiff, Int.reduceAdd, decide_eq_true h', decide_eq_false h4']
    have e : l.take k = l.take 40 := by rw [show k = 40 by omega]
    rw [e]
    refine ⟨_, _, _, [], Le.refl _, rfl, by rw [hgh]; rfl, rfl, rfl, ?_, rfl, rfl⟩
    simp [freeM, Mch.obA, Mch.od, Mch.cells, AV.freeL, AV.free, strsA_free, prsA_free, Zr]
  have h4' : (k : Int) < 40 := by omega
  simp only [wB, awp, binC, cmpC, asB, asI, St.ev, St.step, setS, killS, AV.kill, AV.killL, Mem.kill, Nat.reduceAdd, Int.reduceAdd, decide_eq_true h', decide_eq_true h4']
  have h24 := m24 n lm ls _ hA hT (by omega) l[k] (hs _ (List.getElem_mem h))
  have f24k := fA [some ⟨none, 79, 2, prsA ls⟩, none] [gh] h24 rfl rfl 2 rfl (by
    simp [memA, keepF, keepG, prsA_sub, liveI]) (by
    rw [hgh]
    simp [memA, keepF, keepG, AV.sub, AV.subL, prsA_sub, strsA_sub, strsA_msub, ghost, liveI, AV.isO, AV.isQ])
  refine swp_fs (own := []) [false, false, false, false, false, true] ?_
  simp only [wB, idxC, asP, asS, asI, loadA, St.ev, St.step, setS, killS, AV.kill, AV.killL, Mem.kill, AV.cells, AV.flat, AV.single, aget_strs h, Int.toNat_natCast]
  refine ⟨by omega, acall_f f24k ?_⟩
  simp only [wB, awp, binC, arithC, cmpC, asI, asN, St.ev, St.step, setS, killS, AV.kill, AV.killL, Mem.kill, Nat.reduceAdd, Nat.reduceEqDiff, Int.reduceAdd, isU, AV.sub, keepG, liveI, AV.isQ, List.any_cons, List.any_nil, memA]
  refine ⟨by unfold lim; omega, k + 1, le_sl' ?_ (by simp [leSl]), ⟨h, h4⟩, by omega⟩
  simp [doL_take h]
end Go.Proofs.YtndniceeibflcaaGreatDoor

namespace Go.Proofs.YtndniceeibflcaaGreatDoor
open Aw Mp Go.RowKit
set_option linter.unusedSimpArgs false
set_option maxRecDepth 8000

/-- two machines, the second one at 3. -/
def mem2 (m : Mch) : Mem := [some m.ob, none, some m.od, some (m.obA 5), none, some m.od]
end Go.Proofs.YtndniceeibflcaaGreatDoor

namespace Go.Proofs.YtndniceeibflcaaGreatDoor
open Aw Mp Go.RowKit
set_option linter.unusedSimpArgs false
set_option maxRecDepth 8000

theorem prsA_set0 (l : List (Int × Int)) (i : Nat) : (prsA l).set i (.g [I 0, I 0]) = prsA (l.set i (0, 0)) := by simp [prsA, prA, List.map_set]
theorem gtsA_set0 (l : List G4) (i : Nat) : (gtsA l).set i (.g [I 0, I 0, I 0, I 0]) = gtsA (l.set i ⟨0, 0, 0, 0⟩) := by simp [gtsA, gA, List.map_set]
theorem ok13 : okFn Tryz.prog 13 = true := by kernel_rfl
end Go.Proofs.YtndniceeibflcaaGreatDoor
