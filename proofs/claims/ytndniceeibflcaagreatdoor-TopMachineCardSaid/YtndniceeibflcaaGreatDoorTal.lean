/-
  Parts of several texts in one: MwH, MwI, MwJ, MwK, MwL, MwV, MwY, MxA, MxB, MxC, MxD, MyA, MyB, MyC, MyD, MyH, MyI, MyJ, NaA, NaB.
-/
import Derived.Test.YtndniceeibflcaaGreatDoorProg
import Derived.WalkKit
import Derived.Lib.ConvBytes
import Derived.LaidEql
import Derived.Lib.ItoaNum
import Derived.Lib.LaidTab
import Derived.KernelRfl
import GoSem.Claims
import GoSem.ClaimJoined
import Derived.Orders
import Derived.Laws.StructEq
import Derived.Maps.Keyed
import Derived.Lib.Strings
import Derived.Maps.AppendAt
import Derived.Laws.Concat
import Derived.MapKept
import Derived.Laws.MakeOwn
import Derived.Scope
import Derived.Laws.BitsLemmas
import Derived.Maps.RangeRun
import Derived.StillTail
import Derived.OrdersIn
import Derived.TacticsIn
import Derived.RangeFuncRecord
import Derived.RangeFuncCalls
import Derived.RangeFuncSeq
import Derived.Lib.Split
import Derived.Lib.AtoiAll
import Derived.Shelf.LaysM
import Derived.Shelf.LaysC
import Derived.Shelf.Strconv.Itoa3
import Derived.Shelf.Strconv.AtoiAll
import Derived.Shelf.Strings.Search3
import Derived.Shelf.Strings.Cut
import Derived.Shelf.Strings.Prefix
import Derived.Shelf.Strings.Split
import Derived.Lib.AppendIntMem
import Derived.Stop.Asserts
import Derived.RowKitTokens
import Derived.Conc.MuLone
import Derived.Test.YtndniceeibflcaaGreatDoorRows
import Derived.Test.YtndniceeibflcaaGreatDoorChecked
import Derived.ChangeSame
import Derived.ChangeVars
import Derived.JoinedOf
import Derived.ProofKit
import Derived.RowKit
import Derived.LaidLaws
import Derived.LaidHandle
import Derived.LaidMore
import Derived.Stop.Joined
import Derived.Stop.LaidErr
import Derived.HandedShaped
import Derived.Shelf.Vars
import Derived.Deep.Slices
import Derived.Deep.Strs
import Derived.Deep.Fields
import Derived.Lib.SmallJoins
import Derived.SliceStrings
import Derived.ChangeMaps5
import Derived.Test.YtndniceeibflcaaGreatDoorTaa
import Derived.Test.YtndniceeibflcaaGreatDoorTab
import Derived.Test.YtndniceeibflcaaGreatDoorTac
import Derived.Test.YtndniceeibflcaaGreatDoorTad
import Derived.Test.YtndniceeibflcaaGreatDoorTae
import Derived.Test.YtndniceeibflcaaGreatDoorTag
import Derived.Test.YtndniceeibflcaaGreatDoorTah
import Derived.Test.YtndniceeibflcaaGreatDoorTai
import Derived.Test.YtndniceeibflcaaGreatDoorTaj
import Derived.Test.YtndniceeibflcaaGreatDoorTak
set_option linter.unusedSimpArgs false
set_option linter.unusedVariables false
namespace Go.Proofs.YtndniceeibflcaaGreatDoor
namespace Aw
end Aw
namespace Mp
end Mp
end Go.Proofs.YtndniceeibflcaaGreatDoor
namespace Go.Proofs.YtndniceeibflcaaGreatDoor
open Aw Mp Go.RowKit
set_option linter.unusedSimpArgs false
set_option maxRecDepth 8000

theorem m24 (n lim : Int) (ls : List (Int × Int)) (l : List By) (hA : Acc n lim ls l) (hT : vT n ls = 0) (hls : ls.length ≤ 1000000) (o : By) (ho : o.length ≤ 9223372036854775807) :
    MSpec Tryz.prog 24 [.q 0 13 0 0, S o] (memD (mkM n lim ls l)) (fun r N => r = I (erO n lim ls l o) ∧ N = memD (mkM n lim ls (doO n lim ls l o))) := by
  refine mspec_locked (k := 13) (aS := [S o]) (t := 18) (own := []) (pre := [_, _, _]) (df := _) Tryz.func24 rfl ok24 rfl rfl rfl (fun a w => by simp [execOp, go_sem]) ?_
  intro vs
  obtain ⟨m, hm⟩ : ∃ m, m = mkM n lim ls l := ⟨_, rfl⟩
  have hmu : m.mu = 0 := by rw [hm]; rfl
  rw [← hm]
  obtain ⟨gh, hgh⟩ : ∃ gh, gh = some (ghost vs [AV.q 0 13 0 0, S o]) := ⟨_, rfl⟩
  refine awp_sound (own := []) _ _ _ _ _ ?_
  simp only [wB, awp, asN, St.ev, St.step, setS, killS, AV.kill, AV.killL, Mem.kill, Nat.reduceAdd, Nat.reduceSub, Int.reduceAdd, Int.reduceSub, Tryz.ntmps24, ← hgh, memD]
  refine awp_sound (own := []) _ _ _ _ _ ?_
  simp only [wB, awp, binC, eqC, asG, asB, asI, St.ev, St.step, setS, killS, AV.kill, AV.killL, Mem.kill, Nat.reduceAdd, Int.reduceAdd, isNP, ptrN, asStr, nt32]
  refine swp_fm (own := []) 3 rfl rfl rfl ?_
  simp only [wB, asP, asQ, St.ev, St.step, setS, killS, AV.kill, AV.killL, Mem.kill, AV.cells, Nat.reduceEqDiff, Mch.ob, Mch.od, Mch.cells, List.take_succ_cons, List.take_zero, hmu]
  have hfree : ∀ Z : List Nat, Z = [1] → AV.freeL Z (ghost vs [AV.q 0 13 0 0, S o]).xs = true := fun Z hZ => by subst hZ; rfl
  refine acall_f (fspec_of (m68 (M := [some ⟨none, 107, 13, [.g (.v (.int .i32 0) :: [.v (.int .u32 0), I m.n, .s 2 (prsA m.ls), I m.lim, .s 1 (intsA m.st.place), .s 1 (intsA m.st.heats), .s 4 (gtsA m.st.circ), I m.st.moves, I m.st.cools, I m.st.done, .o 2, S m.log])]⟩, none, some ⟨none, 9, 1, strsA m.ords⟩, gh]) (cs := [.v (.int .u32 0), I m.n, .s 2 (prsA m.ls), I m.lim, .s 1 (intsA m.st.place), .s 1 (intsA m.st.heats), .s 4 (gtsA m.st.circ), I m.st.moves, I m.st.cools, I m.st.done, .o 2, S m.log]) rfl rfl rfl) (M' := [some ⟨none, 107, 13, [.g (.v (.int .i32 1) :: [.v (.int .u32 0), I m.n, .s 2 (prsA m.ls), I m.lim, .s 1 (intsA m.st.place), .s 1 (intsA m.st.heats), .s 4 (gtsA m.st.circ), I m.st.moves, I m.st.cools, I m.st.done, .o 2, S m.log])]⟩, none, some ⟨none, 9, 1, strsA m.ords⟩, gh]) [1] (by rw [hgh]; rfl) (by rw [hgh]; exact ⟨rfl, rfl, rfl, trivial⟩) (by rw [hgh]; rfl) rfl (by rw [hgh]; simp [freeM, AV.freeL, AV.free, strsA_free, ghost]) (N := [some ⟨none, 107, 13, [.g (.v (.int .i32 1) :: [.v (.int .u32 0), I m.n, .s 2 (prsA m.ls), I m.lim, .s 1 (intsA m.st.place), .s 1 (intsA m.st.heats), .s 4 (gtsA m.st.circ), I m.st.moves, I m.st.cools, I m.st.done, .o 2, S m.log])]⟩, none, some ⟨none, 9, 1, strsA m.ords⟩, gh]) (by rw [hgh]; rfl)) ?_
  simp only [wB, asP, asQ, St.ev, St.step, setS, killS, AV.kill, AV.killL, Mem.kill, Nat.reduceAdd, Nat.reduceEqDiff, Int.reduceAdd, List.drop_succ_cons, AV.sub, keepG, liveI, AV.isQ, List.any_cons, List.any_nil, ghost, List.drop_nil]
  refine ⟨⟨[.q 0 13 0 0, S o, .bot, .bot, I 0, .bot, .bot, .bot, .bot, .bot, .bot, .bot, .bot, .bot, .bot, .bot, .bot, .bot, .q 0 13 0 0, .bot, .bot, .bot, .bot, .bot, .bot, .bot, .bot, .bot, .bot, .bot, .bot, .bot, .bot, .bot, .bot, .bot, .bot, .bot, .bot, .bot, .bot, .bot, .bot, .bot, .bot, .bot, .bot, .bot, .bot, .bot, .bot, .bot, .bot, .bot, .bot, .bot, .bot, .bot, .bot, .bot, .bot, .bot, .bot, .bot, .bot, .bot, .bot, .bot, .bot, .bot, .bot], [some { m with mu := 1 }.ob, none, some m.od, gh]⟩, 3, le_sl' ?_ (by simp [leSl]), rfl, by rw [hgh]; rfl, ?_⟩
  · simp only [memG, memS, Mch.ob, Mch.od, Mch.cells, rowP, rowC, rowS, stO', combR, List.cons_append, List.nil_append, Option.map_some, Option.map_none, List.drop_succ_cons, List.drop_zero, prsA_sub, strsA_sub, intsA_sub, gtsA_sub, AV.sub, AV.subL, keepF, keepG, liveI, List.getElem?_cons_succ, List.getElem?_cons_zero, List.getElem?_nil, AV.isO, AV.isQ, List.any_cons, List.any_nil, ghost, gA, List.take_succ_cons, List.take_zero, List.drop_nil]
  have hlim := hA.inv
  have hst : m.st = stO l := by rw [hm]; rfl
  have hord : m.ords = l := by rw [hm]; rfl
  have hI := hlim.2
  rw [← hst] at hI
  have hend : ∀ {σ : St} {e : Int}, e = erO n lim ls l o → e ≠ 0 → Le σ ⟨[.q 0 13 0 0, S o, .bot, .bot, I e, .bot, .bot, .bot, .bot, .bot, .bot, .bot, .bot, .bot, .bot, .bot, .bot, .bot, .q 0 13 0 0, .bot, .bot, .bot, .bot, .bot, .bot, .bot, .bot, .bot, .bot, .bot, .bot, .bot, .bot, .bot, .bot, .bot, .bot, .bot, .bot, .bot, .bot, .bot, .bot, .bot, .bot, .bot, .bot, .bot, .bot, .bot, .bot, .bot, .bot, .bot, .bot, .bot, .bot, .bot, .bot, .bot, .bot, .bot, .bot, .bot, .bot, .bot, .bot, .bot, .bot, .bot, .bot], [some { m with mu := 1 }.ob, none, some m.od, gh]⟩ → LEnd Tryz.prog Tryz.f24.results.toList [AV.q 0 13 0 0, S o] vs (fun r N => r = I (erO n lim ls l o) ∧ N = memD (mkM n lim ls (doO n lim ls l o))) σ := fun {σ e} he hne hle => by
    refine ⟨_, { m with mu := 1 }.ob, _, 3, hle, rfl, rfl, rfl, by rw [hgh]; rfl, ?_⟩
    refine ⟨_, I e, memD m, [], Le.refl _, rfl, ?_, rfl, rfl, ?_, he ▸ rfl, ?_⟩
    · rw [hgh]
      simp only [memD, Mch.ob, Mch.od, Mch.cells, hmu, List.set_cons_zero, List.cons_append, List.nil_append]
    · simp [freeM, memD, Mch.ob, Mch.od, Mch.cells, AV.freeL, AV.free, strsA_free, Zr]
    · have : doO n lim ls l o = l := by unfold doO; rw [if_neg (by omega)]
      rw [this, hm]
  refine awp_sound (own := [5, 8, 1011]) _ _ _ _ _ ?_
  simp only [wB, awp, St.ev, St.step, setS, killS, AV.kill, AV.killL, Mem.kill, Nat.reduceAdd, Nat.reduceEqDiff, Int.reduceAdd]
  have s70o := s70 o ho
  cases hp : prs o with
  | none =>
    have e : psA o = .t [frmA (0, 0, 0, 0), .s 1 [], errV 2] := by unfold psA; rw [hp]
    rw [e] at s70o
    refine acall_v s70o rfl rfl ?_
    simp only [wB, awp, binC, eqC, asQ, asT, asG, asB, asI, asN, obA, storeA, putsA, mkA, Aw.newRow, St.ev, St.step, setS, killS, AV.kill, AV.killL, Mem.kill, AV.cells, AV.flat, AV.single, AV.cellular, Nat.reduceAdd, Nat.reduceEqDiff, Nat.reduceLeDiff, Int.reduceAdd, isNI, ptrN, ifcN, asStr, nt114, Mch.ob, Mch.od, Mch.cells, frmA, errV]
    refine acall_v (s71 2) rfl rfl ?_
    simp only [wB, awp, asN, St.ev, St.step, setS, killS, AV.kill, AV.killL, Mem.kill, Nat.reduceEqDiff]
    refine hend (e := 2) (by unfold erO; rw [hp]) (by decide) (le_cut (Mx := [some ⟨none, 112, 4, [.g [I 0, I 0, I 0, I 0]]⟩]) (by simp [leSl]) ?_ rfl ?_)
    · simp only [memG, memS, Mch.ob, Mch.od, Mch.cells, rowP, rowC, rowS, stO', combR, List.cons_append, List.nil_append, Option.map_some, Option.map_none, List.drop_succ_cons, List.drop_zero, prsA_sub, strsA_sub, intsA_sub, gtsA_sub, AV.sub, AV.subL, keepF, keepG, liveI, List.getElem?_cons_succ, List.getElem?_cons_zero, List.getElem?_nil, AV.isO, AV.isQ, List.any_cons, List.any_nil, ghost, gA, List.take_succ_cons, List.take_zero, List.drop_nil]
    · rw [hgh]; simp [freeM, Mch.ob, Mch.od, Mch.cells, AV.freeL, AV.free, strsA_free, ghost]
  | some ka =>
  obtain ⟨k, a⟩ := ka
  have e : psA o = .t [frmA (frmL.getD k (0, 0, 0, 0)), .s 1 (intsA a), .v .nilIface] := by unfold psA; rw [hp]
  rw [e] at s70o
  refine acall_v s70o rfl (by simp [AV.pure, AV.pureL, intsA_pure, frmA]) ?_
  generalize hF : frmL.getD k (0, 0, 0, 0) = F
  obtain ⟨f0, f1, f2, f3⟩ := F
  simp only [wB, awp, binC, cmpC, eqC, asP, asQ, asT, asG, asB, asI, asN, obA, lenA, loadA, storeA, putsA, mkA, Aw.newRow, St.ev, St.step, setS, killS, AV.kill, AV.killL, Mem.kill, AV.cells, AV.flat, AV.single, AV.cellular, Nat.reduceAdd, Nat.reduceEqDiff, Nat.reduceLeDiff, Int.reduceAdd, isNI, ptrN, ifcN, asStr, lenK, nt114, strsA_len, Mch.ob, Mch.od, Mch.cells, List.drop_succ_cons, List.drop_zero, List.take_succ_cons, List.take_zero, frmA, strsA_len, hord]
  by_cases h100 : (l.length : Int) = 100
  · simp only [wB, awp, asN, St.ev, St.step, setS, killS, AV.kill, AV.killL, Mem.kill, Nat.reduceAdd, Nat.reduceEqDiff, Int.reduceAdd, decide_eq_true h100]
    have he : erO n lim ls l o = 3 := by unfold erO; rw [hp]; simp only; rw [if_pos (by omega)]
    refine hend (e := 3) he.symm (by decide) (le_cut (Mx := [some ⟨none, 112, 4, [.g [I f0, I f1, I f2, I f3]]⟩]) (by simp [leSl]) ?_ rfl ?_)
    · simp only [memG, memS, Mch.ob, Mch.od, Mch.cells, rowP, rowC, rowS, stO', combR, List.cons_append, List.nil_append, Option.map_some, Option.map_none, List.drop_succ_cons, List.drop_zero, prsA_sub, strsA_sub, intsA_sub, gtsA_sub, AV.sub, AV.subL, keepF, keepG, liveI, List.getElem?_cons_succ, List.getElem?_cons_zero, List.getElem?_nil, AV.isO, AV.isQ, List.any_cons, List.any_nil, ghost, gA, List.take_succ_cons, List.take_zero, List.drop_nil, hord]
    · rw [hgh]; simp [freeM, Mch.ob, Mch.od, Mch.cells, AV.freeL, AV.free, strsA_free, ghost]
  simp only [wB, awp, asP, asQ, obA, loadA, St.ev, St.step, setS, killS, AV.kill, AV.killL, Mem.kill, AV.cells, AV.flat, AV.single, Nat.reduceAdd, Nat.reduceEqDiff, Nat.reduceLeDiff, Int.reduceAdd, Mch.cells, List.drop_succ_cons, List.drop_zero, List.take_succ_cons, List.take_zero, decide_eq_false h100]
  have hp4 := hI.p4
  have hhl := hI.hl
  have hc10 := hI.c10
  refine acall_os (s72 m.st (by omega) (by omega) (by omega)) (by simp [AV.pureL, AV.pure, intsA_pure, gtsA_pure]) ?_
  simp only [wB, awp, asQ, obA, storeA, putsA, mkA, Aw.newRow, St.ev, St.step, setS, killS, AV.kill, AV.killL, Mem.kill, AV.cells, AV.flat, AV.single, AV.cellular, Nat.reduceAdd, Nat.reduceEqDiff, Nat.reduceLeDiff, Int.reduceAdd, Mch.cells, rowP, rowC, stO', AV.sub, AV.subL, AV.up, Ob.up, intsA_smap, gtsA_smap]
  have hm1n : ({ m with mu := 1 } : Mch).n = n := by rw [hm]; rfl
  have hm1l : ({ m with mu := 1 } : Mch).ls = ls := by rw [hm]; rfl
  have hm1m : ({ m with mu := 1 } : Mch).lim = lim := by rw [hm]; rfl
  have hI1 : InvS ({ m with mu := 1 } : Mch).n l.length m.st := by rw [hm1n]; exact hI
  refine swp_le (σ' := ⟨[.q 0 13 0 0, S o, .bot, .bot, I 0, .q 8 4 0 0, .s 1 (intsA a), .bot, .q 7 6 0 0, .bot, .bot, .bot, .bot, .bot, .bot, .bot, .bot, .bot, .q 0 13 0 0, .bot, .bot, .bot, .bot, .bot, .bot, .bot, .bot, .bot, .bot, .bot, .bot, .bot, .bot, .bot, .bot, .bot, .bot, .bot, .bot, .bot, .bot, .bot, .bot, .bot, .bot, .bot, .bot, .bot, .bot, .bot, .bot, .bot, .bot, .bot, .bot, .bot, .bot, .bot, .bot, .bot, .bot, .bot, .bot, .bot, .bot, .bot, .bot, .bot, .bot, .bot, .bot], [some { m with mu := 1 }.ob, none, some m.od, gh, some (rowP m.st.place), some (rowP m.st.heats), some (rowC m.st.circ), some (rowS 4 5 6 m.st), some ⟨none, 112, 4, [frmA (f0, f1, f2, f3)]⟩]⟩) (le_rn [0, 1, 2, 3, 5, 6, 7, 8, 4] (by decide) ?_ (by simp [leSl, AV.sub, reF, reG, List.idxOf?, List.findIdx?, List.findIdx?.go])) ?_
  · rw [hgh]
    simp [reM, reF, reG, Mch.ob, Mch.od, Mch.cells, rowP, rowC, rowS, stO', AV.sub, AV.subL, intsA_sub, gtsA_sub, prsA_sub, strsA_sub, frmA, List.idxOf?, List.findIdx?, List.findIdx?.go, ghost, hord]
  refine swp_fm (own := []) 3 rfl rfl rfl ?_
  simp only [wB, asP, asQ, obA, loadA, St.ev, St.step, setS, killS, AV.kill, AV.killL, Mem.kill, AV.cells, AV.flat, AV.single, Nat.reduceAdd, Nat.reduceLeDiff, Int.reduceAdd, Mch.ob, Mch.od, Mch.cells, rowP, rowC, rowS, stO', List.drop_zero, List.take_succ_cons, List.take_zero, frmA]
  have hmn : m.n = n := hm1n
  have hml : m.ls = ls := hm1l
  have hmm : m.lim = lim := hm1m
  have hm73 := m73 { m with mu := 1 } m.st hI1 (by omega) (by rw [hm1n, hm1l]; exact hT) (by rw [hm1l]; exact hls) hp
  rw [hF] at hm73
  dsimp only at hm73
  obtain ⟨e, he⟩ : ∃ e, e = erS m.n m.lim m.ls m.st k (nth a 0) (nth a 1) (nth a 2) := ⟨_, rfl⟩
  have heo : e = erO n lim ls l o := by
    unfold erO
    rw [hp, he, hmn, hmm, hml, hst]
    simp only
    rw [if_neg (by omega)]
  rw [← he] at hm73
  obtain ⟨t, ht⟩ : ∃ t, t = (if e = 0 then nxS m.st k (nth a 0) (nth a 1) (nth a 2) else m.st) := ⟨_, rfl⟩
  rw [← ht] at hm73
  refine acall_f (fspec_of hm73 [1, 3, 8] rfl (by exact ⟨rfl, rfl, rfl, rfl, rfl, rfl, trivial⟩) rfl rfl (free_GZ _ _ _ (by decide)) (N := [some { m with mu := 1 }.ob, none, some m.od, gh, some (rowP t.place), some (rowP t.heats), some (rowC t.circ), some (rowS 4 5 6 t), some ⟨none, 112, 4, [frmA (f0, f1, f2, f3)]⟩]) ?_) ?_
  · rw [hgh]
    simp only [memG, memS, Mch.ob, Mch.od, Mch.cells, rowP, rowC, rowS, stO', combR, List.cons_append, List.nil_append, Option.map_some, Option.map_none, List.drop_succ_cons, List.drop_zero, prsA_sub, strsA_sub, intsA_sub, gtsA_sub, AV.sub, AV.subL, keepF, keepG, liveI, List.getElem?_cons_succ, List.getElem?_cons_zero, List.getElem?_nil, AV.isO, AV.isQ, List.any_cons, List.any_nil, ghost, gA, List.take_succ_cons, List.take_zero, List.drop_nil, frmA]
    rfl
  by_cases h0 : e = 0
  case neg =>
    simp only [wB, awp, binC, eqC, asG, asB, asI, asN, St.ev, St.step, setS, killS, AV.kill, AV.killL, Mem.kill, AV.cells, Nat.reduceAdd, Nat.reduceEqDiff, Int.reduceAdd, isNI, ptrN, ifcN, asStr, nt114, memG, Mch.ob, Mch.od, Mch.cells, rowP, rowC, rowS, stO', List.drop_succ_cons, List.drop_zero, AV.sub, AV.subL, keepG, liveI, AV.isQ, List.any_cons, List.any_nil, frmA, erV, if_neg h0, errV]
    refine acall_v (s71 e) rfl rfl ?_
    simp only [wB, awp, asN, St.ev, St.step, setS, killS, AV.kill, AV.killL, Mem.kill, Nat.reduceEqDiff]
    refine hend (e := e) heo h0 (le_cut (Mx := [some (rowP t.place), some (rowP t.heats), some (rowC t.circ), some (rowS 4 5 6 t), some ⟨none, 112, 4, [frmA (f0, f1, f2, f3)]⟩]) (by simp [leSl]) ?_ rfl ?_)
    · simp only [memG, memS, Mch.ob, Mch.od, Mch.cells, rowP, rowC, rowS, stO', combR, List.cons_append, List.nil_append, Option.map_some, Option.map_none, List.drop_succ_cons, List.drop_zero, prsA_sub, strsA_sub, intsA_sub, gtsA_sub, AV.sub, AV.subL, keepF, keepG, liveI, List.getElem?_cons_succ, List.getElem?_cons_zero, List.getElem?_nil, AV.isO, AV.isQ, List.any_cons, List.any_nil, ghost, gA, List.take_succ_cons, List.take_zero, List.drop_nil, hord, frmA]
    · rw [hgh]; simp [freeM, Mch.ob, Mch.od, Mch.cells, AV.freeL, AV.free, strsA_free, ghost]
  simp only [wB, awp, binC, eqC, asP, asQ, asO, asS, asG, asB, asI, asN, obA, loadA, storeA, putsA, St.ev, St.step, setS, killS, AV.kill, AV.killL, Mem.kill, AV.cells, AV.flat, AV.single, AV.cellular, AV.size, AV.pure, AV.pureL, Value.oneCell', Nat.reduceAdd, Nat.reduceEqDiff, Nat.reduceMul, Nat.reduceLeDiff, Int.reduceAdd, Int.reduceMul, isNI, ptrN, ifcN, asStr, nt114, strsA_len, memG, Mch.ob, Mch.od, Mch.cells, rowP, rowC, rowS, stO', List.drop_succ_cons, List.drop_zero, AV.sub, AV.subL, keepG, liveI, AV.isQ, List.any_cons, List.any_nil, List.take_succ_cons, List.take_zero, frmA, erV, if_pos h0, strsA_len]
  have hords := hA.ords
  have hord' : ordB o = true := prs_ord hp
  have ho30 := ((ordB_iff o).1 hord').2.1
  have hlog : m.log = lg 0 l := by rw [hm]; rfl
  rw [hlog]
  refine ⟨⟨by decide, rfl⟩, ⟨by decide, by rw [hord]; omega⟩, acall_v (s74 l o (by omega) hords ho30) rfl rfl ?_⟩
  simp only [wB, awp, asP, asQ, asN, obA, storeA, putsA, St.ev, St.step, setS, killS, AV.kill, AV.killL, Mem.kill, AV.cells, AV.flat, AV.single, AV.cellular, Value.oneCell', Nat.reduceAdd, Nat.reduceEqDiff, Nat.reduceLeDiff, Int.reduceAdd, Mch.cells, strsA_kill, strsA_app, intsA_kill, gtsA_kill, hord]
  obtain ⟨m2, hm2⟩ : ∃ m2 : Mch, m2 = ⟨1, n, lim, ls, t, lg 0 (l ++ [o]), l ++ [o]⟩ := ⟨_, rfl⟩
  have hdo : doO n lim ls l o = l ++ [o] := by unfold doO; rw [← heo, if_pos h0]
  have hnew : mkM n lim ls (doO n lim ls l o) = { m2 with mu := 0 } := by
    have : stO (l ++ [o]) = t := by
      rw [stO_snoc]
      unfold exO
      rw [hp, ht, if_pos h0, hst]
    rw [hdo, hm2]
    simp only [mkM, this]
  refine ⟨⟨[.q 0 13 0 0, S o, .bot, .bot, I 0, .bot, .bot, .bot, .bot, .bot, .bot, .bot, .bot, .bot, .bot, .bot, .bot, .bot, .q 0 13 0 0, .bot, .bot, .bot, .bot, .bot, .bot, .bot, .bot, .bot, .bot, .bot, .bot, .bot, .bot, .bot, .bot, .bot, .bot, .bot, .bot, .bot, .bot, .bot, .bot, .bot, .bot, .bot, .bot, .bot, .bot, .bot, .bot, .bot, .bot, .bot, .bot, .bot, .bot, .bot, .bot, .bot, .bot, .bot, .bot, .bot, .bot, .bot, .bot, .bot, .bot, .bot, .bot], [some m2.ob, none, some m2.od, gh]⟩, m2.ob, _, 3, Le.trans (le_frz 4 rfl (intsA_pure _)) (Le.trans (le_frz 5 rfl (by simp only [intsA_sub]; exact intsA_pure _)) (Le.trans (le_frz 6 rfl (by simp only [gtsA_sub]; exact gtsA_pure _)) (le_cut (Mx := [none, none, none, some ⟨none, 105, 6, [stA t]⟩, some ⟨none, 112, 4, [.g [I f0, I f1, I f2, I f3]]⟩]) ?_ ?_ rfl ?_))), rfl, rfl, by rw [hm2]; rfl, by rw [hgh]; rfl, ?_⟩
  · simp [leSl, frz1, AV.sub, AV.subL]
  · rw [hgh, hm2]
    simp [frzM, Mch.ob, Mch.od, Mch.cells, AV.sub, AV.subL, intsA_sub, gtsA_sub, prsA_sub, strsA_sub, stA, ghost, hmn, hml, hmm, AV.killL, AV.kill]
  · rw [hgh]; simp [freeM, Mch.ob, Mch.od, Mch.cells, AV.freeL, AV.free, strsA_free, ghost]
  refine ⟨_, I 0, memD { m2 with mu := 0 }, [], Le.refl _, rfl, ?_, rfl, rfl, ?_, by rw [← heo, h0], by rw [hnew]⟩
  · rw [hgh]
    simp only [memD, Mch.ob, Mch.od, Mch.cells, List.set_cons_zero, List.cons_append, List.nil_append, hm2]
  · simp [freeM, memD, Mch.ob, Mch.od, Mch.cells, AV.freeL, AV.free, strsA_free, Zr]
end Go.Proofs.YtndniceeibflcaaGreatDoor

namespace Go.Proofs.YtndniceeibflcaaGreatDoor
open Aw Mp Go.RowKit
set_option linter.unusedSimpArgs false
set_option maxRecDepth 8000

theorem ok67 : okFn Tryz.prog 67 = true := by kernel_rfl
/-- look, its answer frozen. -/
theorem m67f (m : Mch) (hmu : m.mu = 0) (h1 : m.st.place.length ≤ 1000) (h2 : m.st.heats.length ≤ 1000) (h3 : m.st.circ.length ≤ 1000) :
    MSpec Tryz.prog 67 [.q 0 13 0 0] (memD m) (fun r N => r = .t [stA m.st, S m.log] ∧ N = memD m) := by
  refine mspec_locked (k := 13) (aS := []) (t := 13) (own := []) (pre := [_, _, _]) (df := _) Tryz.func67 rfl ok67 rfl rfl rfl (fun a w => by simp [execOp, go_sem]) ?_
  intro vs
  obtain ⟨gh, hgh⟩ : ∃ gh, gh = some (ghost vs [AV.q 0 13 0 0]) := ⟨_, rfl⟩
  refine awp_sound (own := [2]) _ _ _ _ _ ?_
  simp only [wB, awp, asN, mkA, Aw.newRow, St.ev, St.step, setS, killS, AV.kill, AV.killL, Mem.kill, Nat.reduceAdd, Nat.reduceEqDiff, Nat.reduceSub, Int.reduceAdd, Int.reduceSub, Tryz.ntmps67, ← hgh, memD]
  refine awp_sound (own := []) _ _ _ _ _ ?_
  simp only [wB, awp, binC, eqC, asG, asB, asI, St.ev, St.step, setS, killS, AV.kill, AV.killL, Mem.kill, Nat.reduceAdd, Int.reduceAdd, isNP, ptrN, asStr, nt32]
  refine swp_fm (own := []) 3 rfl rfl rfl ?_
  simp only [wB, asP, asQ, St.ev, St.step, setS, killS, AV.kill, AV.killL, Mem.kill, AV.cells, Nat.reduceEqDiff, Mch.ob, Mch.od, Mch.cells, List.take_succ_cons, List.take_zero, hmu]
  refine acall_f (fspec_of (m68 (M := [some ⟨none, 107, 13, [.g (.v (.int .i32 0) :: [.v (.int .u32 0), I m.n, .s 2 (prsA m.ls), I m.lim, .s 1 (intsA m.st.place), .s 1 (intsA m.st.heats), .s 4 (gtsA m.st.circ), I m.st.moves, I m.st.cools, I m.st.done, .o 2, S m.log])]⟩, none, some ⟨none, 9, 1, strsA m.ords⟩, gh]) (cs := [.v (.int .u32 0), I m.n, .s 2 (prsA m.ls), I m.lim, .s 1 (intsA m.st.place), .s 1 (intsA m.st.heats), .s 4 (gtsA m.st.circ), I m.st.moves, I m.st.cools, I m.st.done, .o 2, S m.log]) rfl rfl rfl) (M' := [some ⟨none, 107, 13, [.g (.v (.int .i32 1) :: [.v (.int .u32 0), I m.n, .s 2 (prsA m.ls), I m.lim, .s 1 (intsA m.st.place), .s 1 (intsA m.st.heats), .s 4 (gtsA m.st.circ), I m.st.moves, I m.st.cools, I m.st.done, .o 2, S m.log])]⟩, none, some ⟨none, 9, 1, strsA m.ords⟩, gh]) [1, 4] (by rw [hgh]; rfl) (by rw [hgh]; exact ⟨rfl, rfl, rfl, trivial⟩) (by rw [hgh]; rfl) rfl (by rw [hgh]; simp [freeM, AV.freeL, AV.free, strsA_free, ghost]) (N := [some ⟨none, 107, 13, [.g (.v (.int .i32 1) :: [.v (.int .u32 0), I m.n, .s 2 (prsA m.ls), I m.lim, .s 1 (intsA m.st.place), .s 1 (intsA m.st.heats), .s 4 (gtsA m.st.circ), I m.st.moves, I m.st.cools, I m.st.done, .o 2, S m.log])]⟩, none, some ⟨none, 9, 1, strsA m.ords⟩, gh, some ⟨none, 105, 6, [.g [.v (.slice none 0 0), .v (.slice none 0 0), .v (.slice none 0 0), I 0, I 0, I 0]]⟩]) (by rw [hgh]; rfl)) ?_
  simp only [wB, asP, asQ, St.ev, St.step, setS, killS, AV.kill, AV.killL, Mem.kill, Nat.reduceAdd, Nat.reduceEqDiff, Int.reduceAdd, List.drop_succ_cons, AV.sub, keepG, liveI, AV.isQ, List.any_cons, List.any_nil, ghost, List.drop_nil]
  refine ⟨⟨[.q 0 13 0 0, .bot, .q 4 6 0 0, .bot, .bot, .bot, .bot, .bot, .bot, .bot, .bot, .bot, .bot, .q 0 13 0 0, .bot, .bot, .bot, .bot, .bot, .bot, .bot, .bot, .bot], [some { m with mu := 1 }.ob, none, some m.od, gh, some ⟨none, 105, 6, [.g [.v (.slice none 0 0), .v (.slice none 0 0), .v (.slice none 0 0), I 0, I 0, I 0]]⟩]⟩, 3, le_sl' ?_ (by simp [leSl]), rfl, by rw [hgh]; rfl, ?_⟩
  · simp only [memG, memS, Mch.ob, Mch.od, Mch.cells, rowP, rowC, rowS, stO', combR, List.cons_append, List.nil_append, Option.map_some, Option.map_none, List.drop_succ_cons, List.drop_zero, prsA_sub, strsA_sub, intsA_sub, gtsA_sub, AV.sub, AV.subL, keepF, keepG, liveI, List.getElem?_cons_succ, List.getElem?_cons_zero, List.getElem?_nil, AV.isO, AV.isQ, List.any_cons, List.any_nil, ghost, gA, List.take_succ_cons, List.take_zero, List.drop_nil]
  refine awp_sound (own := [2]) _ _ _ _ _ ?_
  simp only [awp, AV.cells, Mch.ob, Mch.od, Mch.cells]
  have hlook : LEnd Tryz.prog Tryz.f67.results.toList [AV.q 0 13 0 0] vs (fun r N => r = .t [stA m.st, S m.log] ∧ N = memD m) ⟨[.q 0 13 0 0, .bot, .q 4 6 0 0, S m.log, .bot, .bot, .bot, .bot, .bot, .bot, .bot, .bot, .bot, .bot, .bot, .bot, .bot, .bot, .bot, .bot, .bot, .bot, .bot], [some { m with mu := 1 }.ob, none, some m.od, gh, some (rowS 5 6 7 m.st), some (rowP m.st.place), some (rowP m.st.heats), some (rowC m.st.circ)]⟩ := by
    refine ⟨⟨[.q 0 13 0 0, .bot, .q 4 6 0 0, S m.log, .bot, .bot, .bot, .bot, .bot, .bot, .bot, .bot, .bot, .bot, .bot, .bot, .bot, .bot, .bot, .bot, .bot, .bot, .bot], [some { m with mu := 1 }.ob, none, some m.od, gh, some ⟨none, 105, 6, [stA m.st]⟩]⟩, { m with mu := 1 }.ob, _, 3, Le.trans (le_frz 5 rfl (intsA_pure _)) (Le.trans (le_frz 6 rfl (by simp only [rowP, intsA_sub]; exact intsA_pure _)) (Le.trans (le_frz 7 rfl (by simp only [rowC, gtsA_sub]; exact gtsA_pure _)) (le_cut (Mx := [none, none, none]) ?_ ?_ rfl ?_))), rfl, rfl, rfl, by rw [hgh]; rfl, ?_⟩
    · simp [leSl, frz1, AV.sub, AV.subL]
    · rw [hgh]
      simp [frzM, Mch.ob, Mch.od, Mch.cells, rowP, rowC, rowS, stO', AV.sub, AV.subL, intsA_sub, gtsA_sub, prsA_sub, strsA_sub, stA, ghost]
    · rw [hgh]; simp [freeM, Mch.ob, Mch.od, Mch.cells, AV.freeL, AV.free, strsA_free, ghost, stA]
    refine ⟨_, .t [stA m.st, S m.log], memD m, [some ⟨none, 105, 6, [stA m.st]⟩], Le.refl _, rfl, ?_, ?_, rfl, ?_, rfl, rfl⟩
    · rw [hgh]
      simp only [memD, Mch.ob, Mch.od, Mch.cells, hmu, List.set_cons_zero, List.cons_append, List.nil_append]
    · rfl
    · simp [freeM, memD, Mch.ob, Mch.od, Mch.cells, AV.freeL, AV.free, strsA_free, Zr, List.range_succ]
  refine swp_to ⟨[.q 0 13 0 0, .bot, .q 4 6 0 0, S m.log, .bot, .bot, .bot, .bot, .bot, .bot, .bot, .bot, .bot, .bot, .bot, .bot, .bot, .bot, .bot, .bot, .bot, .bot, .bot], [some { m with mu := 1 }.ob, none, some m.od, gh, some (rowS 5 6 7 m.st), some (rowP m.st.place), some (rowP m.st.heats), some (rowC m.st.circ)]⟩ (swp_draw (own := [2]) (.take 0 .plain [] (.take 1 .plain [] (.take 2 .plain [] (.take 3 .reads [] (.take 5 .plain [] (.take 6 .plain [] (.take 7 .plain [] (.alt 4 (.alt 8 (.alt 9 (.take 10 .plain [] (.done)) (.nil)) (.alt 9 (.take 8 .reads [] (.take 10 .plain [] (.done))) (.nil))) (.alt 8 (.alt 4 (.alt 9 (.take 10 .plain [] (.done)) (.nil)) (.nil)) (.nil)))))))))) [⟨15, 1, 0, 0, true⟩, ⟨16, 16384, 1, 0, true⟩, ⟨17, 32768, 2, 0, true⟩, ⟨18, 65536, 4, 0, true⟩, ⟨19, 131072, 8, 0, false⟩, ⟨20, 1, 0, 0, true⟩, ⟨21, 524288, 32, 0, true⟩, ⟨22, 1048576, 64, 0, true⟩, ⟨23, 2097152, 128, 0, true⟩, ⟨0, 262148, 31, 1, false⟩, ⟨4, 4194304, 1023, 0, true⟩] mo (by kernel_rfl) ?_) ?_
  · simp only [wB, asP, asQ, obA, loadA, St.ev, St.step, setS, killS, AV.kill, AV.killL, Mem.kill, AV.cells, AV.flat, AV.single, Nat.reduceAdd, Nat.reduceEqDiff, Nat.reduceLeDiff, Int.reduceAdd, ASch, St.put, Md.mem, Md.need, Mch.cells, List.drop_succ_cons, List.drop_zero, List.take_succ_cons, List.take_zero]
    refine ⟨acall_os (s72 m.st h1 h2 h3) (by simp [stA, AV.pureL, AV.pure, intsA_pure, gtsA_pure]) ?_, acall_os (s72 m.st h1 h2 h3) (by simp [stA, AV.pureL, AV.pure, intsA_pure, gtsA_pure]) ?_⟩ <;>
    · simp only [wB, asP, asQ, asN, obA, loadA, storeA, putsA, St.ev, St.step, setS, killS, AV.kill, AV.killL, Mem.kill, AV.cells, AV.flat, AV.single, AV.cellular, Nat.reduceAdd, Nat.reduceEqDiff, Nat.reduceLeDiff, Int.reduceAdd, ASch, St.put, Md.mem, Md.need, Mch.ob, Mch.od, Mch.cells, rowP, rowC, rowS, stO', List.drop_succ_cons, List.drop_zero, AV.sub, AV.subL, List.take_succ_cons, List.take_zero, AV.up, Ob.up, intsA_smap, gtsA_smap]
      (try refine And.intro ?_ ?_) <;> exact le_sl (by simp [leSl])
  simp only [awp]
  exact hlook
end Go.Proofs.YtndniceeibflcaaGreatDoor

namespace Go.Proofs.YtndniceeibflcaaGreatDoor
open Aw Mp Go.RowKit
set_option linter.unusedSimpArgs false
set_option maxRecDepth 8000

/-- bounds of a machine's rows. -/
structure Sml (m : Mch) : Prop where
  mu : m.mu = 0
  p : m.st.place.length ≤ 1000
  h : m.st.heats.length ≤ 1000
  c : m.st.circ.length ≤ 1000
theorem free_D (k : Nat) (m : Mch) : freeM (Zr 3 k) (memD m) = true := by
  have h : (Zr 3 k).contains 2 = false := by
    cases hc : (Zr 3 k).contains 2 with
    | false => rfl
    | true => have := mem_Zr.1 (List.contains_iff_mem.1 hc); omega
  simp [freeM, memD, Mch.ob, Mch.od, Mch.cells, AV.freeL, AV.free, strsA_free, -List.contains_eq_mem, h]

theorem ok44 : okFn Tryz.prog 44 = true := by kernel_rfl
theorem m44 (m : Mch) (hs : Sml m) : MSpec Tryz.prog 44 [.q 0 13 0 0] (memD m) (fun r N => r = .s 1 (intsA m.st.place) ∧ N = memD m) := by
  refine mspec_of2 (own := [3, 1001]) Tryz.func44 rfl ok44 ?_
  intro vs
  obtain ⟨gh, hgh⟩ : ∃ gh, gh = some (ghost vs [AV.q 0 13 0 0]) := ⟨_, rfl⟩
  simp only [wB, awp, asN, St.ev, St.step, setS, killS, AV.kill, AV.killL, Mem.kill, Nat.reduceAdd, Nat.reduceEqDiff, Nat.reduceSub, Int.reduceAdd, Int.reduceSub, Tryz.ntmps44, ← hgh, memD]
  refine swp_fm (own := [3]) 1 rfl rfl rfl ?_
  simp only [wB, St.ev, St.step, setS, killS, AV.kill, AV.killL, Mem.kill, AV.cells, Mch.ob, Mch.od, Mch.cells, List.take_succ_cons, List.take_zero]
  refine acall_f (fspec_of (m67f m hs.mu hs.p hs.h hs.c) [1, 3] rfl (by exact ⟨rfl, rfl, trivial⟩) rfl rfl (by simp [freeM, memD, Mch.ob, Mch.od, Mch.cells, AV.freeL, AV.free, strsA_free]) (N := [some m.ob, none, some m.od, gh]) (by rw [hgh]; rfl)) ?_
  simp only [wB, awp, asP, asQ, asT, asN, obA, loadA, storeA, putsA, mkA, Aw.newRow, St.ev, St.step, setS, killS, AV.kill, AV.killL, Mem.kill, AV.cells, AV.flat, AV.single, AV.cellular, Nat.reduceAdd, Nat.reduceEqDiff, Nat.reduceLeDiff, Int.reduceAdd, Mch.ob, Mch.od, Mch.cells, List.drop_succ_cons, List.drop_zero, AV.sub, keepG, liveI, AV.isQ, List.any_cons, List.any_nil, List.take_succ_cons, List.take_zero, stA]
  exact ⟨_, _, memD m, _, Le.refl _, rfl, by rw [hgh]; rfl, rfl, rfl, free_D _ m, rfl, rfl⟩

theorem ok45 : okFn Tryz.prog 45 = true := by kernel_rfl
theorem m45 (m : Mch) (hs : Sml m) : MSpec Tryz.prog 45 [.q 0 13 0 0] (memD m) (fun r N => r = .s 1 (intsA m.st.heats) ∧ N = memD m) := by
  refine mspec_of2 (own := [3, 1001]) Tryz.func45 rfl ok45 ?_
  intro vs
  obtain ⟨gh, hgh⟩ : ∃ gh, gh = some (ghost vs [AV.q 0 13 0 0]) := ⟨_, rfl⟩
  simp only [wB, awp, asN, St.ev, St.step, setS, killS, AV.kill, AV.killL, Mem.kill, Nat.reduceAdd, Nat.reduceEqDiff, Nat.reduceSub, Int.reduceAdd, Int.reduceSub, Tryz.ntmps45, ← hgh, memD]
  refine swp_fm (own := [3]) 1 rfl rfl rfl ?_
  simp only [wB, St.ev, St.step, setS, killS, AV.kill, AV.killL, Mem.kill, AV.cells, Mch.ob, Mch.od, Mch.cells, List.take_succ_cons, List.take_zero]
  refine acall_f (fspec_of (m67f m hs.mu hs.p hs.h hs.c) [1, 3] rfl (by exact ⟨rfl, rfl, trivial⟩) rfl rfl (by simp [freeM, memD, Mch.ob, Mch.od, Mch.cells, AV.freeL, AV.free, strsA_free]) (N := [some m.ob, none, some m.od, gh]) (by rw [hgh]; rfl)) ?_
  simp only [wB, awp, asP, asQ, asT, asN, obA, loadA, storeA, putsA, mkA, Aw.newRow, St.ev, St.step, setS, killS, AV.kill, AV.killL, Mem.kill, AV.cells, AV.flat, AV.single, AV.cellular, Nat.reduceAdd, Nat.reduceEqDiff, Nat.reduceLeDiff, Int.reduceAdd, Mch.ob, Mch.od, Mch.cells, List.drop_succ_cons, List.drop_zero, AV.sub, keepG, liveI, AV.isQ, List.any_cons, List.any_nil, List.take_succ_cons, List.take_zero, stA]
  exact ⟨_, _, memD m, _, Le.refl _, rfl, by rw [hgh]; rfl, rfl, rfl, free_D _ m, rfl, rfl⟩

theorem ok47 : okFn Tryz.prog 47 = true := by kernel_rfl
theorem m47 (m : Mch) (hs : Sml m) : MSpec Tryz.prog 47 [.q 0 13 0 0] (memD m) (fun r N => r = .s 4 (gtsA m.st.circ) ∧ N = memD m) := by
  refine mspec_of2 (own := [3, 1001]) Tryz.func47 rfl ok47 ?_
  intro vs
  obtain ⟨gh, hgh⟩ : ∃ gh, gh = some (ghost vs [AV.q 0 13 0 0]) := ⟨_, rfl⟩
  simp only [wB, awp, asN, St.ev, St.step, setS, killS, AV.kill, AV.killL, Mem.kill, Nat.reduceAdd, Nat.reduceEqDiff, Nat.reduceSub, Int.reduceAdd, Int.reduceSub, Tryz.ntmps47, ← hgh, memD]
  refine swp_fm (own := [3]) 1 rfl rfl rfl ?_
  simp only [wB, St.ev, St.step, setS, killS, AV.kill, AV.killL, Mem.kill, AV.cells, Mch.ob, Mch.od, Mch.cells, List.take_succ_cons, List.take_zero]
  refine acall_f (fspec_of (m67f m hs.mu hs.p hs.h hs.c) [1, 3] rfl (by exact ⟨rfl, rfl, trivial⟩) rfl rfl (by simp [freeM, memD, Mch.ob, Mch.od, Mch.cells, AV.freeL, AV.free, strsA_free]) (N := [some m.ob, none, some m.od, gh]) (by rw [hgh]; rfl)) ?_
  simp only [wB, awp, asP, asQ, asT, asN, obA, loadA, storeA, putsA, mkA, Aw.newRow, St.ev, St.step, setS, killS, AV.kill, AV.killL, Mem.kill, AV.cells, AV.flat, AV.single, AV.cellular, Nat.reduceAdd, Nat.reduceEqDiff, Nat.reduceLeDiff, Int.reduceAdd, Mch.ob, Mch.od, Mch.cells, List.drop_succ_cons, List.drop_zero, AV.sub, keepG, liveI, AV.isQ, List.any_cons, List.any_nil, List.take_succ_cons, List.take_zero, stA]
  exact ⟨_, _, memD m, _, Le.refl _, rfl, by rw [hgh]; rfl, rfl, rfl, free_D _ m, rfl, rfl⟩

theorem ok23 : okFn Tryz.prog 23 = true := by kernel_rfl
theorem m23 (m : Mch) (hs : Sml m) : MSpec Tryz.prog 23 [.q 0 13 0 0] (memD m) (fun r N => r = S m.log ∧ N = memD m) := by
  refine mspec_of2 (own := [3, 1001]) Tryz.func23 rfl ok23 ?_
  intro vs
  obtain ⟨gh, hgh⟩ : ∃ gh, gh = some (ghost vs [AV.q 0 13 0 0]) := ⟨_, rfl⟩
  simp only [wB, awp, asN, St.ev, St.step, setS, killS, AV.kill, AV.killL, Mem.kill, Nat.reduceAdd, Nat.reduceEqDiff, Nat.reduceSub, Int.reduceAdd, Int.reduceSub, Tryz.ntmps23, ← hgh, memD]
  refine swp_fm (own := [3]) 1 rfl rfl rfl ?_
  simp only [wB, St.ev, St.step, setS, killS, AV.kill, AV.killL, Mem.kill, AV.cells, Mch.ob, Mch.od, Mch.cells, List.take_succ_cons, List.take_zero]
  refine acall_f (fspec_of (m67f m hs.mu hs.p hs.h hs.c) [1, 3] rfl (by exact ⟨rfl, rfl, trivial⟩) rfl rfl (by simp [freeM, memD, Mch.ob, Mch.od, Mch.cells, AV.freeL, AV.free, strsA_free]) (N := [some m.ob, none, some m.od, gh]) (by rw [hgh]; rfl)) ?_
  simp only [wB, awp, asQ, asT, asN, obA, storeA, putsA, mkA, Aw.newRow, St.ev, St.step, setS, killS, AV.kill, AV.killL, Mem.kill, AV.cells, AV.flat, AV.single, AV.cellular, Nat.reduceAdd, Nat.reduceEqDiff, Nat.reduceLeDiff, Int.reduceAdd, Mch.ob, Mch.od, Mch.cells, List.drop_succ_cons, List.drop_zero, AV.sub, keepG, liveI, AV.isQ, List.any_cons, List.any_nil, stA]
  exact ⟨_, _, memD m, _, Le.refl _, rfl, by rw [hgh]; rfl, rfl, rfl, free_D _ m, rfl, rfl⟩

theorem ok54 : okFn Tryz.prog 54 = true := by kernel_rfl
theorem m54 (m : Mch) (hs : Sml m) : MSpec Tryz.prog 54 [.q 0 13 0 0] (memD m) (fun r N => r = .t [I m.st.moves, I m.st.cools, I m.st.done] ∧ N = memD m) := by
  refine mspec_of2 (own := [5, 1001]) Tryz.func54 rfl ok54 ?_
  intro vs
  obtain ⟨gh, hgh⟩ : ∃ gh, gh = some (ghost vs [AV.q 0 13 0 0]) := ⟨_, rfl⟩
  simp only [wB, awp, asN, St.ev, St.step, setS, killS, AV.kill, AV.killL, Mem.kill, Nat.reduceAdd, Nat.reduceEqDiff, Nat.reduceSub, Int.reduceAdd, Int.reduceSub, Tryz.ntmps54, ← hgh, memD]
  refine swp_fm (own := [5]) 1 rfl rfl rfl ?_
  simp only [wB, St.ev, St.step, setS, killS, AV.kill, AV.killL, Mem.kill, AV.cells, Mch.ob, Mch.od, Mch.cells, List.take_succ_cons, List.take_zero]
  refine acall_f (fspec_of (m67f m hs.mu hs.p hs.h hs.c) [1, 3] rfl (by exact ⟨rfl, rfl, trivial⟩) rfl rfl (by simp [freeM, memD, Mch.ob, Mch.od, Mch.cells, AV.freeL, AV.free, strsA_free]) (N := [some m.ob, none, some m.od, gh]) (by rw [hgh]; rfl)) ?_
  simp only [wB, awp, asQ, asT, asN, obA, storeA, putsA, mkA, Aw.newRow, St.ev, St.step, setS, killS, AV.kill, AV.killL, Mem.kill, AV.cells, AV.flat, AV.single, AV.cellular, Nat.reduceAdd, Nat.reduceEqDiff, Nat.reduceLeDiff, Int.reduceAdd, Mch.ob, Mch.od, Mch.cells, List.drop_succ_cons, List.drop_zero, AV.sub, keepG, liveI, AV.isQ, List.any_cons, List.any_nil, stA]
  refine swp_draw (own := [5]) (.take 0 .plain [] (.take 1 .reads [] (.take 2 .plain [] (.take 3 .reads [] (.take 4 .plain [] (.take 5 .reads [] (.take 6 .plain [] (.take 7 .plain [] (.take 8 .plain [] (.done)))))))))) [⟨13, 32, 0, 0, true⟩, ⟨14, 4096, 1, 0, true⟩, ⟨15, 32, 0, 0, true⟩, ⟨16, 16384, 4, 0, true⟩, ⟨17, 32, 0, 0, true⟩, ⟨18, 65536, 16, 0, true⟩, ⟨3, 8192, 3, 0, true⟩, ⟨4, 32768, 79, 0, true⟩, ⟨5, 131072, 255, 0, true⟩] mo (by kernel_rfl) ?_
  simp only [wB, awp, asP, asQ, asN, obA, loadA, St.ev, setS, AV.cells, AV.flat, AV.single, Nat.reduceAdd, Nat.reduceEqDiff, Nat.reduceLeDiff, Int.reduceAdd, ASch, St.put, Md.mem, Md.need, Mch.cells, List.drop_succ_cons, List.drop_zero, List.take_succ_cons, List.take_zero]
  exact ⟨_, _, memD m, _, Le.refl _, rfl, by rw [hgh]; rfl, rfl, rfl, free_D _ m, rfl, rfl⟩

/-- the ions that are warm. -/
def wrmL (lim : Int) (l : List Int) : List Int := upL l.length fun i => decide (lim < l.getD i.toNat 0)
theorem ok46 : okFn Tryz.prog 46 = true := by kernel_rfl
theorem m46 (m : Mch) (hs : Sml m) : MSpec Tryz.prog 46 [.q 0 13 0 0] (memD m) (fun r N => r = .s 1 (intsA (wrmL m.lim m.st.heats)) ∧ N = memD m) := by
  refine mspec_of2 (own := [3, 5, 1001]) Tryz.func46 rfl ok46 ?_
  intro vs
  obtain ⟨gh, hgh⟩ : ∃ gh, gh = some (ghost vs [AV.q 0 13 0 0]) := ⟨_, rfl⟩
  obtain ⟨p, hpd⟩ : ∃ p : Int → Bool, p = fun i => decide (m.lim < m.st.heats.getD i.toNat 0) := ⟨_, rfl⟩
  have hh := hs.h
  simp only [wB, awp, asN, St.ev, St.step, setS, killS, AV.kill, AV.killL, Mem.kill, Nat.reduceAdd, Nat.reduceEqDiff, Nat.reduceSub, Int.reduceAdd, Int.reduceSub, Tryz.ntmps46, ← hgh, memD]
  refine swp_fm (own := [3, 5]) 1 rfl rfl rfl ?_
  simp only [wB, St.ev, St.step, setS, killS, AV.kill, AV.killL, Mem.kill, AV.cells, Mch.ob, Mch.od, Mch.cells, List.take_succ_cons, List.take_zero]
  refine acall_f (fspec_of (m67f m hs.mu hs.p hs.h hs.c) [1, 3] rfl (by exact ⟨rfl, rfl, trivial⟩) rfl rfl (by simp [freeM, memD, Mch.ob, Mch.od, Mch.cells, AV.freeL, AV.free, strsA_free]) (N := [some m.ob, none, some m.od, gh]) (by rw [hgh]; rfl)) ?_
  simp only [wB, awp, asP, asQ, asT, asN, obA, lenA, loadA, storeA, putsA, mkA, Aw.newRow, St.ev, St.step, setS, killS, AV.kill, AV.killL, Mem.kill, AV.cells, AV.flat, AV.single, AV.cellular, Nat.reduceAdd, Nat.reduceEqDiff, Nat.reduceLeDiff, Int.reduceAdd, lenK, Mch.ob, Mch.od, Mch.cells, List.drop_succ_cons, List.drop_zero, AV.sub, keepG, liveI, AV.isQ, List.any_cons, List.any_nil, List.take_succ_cons, List.take_zero, stA]
  refine swp_loop' (fun k : Nat => ⟨[.q 0 13 0 0, .bot, .bot, .bot, .bot, .o 5, .bot, .bot, .bot, .bot, .bot, .bot, .bot, .bot, .s 1 (intsA m.st.heats), I m.st.heats.length, I k, .bot, .bot, .bot, .bot, .bot, .bot, .bot, .bot, .bot, .bot, .bot, .bot, .bot, .bot, .bot, .bot], [some m.ob, none, some m.od, gh, some ⟨none, 105, 6, [stA m.st]⟩, some ⟨none, 3, 1, intsA (upL k p)⟩]⟩) (fun k => k ≤ m.st.heats.length) (fun k => m.st.heats.length - k) 0 (le_sl' ?_ (by simp [leSl])) (Nat.zero_le _) ?_
  · simp only [memG, memS, Mch.ob, Mch.od, Mch.cells, rowP, rowC, rowS, stO', combR, List.cons_append, List.nil_append, Option.map_some, Option.map_none, List.drop_succ_cons, List.drop_zero, prsA_sub, strsA_sub, intsA_sub, gtsA_sub, AV.sub, AV.subL, keepF, keepG, liveI, List.getElem?_cons_succ, List.getElem?_cons_zero, List.getElem?_nil, AV.isO, AV.isQ, List.any_cons, List.any_nil, ghost, gA, List.take_succ_cons, List.take_zero, List.drop_nil, stA, upL, List.range_zero, List.map_nil, List.filter_nil, intsA]
  intro k hk
  refine awp_sound (own := [3, 5]) _ _ _ _ _ ?_
  simp only [wB, awp, binC, cmpC, asB, asI, St.ev, St.step, setS, killS, AV.kill, AV.killL, Mem.kill, AV.cells, Nat.reduceAdd, Nat.reduceEqDiff, Int.reduceAdd, Mch.ob, Mch.od, Mch.cells, stA]
  have hul := upL_len k p
  by_cases h : k < m.st.heats.length
  case neg =>
    have h' : ¬ (k : Int) < m.st.heats.length := by omega
    simp only [wB, awp, asN, St.ev, St.step, setS, killS, AV.kill, AV.killL, Mem.kill, Nat.reduceAdd, Nat.reduceEqDiff, Int.reduceAdd, decide_eq_false h']
    obtain rfl : k = m.st.heats.length := by omega
    refine ⟨_, .s 1 (intsA (upL m.st.heats.length p)), memD m, [some ⟨none, 105, 6, [stA m.st]⟩, none], le_frz 5 rfl (intsA_pure _), rfl, ?_, rfl, rfl, free_D _ m, by rw [hpd]; rfl, rfl⟩
    rw [hgh]
    simp [frzM, memD, Mch.ob, Mch.od, Mch.cells, AV.sub, AV.subL, intsA_sub, gtsA_sub, prsA_sub, strsA_sub, stA, ghost]
  have h' : (k : Int) < m.st.heats.length := by omega
  have hg : m.st.heats.getD k 0 = m.st.heats[k] := by rw [List.getD_eq_getElem?_getD, List.getElem?_eq_getElem h]; rfl
  simp only [wB, awp, binC, idxC, cmpC, asP, asQ, asS, asB, asI, asN, obA, loadA, St.ev, St.step, setS, killS, AV.kill, AV.killL, Mem.kill, AV.cells, AV.flat, AV.single, Nat.reduceAdd, Nat.reduceEqDiff, Nat.reduceLeDiff, Int.reduceAdd, Mch.cells, List.drop_succ_cons, List.drop_zero, List.take_succ_cons, List.take_zero, decide_eq_true h', aget_ints h, Int.toNat_natCast]
  refine ⟨by omega, ?_⟩
  by_cases c : m.lim < m.st.heats[k]
  · have hpk : p k = true := by rw [hpd]; simp only [Int.toNat_natCast, hg]; exact decide_eq_true c
    simp only [wB, awp, binC, arithC, cmpC, asO, asS, asI, asN, obA, St.ev, St.step, setS, killS, AV.kill, AV.killL, Mem.kill, AV.cells, AV.flat, AV.single, AV.cellular, AV.size, AV.pure, AV.pureL, Value.oneCell', Nat.reduceAdd, Nat.reduceEqDiff, Nat.reduceMul, Nat.reduceLeDiff, Int.reduceAdd, Int.reduceMul, isU, Mch.ob, Mch.od, Mch.cells, decide_eq_true c]
    refine ⟨⟨by decide, rfl⟩, ⟨by decide, by omega⟩, by unfold lim; omega, k + 1, le_sl' ?_ (by simp [leSl]), h, by omega⟩
    rw [upL_true hpk, hgh]
    simp [Mch.ob, Mch.od, Mch.cells, stA, ghost, AV.killL, AV.kill, strsA_kill, intsA_kill, intsA_app]
  · have hpk : p k = false := by rw [hpd]; simp only [Int.toNat_natCast, hg]; exact decide_eq_false c
    simp only [wB, awp, binC, arithC, cmpC, asI, St.ev, St.step, setS, killS, AV.kill, AV.killL, Mem.kill, AV.cells, Nat.reduceAdd, Nat.reduceEqDiff, Int.reduceAdd, isU, Mch.ob, Mch.od, Mch.cells, decide_eq_false c]
    refine ⟨by unfold lim; omega, k + 1, le_sl' ?_ (by simp [leSl]), h, by omega⟩
    rw [upL_false hpk]
    simp only [memG, memS, Mch.ob, Mch.od, Mch.cells, rowP, rowC, rowS, stO', combR, List.cons_append, List.nil_append, Option.map_some, Option.map_none, List.drop_succ_cons, List.drop_zero, prsA_sub, strsA_sub, intsA_sub, gtsA_sub, AV.sub, AV.subL, keepF, keepG, liveI, List.getElem?_cons_succ, List.getElem?_cons_zero, List.getElem?_nil, AV.isO, AV.isQ, List.any_cons, List.any_nil, ghost, gA, List.take_succ_cons, List.take_zero, List.drop_nil, stA]
end Go.Proofs.YtndniceeibflcaaGreatDoor

namespace Go.Proofs.YtndniceeibflcaaGreatDoor
open Aw Mp Go.RowKit
set_option linter.unusedSimpArgs false
set_option maxRecDepth 8000

/-- a nil cell of an object reads as an empty slice. -/
theorem le_nils {sl : List AV} {M : Mem} (i c : Nat) (k : Nat) {ob : Ob} {cells : List AV} (hi : M[i]? = some (some ob)) (hm : ob.mp = none) (hx : ob.xs = [.g cells]) (hc : cells[c]? = some (.v (.slice none 0 0))) :
    Le ⟨sl, M⟩ ⟨sl, M.set i (some { ob with xs := [.g (cells.set c (.s k []))] })⟩ := by
  intro C a w hS
  obtain ⟨hv, hd, hsz, hsl, hM, hF⟩ := hS
  have key : ∀ (l : List AV) (c : Nat) (us : List Value), l[c]? = some (.v (.slice none 0 0)) → RL w (OwnA C.A hv) hv l us → RL w (OwnA C.A hv) hv (l.set c (.s k [])) us := by
    intro l
    induction l with
    | nil => intro c us h; simp at h
    | cons x l ih =>
      intro c us h hr
      simp only [RL] at hr
      obtain ⟨u1, u2, rfl, h1, h2⟩ := hr
      cases c with
      | zero =>
        simp only [List.getElem?_cons_zero, Option.some.injEq] at h
        subst h
        simp only [R] at h1
        simp only [List.set_cons_zero, RL]
        refine ⟨u1, u2, rfl, ?_, h2⟩
        rw [h1.1]
        simp only [R]
        exact ⟨none, 0, [], rfl, Nat.le_refl _, Nat.zero_le _, by simp, by simp [RL], fun h => absurd rfl h⟩
      | succ c =>
        simp only [List.set_cons_succ, RL]
        exact ⟨u1, u2, rfl, h1, ih c u2 (by simpa using h) h2⟩
  have hsize : ∀ (l : List AV) (c : Nat), l[c]? = some (.v (.slice none 0 0)) → AV.sizeL (l.set c (.s k [])) = AV.sizeL l := by
    intro l
    induction l with
    | nil => intro c h; simp at h
    | cons x l ih =>
      intro c h
      cases c with
      | zero =>
        simp only [List.getElem?_cons_zero, Option.some.injEq] at h
        subst h
        rfl
      | succ c => simp only [List.set_cons_succ, AV.sizeL, ih c (by simpa using h)]
  refine ⟨hv, hd, hsz, hsl, mem_same hM hi (fun v h => ?_), hF⟩
  obtain ⟨us, h1, h2, h3⟩ := h.row hm
  rw [hx] at h1 h2 h3
  refine ObR.of_row hm ⟨us, by simpa using h1, ?_, ?_⟩
  · intro y hy
    simp only [List.mem_singleton] at hy
    subst hy
    have := h2 (.g cells) (by simp)
    simp only [AV.size] at this ⊢
    rw [hsize cells c hc]
    exact this
  · simp only [RL] at h3 ⊢
    obtain ⟨u1, u2, e, q1, q2⟩ := h3
    simp only [R] at q1 ⊢
    exact ⟨u1, u2, e, key cells c u1 hc q1, q2⟩
end Go.Proofs.YtndniceeibflcaaGreatDoor

namespace Go.Proofs.YtndniceeibflcaaGreatDoor
open Aw Mp Go.RowKit
set_option linter.unusedSimpArgs false
set_option maxRecDepth 8000

/-- the error of a machine that is made. -/
def vN (n lim : Int) (ls : List (Int × Int)) : Int := if vT n ls ≠ 0 then vT n ls else if lim < 0 ∨ 100 < lim then 1 else 0
theorem ok22 : okFn Tryz.prog 22 = true := by kernel_rfl
theorem s22e (n lim : Int) (ls : List (Int × Int)) (hls : ls.length ≤ 100000) (he : vN n lim ls ≠ 0) : ASpec Tryz.prog 22 [trapA n ls, I lim] (fun r Ms => r = .t [.v (.pointer none), I (vN n lim ls)] ∧ Ms = []) := by
  refine aspec_of (own := [2, 25]) Tryz.func22 rfl ok22 ?_
  simp only [wB, awp, asP, asQ, asN, obA, loadA, Aw.newRow, St.ev, St.step, setS, killS, AV.kill, AV.killL, Mem.kill, AV.cells, AV.flat, AV.single, AV.cellular, AV.size, AV.sizeL, Nat.reduceAdd, Nat.reduceEqDiff, Nat.reduceSub, Nat.reduceLeDiff, Int.reduceAdd, Int.reduceSub, Tryz.ntmps22, trapA]
  refine acall_v (s65 n ls (by omega)) (by simp [trapA, AV.pureL, AV.pure, prsA_pure]) rfl ?_
  by_cases h0 : vT n ls = 0
  · simp only [wB, awp, binC, cmpC, asB, asI, asN, St.ev, St.step, setS, killS, AV.kill, AV.killL, Mem.kill, Nat.reduceAdd, Nat.reduceEqDiff, Int.reduceAdd, decide_eq_true h0]
    by_cases h1 : lim < 0
    · simp only [wB, awp, asB, asN, St.ev, St.step, setS, killS, AV.kill, AV.killL, Mem.kill, Nat.reduceAdd, Nat.reduceEqDiff, Int.reduceAdd, decide_eq_true h1]
      exact aend_frz rfl ⟨by rw [vN, if_neg (by rw [h0]; simp), if_pos (.inl h1)]; rfl, rfl⟩
    simp only [wB, awp, binC, cmpC, asB, asI, St.ev, St.step, setS, killS, AV.kill, AV.killL, Mem.kill, decide_eq_false h1]
    by_cases h2 : 100 < lim
    · simp only [wB, awp, asN, St.ev, St.step, setS, killS, AV.kill, AV.killL, Mem.kill, Nat.reduceAdd, Nat.reduceEqDiff, Int.reduceAdd, decide_eq_true h2]
      exact aend_frz rfl ⟨by rw [vN, if_neg (by rw [h0]; simp), if_pos (.inr h2)]; rfl, rfl⟩
    · exact absurd (by rw [vN, if_neg (by rw [h0]; simp), if_neg (by omega)]) he
  · simp only [wB, awp, binC, cmpC, asB, asI, asN, St.ev, St.step, setS, killS, AV.kill, AV.killL, Mem.kill, Nat.reduceAdd, Nat.reduceEqDiff, Int.reduceAdd, decide_eq_false h0]
    exact aend_frz rfl ⟨by rw [vN, if_pos h0]; rfl, rfl⟩
theorem s22o (n lim : Int) (ls : List (Int × Int)) (hls : ls.length ≤ 100000) (he : vN n lim ls = 0) : ASpec Tryz.prog 22 [trapA n ls, I lim] (fun r Ms => r = .t [.q 0 13 0 0, I 0] ∧ Ms = [⟨none, 107, 13, [(mkM n lim ls []).cells (.o 1) (.o 2)]⟩, ⟨none, 79, 2, prsA ls⟩, ⟨none, 9, 1, []⟩]) := by
  have h0 : vT n ls = 0 := by
    by_cases h : vT n ls = 0
    · exact h
    · rw [vN, if_pos h] at he; exact he
  have h12 : ¬ (lim < 0 ∨ 100 < lim) := fun h => by rw [vN, if_neg (by rw [h0]; simp), if_pos h] at he; cases he
  refine aspec_of (own := [2, 25, 1007]) Tryz.func22 rfl ok22 ?_
  simp only [wB, awp, asP, asQ, asN, obA, loadA, Aw.newRow, St.ev, St.step, setS, killS, AV.kill, AV.killL, Mem.kill, AV.cells, AV.flat, AV.single, AV.cellular, AV.size, AV.sizeL, Nat.reduceAdd, Nat.reduceEqDiff, Nat.reduceSub, Nat.reduceLeDiff, Int.reduceAdd, Int.reduceSub, Tryz.ntmps22, trapA]
  refine acall_v (s65 n ls (by omega)) (by simp [trapA, AV.pureL, AV.pure, prsA_pure]) rfl ?_
  simp only [wB, awp, binC, cmpC, asP, asQ, asB, asI, asN, obA, loadA, St.ev, St.step, setS, killS, AV.kill, AV.killL, Mem.kill, AV.cells, AV.flat, AV.single, Nat.reduceAdd, Nat.reduceEqDiff, Nat.reduceLeDiff, Int.reduceAdd, decide_eq_true h0, decide_eq_false (show ¬ lim < 0 by omega), decide_eq_false (show ¬ 100 < lim by omega)]
  refine acall_o (s66 ls hls) (by simp [AV.pureL, AV.pure, prsA_pure]) (prsA_pure ls) ?_
  simp only [wB, awp, asP, asQ, obA, storeA, putsA, St.ev, St.step, setS, killS, AV.kill, AV.killL, Mem.kill, AV.cells, AV.flat, AV.single, AV.cellular, Nat.reduceAdd, Nat.reduceEqDiff, Nat.reduceLeDiff, Int.reduceAdd, AV.up, AV.sub]
  refine swp_to ⟨[.bot, .bot, .bot, .bot, .q 0 13 0 0, I 0, .bot, .bot, .bot, .bot, .bot, .bot, .bot, .bot, .bot, .bot, .bot, .bot, .bot, .bot, .bot, .bot, .bot, .bot, .bot, .bot], [some ⟨none, 107, 13, [(mkM n lim ls []).cells (.o 1) (.o 2)]⟩, some ⟨none, 79, 2, prsA ls⟩, some ⟨none, 9, 1, []⟩]⟩ (awp_sound (own := [2, 25]) _ _ _ _ _ ?_) ?_
  · simp only [wB, awp, asP, asQ, asN, obA, loadA, fillA, putsA, Aw.newRow, St.ev, St.step, setS, killS, AV.kill, AV.killL, Mem.kill, AV.cells, AV.flat, AV.single, AV.cellular, AV.size, AV.sizeL, Value.oneCell', Nat.reduceAdd, Nat.reduceEqDiff, Nat.reduceLeDiff, Int.reduceAdd]
    refine Le.trans (le_nils 2 5 1 rfl rfl rfl rfl) (Le.trans (le_nils 2 6 1 rfl rfl rfl rfl) (Le.trans (le_nils 2 7 4 rfl rfl rfl rfl) (Le.trans (le_nil 2 0 11 9 1 rfl rfl rfl rfl) (le_rn [2, 1, 3] (by decide) ?_ (by simp [leSl, AV.sub, reF, reG, List.idxOf?, List.findIdx?, List.findIdx?.go])))))
    simp [reM, reF, reG, mkM, Mch.cells, AV.sub, AV.subL, prsA_sub, List.idxOf?, List.findIdx?, List.findIdx?.go, stO, MS.zero, intsA, gtsA, lg]
  · simp only [awp]
    exact aend_ren [0, 1, 2] (by decide) [⟨none, 107, 13, [(mkM n lim ls []).cells (.o 1) (.o 2)]⟩, ⟨none, 79, 2, prsA ls⟩, ⟨none, 9, 1, []⟩] rfl (by simp [reM, reF, reG, mkM, Mch.cells, AV.sub, AV.subL, prsA_sub, List.idxOf?, List.findIdx?, List.findIdx?.go]) ⟨rfl, rfl⟩
end Go.Proofs.YtndniceeibflcaaGreatDoor

namespace Go.Proofs.YtndniceeibflcaaGreatDoor
open Aw Mp Go.RowKit
set_option linter.unusedSimpArgs false
set_option maxRecDepth 8000

theorem Acc.at {n lm : Int} {ls : List (Int × Int)} {l : List By} (h : Acc n lm ls l) : ∀ i, (hi : i < l.length) → Acc n lm ls (l.take i) ∧ erO n lm ls (l.take i) l[i] = 0 := by
  induction h with
  | nil => intro i hi; simp at hi
  | snoc h he ih =>
    rename_i l o
    intro i hi
    rcases Nat.lt_or_ge i l.length with h1 | h1
    · obtain ⟨h2, h3⟩ := ih i h1
      rw [List.take_append_of_le_length (by omega), List.getElem_append_left h1]
      exact ⟨h2, h3⟩
    · have : i = l.length := by simp at hi; omega
      subst this
      rw [List.take_append_of_le_length (Nat.le_refl _), List.take_length]
      refine ⟨h, ?_⟩
      simpa using he
end Go.Proofs.YtndniceeibflcaaGreatDoor

namespace Go.Proofs.YtndniceeibflcaaGreatDoor
open Aw Mp Go.RowKit
set_option linter.unusedSimpArgs false

theorem g4_eq (g h : G4) : [g.k, g.a, g.b, g.t] = [h.k, h.a, h.b, h.t] ↔ g = h := by
  cases g; cases h; simp
end Go.Proofs.YtndniceeibflcaaGreatDoor

namespace Go.Proofs.YtndniceeibflcaaGreatDoor
open Aw Mp Go.RowKit
set_option linter.unusedSimpArgs false
set_option maxRecDepth 8000

theorem doO_ok {n lm : Int} {ls : List (Int × Int)} {l : List By} {o : By} (h : erO n lm ls l o = 0) : doO n lm ls l o = l ++ [o] := by unfold doO; rw [if_pos h]
theorem doO_no {n lm : Int} {ls : List (Int × Int)} {l : List By} {o : By} (h : erO n lm ls l o ≠ 0) : doO n lm ls l o = l := by unfold doO; rw [if_neg h]

def kls : List (Int × Int) := [(0, 1), (1, 2)]
def oL0 : By := [108, 111, 97, 100, 32, 48]
def oL2 : By := [108, 111, 97, 100, 32, 50]
def oJ : By := [106, 111, 105, 110, 32, 48, 32, 49, 32, 52]
def oM : By := [109, 111, 118, 101, 32, 48, 32, 49]
def oC : By := [99, 111, 111, 108, 32, 48]
theorem kvN : vN 3 2 kls = 0 := by decide +kernel
theorem kvT : vT 3 kls = 0 := by decide +kernel
theorem ke1 : erO 3 2 kls [] oL0 = 0 := by decide +kernel
theorem ke2 : erO 3 2 kls [oL0] oL2 = 0 := by decide +kernel
theorem ke3 : erO 3 2 kls [oL0, oL2] oJ = 9 := by decide +kernel
theorem ke4 : erO 3 2 kls [oL0, oL2] oM = 0 := by decide +kernel
theorem ke5 : erO 3 2 kls [oL0, oL2, oM] oJ = 8 := by decide +kernel
theorem ke6 : erO 3 2 kls [oL0, oL2, oM] oC = 0 := by decide +kernel
theorem ke7 : erO 3 2 kls [oL0, oL2, oM, oC] oJ = 0 := by decide +kernel
theorem kst : (stO [oL0, oL2, oM, oC, oJ]).heats = [2, 2] := by decide +kernel
theorem kd1 : doO 3 2 kls [] oL0 = [oL0] := doO_ok ke1
theorem kd2 : doO 3 2 kls [oL0] oL2 = [oL0, oL2] := doO_ok ke2
theorem kd3 : doO 3 2 kls [oL0, oL2] oJ = [oL0, oL2] := doO_no (by rw [ke3]; decide)
theorem kd4 : doO 3 2 kls [oL0, oL2] oM = [oL0, oL2, oM] := doO_ok ke4
theorem kd5 : doO 3 2 kls [oL0, oL2, oM] oJ = [oL0, oL2, oM] := doO_no (by rw [ke5]; decide)
theorem kd6 : doO 3 2 kls [oL0, oL2, oM] oC = [oL0, oL2, oM, oC] := doO_ok ke6
theorem kd7 : doO 3 2 kls [oL0, oL2, oM, oC] oJ = [oL0, oL2, oM, oC, oJ] := doO_ok ke7
theorem ka1 : Acc 3 2 kls [oL0] := .snoc (l := []) .nil ke1
theorem ka2 : Acc 3 2 kls [oL0, oL2] := .snoc (l := [oL0]) ka1 ke2
theorem ka3 : Acc 3 2 kls [oL0, oL2, oM] := .snoc (l := [oL0, oL2]) ka2 ke4
theorem ka4 : Acc 3 2 kls [oL0, oL2, oM, oC] := .snoc (l := [oL0, oL2, oM]) ka3 ke6
theorem ka5 : Acc 3 2 kls [oL0, oL2, oM, oC, oJ] := .snoc (l := [oL0, oL2, oM, oC]) ka4 ke7
/-- orders that are done one by one: how many are done, and the error of the next one. -/
def rpL (n lm : Int) (ls : List (Int × Int)) : List By → List By → Nat × Int
  | d, [] => (d.length, 0)
  | d, o :: r => if erO n lm ls d o = 0 then rpL n lm ls (d ++ [o]) r else (d.length, erO n lm ls d o)
theorem rpL_acc {n lm : Int} {ls : List (Int × Int)} : ∀ (r d : List By), Acc n lm ls (d ++ r) → rpL n lm ls d r = ((d ++ r).length, 0)
  | [], d, _ => by simp [rpL]
  | o :: r, d, h => by
    have h1 : erO n lm ls d o = 0 := by
      have := (h.at d.length (by simp)).2
      simpa using this
    rw [rpL, if_pos h1, rpL_acc r (d ++ [o]) (by simpa using h)]
    simp
end Go.Proofs.YtndniceeibflcaaGreatDoor

namespace Go.Proofs.YtndniceeibflcaaGreatDoor
open Aw Mp Go.RowKit
set_option linter.unusedSimpArgs false
set_option maxRecDepth 8000

def doL (n lm : Int) (ls : List (Int × Int)) (l : List By) : List By := l.foldl (doO n lm ls) []
theorem doL_acc (n lm : Int) (ls : List (Int × Int)) (l : List By) : Acc n lm ls (doL n lm ls l) := by
  suffices h : ∀ (l d : List By), Acc n lm ls d → Acc n lm ls (l.foldl (doO n lm ls) d) from h l [] .nil
  intro l
  induction l with
  | nil => exact fun d h => h
  | cons o r ih => exact fun d h => ih _ (h.do o)
theorem doL_take {n lm : Int} {ls : List (Int × Int)} {l : List By} {k : Nat} (h : k < l.length) : doL n lm ls (l.take (k + 1)) = doO n lm ls (doL n lm ls (l.take k)) l[k] := by
  unfold doL
  rw [← List.take_append_getElem h, List.foldl_append]
  rfl
end Go.Proofs.YtndniceeibflcaaGreatDoor

namespace Go.Proofs.YtndniceeibflcaaGreatDoor
open Aw Mp Go.RowKit
set_option linter.unusedSimpArgs false
set_option maxRecDepth 8000

theorem inv_place {n : Int} {ls : List (Int × Int)} {c : Nat} {s : MS} (h : InvS n c s) (hT : vT n ls = 0) : vTP n ls s.place = 0 := by
  unfold vTP vP
  rw [if_pos hT, if_neg (by have := h.p4; omega), if_pos h.pin, if_pos h.pnd]
theorem inv_circ {n : Int} {c : Nat} {s : MS} (h : InvS n c s) (h0 : 0 < s.place.length) : vC s.place.length s.circ = 0 := by
  unfold vC vG
  rw [if_neg (by have := h.p4; omega), if_neg (by have := h.c10; omega), if_pos h.cok]
theorem inv_circ' {n : Int} {c : Nat} {s : MS} (h : InvS n c s) (h0 : 0 < s.circ.length) : vC s.place.length s.circ = 0 := by
  refine inv_circ h ?_
  rcases Nat.eq_zero_or_pos s.place.length with h1 | h1
  · rw [h.emp (List.length_eq_zero_iff.1 h1)] at h0
    cases h0
  · exact h1
theorem wrm_mem (lm : Int) (l : List Int) (i : Nat) (hi : i < l.length) : memL (wrmL lm l) (i : Int) = decide (lm < l[i]) := by
  unfold memL wrmL upL
  have hg : l.getD ((i : Int)).toNat 0 = l[i] := by rw [Int.toNat_natCast, List.getD_eq_getElem?_getD, List.getElem?_eq_getElem hi]; rfl
  apply decide_eq_decide.2
  simp only [List.mem_filter, List.mem_map, List.mem_range, decide_eq_true_eq]
  constructor
  · rintro ⟨_, h⟩; rwa [hg] at h
  · exact fun h => ⟨⟨i, hi, rfl⟩, by rwa [hg]⟩
theorem wrm_len (lm : Int) (l : List Int) : (wrmL lm l).length ≤ l.length := by
  unfold wrmL upL
  refine Nat.le_trans (List.length_filter_le _ _) ?_
  simp
theorem vN_ok {n lm : Int} {ls : List (Int × Int)} (h : vN n lm ls = 0) : vT n ls = 0 ∧ 0 ≤ lm ∧ lm ≤ 100 := by
  unfold vN at h
  split at h
  · exact absurd h (by assumption)
  · split at h
    · cases h
    · exact ⟨Classical.byContradiction fun g => by contradiction, by omega⟩
theorem sml_of {n lm : Int} {ls : List (Int × Int)} {l : List By} (h : Acc n lm ls l) : Sml (mkM n lm ls l) := by
  have hI := h.inv.2
  have h4 := hI.p4
  have hh := hI.hl
  have hc := hI.c10
  exact ⟨rfl, by simp only [mkM]; omega, by simp only [mkM]; omega, by simp only [mkM]; omega⟩
theorem lg_small {n lm : Int} {ls : List (Int × Int)} {l : List By} (h : Acc n lm ls l) : (lg 0 l).length ≤ 10000 := by
  have := lg_size l 0 h.ords
  have := h.inv.1
  omega
theorem rd_acc {n lm : Int} {ls : List (Int × Int)} {l : List By} (h : Acc n lm ls l) : rd 100 0 (lg 0 l) = (l, []) := rd_all h.inv.1 h.ords
end Go.Proofs.YtndniceeibflcaaGreatDoor

namespace Go.Proofs.YtndniceeibflcaaGreatDoor
open Aw Mp Go.RowKit
set_option linter.unusedSimpArgs false
set_option maxRecDepth 8000

theorem combR_tail (F : Nat → AV) (G : Nat → Nat → Nat → Nat → AV) : ∀ T : Mem, combR F G [] T [] = T.map fun c => c.map fun ob => { ob with xs := AV.subL F G ob.xs }
  | [] => rfl
  | c :: T => by simp only [combR, List.drop_nil, List.map_cons, combR_tail F G T]
/-- a function is lent a machine; behind it lie other objects. -/
theorem fD {f : FuncId} {ars : List AV} {m m' : Mch} {x : AV} (h : MSpec Tryz.prog f ars (memD m) (fun r N => r = x ∧ N = memD m')) (T : Mem) (Z : List Nat) (hZ : deadL (memD m) (3 + T.length) = Z) (hfa : AV.freeL Z ars = true)
    (hT : (T.map fun c => c.map fun ob => { ob with xs := AV.subL (keepF (memD m) ars) (keepG (memD m) ars) ob.xs }) = T) : FSpec Tryz.prog f ars (memD m) (memD m ++ T) x (memD m' ++ T) := by
  have h2 : Z.contains 2 = false := by
    cases hc : Z.contains 2 with
    | false => rfl
    | true =>
      have hm := List.contains_iff_mem.1 hc
      rw [← hZ] at hm
      unfold deadL at hm
      have := (List.mem_filter.1 hm).2
      simp [liveI, memD] at this
  refine fspec_of h Z rfl ?_ (by rw [← hZ]; congr 1; simp [memD]; omega) hfa ?_ ?_
  · exact ⟨rfl, rfl, trivial⟩
  · simp [freeM, memD, Mch.ob, Mch.od, Mch.cells, AV.freeL, AV.free, strsA_free, -List.contains_eq_mem, h2]
  · show some m'.ob :: none :: some m'.od :: combR _ _ [] T [] = _
    rw [combR_tail, hT]
    rfl

theorem prsA_msub (F : Nat → AV) (G : Nat → Nat → Nat → Nat → AV) (l : List (Int × Int)) : (prsA l).map (AV.sub F G) = prsA l := by rw [← AV.subL_map, prsA_sub]
/-- a machine that was made: its links are never written again. -/
theorem le_new {n lm : Int} {ls : List (Int × Int)} {sl sl' : List AV} (h : leSl (sl.map (frz1 1 2 (prsA ls))) sl') : Le ⟨sl, [some ⟨none, 107, 13, [(mkM n lm ls []).cells (.o 1) (.o 2)]⟩, some ⟨none, 79, 2, prsA ls⟩, some ⟨none, 9, 1, []⟩]⟩ ⟨sl', memD (mkM n lm ls [])⟩ := by
  refine Le.trans (le_frz 1 rfl (prsA_pure ls)) (le_sl' ?_ h)
  simp [frzM, memD, Mch.ob, Mch.od, Mch.cells, AV.sub, AV.subL, mkM, prsA_sub, intsA_sub, gtsA_sub, strsA_sub, stO, MS.zero, strsA, frz1]
theorem new_sub (n lm : Int) (ls : List (Int × Int)) : AV.sub (fun i => AV.o i) (fun i k j off => AV.q i k j off) ((mkM n lm ls []).cells (.o 1) (.o 2)) = (mkM n lm ls []).cells (.o 1) (.o 2) := by
  simp [Mch.cells, AV.sub, AV.subL, intsA_sub, gtsA_sub]
theorem k24 (l : List By) (hA : Acc 3 2 kls l) (o : By) (ho : o.length ≤ 30) : FSpec Tryz.prog 24 [.q 0 13 0 0, S o] (memD (mkM 3 2 kls l)) (memD (mkM 3 2 kls l)) (I (erO 3 2 kls l o)) (memD (mkM 3 2 kls (doO 3 2 kls l o))) := by
  have := fD (m24 3 2 kls l hA kvT (by decide) o (by omega)) [] [1] rfl rfl rfl
  simpa using this
theorem k45 (l : List By) (hA : Acc 3 2 kls l) : FSpec Tryz.prog 45 [.q 0 13 0 0] (memD (mkM 3 2 kls l)) (memD (mkM 3 2 kls l)) (.s 1 (intsA (stO l).heats)) (memD (mkM 3 2 kls l)) := by
  have := fD (m45 (mkM 3 2 kls l) (sml_of hA)) [] [1] rfl rfl rfl
  rw [List.append_nil] at this
  exact this
end Go.Proofs.YtndniceeibflcaaGreatDoor

namespace Go.Proofs.YtndniceeibflcaaGreatDoor
open Aw Mp Go.RowKit
set_option linter.unusedSimpArgs false
set_option maxRecDepth 8000

/-- a machine whose orders are the object j. -/
def Mch.obA (m : Mch) (j : Nat) : Ob := ⟨none, 107, 13, [m.cells (.s 2 (prsA m.ls)) (.o j)]⟩
/-- a machine at k. -/
def memA (k : Nat) (m : Mch) : Mem := List.replicate k none ++ [some (m.obA (k + 2)), none, some m.od]
theorem memA_len (k : Nat) (m : Mch) : (memA k m).length = k + 3 := by simp [memA]
theorem memA_lo {k : Nat} {m : Mch} {i : Nat} (h : i < k) : (memA k m)[i]? = some none := by
  unfold memA
  rw [List.getElem?_append_left (by simpa using h), List.getElem?_replicate, if_pos h]
theorem memA_hi {k : Nat} {m : Mch} (i : Nat) : (memA k m)[k + i]? = [some (m.obA (k + 2)), none, some m.od][i]? := by
  unfold memA
  rw [List.getElem?_append_right (by simp)]
  simp
theorem cells_sub (F : Nat → AV) (G : Nat → Nat → Nat → Nat → AV) (m : Mch) (i : Nat) : AV.subL F G [m.cells (.s 2 (prsA m.ls)) (.o i)] = [m.cells (.s 2 (prsA m.ls)) (F i)] := rfl

theorem mA (k : Nat) {f : FuncId} {ars : List AV} {x : AV} {m m' : Mch} (h : MSpec Tryz.prog f (.q 0 13 0 0 :: ars) (memD m) (fun r N => r = x ∧ N = memD m')) (ha : AV.pureL ars = true) (hx : x.pure = true) :
    MSpec Tryz.prog f (.q k 13 0 0 :: ars) (memA k m) (fun r N => r = x ∧ N = memA k m') := by
  have hnd : [k, k + 1, k + 2].Nodup := by simp
  have e0 := idx_of hnd (i := k) (j := 0) rfl
  have e1 := idx_of hnd (i := k + 1) (j := 1) rfl
  have e2 := idx_of hnd (i := k + 2) (j := 2) rfl
  have hF2 : reF [k, k + 1, k + 2] (k + 2) = .o 2 := by unfold reF; rw [e2]
  have hG : reG [k, k + 1, k + 2] k 13 0 0 = .q 0 13 0 0 := by unfold reG; rw [e0]
  have hars : ∀ F G, ars.map (AV.sub F G) = ars := fun F G => by rw [← AV.subL_map]; exact subL_pure F G ha
  have key := MSpec.ren (aT := .q k 13 0 0 :: ars) (K := memA k m) h [k, k + 1, k + 2] hnd (by simp only [List.map_cons, AV.sub, hG, hars]) (by
      unfold reM
      simp only [List.map_cons, List.map_nil]
      rw [show (memA k m)[k]? = some (some (m.obA (k + 2))) from memA_hi 0, memA_hi 1, memA_hi 2]
      simp only [List.getElem?_cons_succ, List.getElem?_cons_zero, Option.getD_some, Option.map_some, Option.map_none]
      have e3 : AV.subL (reF [k, k + 1, k + 2]) (reG [k, k + 1, k + 2]) (m.obA (k + 2)).xs = m.ob.xs := by
        show AV.subL _ _ [m.cells (.s 2 (prsA m.ls)) (.o (k + 2))] = _
        rw [cells_sub, hF2]
        rfl
      have e4 : AV.subL (reF [k, k + 1, k + 2]) (reG [k, k + 1, k + 2]) m.od.xs = m.od.xs := strsA_sub _ _ _
      rw [e3, e4]
      rfl) (by simp only [List.map_cons, hars]; rfl) (fun i hi => by
      rw [memA_len]
      simp only [List.mem_cons, List.not_mem_nil, or_false] at hi
      omega) (fun i hi => by
      rcases Nat.lt_or_ge i k with h1 | h1
      · exact .inr (memA_lo h1)
      · refine .inl (List.getElem?_eq_none ?_)
        rw [memA_len]
        simp only [List.mem_cons, List.not_mem_nil, or_false] at hi
        omega)
  have hM : baM [k, k + 1, k + 2] (memA k m).length (memD m') = memA k m' := by
    apply List.ext_getElem?
    intro i
    unfold baM
    rw [memA_len, List.getElem?_map]
    rcases Nat.lt_or_ge i (k + 3) with h1 | h1
    · rw [List.getElem?_range h1, Option.map_some]
      rcases Nat.lt_or_ge i k with h2 | h2
      · have : [k, k + 1, k + 2].idxOf? i = none := by
          rw [List.idxOf?_eq_none_iff]
          simp only [List.mem_cons, List.not_mem_nil, or_false]
          omega
        rw [this, memA_lo h2]
      · obtain ⟨d, rfl⟩ : ∃ d, i = k + d := ⟨i - k, by omega⟩
        rw [memA_hi]
        match d, h1 with
        | 0, _ => rw [show k + 0 = k from rfl, e0]; rfl
        | 1, _ => rw [e1]; rfl
        | 2, _ =>
          rw [e2]
          have e4 : AV.subL (baF [k, k + 1, k + 2]) (baG [k, k + 1, k + 2]) m'.od.xs = m'.od.xs := strsA_sub _ _ _
          show some (some { m'.od with xs := AV.subL (baF [k, k + 1, k + 2]) (baG [k, k + 1, k + 2]) m'.od.xs }) = _
          rw [e4]
          rfl
        | d + 3, h => exact absurd h (by omega)
    · rw [List.getElem?_eq_none (by simpa using h1), List.getElem?_eq_none (by rw [memA_len]; exact h1)]
      rfl
  rw [hM, AV.sub_pure _ _ _ hx] at key
  exact key

theorem combR_rep (F : Nat → AV) (G : Nat → Nat → Nat → Nat → AV) : ∀ (T X Y Z : Mem), combR F G (List.replicate T.length none ++ X) (T ++ Y) (List.replicate T.length none ++ Z) = (T.map fun c => c.map fun ob => { ob with xs := AV.subL F G ob.xs }) ++ combR F G X Y Z
  | [], _, _, _ => rfl
  | c :: T, X, Y, Z => by simp only [List.length_cons, List.replicate_succ, List.cons_append, combR, List.drop_succ_cons, List.drop_zero, List.map_cons, combR_rep F G T X Y Z]
theorem subM_rep : ∀ (T X Y : Mem), subM X Y → subM (List.replicate T.length none ++ X) (T ++ Y)
  | [], _, _, h => h
  | c :: T, X, Y, h => by
    simp only [List.length_cons, List.replicate_succ, List.cons_append]
    exact subM_rep T X Y h
theorem not_dead {M : Mem} {n i : Nat} (h : liveI M i = true) : (deadL M n).contains i = false := by
  cases hc : (deadL M n).contains i with
  | false => rfl
  | true =>
    have hm := List.contains_iff_mem.1 hc
    unfold deadL at hm
    have := (List.mem_filter.1 hm).2
    rw [h] at this
    cases this
/-- a function is lent a machine that lies at k; T1 lies before it, T2 behind it. -/
theorem fA {f : FuncId} {ars : List AV} {x : AV} {m m' : Mch} (T1 T2 : Mem) (h : MSpec Tryz.prog f (.q 0 13 0 0 :: ars) (memD m) (fun r N => r = x ∧ N = memD m')) (ha : AV.pureL ars = true) (hx : x.pure = true) (k : Nat) (hk : T1.length = k)
    (h1 : (T1.map fun c => c.map fun ob => { ob with xs := AV.subL (keepF (memA k m) (.q k 13 0 0 :: ars)) (keepG (memA k m) (.q k 13 0 0 :: ars)) ob.xs }) = T1)
    (h2 : (T2.map fun c => c.map fun ob => { ob with xs := AV.subL (keepF (memA k m) (.q k 13 0 0 :: ars)) (keepG (memA k m) (.q k 13 0 0 :: ars)) ob.xs }) = T2) :
    FSpec Tryz.prog f (.q k 13 0 0 :: ars) (memA k m) (T1 ++ some (m.obA (k + 2)) :: none :: some m.od :: T2) x (T1 ++ some (m'.obA (k + 2)) :: none :: some m'.od :: T2) := by
  have hs := mA k h ha hx
  have l0 : liveI (memA k m) k = true := liveI_some (memA_hi 0)
  have l2 : liveI (memA k m) (k + 2) = true := liveI_some (memA_hi 2)
  refine fspec_of hs _ ?_ ?_ rfl ?_ ?_ ?_
  · simp [lvL, memA]
  · subst hk
    exact subM_rep T1 _ _ ⟨rfl, rfl, trivial⟩
  · simp only [AV.freeL, AV.free, freeL_pure _ ha, not_dead l0, Bool.not_false, Bool.and_self]
  · have e2 := not_dead (n := (T1 ++ some (m.obA (k + 2)) :: none :: some m.od :: T2).length) l2
    generalize deadL (memA k m) _ = Z at e2 ⊢
    unfold freeM memA
    rw [List.all_append, Bool.and_eq_true]
    refine ⟨?_, ?_⟩
    · rw [List.all_eq_true]
      intro o ho
      rw [List.eq_of_mem_replicate ho]
    · simp [Mch.obA, Mch.od, Mch.cells, AV.freeL, AV.free, strsA_free, -List.contains_eq_mem, e2]
  · generalize keepF (memA k m) (.q k 13 0 0 :: ars) = F at *
    generalize keepG (memA k m) (.q k 13 0 0 :: ars) = G at *
    subst hk
    unfold memA
    rw [combR_rep, h1]
    show _ ++ (some (m'.obA _) :: none :: some m'.od :: combR F G [] T2 []) = _
    rw [combR_tail, h2]
end Go.Proofs.YtndniceeibflcaaGreatDoor

namespace Go.Proofs.YtndniceeibflcaaGreatDoor
open Aw Mp Go.RowKit
set_option linter.unusedSimpArgs false
set_option maxRecDepth 8000

/-- a log is replayed: the number of orders, and the error. -/
def rpO (n lm : Int) (ls : List (Int × Int)) (t : By) : Nat × Int := if vN n lm ls ≠ 0 then (0, vN n lm ls) else if (rd 100 0 t).2 ≠ [] then (0, 10) else rpL n lm ls [] (rd 100 0 t).1
theorem acc_snoc {n lm : Int} {ls : List (Int × Int)} {l : List By} {k : Nat} (h : k < l.length) (hA : Acc n lm ls (l.take k)) (he : erO n lm ls (l.take k) l[k] = 0) : Acc n lm ls (l.take (k + 1)) := by
  rw [← List.take_append_getElem h]
  exact .snoc hA he
theorem rpL_at {n lm : Int} {ls : List (Int × Int)} {l : List By} {k : Nat} (h : k < l.length) : rpL n lm ls (l.take k) (l.drop k) = if erO n lm ls (l.take k) l[k] = 0 then rpL n lm ls (l.take (k + 1)) (l.drop (k + 1)) else (k, erO n lm ls (l.take k) l[k]) := by
  rw [List.drop_eq_getElem_cons h, rpL, List.take_append_getElem]
  simp only [List.length_take, Nat.min_eq_left (Nat.le_of_lt h)]
end Go.Proofs.YtndniceeibflcaaGreatDoor

namespace Go.Proofs.YtndniceeibflcaaGreatDoor
open Aw Mp Go.RowKit
set_option linter.unusedSimpArgs false
set_option maxRecDepth 8000

theorem f24 (n lm : Int) (ls : List (Int × Int)) (hT : vT n ls = 0) (hls : ls.length ≤ 1000000) (l : List By) (hA : Acc n lm ls l) (o : By) (ho : o.length ≤ 9223372036854775807) : FSpec Tryz.prog 24 [.q 0 13 0 0, S o] (memD (mkM n lm ls l)) (memD (mkM n lm ls l)) (I (erO n lm ls l o)) (memD (mkM n lm ls (doO n lm ls l o))) := by
  have := fD (m24 n lm ls l hA hT hls o ho) [] [1] rfl rfl rfl
  simpa using this
theorem mk_ren (m : Mch) : reM [0, 2] (memD m) = [some (m.obA 1), some m.od] := by
  simp [reM, reF, reG, memD, Mch.ob, Mch.obA, Mch.od, Mch.cells, AV.sub, AV.subL, prsA_sub, strsA_sub, intsA_sub, gtsA_sub, List.idxOf?, List.findIdx?, List.findIdx?.go]
end Go.Proofs.YtndniceeibflcaaGreatDoor

namespace Go.Proofs.YtndniceeibflcaaGreatDoor
open Aw Mp Go.RowKit
set_option linter.unusedSimpArgs false
set_option maxRecDepth 8000

theorem ok27 : okFn Tryz.prog 27 = true := by kernel_rfl
/-- a log is replayed: the machine's pointer, and its objects. -/
def rpP (n lm : Int) (ls : List (Int × Int)) (t : By) : AV := if (rpO n lm ls t).2 = 0 then .q 0 13 0 0 else .v (.pointer none)
def rpM (n lm : Int) (ls : List (Int × Int)) (t : By) : List Ob := if (rpO n lm ls t).2 = 0 then [(mkM n lm ls (rd 100 0 t).1).obA 1, (mkM n lm ls (rd 100 0 t).1).od] else []
theorem s27 (n lm : Int) (ls : List (Int × Int)) (hls : ls.length ≤ 100000) (t : By) (ht : t.length ≤ 1000000) : ASpec Tryz.prog 27 [trapA n ls, I lm, S t] (fun r Ms => r = .t [rpP n lm ls t, I (rpO n lm ls t).1, I (rpO n lm ls t).2] ∧ Ms = rpM n lm ls t) := by
  refine aspec_of (own := [1002, 1010]) Tryz.func27 rfl ok27 ?_
  simp only [wB, awp, asP, asN, loadA, St.ev, St.step, setS, killS, AV.kill, AV.killL, Mem.kill, AV.cells, AV.flat, AV.single, AV.cellular, AV.pure, AV.pureL, Nat.reduceAdd, Nat.reduceEqDiff, Nat.reduceSub, Nat.reduceLeDiff, Int.reduceAdd, Int.reduceSub, Tryz.ntmps27, trapA]
  have hrl := rd_len 100 0 t
  have hro := rd_ord 100 0 t
  have s19t := s19 t ht
  have hE : rpO n lm ls t = if vN n lm ls ≠ 0 then (0, vN n lm ls) else if (rd 100 0 t).2 ≠ [] then (0, 10) else rpL n lm ls [] (rd 100 0 t).1 := rfl
  have hP : rpP n lm ls t = if (rpO n lm ls t).2 = 0 then .q 0 13 0 0 else .v (.pointer none) := rfl
  have hM : rpM n lm ls t = if (rpO n lm ls t).2 = 0 then [(mkM n lm ls (rd 100 0 t).1).obA 1, (mkM n lm ls (rd 100 0 t).1).od] else [] := rfl
  generalize (rd 100 0 t).1 = l at *
  generalize (rd 100 0 t).2 = u at *
  by_cases h0 : vN n lm ls = 0
  case neg =>
    have h22 := s22e n lm ls hls h0
    simp only [trapA] at h22
    refine acall_v h22 (by simp [AV.pureL, AV.pure, prsA_pure]) rfl ?_
    simp only [wB, awp, asT, asN, St.ev, St.step, setS, killS, AV.kill, AV.killL, Mem.kill, Nat.reduceAdd, Nat.reduceEqDiff, Int.reduceAdd, decide_eq_false h0]
    refine awp_sound (own := [1010]) _ _ _ _ _ ?_
    simp only [wB, awp, binC, cmpC, asB, asI, asN, St.ev, St.step, setS, killS, AV.kill, AV.killL, Mem.kill, Nat.reduceAdd, Nat.reduceEqDiff, Int.reduceAdd, decide_eq_false h0]
    have hx : rpO n lm ls t = (0, vN n lm ls) := by rw [hE, if_pos h0]
    rw [hx, if_neg h0] at hP hM
    refine aend_frz rfl ⟨?_, hM.symm⟩
    rw [hP, hx]
    rfl
  have h22 := s22o n lm ls hls h0
  have hT := (vN_ok h0).1
  simp only [trapA] at h22
  refine acall_os h22 (by simp [AV.pureL, AV.pure, prsA_pure]) ?_
  simp only [wB, awp, asT, asN, St.ev, St.step, setS, killS, AV.kill, AV.killL, Mem.kill, Nat.reduceAdd, Nat.reduceEqDiff, Int.reduceAdd, AV.sub, AV.subL, AV.up, Ob.up, prsA_msub, new_sub]
  refine swp_le (σ' := ⟨[.bot, .bot, S t, .bot, .bot, .bot, .bot, .bot, .bot, .q 0 13 0 0, I 0, .bot, .bot, .bot, .bot, .bot, .bot, .bot, .bot, .bot, .bot, .bot, .bot, .bot, .bot, .bot, .bot, .bot, .bot, .bot, .bot, .bot, .bot, .bot, .bot, .bot, .bot, .bot, .bot, .bot, .bot, .bot, .bot, .bot, .bot, .bot, .bot, .bot, .bot, .bot], memD (mkM n lm ls [])⟩) (le_new (by simp [leSl, frz1, AV.sub])) ?_
  refine awp_sound (own := [1010]) _ _ _ _ _ ?_
  simp only [wB, awp, binC, cmpC, asB, asI, St.ev, St.step, setS, killS, AV.kill, AV.killL, Mem.kill, Nat.reduceAdd, Nat.reduceEqDiff, Int.reduceAdd]
  refine acall_v s19t rfl (by simp [AV.pure, AV.pureL, strsA_pure]) ?_
  simp only [wB, awp, binC, eqC, asT, asG, asB, asI, asN, St.ev, St.step, setS, killS, AV.kill, AV.killL, Mem.kill, Nat.reduceAdd, Nat.reduceEqDiff, Int.reduceAdd, asStr, strC]
  rw [if_neg (fun g => g h0)] at hE
  by_cases h1 : u = []
  case neg =>
    simp only [wB, awp, asN, St.ev, St.step, setS, killS, AV.kill, AV.killL, Mem.kill, Nat.reduceAdd, Nat.reduceEqDiff, Int.reduceAdd, decide_eq_false h1]
    have hx : rpO n lm ls t = (0, 10) := by rw [hE, if_pos h1]
    rw [hx, if_neg (by decide)] at hP hM
    refine aend_frz rfl ⟨?_, hM.symm⟩
    rw [hP, hx]
    rfl
  rw [if_neg (fun g => g h1)] at hE
  subst h1
  simp only [wB, awp, lenA, St.ev, St.step, setS, killS, AV.kill, AV.killL, Mem.kill, Nat.reduceAdd, Nat.reduceEqDiff, Int.reduceAdd, lenK, strsA_len, strsA_len]
  refine swp_loop' (fun k : Nat => ⟨[.bot, .bot, .bot, .bot, .bot, .bot, .bot, .bot, .bot, .q 0 13 0 0, .bot, .s 1 (strsA l), .bot, .bot, .bot, .bot, .bot, .bot, .bot, .bot, .bot, .bot, .bot, .bot, .bot, .bot, .bot, .bot, .bot, .bot, .bot, .bot, .s 1 (strsA l), I l.length, I k, .bot, .bot, .bot, .bot, .bot, .bot, .bot, .bot, .bot, .bot, .bot, .bot, .bot, .bot, .bot], memD (mkM n lm ls (l.take k))⟩) (fun k => k ≤ l.length ∧ Acc n lm ls (l.take k) ∧ rpL n lm ls [] l = rpL n lm ls (l.take k) (l.drop k)) (fun k => l.length - k) 0 (le_sl' ?_ (by simp [leSl])) ⟨Nat.zero_le _, by simpa using Acc.nil, by simp⟩ ?_
  · simp
  rintro k ⟨hk, hA, hR⟩
  refine awp_sound (own := [1010]) _ _ _ _ _ ?_
  simp only [wB, awp, binC, cmpC, asB, asI, St.ev, St.step, setS, killS, AV.kill, AV.killL, Mem.kill, Nat.reduceAdd, Nat.reduceEqDiff, Int.reduceAdd]
  by_cases h : k < l.length
  case neg =>
    have h' : ¬ (k : Int) < l.length := by omega
    obtain rfl : k = l.length := by omega
    simp only [wB, awp, asN, lenA, St.ev, St.step, setS, killS, AV.kill, AV.killL, Mem.kill, Nat.reduceAdd, Nat.reduceEqDiff, Int.reduceAdd, lenK, strsA_len, decide_eq_false h', strsA_len]
    rw [List.take_length] at *
    rw [List.drop_length] at hR
    have hx : rpO n lm ls t = (l.length, 0) := hE.trans hR
    rw [hx, if_pos rfl] at hP hM
    refine aend_ren [0, 2] (by decide) [(mkM n lm ls l).obA 1, (mkM n lm ls l).od] rfl (mk_ren _) ⟨?_, hM.symm⟩
    rw [hP, hx]
    rfl
  have h' : (k : Int) < l.length := by omega
  simp only [wB, awp, idxC, asP, asS, asI, asN, loadA, St.ev, St.step, setS, killS, AV.kill, AV.killL, Mem.kill, AV.cells, AV.flat, AV.single, Nat.reduceAdd, Nat.reduceEqDiff, Int.reduceAdd, decide_eq_true h', aget_strs h, Int.toNat_natCast]
  obtain ⟨e, he⟩ : ∃ e, e = erO n lm ls (l.take k) l[k] := ⟨_, rfl⟩
  have h24 := f24 n lm ls hT (by omega) _ hA l[k] (by have := (ordB_iff _).1 (hro _ (List.getElem_mem h)); omega)
  rw [← he] at h24
  refine ⟨by omega, swp_fs (own := []) [false, false, true, false] ?_⟩
  simp only [wB, St.ev, St.step, setS, killS, AV.kill, AV.killL, Mem.kill, memD]
  refine acall_f h24 ?_
  simp only [wB, awp, binC, cmpC, asB, asI, asN, St.ev, St.step, setS, killS, AV.kill, AV.killL, Mem.kill, Nat.reduceAdd, Nat.reduceEqDiff, Int.reduceAdd, memD, AV.sub, keepG, liveI, AV.isQ, List.any_cons, List.any_nil]
  by_cases h1 : e = 0
  case neg =>
    simp only [wB, awp, asN, St.ev, St.step, setS, killS, AV.kill, AV.killL, Mem.kill, Nat.reduceAdd, Nat.reduceEqDiff, Int.reduceAdd, decide_eq_false h1]
    have hx : rpO n lm ls t = (k, e) := by rw [hE, hR, rpL_at h, ← he, if_neg h1]
    rw [hx, if_neg h1] at hP hM
    refine aend_frz rfl ⟨?_, hM.symm⟩
    rw [hP, hx]
    rfl
  have hd : doO n lm ls (l.take k) l[k] = l.take (k + 1) := by rw [doO_ok (he.symm.trans h1), List.take_append_getElem]
  simp only [wB, awp, binC, arithC, cmpC, asI, St.ev, St.step, setS, killS, AV.kill, AV.killL, Mem.kill, Nat.reduceAdd, Nat.reduceEqDiff, Int.reduceAdd, isU, decide_eq_true h1]
  refine ⟨by unfold lim; omega, k + 1, le_sl' ?_ (by simp [leSl]), ⟨h, acc_snoc h hA (he.symm.trans h1), ?_⟩, by omega⟩
  · simp [hd, memD]
  · rw [hR, rpL_at h, ← he, if_pos h1]
end Go.Proofs.YtndniceeibflcaaGreatDoor

namespace Go.Proofs.YtndniceeibflcaaGreatDoor
open Aw Mp Go.RowKit
set_option linter.unusedSimpArgs false
set_option maxRecDepth 8000

/-- other objects that no machine's call turns. -/
theorem fT {f : FuncId} {ars : List AV} {m m' : Mch} {x : AV} (h : MSpec Tryz.prog f ars (memD m) (fun r N => r = x ∧ N = memD m')) (T : Mem) (hfa : AV.freeL (deadL (memD m) (3 + T.length)) ars = true)
    (hT : ∀ F G, (T.map fun c : Option Ob => c.map fun ob => { ob with xs := AV.subL F G ob.xs }) = T) : FSpec Tryz.prog f ars (memD m) (memD m ++ T) x (memD m' ++ T) := fD h T _ rfl hfa (hT _ _)
theorem q0_free (m : Mch) (k : Nat) (ars : List AV) (h : AV.pureL ars = true) : AV.freeL (deadL (memD m) k) (.q 0 13 0 0 :: ars) = true := by
  have h0 : (deadL (memD m) k).contains 0 = false := not_dead rfl
  simp [AV.freeL, AV.free, -List.contains_eq_mem, h0, freeL_pure _ h]
end Go.Proofs.YtndniceeibflcaaGreatDoor

namespace Go.Proofs.YtndniceeibflcaaGreatDoor
open Aw Mp Go.RowKit
set_option linter.unusedSimpArgs false
set_option maxRecDepth 8000

theorem strsA_msub (F : Nat → AV) (G : Nat → Nat → Nat → Nat → AV) (l : List By) : (strsA l).map (AV.sub F G) = strsA l := by rw [← AV.subL_map, strsA_sub]
theorem acall_mk {f : FuncId} {aS : List AV} {M : Mem} {K : HK (AV → Mem → Prop)} {x : AV} {m : Mch} (spec : ASpec Tryz.prog f aS (fun r Ns => r = x ∧ Ns = [m.obA 1, m.od])) (ha : AV.pureL aS = true) (h : K.k (x.up M.length) (M ++ [some (m.obA (M.length + 1)), some m.od])) : ACall Tryz.prog f aS M (K := K) := by
  refine acall_os spec ha ?_
  have e1 : (m.obA 1).up M.length = m.obA (M.length + 1) := by
    simp [Ob.up, Mch.obA, Mch.cells, AV.up, AV.sub, AV.subL, prsA_sub, strsA_sub, intsA_sub, gtsA_sub, Nat.add_comm]
  have e2 : m.od.up M.length = m.od := by
    simp [Ob.up, Mch.od, AV.up, AV.sub, AV.subL, strsA_sub, strsA_msub]
  simp only [List.map_cons, List.map_nil, e1, e2]
  exact h
end Go.Proofs.YtndniceeibflcaaGreatDoor

namespace Go.Proofs.YtndniceeibflcaaGreatDoor
open Aw Mp Go.RowKit
set_option linter.unusedSimpArgs false
set_option maxRecDepth 8000

theorem fG {m m' : Mch} {f : FuncId} {ars : List AV} {x : AV} (h : MSpec Tryz.prog f (.q 0 13 0 0 :: ars) (memD m) (fun r N => r = x ∧ N = memD m')) (ha : AV.pureL ars = true) : FSpec Tryz.prog f (.q 0 13 0 0 :: ars) (memD m) (memD m) x (memD m') := by
  have := fT h [] (q0_free _ _ _ ha) (fun F G => rfl)
  simpa using this
end Go.Proofs.YtndniceeibflcaaGreatDoor

namespace Go.Proofs.YtndniceeibflcaaGreatDoor
open Aw Mp Go.RowKit
set_option linter.unusedSimpArgs false

def cmpI (x y : Int) : Int := if x < y then -1 else if y < x then 1 else 0
def orL : List Int → Int
  | [] => 0
  | x :: l => if x = 0 then orL l else x
def cmpG (g h : G4) : Int := orL [cmpI g.k h.k, cmpI g.a h.a, cmpI g.b h.b, cmpI g.t h.t]

theorem ok206 : okFn Tryz.prog 206 = true := by kernel_rfl
theorem s206 (x : Int) : ASpec Tryz.prog 206 [I x] (fun r Ms => r = B false ∧ Ms = []) := by
  refine aspec_of (own := []) Tryz.func206 rfl ok206 ?_
  simp only [wB, awp, binC, cmpC, asI, asN, St.ev, St.step, setS, killS, AV.kill, AV.killL, Mem.kill, Nat.reduceAdd, Nat.reduceSub, Int.reduceAdd, Int.reduceSub, Tryz.ntmps206]
  exact aend_frz rfl ⟨by simp; rfl, rfl⟩
theorem ok188 : okFn Tryz.prog 188 = true := by kernel_rfl
theorem s188 (x y : Int) : ASpec Tryz.prog 188 [I x, I y] (fun r Ms => r = I (cmpI x y) ∧ Ms = []) := by
  refine aspec_of (own := []) Tryz.func188 rfl ok188 ?_
  simp only [wB, awp, asN, St.ev, St.step, setS, killS, AV.kill, AV.killL, Mem.kill, Nat.reduceAdd, Nat.reduceSub, Int.reduceAdd, Int.reduceSub, Tryz.ntmps188]
  refine acall_v (s206 x) rfl rfl ?_
  simp only [wB, awp, asN, St.ev, St.step, setS, killS, AV.kill, AV.killL, Mem.kill, Nat.reduceAdd, Int.reduceAdd]
  refine acall_v (s206 y) rfl rfl ?_
  simp only [wB, awp, binC, cmpC, asB, asI, asN, St.ev, St.step, setS, killS, AV.kill, AV.killL, Mem.kill, Nat.reduceAdd, Int.reduceAdd]
  by_cases h1 : x < y
  · simp only [wB, awp, asN, St.ev, St.step, setS, killS, AV.kill, AV.killL, Mem.kill, Nat.reduceAdd, Int.reduceAdd, Int.reduceNeg, decide_eq_true h1]
    exact aend_frz rfl ⟨by simp [cmpI, h1]; rfl, rfl⟩
  simp only [wB, awp, binC, cmpC, asB, asI, St.ev, St.step, setS, killS, AV.kill, AV.killL, Mem.kill, Nat.reduceAdd, Int.reduceAdd, decide_eq_false h1]
  by_cases h2 : y < x
  · simp only [wB, awp, asN, St.ev, St.step, setS, killS, AV.kill, AV.killL, Mem.kill, Nat.reduceAdd, Int.reduceAdd, decide_eq_true h2]
    exact aend_frz rfl ⟨by simp [cmpI, h1, h2]; rfl, rfl⟩
  simp only [wB, awp, asN, St.ev, St.step, setS, killS, AV.kill, AV.killL, Mem.kill, Nat.reduceAdd, Int.reduceAdd, decide_eq_false h2]
  exact aend_frz rfl ⟨by simp [cmpI, h1, h2]; rfl, rfl⟩

theorem orL_skip (l : List Int) (k : Nat) (h : ∀ j, j < k → ∀ hj : j < l.length, l[j] = 0) : orL l = orL (l.drop k) := by
  induction k generalizing l with
  | zero => rfl
  | succ k ih =>
    cases l with
    | nil => rfl
    | cons x l =>
      have h0 := h 0 (by omega) (by simp)
      simp only [List.getElem_cons_zero] at h0
      rw [orL, if_pos h0, List.drop_succ_cons]
      exact ih l fun j hj hl => by have := h (j + 1) (by omega) (by simp; omega); simpa using this

theorem ok187 : okFn Tryz.prog 187 = true := by kernel_rfl
theorem s187 (l : List Int) (hl : l.length ≤ 1000000) : ASpec Tryz.prog 187 [.s 1 (intsA l)] (fun r Ms => r = I (orL l) ∧ Ms = []) := by
  refine aspec_of (own := []) Tryz.func187 rfl ok187 ?_
  simp only [wB, awp, asN, lenA, St.ev, St.step, setS, killS, AV.kill, AV.killL, Mem.kill, Nat.reduceAdd, Nat.reduceSub, Int.reduceAdd, Int.reduceSub, lenK, Tryz.ntmps187]
  refine swp_loop' (fun k : Nat => ⟨[.bot, .bot, .bot, I 0, .bot, .bot, .s 1 (intsA l), I l.length, I k, .bot, .bot, .bot, .bot, .bot, .bot, .bot, .bot, .bot], []⟩) (fun k => k ≤ l.length ∧ ∀ j, j < k → ∀ hj : j < l.length, l[j] = 0) (fun k => l.length - k) 0 (le_sl (by simp [leSl, intsA_len])) ⟨Nat.zero_le _, by omega⟩ ?_
  rintro k ⟨hk, hno⟩
  refine awp_sound (own := []) _ _ _ _ _ ?_
  simp only [wB, awp, binC, cmpC, asB, asI, St.ev, St.step, setS, killS, AV.kill, AV.killL, Mem.kill, Nat.reduceAdd, Int.reduceAdd]
  by_cases h : k < l.length
  · have h' : (k : Int) < (l.length : Int) := by omega
    simp only [wB, awp, binC, idxC, cmpC, asP, asS, asB, asI, asN, loadA, St.ev, St.step, setS, killS, AV.kill, AV.killL, Mem.kill, AV.cells, AV.flat, AV.single, Nat.reduceAdd, Int.reduceAdd, decide_eq_true h', aget_ints h, Int.toNat_natCast]
    refine ⟨by omega, ?_⟩
    by_cases hx : l[k] = 0
    · simp only [wB, awp, binC, arithC, cmpC, asI, St.ev, St.step, setS, killS, AV.kill, AV.killL, Mem.kill, Nat.reduceAdd, Int.reduceAdd, isU, decide_eq_true hx]
      exact ⟨by unfold lim; omega, k + 1, le_sl (by simp [leSl, intsA_len]), ⟨h, upto hno fun _ => hx⟩, by omega⟩
    · simp only [wB, awp, asN, St.ev, St.step, setS, killS, AV.kill, AV.killL, Mem.kill, Nat.reduceAdd, Int.reduceAdd, decide_eq_false hx]
      exact aend_frz rfl ⟨by rw [orL_skip l k hno, List.drop_eq_getElem_cons h, orL, if_neg hx]; rfl, rfl⟩
  · have h' : ¬ (k : Int) < (l.length : Int) := by omega
    simp only [wB, awp, asN, St.ev, St.step, setS, killS, AV.kill, AV.killL, Mem.kill, Nat.reduceAdd, Int.reduceAdd, decide_eq_false h']
    exact aend_frz rfl ⟨by rw [orL_skip l l.length (fun j hj hl => hno j (by omega) hl), List.drop_length]; rfl, rfl⟩

theorem ok157 : okFn Tryz.prog 157 = true := by kernel_rfl
theorem s157 (g h : G4) : ASpec Tryz.prog 157 [gA g, gA h] (fun r Ms => r = I (cmpG g h) ∧ Ms = []) := by
  refine aspec_of (own := []) Tryz.func157 rfl ok157 ?_
  simp only [wB, awp, asN, St.ev, St.step, setS, killS, AV.kill, AV.killL, Mem.kill, AV.cellular, AV.pure, AV.pureL, Nat.reduceAdd, Nat.reduceSub, Int.reduceAdd, Int.reduceSub, Tryz.ntmps157, gA]
  refine swp_draw (own := []) (.take 0 .plain [] (.take 1 .reads [] (.take 2 .plain [] (.take 3 .reads [] (.take 5 .plain [] (.take 6 .reads [] (.take 7 .plain [] (.take 8 .reads [] (.take 10 .plain [] (.take 11 .reads [] (.take 12 .plain [] (.take 13 .reads [] (.take 15 .plain [] (.take 16 .reads [] (.take 17 .plain [] (.take 18 .reads [] (.alt 4 (.alt 9 (.alt 14 (.alt 19 (.take 20 .plain [] (.alt 21 (.take 22 .plain [] (.done)) (.nil))) (.nil)) (.nil)) (.nil)) (.nil)))))))))))))))))) [⟨6, 4, 0, 0, true⟩, ⟨7, 32, 1, 0, true⟩, ⟨8, 8, 0, 0, true⟩, ⟨9, 128, 4, 0, true⟩, ⟨10, 320, 10, 0, false⟩, ⟨11, 4, 0, 0, true⟩, ⟨12, 1024, 32, 0, true⟩, ⟨13, 8, 0, 0, true⟩, ⟨14, 4096, 128, 0, true⟩, ⟨15, 10240, 336, 0, false⟩, ⟨16, 4, 0, 0, true⟩, ⟨17, 32768, 1024, 0, true⟩, ⟨18, 8, 0, 0, true⟩, ⟨19, 131072, 4096, 0, true⟩, ⟨20, 327680, 10752, 0, false⟩, ⟨21, 4, 0, 0, true⟩, ⟨22, 1048576, 32768, 0, true⟩, ⟨23, 8, 0, 0, true⟩, ⟨24, 4194304, 131072, 0, true⟩, ⟨25, 10485760, 344064, 0, false⟩, ⟨26, 17318400, 541200, 0, true⟩, ⟨27, 33554432, 1572864, 0, false⟩, ⟨5, 67108864, 4194303, 0, true⟩] mo (by kernel_rfl) ?_
  simp only [wB, asP, loadA, St.ev, setS, AV.cells, AV.flat, AV.single, Nat.reduceAdd, Nat.reduceEqDiff, Nat.reduceLeDiff, Int.reduceAdd, ASch, St.put, Md.mem, Md.need]
  refine acall_v (s188 g.k h.k) rfl rfl ?_
  simp only [wB, St.ev, St.step, setS, killS, AV.kill, AV.killL, Mem.kill, ASch]
  refine acall_v (s188 g.a h.a) rfl rfl ?_
  simp only [wB, St.ev, St.step, setS, killS, AV.kill, AV.killL, Mem.kill, ASch]
  refine acall_v (s188 g.b h.b) rfl rfl ?_
  simp only [wB, St.ev, St.step, setS, killS, AV.kill, AV.killL, Mem.kill, ASch]
  refine acall_v (s188 g.t h.t) rfl rfl ?_
  simp only [wB, St.ev, St.step, setS, killS, AV.kill, AV.killL, Mem.kill, AV.cells, AV.flat, AV.single, AV.cellular, AV.size, AV.pure, AV.pureL, Value.oneCell', Nat.reduceMul, Nat.reduceLeDiff, Int.reduceMul, ASch, St.put, Md.mem, Md.need]
  refine ⟨⟨by decide, rfl⟩, acall_v (s187 [cmpI g.k h.k, cmpI g.a h.a, cmpI g.b h.b, cmpI g.t h.t] (by simp)) rfl rfl ?_⟩
  simp only [wB, awp, asN, St.ev, St.step, setS, killS, AV.kill, AV.killL, Mem.kill, ASch, St.put, Md.mem, Md.need]
  exact aend_frz rfl ⟨rfl, rfl⟩

/-- whether the gate i is bound to none before it. -/
def fst1 (bd : G4 → G4 → Bool) (l : List G4) (i : Nat) : Bool := (l.take i).all fun h => !bd (l.getD i default) h
def fsN (bd : G4 → G4 → Bool) (l : List G4) (k : Nat) : List Nat := (List.range k).filter (fst1 bd l)
def fsI (bd : G4 → G4 → Bool) (l : List G4) (k : Nat) : List Int := (fsN bd l k).map fun i : Nat => (i : Int)
theorem fsI_succ (bd : G4 → G4 → Bool) (l : List G4) (k : Nat) : fsI bd l (k + 1) = if fst1 bd l k then fsI bd l k ++ [(k : Int)] else fsI bd l k := by
  unfold fsI fsN
  rw [List.range_succ, List.filter_append]
  cases h : fst1 bd l k <;> simp [h]
theorem fsI_len (bd : G4 → G4 → Bool) (l : List G4) (k : Nat) : (fsI bd l k).length ≤ k := by
  unfold fsI fsN
  rw [List.length_map]
  exact Nat.le_trans (List.length_filter_le _ _) (by simp)
theorem fst1_false {bd : G4 → G4 → Bool} {l : List G4} {i j : Nat} (hi : i < l.length) (hj : j < i) (h : bd l[i] l[j] = true) : fst1 bd l i = false := by
  unfold fst1
  rw [List.all_eq_false]
  refine ⟨l[j], ?_, ?_⟩
  · exact List.mem_take_iff_getElem.2 ⟨j, by omega, rfl⟩
  · simp [hi, h]
theorem fst1_true {bd : G4 → G4 → Bool} {l : List G4} {i : Nat} (hi : i < l.length) (h : ∀ j, j < i → ∀ hj : j < l.length, bd l[i] l[j] = false) : fst1 bd l i = true := by
  unfold fst1
  rw [List.all_eq_true]
  intro x hx
  obtain ⟨j, hj, rfl⟩ := List.mem_take_iff_getElem.1 hx
  have := h j (by omega) (by omega)
  simp [hi, this]

theorem ok155 : okFn Tryz.prog 155 = true := by kernel_rfl
theorem s155 (l : List G4) (hl : l.length ≤ 1000000) : ASpec Tryz.prog 155 [.s 4 (gtsA l)] (fun r Ms => r = .s 1 (intsA (fsI G4.bound l l.length)) ∧ Ms = []) := by
  refine aspec_of (own := [3]) Tryz.func155 rfl ok155 ?_
  simp only [wB, awp, asN, lenA, Aw.newRow, St.ev, St.step, setS, killS, AV.kill, AV.killL, Mem.kill, Nat.reduceAdd, Nat.reduceEqDiff, Nat.reduceSub, Int.reduceAdd, Int.reduceSub, lenK, Tryz.ntmps155, gtsA_len]
  refine swp_loop' (fun k : Nat => ⟨[.s 4 (gtsA l), .bot, .bot, .o 0, .bot, .bot, .bot, .bot, .s 4 (gtsA l), I l.length, I k, .bot, .bot, .bot, .bot, .bot, .bot, .bot, .bot, .bot, .bot, .bot, .bot, .bot, .bot, .bot, .bot, .bot, .bot, .bot, .bot, .bot, .bot], [some ⟨none, 3, 1, intsA (fsI G4.bound l k)⟩]⟩) (fun k => k ≤ l.length) (fun k => l.length - k) 0 (le_sl (by simp [leSl])) (Nat.zero_le _) ?_
  intro k hk
  refine awp_sound (own := [3]) _ _ _ _ _ ?_
  simp only [wB, awp, binC, cmpC, asB, asI, St.ev, St.step, setS, killS, AV.kill, AV.killL, Mem.kill, Nat.reduceAdd, Nat.reduceEqDiff, Int.reduceAdd]
  by_cases h : k < l.length
  · have h' : (k : Int) < (l.length : Int) := by omega
    simp only [wB, awp, idxC, asP, asQ, asS, asI, asN, obA, bndA, lenA, loadA, storeA, putsA, mkA, Aw.newRow, St.ev, St.step, setS, killS, AV.kill, AV.killL, Mem.kill, AV.cells, AV.flat, AV.single, AV.cellular, Nat.reduceAdd, Nat.reduceEqDiff, Nat.reduceLeDiff, Int.reduceAdd, Int.reduceLE, lenK, gtsA_len, decide_eq_true h', aget_gts h, Int.toNat_natCast]
    refine ⟨by omega, ⟨by omega, by omega⟩, ?_⟩
    refine swp_loop' (fun j : Nat => ⟨[.s 4 (gtsA l), .bot, .bot, .o 0, I k, .q 1 4 0 0, .bot, .bot, .s 4 (gtsA l), I l.length, I k, .bot, .bot, .bot, .bot, .bot, .bot, .s 4 (gtsA (l.take k)), I (l.take k).length, I j, .bot, .bot, .bot, .bot, .bot, .bot, .bot, .bot, .bot, .bot, .bot, .bot, .bot], [some ⟨none, 3, 1, intsA (fsI G4.bound l k)⟩, some ⟨none, 81, 4, [.g [I l[k].k, I l[k].a, I l[k].b, I l[k].t]]⟩]⟩)
      (fun j => j ≤ k ∧ ∀ i, i < j → ∀ hi : i < l.length, G4.bound l[k] l[i] = false) (fun j => k - j) 0 (le_sl (by simp [leSl, gtsA_take, gtsA_len])) ⟨Nat.zero_le _, by omega⟩ ?_
    rintro j ⟨hj, hno⟩
    have hlen : (l.take k).length = k := by simp; omega
    refine awp_sound (own := [3]) _ _ _ _ _ ?_
    simp only [wB, awp, binC, cmpC, asB, asI, St.ev, St.step, setS, killS, AV.kill, AV.killL, Mem.kill, Nat.reduceAdd, Nat.reduceEqDiff, Int.reduceAdd, hlen]
    by_cases hjk : j < k
    · have hjk' : (j : Int) < (k : Int) := by omega
      have hjl : j < (l.take k).length := by omega
      have hje : (l.take k)[j] = l[j] := by simp
      simp only [wB, awp, idxC, asP, asQ, asS, asI, obA, loadA, storeA, putsA, mkA, Aw.newRow, St.ev, St.step, setS, killS, AV.kill, AV.killL, Mem.kill, AV.cells, AV.flat, AV.single, AV.cellular, Nat.reduceAdd, Nat.reduceEqDiff, Nat.reduceLeDiff, Int.reduceAdd, decide_eq_true hjk', aget_gts hjl, hje, Int.toNat_natCast]
      refine ⟨by omega, acall_v (s152 l[k] l[j]) rfl rfl ?_⟩
      cases hb : G4.bound l[k] l[j] with
      | true =>
        simp only [wB, awp, binC, arithC, cmpC, asO, asS, asB, asI, asN, obA, St.ev, St.step, setS, killS, AV.kill, AV.killL, Mem.kill, AV.cells, AV.flat, AV.single, AV.cellular, AV.size, AV.pure, AV.pureL, Value.oneCell', Nat.reduceAdd, Nat.reduceEqDiff, Nat.reduceMul, Nat.reduceLeDiff, Int.reduceAdd, Int.reduceMul, isU]
        refine ⟨by unfold lim; omega, k + 1, ?_, h, by omega⟩
        rw [fsI_succ, fst1_false h hjk hb, if_neg (by simp)]
        exact le_cut (Mx := [_, _]) (M' := [_]) (by simp [leSl]) rfl (by simp [AV.freeL, AV.free, freeL_pure, gtsA_pure]) (by simp [freeM, AV.freeL, freeL_pure, intsA_pure])
      | false =>
        simp only [wB, awp, binC, arithC, cmpC, asB, asI, St.ev, St.step, setS, killS, AV.kill, AV.killL, Mem.kill, Nat.reduceAdd, Nat.reduceEqDiff, Int.reduceAdd, isU]
        refine ⟨by unfold lim; omega, j + 1, ?_, ⟨hjk, upto hno fun _ => hb⟩, by omega⟩
        exact le_cut (Mx := [_]) (M' := [_, _]) (by simp [leSl, hlen]) rfl (by simp [AV.freeL, AV.free, freeL_pure, gtsA_pure]) (by simp [freeM, AV.freeL, AV.free, freeL_pure, intsA_pure])
    · have hjk' : ¬ (j : Int) < (k : Int) := by omega
      simp only [wB, awp, binC, arithC, cmpC, asO, asS, asI, asN, obA, St.ev, St.step, setS, killS, AV.kill, AV.killL, Mem.kill, AV.cells, AV.flat, AV.single, AV.cellular, AV.size, AV.pure, AV.pureL, Value.oneCell', Nat.reduceAdd, Nat.reduceEqDiff, Nat.reduceMul, Nat.reduceLeDiff, Int.reduceAdd, Int.reduceMul, isU, decide_eq_false hjk']
      have hfl := fsI_len G4.bound l k
      refine ⟨⟨by decide, rfl⟩, ⟨by decide, by omega⟩, by unfold lim; omega, k + 1, ?_, h, by omega⟩
      have hf1 : fst1 G4.bound l k = true := fst1_true h fun j hj hjl => hno j (by omega) hjl
      rw [fsI_succ, hf1, if_pos rfl, intsA_kill, intsA_app]
      exact le_cut (Mx := [_]) (M' := [_]) (by simp [leSl]) rfl (by simp [AV.freeL, AV.free, freeL_pure, gtsA_pure]) (by simp [freeM, AV.freeL, freeL_pure, intsA_pure])
  · have h' : ¬ (k : Int) < (l.length : Int) := by omega
    have hk' : k = l.length := by omega
    subst hk'
    simp only [wB, awp, asN, St.ev, St.step, setS, killS, AV.kill, AV.killL, Mem.kill, Nat.reduceAdd, Nat.reduceEqDiff, Int.reduceAdd, decide_eq_false h']
    exact aend_frz rfl ⟨by simp [frz, AV.sub, intsA_pure], rfl⟩

end Go.Proofs.YtndniceeibflcaaGreatDoor

namespace Go.Proofs.YtndniceeibflcaaGreatDoor
open Aw Mp Go.RowKit
set_option linter.unusedSimpArgs false

def mtA : Option (Nat × Nat) → AV
  | some p => .t [I (p.1 : Int), I (p.2 : Int), B true]
  | none => .t [I 0, I 0, B false]
set_option maxRecDepth 8000

theorem ok151 : okFn Tryz.prog 151 = true := by kernel_rfl
theorem s151 (x h : G4) : ASpec Tryz.prog 151 [gA x, .p (gA h) 0] (fun r Ms => r = B (G4.bound h x) ∧ Ms = []) := by
  refine aspec_of (own := []) Tryz.func151 rfl ok151 ?_
  simp only [wB, awp, asP, asN, loadA, St.ev, St.step, setS, killS, AV.kill, AV.killL, Mem.kill, AV.cells, AV.flat, AV.single, AV.cellular, AV.pure, AV.pureL, Nat.reduceAdd, Nat.reduceSub, Nat.reduceLeDiff, Int.reduceAdd, Int.reduceSub, Tryz.ntmps151, gA]
  refine acall_v (s152 h x) rfl rfl ?_
  simp only [wB, awp, asN, St.ev, St.step, setS, killS, AV.kill, AV.killL, Mem.kill]
  exact aend_frz rfl ⟨rfl, rfl⟩

/-- how far behind a gate the next one of its type lies to which it can be brought; beh: those that stay behind it. -/
def pmIn (g : G4) : List G4 → List G4 → Option Nat
  | _, [] => none
  | beh, h :: t => if g.same h && !(beh.any fun x => h.bound x) then some 0 else (pmIn g (if (beh.any fun x => h.bound x) || g.bound h then beh ++ [h] else beh) t).map (· + 1)
/-- the places of two gates that meet. -/
def pm : List G4 → Option (Nat × Nat)
  | [] => none
  | g :: t => match pmIn g [] t with | some k => some (0, k + 1) | none => (pm t).map fun p => (p.1 + 1, p.2 + 1)
theorem pmIn_step {l : List G4} {g : G4} {beh : List G4} {j : Nat} (hj : j < l.length) : pmIn g beh (l.drop j) = if g.same l[j] && !(beh.any fun x => l[j].bound x) then some 0 else (pmIn g (if (beh.any fun x => l[j].bound x) || g.bound l[j] then beh ++ [l[j]] else beh) (l.drop (j + 1))).map (· + 1) := by
  rw [List.drop_eq_getElem_cons hj, pmIn]
theorem pm_step {c : List G4} {k : Nat} (hk : k < c.length) : pm (c.drop k) = match pmIn c[k] [] (c.drop (k + 1)) with | some j => some (0, j + 1) | none => (pm (c.drop (k + 1))).map fun p => (p.1 + 1, p.2 + 1) := by
  rw [List.drop_eq_getElem_cons hk, pm]

theorem ok121 : okFn Tryz.prog 121 = true := by kernel_rfl
end Go.Proofs.YtndniceeibflcaaGreatDoor
