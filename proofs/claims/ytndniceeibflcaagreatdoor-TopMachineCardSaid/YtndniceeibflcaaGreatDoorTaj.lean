/-
  Parts of several texts in one: MrG, MrH, MrI, MrJ, MrK, MrL, MrM.
-/
import Derived.Test.YtndniceeibflcaaGreatDoorProg
import Derived.WalkKit
import Derived.Lib.ConvBytes
import Derived.LaidEql
import Derived.Lib.ItoaNum
import Derived.Lib.LaidTab
import Derived.KernelRfl
import GoSem.Claims
import GoSem.ClaimJoined
import Derived.Orders
import Derived.Laws.StructEq
import Derived.Maps.Keyed
import Derived.Lib.Strings
import Derived.Maps.AppendAt
import Derived.Laws.Concat
import Derived.MapKept
import Derived.Laws.MakeOwn
import Derived.Scope
import Derived.Laws.BitsLemmas
import Derived.Maps.RangeRun
import Derived.StillTail
import Derived.OrdersIn
import Derived.TacticsIn
import Derived.RangeFuncRecord
import Derived.RangeFuncCalls
import Derived.RangeFuncSeq
import Derived.Lib.Split
import Derived.Lib.AtoiAll
import Derived.Shelf.LaysM
import Derived.Shelf.LaysC
import Derived.Shelf.Strconv.Itoa3
import Derived.Shelf.Strconv.AtoiAll
import Derived.Shelf.Strings.Search3
import Derived.Shelf.Strings.Cut
import Derived.Shelf.Strings.Prefix
import Derived.Shelf.Strings.Split
import Derived.Lib.AppendIntMem
import Derived.Test.YtndniceeibflcaaGreatDoorTaa
import Derived.Test.YtndniceeibflcaaGreatDoorTab
import Derived.Test.YtndniceeibflcaaGreatDoorTac
import Derived.Test.YtndniceeibflcaaGreatDoorTad
import Derived.Test.YtndniceeibflcaaGreatDoorTae
import Derived.Test.YtndniceeibflcaaGreatDoorTag
import Derived.Test.YtndniceeibflcaaGreatDoorTah
import Derived.Test.YtndniceeibflcaaGreatDoorTai
set_option linter.unusedSimpArgs false
set_option linter.unusedVariables false
namespace Go.Proofs.YtndniceeibflcaaGreatDoor
namespace Aw
end Aw
namespace Mp
end Mp
end Go.Proofs.YtndniceeibflcaaGreatDoor
namespace Go.Proofs.YtndniceeibflcaaGreatDoor
open Aw Mp Go.RowKit
set_option linter.unusedSimpArgs false
set_option maxRecDepth 8000

theorem m105b (m : Mch) (t : MS) {c : Nat} (hI : InvS m.n c t) (hc : c ≤ 1000) (hT : vT m.n m.ls = 0) (hls : m.ls.length ≤ 1000000) (x w y : Int) (hx : 0 ≤ x ∧ x < t.place.length) (hw : 0 ≤ w ∧ w < t.place.length) :
    MSpec Tryz.prog 105 [.q 7 6 0 0, .q 0 13 0 0, I 2, I 2, I y, .s 1 (intsA [x, w])] (memG m t) (fun r N => r = erV (er2 m.lim m.ls t x w y) ∧ N = memG m (if er2 m.lim m.ls t x w y = 0 then nx2 t x w y else t)) := by
  refine mspec_of2 (own := [6, 7, 19, 1018]) Tryz.func105 rfl ok105 ?_
  intro vs
  have hxp : x.toNat < t.place.length := by omega
  have hwp : w.toNat < t.place.length := by omega
  have hxl : x.toNat < t.heats.length := by rw [hI.hl]; omega
  have hwl : w.toNat < t.heats.length := by rw [hI.hl]; omega
  have hxn : ((x.toNat : Nat) : Int) = x := by omega
  have hwn : ((w.toNat : Nat) : Int) = w := by omega
  have e2 : ((2 : Nat) : Int) = 2 := rfl
  have hpx := hI.pin _ (List.getElem_mem hxp)
  have hpw := hI.pin _ (List.getElem_mem hwp)
  have g0 : 0 < [x, w].length := by simp
  have g1 : 1 < [x, w].length := by simp
  obtain ⟨gh, hgh⟩ : ∃ gh, gh = some (ghost vs [AV.q 7 6 0 0, AV.q 0 13 0 0, I 2, I 2, I y, AV.s 1 (intsA [x, w])]) := ⟨_, rfl⟩
  simp only [wB, awp, binC, cmpC, asB, asI, asN, lenA, Aw.newRow, St.ev, St.step, setS, killS, AV.kill, AV.killL, Mem.kill, AV.cells, AV.cellular, AV.size, Nat.reduceAdd, Nat.reduceEqDiff, Nat.reduceSub, Int.reduceAdd, Int.reduceSub, lenK, Tryz.ntmps105, memG, Mch.ob, Mch.od, Mch.cells, rowP, rowC, rowS, stO', ghost, e2]
  refine swp_draw (own := [6, 7, 19]) (.take 0 .reads [] (.take 1 .plain [] (.take 2 .plain [] (.take 3 .reads [] (.take 4 .reads [] (.take 5 .plain [] (.take 6 .plain [] (.take 7 .reads [] (.take 8 .plain [] (.take 9 .reads [] (.take 10 .reads [] (.take 11 .reads [] (.take 12 .reads [] (.alt 13 (.take 14 .plain [] (.take 15 .plain [] (.take 16 .plain [] (.take 17 .plain [] (.take 18 .plain [] (.done)))))) (.nil))))))))))))))) [⟨27, 128, 0, 0, true⟩, ⟨28, 67108864, 1, 0, true⟩, ⟨29, 134217728, 2, 0, true⟩, ⟨30, 268435456, 4, 0, true⟩, ⟨31, 64, 0, 0, true⟩, ⟨32, 1073741824, 16, 0, true⟩, ⟨33, 2147483648, 32, 0, true⟩, ⟨34, 4294967296, 64, 0, true⟩, ⟨35, 32, 0, 0, true⟩, ⟨36, 17179869184, 256, 0, true⟩, ⟨37, 34359738368, 512, 0, true⟩, ⟨38, 77309411328, 1152, 0, true⟩, ⟨39, 137438953472, 2048, 0, true⟩, ⟨40, 275414777856, 4104, 0, false⟩, ⟨26, 549755813888, 8192, 0, true⟩, ⟨41, 33554432, 16384, 0, true⟩, ⟨42, 33554432, 16384, 0, true⟩, ⟨15, 1099511627776, 65535, 0, true⟩, ⟨16, 2199023255552, 262143, 0, true⟩] mo (by kernel_rfl) ?_
  simp only [wB, idxC, asP, asQ, asO, asS, asI, obA, loadA, St.ev, setS, AV.cells, AV.flat, AV.single, Nat.reduceAdd, Nat.reduceEqDiff, Nat.reduceLeDiff, Int.reduceAdd, Int.reduceLE, ASch, St.put, Md.mem, Md.need, Mch.cells, List.drop_succ_cons, List.drop_zero, List.take_succ_cons, List.take_zero, aget_ints g0, List.getElem_cons_zero, aget_ints hxp]
  have n3 := s103 m.n m.ls t.place[x.toNat] hls
  rw [if_neg (by rw [hT]; simp), if_pos hpx] at n3
  refine ⟨hx, acall_v n3 (by simp [AV.pureL, AV.pure, prsA_pure]) (by simp [AV.pure, AV.pureL, intsA_pure]) ?_⟩
  simp only [wB, awp, asT, asN, St.ev, St.step, setS, killS, AV.kill, AV.killL, Mem.kill, Nat.reduceEqDiff, ASch, St.put, Md.mem, Md.need]
  refine swp_draw (own := [6, 7, 19]) (.take 0 .plain [] (.take 1 .reads [] (.take 2 .plain [] (.take 3 .plain [] (.take 4 .reads [] (.take 5 .plain [] (.take 6 .reads [] (.take 7 .reads [] (.take 8 .reads [] (.take 9 .reads [] (.alt 10 (.take 11 .plain [] (.done)) (.nil)))))))))))) [⟨43, 16384, 0, 0, true⟩, ⟨44, 64, 0, 0, true⟩, ⟨45, 8796093022208, 2, 0, true⟩, ⟨46, 17592186044416, 4, 0, true⟩, ⟨47, 35184372088832, 8, 0, true⟩, ⟨48, 32, 0, 0, true⟩, ⟨49, 140737488355328, 32, 0, true⟩, ⟨50, 281474976710656, 64, 0, true⟩, ⟨51, 633318697598976, 144, 0, true⟩, ⟨52, 1125899906842624, 256, 0, true⟩, ⟨53, 2256197860196352, 513, 0, false⟩, ⟨14, 4503599627370496, 2047, 0, true⟩] mo (by kernel_rfl) ?_
  simp only [wB, idxC, asP, asQ, asO, asS, asI, obA, loadA, St.ev, setS, AV.cells, AV.flat, AV.single, Nat.reduceAdd, Nat.reduceEqDiff, Nat.reduceLeDiff, Int.reduceAdd, Int.reduceLE, ASch, St.put, Md.mem, Md.need, Mch.cells, List.drop_zero, List.take_succ_cons, List.take_zero, aget_ints g1, List.getElem_cons_zero, List.getElem_cons_succ, aget_ints hwp]
  have hul := upL_len m.n.toNat (lnk m.ls t.place[x.toNat])
  have hn6 : m.n ≤ 6 := by
    unfold vT at hT
    split at hT
    · cases hT
    · omega
  refine ⟨hw, acall_v (s102 _ _ (by omega)) (by simp [AV.pureL, AV.pure, intsA_pure]) rfl ?_⟩
  rw [mem_up hpw.1 hpw.2]
  simp only [wB, awp, asN, St.ev, St.step, setS, killS, AV.kill, AV.killL, Mem.kill, AV.single, AV.cellular, Value.oneCell', Nat.reduceAdd, Nat.reduceEqDiff, Int.reduceAdd, ASch, St.put, Md.mem, Md.need]
  refine ⟨rfl, acall_ln 2 (s75 [x, w] (fun z => decide (m.lim < t.heats.getD z.toNat 0)) 145 [.p (.p (stA t) 0) 0, .p (.p (m.cells (.s 2 (prsA m.ls)) (.s 1 (strsA m.ords))) 0) 0] (by simp) rfl (fun z hz => ?_)) ?_ rfl rfl ?_⟩
  · have hz' : z = x ∨ z = w := by simpa using hz
    rcases hz' with rfl | rfl
    · have := s145 m t z.toNat hxl
      rwa [hxn] at this
    · have := s145 m t z.toNat hwl
      rwa [hwn] at this
  · simp [frzN, AV.sub, AV.subL, intsA_pure, gtsA_pure, strsA_pure, prsA_pure, stA, Mch.cells, frz]
  obtain ⟨H, hH⟩ : ∃ H, H = [x, w].any (fun z => decide (m.lim < t.heats.getD z.toNat 0)) := ⟨_, rfl⟩
  have hH' : H = decide (m.lim < t.heats.getD x.toNat 0 ∨ m.lim < t.heats.getD w.toNat 0) := by rw [hH]; simp
  rw [← hH]
  simp only [wB, awp, asN, St.ev, St.step, setS, killS, AV.kill, AV.killL, Mem.kill, Nat.reduceEqDiff]
  refine swp_draw (own := [6, 7, 19]) (.take 0 .plain [] (.take 1 .reads [] (.take 2 .plain [] (.take 3 .plain [] (.take 4 .plain [] (.take 5 .reads [] (.take 6 .reads [] (.take 7 .plain [] (.take 8 .reads [] (.take 9 .reads [] (.take 10 .plain [] (.take 11 .plain [] (.take 12 .plain [] (.done)))))))))))))) [⟨57, 32, 0, 0, true⟩, ⟨58, 72057594037927936, 1, 0, true⟩, ⟨59, 144115188075855872, 2, 0, true⟩, ⟨60, 288230376151711744, 4, 0, true⟩, ⟨61, 576460752303423520, 8, 0, true⟩, ⟨62, 1729382256910270464, 24, 0, true⟩, ⟨63, 2882303761517117440, 40, 0, true⟩, ⟨64, 576460752303423520, 8, 0, true⟩, ⟨65, 9799832789158199296, 136, 0, true⟩, ⟨66, 19023204826012975104, 264, 0, true⟩, ⟨67, 42081634918149914624, 584, 0, true⟩, ⟨68, 74363437047141629952, 1032, 0, true⟩, ⟨18, 147573952589676412928, 4095, 0, true⟩] mo (by kernel_rfl) ?_
  simp only [wB, awp, binC, idxC, cmpC, asP, asS, asB, asI, asN, lenA, loadA, St.ev, St.step, setS, killS, AV.kill, AV.killL, Mem.kill, AV.cells, AV.flat, AV.single, Nat.reduceAdd, Nat.reduceEqDiff, Int.reduceAdd, Int.reduceLE, ASch, St.put, Md.mem, Md.need, lenK, Mch.cells, e2, aget_ints g0, aget_ints g1, List.getElem_cons_zero, List.getElem_cons_succ]
  have pl0 : t.place.getD x.toNat 0 = t.place[x.toNat] := getD_eq hxp
  have pl1 : t.place.getD w.toNat 0 = t.place[w.toNat] := getD_eq hwp
  have hcl10 : (t.circ.length = 10) = ((t.circ.length : Int) = 10) := propext ⟨fun h => by omega, fun h => by omega⟩
  by_cases c1 : y < 1
  · simp only [wB, binC, cmpC, asP, asQ, asB, asI, obA, lenA, loadA, fillA, putsA, St.ev, St.step, setS, killS, AV.kill, AV.killL, Mem.kill, AV.cells, AV.flat, AV.single, AV.cellular, AV.size, AV.sizeL, AV.pure, AV.pureL, Value.oneCell', Nat.reduceAdd, Nat.reduceEqDiff, Nat.reduceMul, Nat.reduceLeDiff, Int.reduceAdd, Int.reduceMul, lenK, Mch.cells, List.drop_succ_cons, List.drop_zero, List.take_succ_cons, List.take_zero, decide_eq_true c1, gtsA_len]
    refine ⟨⟨by decide, rfl⟩, acall_v (s101 [(true, 1), (!lnk m.ls t.place[x.toNat] t.place[w.toNat], 9), (H, 8), (decide ((t.circ.length : Int) = 10), 3)] (Nat.le_of_ble_eq_true rfl)) rfl (fstE_pure _) ?_⟩
    have he : er2 m.lim m.ls t x w y = 1 := by unfold er2; rw [if_pos (.inl (.inl c1))]
    simp only [wB, awp, binC, eqC, asG, asB, asI, asN, St.ev, St.step, setS, killS, AV.kill, AV.killL, Mem.kill, Nat.reduceAdd, Nat.reduceEqDiff, Int.reduceAdd, Int.reduceEq, isNI, ptrN, ifcN, asStr, nt114, fst4, erV, errV]
    exact ⟨_, _, memG m t, _, Le.refl _, rfl, rfl, rfl, rfl, free_G _ m t, by simp [he], by simp [he]⟩
  simp only [wB, binC, cmpC, asB, asI, St.ev, St.step, setS, killS, AV.kill, AV.killL, Mem.kill, decide_eq_false c1]
  by_cases c2 : 16 ≤ y
  · simp only [wB, binC, cmpC, asP, asQ, asB, asI, obA, lenA, loadA, fillA, putsA, St.ev, St.step, setS, killS, AV.kill, AV.killL, Mem.kill, AV.cells, AV.flat, AV.single, AV.cellular, AV.size, AV.sizeL, AV.pure, AV.pureL, Value.oneCell', Nat.reduceAdd, Nat.reduceEqDiff, Nat.reduceMul, Nat.reduceLeDiff, Int.reduceAdd, Int.reduceMul, lenK, Mch.cells, List.drop_succ_cons, List.drop_zero, List.take_succ_cons, List.take_zero, decide_eq_true c2, gtsA_len]
    refine ⟨⟨by decide, rfl⟩, acall_v (s101 [(true, 1), (!lnk m.ls t.place[x.toNat] t.place[w.toNat], 9), (H, 8), (decide ((t.circ.length : Int) = 10), 3)] (Nat.le_of_ble_eq_true rfl)) rfl (fstE_pure _) ?_⟩
    have he : er2 m.lim m.ls t x w y = 1 := by unfold er2; rw [if_pos (.inl (.inr c2))]
    simp only [wB, awp, binC, eqC, asG, asB, asI, asN, St.ev, St.step, setS, killS, AV.kill, AV.killL, Mem.kill, Nat.reduceAdd, Nat.reduceEqDiff, Int.reduceAdd, Int.reduceEq, isNI, ptrN, ifcN, asStr, nt114, fst4, erV, errV]
    exact ⟨_, _, memG m t, _, Le.refl _, rfl, rfl, rfl, rfl, free_G _ m t, by simp [he], by simp [he]⟩
  simp only [wB, binC, cmpC, asP, asQ, asB, asI, obA, lenA, loadA, fillA, putsA, St.ev, St.step, setS, killS, AV.kill, AV.killL, Mem.kill, AV.cells, AV.flat, AV.single, AV.cellular, AV.size, AV.sizeL, AV.pure, AV.pureL, Value.oneCell', Nat.reduceAdd, Nat.reduceEqDiff, Nat.reduceMul, Nat.reduceLeDiff, Int.reduceAdd, Int.reduceMul, lenK, Mch.cells, List.drop_succ_cons, List.drop_zero, List.take_succ_cons, List.take_zero, decide_eq_false c2, gtsA_len]
  refine ⟨⟨by decide, rfl⟩, acall_v (s101 [(decide (x = w), 1), (!lnk m.ls t.place[x.toNat] t.place[w.toNat], 9), (H, 8), (decide ((t.circ.length : Int) = 10), 3)] (Nat.le_of_ble_eq_true rfl)) rfl (fstE_pure _) ?_⟩
  have he : er2 m.lim m.ls t x w y = if decide (x = w) = true then 1 else if (!lnk m.ls t.place[x.toNat] t.place[w.toNat]) = true then 9 else if H = true then 8 else if decide ((t.circ.length : Int) = 10) = true then 3 else 0 := by
    unfold er2
    have e0 : ((y < 1 ∨ 16 ≤ y) ∨ x = w) = (x = w) := propext ⟨fun h => by omega, fun h => .inr h⟩
    rw [pl0, pl1, hH']
    simp only [e0, decide_eq_true_eq, hcl10, Bool.not_eq_true']
  rw [fst4, ← he]
  by_cases c5 : er2 m.lim m.ls t x w y = 0
  case neg =>
    simp only [wB, awp, binC, eqC, asG, asB, asI, asN, St.ev, St.step, setS, killS, AV.kill, AV.killL, Mem.kill, AV.cells, Nat.reduceAdd, Nat.reduceEqDiff, Int.reduceAdd, isNI, ptrN, ifcN, asStr, nt114, memG, Mch.ob, Mch.od, Mch.cells, rowP, rowC, rowS, stO', erV, if_neg c5, errV]
    exact ⟨_, _, memG m t, _, Le.refl _, rfl, rfl, rfl, rfl, free_G _ m t, by first | rfl | simp [c5], by first | rfl | simp [c5]⟩
  have hneq : x ≠ w := fun e => by rw [he, decide_eq_true e] at c5; cases c5
  have hnear : lnk m.ls t.place[x.toNat] t.place[w.toNat] = true := by
    cases hh : lnk m.ls t.place[x.toNat] t.place[w.toNat] with
    | true => rfl
    | false => rw [he, decide_eq_false hneq, hh] at c5; cases c5
  have hc10 : t.circ.length < 10 := by
    have h1 := hI.c10
    rcases Nat.lt_or_ge t.circ.length 10 with h2 | h2
    · exact h2
    · have h3 : (t.circ.length : Int) = 10 := by omega
      rw [he, decide_eq_false hneq, hnear, decide_eq_true h3] at c5
      cases H <;> cases c5
  simp only [wB, awp, binC, eqC, asG, asB, asI, asN, St.ev, St.step, setS, killS, AV.kill, AV.killL, Mem.kill, Nat.reduceAdd, Nat.reduceEqDiff, Int.reduceAdd, Int.reduceNeg, isNI, ptrN, ifcN, asStr, nt114, erV, if_pos c5, errV]
  refine acall_v (s146 [x, w] (by simp) (by simp)) rfl rfl ?_
  rw [show minP ([x, w].getD 0 0) [x, w] = min x w by simp [minP]]
  simp only [wB, awp, binC, cmpC, asQ, asB, asI, obA, lenA, storeA, fillA, putsA, mkA, Aw.newRow, St.ev, St.step, setS, killS, AV.kill, AV.killL, Mem.kill, AV.cells, AV.flat, AV.single, AV.cellular, Value.oneCell', Nat.reduceAdd, Nat.reduceEqDiff, Nat.reduceLeDiff, Int.reduceAdd, Int.reduceNeg, lenK, Mch.cells, e2]
  refine acall_v (s147 [x, w] (by simp) (by simp)) rfl rfl ?_
  rw [show maxP ([x, w].getD 0 0) [x, w] = max x w by simp [maxP]]
  simp only [wB, awp, asP, asQ, obA, storeA, putsA, St.ev, St.step, setS, killS, AV.kill, AV.killL, Mem.kill, AV.cells, AV.flat, AV.single, AV.cellular, Value.oneCell', Nat.reduceAdd, Nat.reduceEqDiff, Nat.reduceLeDiff, Int.reduceAdd, Int.reduceNeg, Mch.cells]
  refine swp_to ⟨[.bot, .bot, .bot, I 2, .bot, .s 1 (intsA [x, w]), .q 9 1 0 0, .bot, .bot, .bot, .bot, .bot, .bot, .bot, .bot, .bot, .bot, .bot, .bot, .bot, .bot, .bot, .bot, .bot, .bot, .bot, .bot, .bot, .bot, .bot, .bot, .bot, .bot, .bot, .bot, .bot, .bot, .bot, .bot, .bot, .bot, .bot, .bot, .bot, .bot, .bot, .bot, .bot, .bot, .bot, .bot, .bot, .bot, .bot, .bot, .bot, .bot, .bot, .bot, .bot, .bot, .bot, .bot, .bot, .bot, .bot, .bot, .bot, .bot, .bot, .bot, .bot, .bot, .bot, .bot, .bot, .bot, .bot, .bot, .bot, .bot, .bot, .bot, .bot, .bot, .bot, .bot, .bot, .bot, .bot, .bot, .bot, .bot, .bot, .bot, .bot, .bot, .bot, .bot, .bot, .bot, .bot, .bot, .bot, .bot, .bot, .bot, .bot, .bot, .bot, .bot, .bot, .bot, .bot, .bot, .bot, .bot, .bot, .bot, .bot, .bot, .bot, .bot, .bot, .bot, .bot, .bot, .bot, .bot, .bot, .bot, .bot, .bot, .bot], memG m { t with circ := t.circ ++ [⟨2, min x w, max x w, y⟩] } ++ [gh, some ⟨none, 149, 1, [.q 7 6 0 0]⟩, some ⟨none, 32, 1, [.q 0 13 0 0]⟩, some ⟨none, 81, 4, [gA ⟨2, min x w, max x w, y⟩]⟩]⟩ (swp_draw (own := [6, 7, 19]) (.take 1 .reads [] (.take 2 .plain [] (.take 3 .plain [] (.take 4 .reads [] (.take 5 .reads [] (.take 6 .plain [] (.alt 0 (.alt 7 (.take 8 .plain [] (.take 9 .plain [] (.alt 10 (.done) (.nil)))) (.nil)) (.alt 7 (.take 0 .reads [] (.take 8 .plain [] (.take 9 .plain [] (.alt 10 (.done) (.nil))))) (.nil))))))))) [⟨107, 64, 0, 0, true⟩, ⟨108, 64, 0, 0, true⟩, ⟨109, 162259276829213363391578010288128, 2, 0, true⟩, ⟨110, 324518553658426726783156020576256, 4, 0, true⟩, ⟨111, 649037107316853453566312041152512, 8, 0, true⟩, ⟨112, 524288, 0, 0, true⟩, ⟨113, 2596148429267413814265248164610048, 32, 0, true⟩, ⟨114, 6490371073168534535663120411525120, 80, 2, false⟩, ⟨115, 81129638414606681695789005144064, 255, 0, true⟩, ⟨116, 20769187434139310514121985316880384, 511, 0, true⟩, ⟨0, 51922968585348276285304963292200960, 767, 1, false⟩] mo (by kernel_rfl) ?_) ?_
  · simp only [wB, asP, asQ, asO, asS, obA, loadA, storeA, putsA, St.ev, St.step, setS, killS, AV.kill, AV.killL, Mem.kill, AV.cells, AV.flat, AV.single, AV.cellular, AV.size, AV.sizeL, AV.pure, AV.pureL, Value.oneCell', Nat.reduceAdd, Nat.reduceEqDiff, Nat.reduceMul, Nat.reduceLeDiff, Int.reduceAdd, Int.reduceMul, Int.reduceNeg, ASch, St.put, Md.mem, Md.need, memG, Mch.ob, Mch.od, Mch.cells, rowP, rowC, rowS, stO', List.drop_succ_cons, List.drop_zero, gA, List.take_succ_cons, List.take_zero, gtsA_len]
    have hle : (0 : Nat) < 4 := by decide
    have hcl : t.circ.length ≤ 999999 := by omega
    refine ⟨⟨hle, rfl⟩, ⟨⟨hle, hcl⟩, le_sl' ?_ (by simp [leSl])⟩, ⟨hle, hcl⟩, le_sl' ?_ (by simp [leSl])⟩ <;>
    simp only [memG, memS, Mch.ob, Mch.od, Mch.cells, rowP, rowC, rowS, stO', combR, List.cons_append, List.nil_append, Option.map_some, Option.map_none, List.drop_succ_cons, List.drop_zero, prsA_sub, strsA_sub, intsA_sub, gtsA_sub, AV.sub, AV.subL, keepF, keepG, liveI, List.getElem?_cons_succ, List.getElem?_cons_zero, List.getElem?_nil, AV.isO, AV.isQ, List.any_cons, List.any_nil, ghost, gA, List.take_succ_cons, List.take_zero, List.drop_nil, hgh, prsA_kill, strsA_kill, intsA_kill, gtsA_kill, gtsA_app]
  have hdl := hI.dn
  simp only [wB, awp, binC, arithC, cmpC, asP, asQ, asI, obA, lenA, loadA, storeA, putsA, St.ev, St.step, setS, killS, AV.kill, AV.killL, Mem.kill, AV.cells, AV.flat, AV.single, AV.cellular, Value.oneCell', Nat.reduceAdd, Nat.reduceEqDiff, Nat.reduceLeDiff, Int.reduceAdd, isU, lenK, memG, Mch.ob, Mch.od, Mch.cells, rowP, rowC, rowS, stO', List.drop_succ_cons, List.drop_zero, ghost, gA, List.take_succ_cons, List.take_zero, e2, hgh]
  refine ⟨by unfold lim; omega, ?_⟩
  refine swp_loop' (fun j : Nat => ⟨[.bot, .bot, .bot, I 2, .bot, .s 1 (intsA [x, w]), .q 9 1 0 0, .bot, .bot, .bot, .bot, .bot, .bot, .bot, .bot, .bot, .bot, .bot, .bot, .bot, .bot, .bot, .bot, .bot, .bot, .bot, .bot, .bot, .bot, .bot, .bot, .bot, .bot, .bot, .bot, .bot, .bot, .bot, .bot, .bot, .bot, .bot, .bot, .bot, .bot, .bot, .bot, .bot, .bot, .bot, .bot, .bot, .bot, .bot, .bot, .bot, .bot, .bot, .bot, .bot, .bot, .bot, .bot, .bot, .bot, .bot, .bot, .bot, .bot, .bot, .bot, .bot, .bot, .bot, .bot, .bot, .bot, .bot, .bot, .bot, .bot, .bot, .bot, .bot, .bot, .bot, .bot, .bot, .bot, .bot, .bot, .bot, .bot, .bot, .bot, .bot, .bot, .bot, .bot, .bot, .bot, .bot, .bot, .bot, .bot, .bot, .bot, .bot, .bot, .bot, .bot, .bot, .bot, .bot, .bot, .bot, .bot, .bot, .bot, .bot, .bot, .bot, .bot, .s 1 (intsA [x, w]), I 2, I j, .bot, .bot, .bot, .bot, .bot, .bot, .bot, .bot], memG m { t with circ := t.circ ++ [⟨2, min x w, max x w, y⟩], done := t.done + 1, heats := if j = 0 then t.heats else if j = 1 then bump t.heats x.toNat 2 else bump (bump t.heats x.toNat 2) w.toNat 2 } ++ [gh, some ⟨none, 149, 1, [.q 7 6 0 0]⟩, some ⟨none, 32, 1, [.q 0 13 0 0]⟩, some ⟨none, 81, 4, [gA ⟨2, min x w, max x w, y⟩]⟩]⟩) (fun j => j ≤ 2) (fun j => 2 - j) 0 (le_sl' ?_ (by simp [leSl])) (Nat.zero_le _) ?_
  · simp only [memG, memS, Mch.ob, Mch.od, Mch.cells, rowP, rowC, rowS, stO', combR, List.cons_append, List.nil_append, Option.map_some, Option.map_none, List.drop_succ_cons, List.drop_zero, prsA_sub, strsA_sub, intsA_sub, gtsA_sub, AV.sub, AV.subL, keepF, keepG, liveI, List.getElem?_cons_succ, List.getElem?_cons_zero, List.getElem?_nil, AV.isO, AV.isQ, List.any_cons, List.any_nil, ghost, gA, List.take_succ_cons, List.take_zero, List.drop_nil, hgh, if_true]
  intro j hj
  refine awp_sound (own := [6, 7, 19, 1018]) _ _ _ _ _ ?_
  simp only [wB, awp, binC, cmpC, asB, asI, St.ev, St.step, setS, killS, AV.kill, AV.killL, Mem.kill, AV.cells, Nat.reduceAdd, Nat.reduceEqDiff, Int.reduceAdd, memG, Mch.ob, Mch.od, Mch.cells, rowP, rowC, rowS, stO', ghost, gA, hgh]
  have k1 : ¬ (1 : Nat) = 0 := by decide
  have k2 : ¬ (2 : Nat) = 0 := by decide
  have k3 : ¬ (2 : Nat) = 1 := by decide
  rcases (show j = 0 ∨ j = 1 ∨ j = 2 by omega) with rfl | rfl | rfl
  case inr.inr =>
    simp only [wB, awp, asN, St.ev, St.step, setS, killS, AV.kill, AV.killL, Mem.kill, Nat.reduceAdd, Nat.reduceEqDiff, Int.reduceAdd, Int.reduceLT, memG, e2]
    exact ⟨_, _, memG m (nx2 t x w y), _, Le.refl _, rfl, rfl, rfl, rfl, free_G _ m _, by simp [c5, erV], by simp [c5, memG]⟩
  case inl =>
    simp only [wB, awp, idxC, asP, asS, asI, asN, loadA, St.ev, St.step, setS, killS, AV.kill, AV.killL, Mem.kill, AV.cells, AV.flat, AV.single, Nat.reduceAdd, Nat.reduceEqDiff, Int.reduceAdd, Int.reduceLE, Int.reduceLT, aget_ints g0, Int.natCast_zero, List.getElem_cons_zero]
    refine swp_fm (own := [6, 7, 19]) 3 rfl rfl rfl ?_
    simp only [wB, asP, asQ, obA, loadA, St.ev, St.step, setS, killS, AV.kill, AV.killL, Mem.kill, AV.cells, AV.flat, AV.single, List.take_succ_cons, List.take_zero]
    refine acall_f (fspec_of (m104i { t with circ := t.circ ++ [⟨2, min x w, max x w, y⟩], done := t.done + 1 } x ⟨hx.1, by simp only; rw [hI.hl]; exact hx.2⟩ 2 (by omega) hI.hin) [0, 1, 2, 3, 8, 9, 10, 11] rfl (by exact ⟨rfl, rfl, rfl, rfl, trivial⟩) rfl rfl (free_S _ _ (by decide)) (N := memG m { t with circ := t.circ ++ [⟨2, min x w, max x w, y⟩], done := t.done + 1, heats := bump t.heats x.toNat 2 } ++ [gh, some ⟨none, 149, 1, [.q 7 6 0 0]⟩, some ⟨none, 32, 1, [.q 0 13 0 0]⟩, some ⟨none, 81, 4, [gA ⟨2, min x w, max x w, y⟩]⟩]) ?_) ?_
    · simp only [memG, memS, Mch.ob, Mch.od, Mch.cells, rowP, rowC, rowS, stO', combR, List.cons_append, List.nil_append, Option.map_some, Option.map_none, List.drop_succ_cons, List.drop_zero, prsA_sub, strsA_sub, intsA_sub, gtsA_sub, AV.sub, AV.subL, keepF, keepG, liveI, List.getElem?_cons_succ, List.getElem?_cons_zero, List.getElem?_nil, AV.isO, AV.isQ, List.any_cons, List.any_nil, ghost, gA, List.take_succ_cons, List.take_zero, List.drop_nil, hgh]
      rfl
    · simp only [wB, awp, binC, arithC, cmpC, asI, St.ev, St.step, setS, killS, AV.kill, AV.killL, Mem.kill, AV.cells, Nat.reduceAdd, Nat.reduceEqDiff, Nat.reduceSub, Int.reduceAdd, Int.reduceSub, isU, memG, memS, Mch.ob, Mch.od, Mch.cells, rowP, rowC, rowS, stO', List.drop_succ_cons, AV.sub, keepG, liveI, AV.isQ, List.any_cons, List.any_nil, ghost, gA, List.drop_nil, hgh]
      refine ⟨by unfold lim; omega, 1, le_sl' ?_ (by simp [leSl]), by omega, by omega⟩
      simp only [memG, memS, Mch.ob, Mch.od, Mch.cells, rowP, rowC, rowS, stO', combR, List.cons_append, List.nil_append, Option.map_some, Option.map_none, List.drop_succ_cons, List.drop_zero, prsA_sub, strsA_sub, intsA_sub, gtsA_sub, AV.sub, AV.subL, keepF, keepG, liveI, List.getElem?_cons_succ, List.getElem?_cons_zero, List.getElem?_nil, AV.isO, AV.isQ, List.any_cons, List.any_nil, ghost, gA, List.take_succ_cons, List.take_zero, List.drop_nil, hgh, if_neg k1, if_true]
  case inr.inl =>
    simp only [wB, awp, idxC, asP, asS, asI, asN, loadA, St.ev, St.step, setS, killS, AV.kill, AV.killL, Mem.kill, AV.cells, AV.flat, AV.single, Nat.reduceAdd, Nat.reduceEqDiff, Int.reduceAdd, Int.reduceLE, Int.reduceLT, aget_ints g1, Int.natCast_one, if_neg k1, List.getElem_cons_succ, List.getElem_cons_zero]
    refine swp_fm (own := [6, 7, 19]) 3 rfl rfl rfl ?_
    simp only [wB, asP, asQ, obA, loadA, St.ev, St.step, setS, killS, AV.kill, AV.killL, Mem.kill, AV.cells, AV.flat, AV.single, List.take_succ_cons, List.take_zero]
    refine acall_f (fspec_of (m104i { t with circ := t.circ ++ [⟨2, min x w, max x w, y⟩], done := t.done + 1, heats := bump t.heats x.toNat 2 } w ⟨hw.1, by simp only [bump_len]; rw [hI.hl]; exact hw.2⟩ 2 (by omega) (bump_in hI.hin _ (by omega))) [0, 1, 2, 3, 8, 9, 10, 11] rfl (by exact ⟨rfl, rfl, rfl, rfl, trivial⟩) rfl rfl (free_S _ _ (by decide)) (N := memG m { t with circ := t.circ ++ [⟨2, min x w, max x w, y⟩], done := t.done + 1, heats := bump (bump t.heats x.toNat 2) w.toNat 2 } ++ [gh, some ⟨none, 149, 1, [.q 7 6 0 0]⟩, some ⟨none, 32, 1, [.q 0 13 0 0]⟩, some ⟨none, 81, 4, [gA ⟨2, min x w, max x w, y⟩]⟩]) ?_) ?_
    · simp only [memG, memS, Mch.ob, Mch.od, Mch.cells, rowP, rowC, rowS, stO', combR, List.cons_append, List.nil_append, Option.map_some, Option.map_none, List.drop_succ_cons, List.drop_zero, prsA_sub, strsA_sub, intsA_sub, gtsA_sub, AV.sub, AV.subL, keepF, keepG, liveI, List.getElem?_cons_succ, List.getElem?_cons_zero, List.getElem?_nil, AV.isO, AV.isQ, List.any_cons, List.any_nil, ghost, gA, List.take_succ_cons, List.take_zero, List.drop_nil, hgh]
      rfl
    · simp only [wB, awp, binC, arithC, cmpC, asI, St.ev, St.step, setS, killS, AV.kill, AV.killL, Mem.kill, AV.cells, Nat.reduceAdd, Nat.reduceEqDiff, Nat.reduceSub, Int.reduceAdd, Int.reduceSub, isU, memG, memS, Mch.ob, Mch.od, Mch.cells, rowP, rowC, rowS, stO', List.drop_succ_cons, AV.sub, keepG, liveI, AV.isQ, List.any_cons, List.any_nil, ghost, gA, List.drop_nil, hgh]
      refine ⟨by unfold lim; omega, 2, le_sl' ?_ (by simp [leSl]), by omega, by omega⟩
      simp only [memG, memS, Mch.ob, Mch.od, Mch.cells, rowP, rowC, rowS, stO', combR, List.cons_append, List.nil_append, Option.map_some, Option.map_none, List.drop_succ_cons, List.drop_zero, prsA_sub, strsA_sub, intsA_sub, gtsA_sub, AV.sub, AV.subL, keepF, keepG, liveI, List.getElem?_cons_succ, List.getElem?_cons_zero, List.getElem?_nil, AV.isO, AV.isQ, List.any_cons, List.any_nil, ghost, gA, List.take_succ_cons, List.take_zero, List.drop_nil, hgh, if_neg k2, if_neg k3]
end Go.Proofs.YtndniceeibflcaaGreatDoor

namespace Go.Proofs.YtndniceeibflcaaGreatDoor
namespace Aw
open Go.RowKit
set_option linter.unusedSimpArgs false
section
variable {P : Program} {own : List Nat} {ops pre : Array Oper}
/-- a region whose order is drawn, its last operations one after another; the first of them is a call that is lent objects. -/
theorem swp_splitF {id : Nat} {σ : St} {N : HN} {E : HE} {Rt : HR} (o : Oper) (suf : List Oper) (hap : ops.toList = pre.toList ++ o :: suf) (s : Sch) (tb : List Inf) (hm : P.follows .mixedOrders = true) (hok : s.fits P own pre tb = true) (hsp : (headB ops pre.size && (Region.sinkB .any ops pre.size && (Region.chainB .any ops pre.size && decide (pre.size < ops.size)))) = true)
    (h : @ASch P own pre.toList s σ ⟨fun σ' => ∃ σ'', Le σ' σ'' ∧ @afc P o σ'' ⟨fun σ3 => @AOps P own ops.toList suf σ3 N⟩⟩) : @SWp P (.region id ops true) σ N E Rt := by
  intro C a w hS
  simp only [Bool.and_eq_true, decide_eq_true_eq] at hsp
  obtain ⟨hh, hs, hc, hn⟩ := hsp
  unfold Sch.fits at hok
  rw [Bool.and_eq_true] at hok
  obtain ⟨h1, h2⟩ := hok
  have htb := tbOk_eq pre.toList tb h1
  subst htb
  rw [show (pre.toList.map (infOf P own pre)).length = pre.size by simp] at h2
  have hf : Fits pre (Array.replicate pre.size false) 0 := ⟨by simp, fun j => by
    simp only [Array.getD_eq_getD_getElem?, Array.getElem?_replicate, Nat.zero_testBit]
    split <;> rfl⟩
  have hA := (asch_any s true pre.size _ 0 σ hf h2 h).1 rfl
  have hsuf : (o :: suf).length = ops.size - pre.size := by
    have := congrArg List.length hap
    simp at this
    simp
    omega
  refine wp_region_any hm ?_
  have hpre : ∀ j, j < pre.size → pre[j]? = ops[j]? := fun j hj => by
    have : ops.toList[j]? = pre.toList[j]? := by rw [hap, List.getElem?_append_left (by simpa using hj)]
    simpa using this.symm
  have ho : ops[pre.size]? = some o := by
    have : ops.toList[pre.size]? = some o := by rw [hap]; simp
    simpa using this
  have hinv : HeadInv .any ops pre.size (Array.replicate ops.size false) := ⟨by simp, fun j oj hj hl => (by rw [getD_replicate_false] at hl; cases hl), fun t h1 h2 => by simp [h2]⟩
  have := aany_split (P := P) (own := own) (ops := ops) (pre := pre) (n := pre.size) (C := C) (Q := APost C N.k E.k (fun σ => Rt.k σ ())) hpre rfl hn hh hs hc (fun σ' a w hN hS => by
    obtain ⟨σ'', hle, hA⟩ := hN
    rw [← hsuf, List.length_cons, List.range'_succ, wpOps_cons]
    refine wpOp_mono (fun a' w' hS' => ?_) (afc_sound (N := ⟨fun σ3 => @AOps P own ops.toList suf σ3 N⟩) ho hA (hle C a w hS))
    obtain ⟨σ3, h3, h4⟩ := hS'
    exact aops_sound (P := P) (own := own) (ops := ops) (Q := APost C N.k E.k (fun σ => Rt.k σ ())) (C := C) (fun σ a w hN hS => ⟨σ, hN, hS⟩) suf (pre.size + 1) σ3 a' w' (by rw [hap, ← List.drop_drop]; simp) h3 h4) pre.size (Array.replicate pre.size false) (Array.replicate ops.size false) σ a { w with drawn := w.drawn + 1 } (by simp) (fun j hj => by simp [hj, show j < ops.size by omega]) hinv hA hS.drawn
  rwa [show pre.size + (ops.size - pre.size) = ops.size by omega] at this
end
end Aw
end Go.Proofs.YtndniceeibflcaaGreatDoor

namespace Go.Proofs.YtndniceeibflcaaGreatDoor
open Aw Mp Go.RowKit
set_option linter.unusedSimpArgs false
set_option maxRecDepth 8000

/-- heats of which the first j are warmed. -/
def warmL (l : List Int) (x : Int) (j : Nat) : List Int := (l.take j).map (fun h => min (h + x) 1000) ++ l.drop j
theorem warmL_len (l : List Int) (x : Int) (j : Nat) : (warmL l x j).length = l.length := by simp [warmL]; omega
theorem warmL_bump {l : List Int} {x : Int} {j : Nat} (h : j < l.length) : bump (warmL l x j) j x = warmL l x (j + 1) := by
  have hl : ((l.take j).map fun h => min (h + x) 1000).length = j := by simp; omega
  unfold bump warmL
  rw [List.take_add_one, List.getElem?_eq_getElem h, List.drop_eq_getElem_cons h, List.getD_eq_getElem?_getD, List.getElem?_append_right (by omega), List.set_append_right _ _ (by omega), hl, Nat.sub_self]
  simp only [List.map_append, Option.toList_some, List.map_cons, List.map_nil, List.append_assoc, List.set_cons_zero, List.getElem?_cons_zero, Option.getD_some, List.cons_append, List.nil_append]
theorem warmL_in {l : List Int} {x : Int} (hl : ∀ h ∈ l, 0 ≤ h ∧ h ≤ 1000) (hx : 0 ≤ x) (j : Nat) : ∀ h ∈ warmL l x j, 0 ≤ h ∧ h ≤ 1000 := fun h hm => by
  unfold warmL at hm
  rcases List.mem_append.1 hm with hm | hm
  · obtain ⟨q, hq, rfl⟩ := List.mem_map.1 hm
    have := hl q (List.mem_of_mem_take hq)
    omega
  · exact hl h (List.mem_of_mem_drop hm)
theorem fst2 (a b : Bool) (p q : Int) (hp : p ≠ 0) (hq : q ≠ 0) : fstE [(a, p), (b, q)] = erV (if a = true then p else if b = true then q else 0) := by
  cases a <;> cases b <;> simp [fstE, erV, hp, hq]
theorem free_GZ (Z : List Nat) (m : Mch) (t : MS) (h : (Z.contains 2 || (Z.contains 4 || (Z.contains 5 || Z.contains 6))) = false) : freeM Z (memG m t) = true := by
  simp only [Bool.or_eq_false_iff] at h
  simp [freeM, memG, Mch.ob, Mch.od, Mch.cells, rowP, rowC, rowS, stO', AV.freeL, AV.free, intsA_free, gtsA_free, prsA_free, strsA_free, -List.contains_eq_mem, h.1, h.2.1, h.2.2.1, h.2.2.2]
theorem erV_free (e : Int) (Z : List Nat) : (erV e).free Z = true := by unfold erV; split <;> rfl
theorem ok73 : okFn Tryz.prog 73 = true := by kernel_rfl
theorem m73_2 (m : Mch) (t : MS) {c : Nat} (hI : InvS m.n c t) (hc : c ≤ 1000) (hT : vT m.n m.ls = 0) (hls : m.ls.length ≤ 1000000) (x : Int) (hx : 0 ≤ x ∧ x ≤ 99) :
    MSpec Tryz.prog 73 [.q 7 6 0 0, .q 0 13 0 0, frmA (2, 1, 1, -1), .s 1 (intsA [x])] (memG m t) (fun r N => r = erV (erS m.n m.lim m.ls t 2 x 0 0) ∧ N = memG m (if erS m.n m.lim m.ls t 2 x 0 0 = 0 then nxS t 2 x 0 0 else t)) := by
  refine mspec_of2 (own := [6, 1022, 1033]) Tryz.func73 rfl ok73 ?_
  intro vs
  have hp4 := hI.p4
  have hhl := hI.hl
  have e0 : ((0 : Nat) : Int) = 0 := rfl
  have e1 : ((1 : Nat) : Int) = 1 := rfl
  have e2 : ((2 : Nat) : Int) = 2 := rfl
  have e3 : ((3 : Nat) : Int) = 3 := rfl
  have g0 : 0 < [x].length := by simp
  obtain ⟨gh, hgh⟩ : ∃ gh, gh = some (ghost vs [AV.q 7 6 0 0, AV.q 0 13 0 0, frmA (2, 1, 1, -1), AV.s 1 (intsA [x])]) := ⟨_, rfl⟩
  simp only [wB, awp, asP, asQ, asS, asN, obA, bndA, lenA, loadA, Aw.newRow, St.ev, St.step, setS, killS, AV.kill, AV.killL, Mem.kill, AV.cells, AV.flat, AV.single, AV.cellular, AV.size, AV.sizeL, Nat.reduceAdd, Nat.reduceEqDiff, Nat.reduceSub, Nat.reduceLeDiff, Int.reduceAdd, Int.reduceSub, Int.reduceNeg, Int.reduceLE, lenK, Tryz.ntmps73, memG, Mch.ob, Mch.od, Mch.cells, rowP, rowC, rowS, stO', List.drop_succ_cons, List.drop_zero, ghost, List.take_succ_cons, List.take_zero, e1, frmA, ← hgh]
  refine swp_loop' (fun j : Nat => ⟨[.q 7 6 0 0, .q 0 13 0 0, .bot, .s 1 (intsA [x]), .bot, .bot, .q 9 4 0 0, .bot, .v .nilIface, .bot, .bot, .bot, .bot, .bot, .bot, .bot, .bot, .bot, .bot, .s 1 (intsA [x]), I 1, I j, .bot, .bot, .bot, .bot, .bot, .bot, .bot, .bot, .bot, .bot, .bot, .bot, .bot, .bot, .bot, .bot, .bot, .bot, .bot, .bot, .bot, .bot, .bot, .bot, .bot, .bot, .bot, .bot, .bot, .bot, .bot, .bot, .bot, .bot, .bot, .bot, .bot, .bot, .bot, .bot, .bot, .bot, .bot, .bot, .bot, .bot, .bot, .bot, .bot, .bot, .bot, .bot, .bot, .bot, .bot, .bot, .bot, .bot, .bot, .bot, .bot, .bot, .bot, .bot, .bot, .bot, .bot, .bot, .bot, .bot, .bot, .bot, .bot, .bot, .bot, .bot, .bot, .bot, .bot, .bot, .bot, .bot, .bot, .bot, .bot, .bot, .bot, .bot, .bot, .bot, .bot, .bot, .bot, .bot, .bot, .bot, .bot, .bot, .bot, .bot, .bot, .bot, .bot, .bot, .bot, .bot, .bot, .bot, .bot, .bot, .bot, .bot, .bot, .bot, .bot, .bot, .bot, .bot, .bot, .bot, .bot, .bot, .bot, .bot, .bot, .bot, .bot, .bot, .bot, .bot, .bot, .bot, .bot, .bot, .bot, .bot, .bot, .bot, .bot, .bot, .bot, .bot, .bot, .bot, .bot, .bot, .bot, .bot, .bot, .bot, .bot, .bot, .bot, .bot, .bot, .bot, .bot, .bot, .bot, .bot, .bot, .bot, .bot, .bot, .bot, .bot, .bot, .bot, .bot, .bot, .bot, .bot, .bot, .bot, .bot, .bot, .bot, .bot, .bot, .bot, .bot, .bot, .bot, .bot, .bot, .bot, .bot, .bot, .bot, .bot, .bot, .bot, .bot, .bot, .bot, .bot, .bot, .bot, .bot, .bot, .bot, .bot, .bot, .bot, .bot, .bot, .bot, .bot, .bot, .bot, .bot, .bot, .bot, .bot, .bot, .bot, .bot, .bot, .bot, .bot, .bot, .bot, .bot, .bot, .bot, .bot, .bot, .bot, .bot, .bot, .bot, .bot], memG m t ++ [gh, some ⟨none, 112, 4, [frmA (2, 1, 1, -1)]⟩]⟩) (fun j => j ≤ 1 ∧ ∀ i, i < j → ∀ h : i < ([x] : List Int).length, ([x] : List Int)[i] < t.place.length) (fun j => 1 - j) 0 (le_sl' ?_ ?_) ⟨Nat.zero_le _, fun i h => absurd h (Nat.not_lt_zero _)⟩ ?_
  · simp only [memG, memS, Mch.ob, Mch.od, Mch.cells, rowP, rowC, rowS, stO', combR, List.cons_append, List.nil_append, Option.map_some, Option.map_none, List.drop_succ_cons, List.drop_zero, prsA_sub, strsA_sub, intsA_sub, gtsA_sub, AV.sub, AV.subL, keepF, keepG, liveI, List.getElem?_cons_succ, List.getElem?_cons_zero, List.getElem?_nil, AV.isO, AV.isQ, List.any_cons, List.any_nil, ghost, gA, List.take_succ_cons, List.take_zero, List.drop_nil, hgh, frmA]
  · simp [leSl, intsA]
  rintro j ⟨hj, hno⟩
  refine awp_sound (own := [6, 1022, 1033]) _ _ _ _ _ ?_
  simp only [wB, awp, binC, cmpC, asB, asI, St.ev, St.step, setS, killS, AV.kill, AV.killL, Mem.kill, AV.cells, Nat.reduceAdd, Nat.reduceEqDiff, Int.reduceAdd, Int.reduceNeg, memG, Mch.ob, Mch.od, Mch.cells, rowP, rowC, rowS, stO', ghost, hgh, frmA]
  by_cases h : (j : Int) < 1
  case pos =>
    have hjl : j < ([x] : List Int).length := by simp; omega
    simp only [wB, awp, binC, idxC, cmpC, asP, asQ, asS, asB, asI, asN, obA, lenA, loadA, St.ev, St.step, setS, killS, AV.kill, AV.killL, Mem.kill, AV.cells, AV.flat, AV.single, Nat.reduceAdd, Nat.reduceEqDiff, Nat.reduceLeDiff, Int.reduceAdd, Int.reduceNeg, lenK, Mch.cells, List.drop_zero, List.take_succ_cons, List.take_zero, decide_eq_true h, aget_ints hjl, Int.toNat_natCast]
    refine ⟨by omega, ?_⟩
    obtain ⟨q, hq⟩ : ∃ q, q = ([x] : List Int)[j] := ⟨_, rfl⟩
    rw [← hq]
    by_cases hp : (t.place.length : Int) ≤ q
    · simp only [wB, awp, asN, fillA, putsA, St.ev, St.step, setS, killS, AV.kill, AV.killL, Mem.kill, AV.cells, AV.flat, AV.single, AV.cellular, Value.oneCell', Nat.reduceAdd, Nat.reduceEqDiff, Nat.reduceLeDiff, Int.reduceAdd, Int.reduceNeg, Aw.valOf, Aw.valsOf, cc139, memG, Mch.ob, Mch.od, Mch.cells, rowP, rowC, rowS, stO', decide_eq_true hp]
      have he : erS m.n m.lim m.ls t 2 x 0 0 = 4 := by
        obtain rfl : j = 0 := by omega
        simp only [List.getElem_cons_zero] at hq
        subst hq
        simp only [erS]
        rw [if_pos hp]
      exact ⟨_, _, memG m t, _, Le.refl _, rfl, rfl, rfl, rfl, free_G _ m t, by simp [he, erV, errV], by first | (simp [he]; done) | (simp [he]; rfl)⟩
    · simp only [wB, awp, binC, arithC, cmpC, asI, St.ev, St.step, setS, killS, AV.kill, AV.killL, Mem.kill, AV.cells, Nat.reduceAdd, Nat.reduceEqDiff, Int.reduceAdd, Int.reduceNeg, isU, memG, Mch.ob, Mch.od, Mch.cells, rowP, rowC, rowS, stO', decide_eq_false hp]
      refine ⟨by unfold lim; omega, j + 1, le_sl' ?_ (by simp [leSl]), ⟨by omega, fun i hi hl => ?_⟩, by omega⟩
      · simp only [memG, memS, Mch.ob, Mch.od, Mch.cells, rowP, rowC, rowS, stO', combR, List.cons_append, List.nil_append, Option.map_some, Option.map_none, List.drop_succ_cons, List.drop_zero, prsA_sub, strsA_sub, intsA_sub, gtsA_sub, AV.sub, AV.subL, keepF, keepG, liveI, List.getElem?_cons_succ, List.getElem?_cons_zero, List.getElem?_nil, AV.isO, AV.isQ, List.any_cons, List.any_nil, ghost, gA, List.take_succ_cons, List.take_zero, List.drop_nil, hgh, frmA]
      · rcases Nat.lt_or_ge i j with h1 | h1
        · exact hno i h1 hl
        · obtain rfl : i = j := by omega
          rw [← hq]; omega
  obtain rfl : j = 1 := by omega
  have px : x < t.place.length := by have := hno 0 (by omega) (by simp); simpa using this
  clear hno
  simp only [awp, ACond_false, if_true, decide_false, Int.reduceNeg, Int.reduceLT, e1]
  refine swp_draw (own := [6]) (.take 0 .plain [] (.take 1 .reads [] (.take 2 .plain [] (.take 3 .plain [] (.take 4 .plain [] (.take 5 .plain [] (.take 6 .reads [] (.take 7 .reads [] (.take 8 .reads [] (.take 9 .plain [] (.take 10 .plain [] (.take 11 .plain [] (.take 12 .plain [] (.take 13 .reads [] (.take 14 .plain [] (.take 15 .plain [] (.done))))))))))))))))) [⟨36, 64, 0, 0, true⟩, ⟨37, 34359738368, 1, 0, true⟩, ⟨38, 68719476736, 2, 0, true⟩, ⟨39, 137438953472, 4, 0, true⟩, ⟨40, 274877906952, 8, 0, true⟩, ⟨41, 274877907008, 8, 0, true⟩, ⟨42, 1374389534720, 40, 0, true⟩, ⟨43, 3023656976384, 88, 0, true⟩, ⟨44, 4672924418048, 136, 0, true⟩, ⟨45, 274877906946, 8, 0, true⟩, ⟨46, 17867063951360, 520, 0, true⟩, ⟨47, 35459249995776, 1032, 0, true⟩, ⟨48, 70643622084608, 2056, 0, true⟩, ⟨49, 141012366262272, 4104, 0, true⟩, ⟨50, 290545947639808, 8456, 0, true⟩, ⟨51, 563224831328256, 16392, 0, true⟩] mo (by kernel_rfl) ?_
  simp only [wB, awp, binC, cmpC, asP, asQ, asB, asI, asN, obA, loadA, St.ev, St.step, setS, killS, AV.kill, AV.killL, Mem.kill, AV.cells, AV.flat, AV.single, Nat.reduceAdd, Nat.reduceEqDiff, Nat.reduceLeDiff, Int.reduceAdd, Int.reduceNeg, Int.reduceLE, Int.reduceEq, ASch, St.put, Md.mem, Md.need, Mch.cells, List.drop_succ_cons, List.drop_zero, List.take_succ_cons, List.take_zero, aget_ints g0]
  have hxl : x.toNat < t.heats.length := by rw [hhl]; omega
  have hst : (intsA t.heats)[x.toNat]? = some (I t.heats[x.toNat]) := by simp [intsA, hxl]
  refine swp_draw (own := [6]) (.take 0 .plain [] (.take 1 .plain [] (.take 2 .plain [] (.take 3 .reads [] (.take 4 .plain [] (.take 5 .reads [] (.take 6 .reads [] (.take 7 .reads [] (.alt 8 (.done) (.nil)))))))))) [⟨165, 1, 0, 0, true⟩, ⟨166, 23384026197294446691258957323460528314494920687616, 1, 0, true⟩, ⟨167, 46768052394588893382517914646921056628989841375232, 2, 0, true⟩, ⟨168, 93536104789177786765035829293842113257979682750464, 4, 0, true⟩, ⟨169, 8, 0, 0, true⟩, ⟨170, 374144419156711147060143317175368453031918731001856, 16, 0, true⟩, ⟨171, 748288838313422294120286634350736906063837462003712, 32, 0, true⟩, ⟨172, 1683649886205200161770644927289158038643634289508352, 127, 0, true⟩, ⟨0, 2993155353253689176481146537402947624255349848014848, 255, 1, false⟩] mo (by kernel_rfl) ?_
  simp only [wB, awp, binC, idxC, arithC, cmpC, asP, asQ, asO, asS, asI, asN, obA, loadA, storeA, putsA, St.ev, St.step, setS, killS, AV.kill, AV.killL, Mem.kill, AV.cells, AV.flat, AV.single, AV.cellular, Value.oneCell', Nat.reduceAdd, Nat.reduceEqDiff, Nat.reduceLeDiff, Int.reduceAdd, Int.reduceNeg, Int.reduceLE, ASch, St.put, Md.mem, Md.need, isU, memG, Mch.ob, Mch.od, Mch.cells, rowP, rowC, rowS, stO', List.drop_succ_cons, List.drop_zero, List.take_succ_cons, List.take_zero, List.getElem_cons_zero, aget_ints g0, intsA_set', aget_ints hxl]
  have he : erS m.n m.lim m.ls t 2 x 0 0 = 0 := by simp only [erS]; rw [if_neg (by omega)]
  have hco := hI.co
  refine ⟨⟨hx.1, by omega⟩, by unfold lim; omega, ?_⟩
  exact ⟨_, _, memG m (nxS t 2 x 0 0), _, Le.refl _, rfl, rfl, rfl, rfl, free_G _ m _, by simp [he, erV], by rw [if_pos he]; rfl⟩
end Go.Proofs.YtndniceeibflcaaGreatDoor

namespace Go.Proofs.YtndniceeibflcaaGreatDoor
open Aw Mp Go.RowKit
set_option linter.unusedSimpArgs false
set_option maxRecDepth 8000

theorem m73_7 (m : Mch) (t : MS) {c : Nat} (hI : InvS m.n c t) (hc : c ≤ 1000) (hT : vT m.n m.ls = 0) (hls : m.ls.length ≤ 1000000)  :
    MSpec Tryz.prog 73 [.q 7 6 0 0, .q 0 13 0 0, frmA (7, 0, 0, -1), .s 1 (intsA [])] (memG m t) (fun r N => r = erV (erS m.n m.lim m.ls t 7 0 0 0) ∧ N = memG m (if erS m.n m.lim m.ls t 7 0 0 0 = 0 then nxS t 7 0 0 0 else t)) := by
  refine mspec_of2 (own := [6, 1022, 1033]) Tryz.func73 rfl ok73 ?_
  intro vs
  have hp4 := hI.p4
  have hhl := hI.hl
  have e0 : ((0 : Nat) : Int) = 0 := rfl
  have e1 : ((1 : Nat) : Int) = 1 := rfl
  have e2 : ((2 : Nat) : Int) = 2 := rfl
  have e3 : ((3 : Nat) : Int) = 3 := rfl
  obtain ⟨gh, hgh⟩ : ∃ gh, gh = some (ghost vs [AV.q 7 6 0 0, AV.q 0 13 0 0, frmA (7, 0, 0, -1), AV.s 1 (intsA [])]) := ⟨_, rfl⟩
  simp only [wB, awp, asP, asQ, asS, asN, obA, bndA, lenA, loadA, Aw.newRow, St.ev, St.step, setS, killS, AV.kill, AV.killL, Mem.kill, AV.cells, AV.flat, AV.single, AV.cellular, AV.size, AV.sizeL, Nat.reduceAdd, Nat.reduceEqDiff, Nat.reduceSub, Nat.reduceLeDiff, Int.reduceAdd, Int.reduceSub, Int.reduceNeg, Int.reduceLE, lenK, Tryz.ntmps73, memG, Mch.ob, Mch.od, Mch.cells, rowP, rowC, rowS, stO', List.drop_succ_cons, List.drop_zero, ghost, List.take_succ_cons, List.take_zero, List.drop_nil, e0, frmA, ← hgh]
  refine swp_loop' (fun j : Nat => ⟨[.q 7 6 0 0, .q 0 13 0 0, .bot, .s 1 (intsA []), .bot, .bot, .q 9 4 0 0, .bot, .v .nilIface, .bot, .bot, .bot, .bot, .bot, .bot, .bot, .bot, .bot, .bot, .s 1 (intsA []), I 0, I j, .bot, .bot, .bot, .bot, .bot, .bot, .bot, .bot, .bot, .bot, .bot, .bot, .bot, .bot, .bot, .bot, .bot, .bot, .bot, .bot, .bot, .bot, .bot, .bot, .bot, .bot, .bot, .bot, .bot, .bot, .bot, .bot, .bot, .bot, .bot, .bot, .bot, .bot, .bot, .bot, .bot, .bot, .bot, .bot, .bot, .bot, .bot, .bot, .bot, .bot, .bot, .bot, .bot, .bot, .bot, .bot, .bot, .bot, .bot, .bot, .bot, .bot, .bot, .bot, .bot, .bot, .bot, .bot, .bot, .bot, .bot, .bot, .bot, .bot, .bot, .bot, .bot, .bot, .bot, .bot, .bot, .bot, .bot, .bot, .bot, .bot, .bot, .bot, .bot, .bot, .bot, .bot, .bot, .bot, .bot, .bot, .bot, .bot, .bot, .bot, .bot, .bot, .bot, .bot, .bot, .bot, .bot, .bot, .bot, .bot, .bot, .bot, .bot, .bot, .bot, .bot, .bot, .bot, .bot, .bot, .bot, .bot, .bot, .bot, .bot, .bot, .bot, .bot, .bot, .bot, .bot, .bot, .bot, .bot, .bot, .bot, .bot, .bot, .bot, .bot, .bot, .bot, .bot, .bot, .bot, .bot, .bot, .bot, .bot, .bot, .bot, .bot, .bot, .bot, .bot, .bot, .bot, .bot, .bot, .bot, .bot, .bot, .bot, .bot, .bot, .bot, .bot, .bot, .bot, .bot, .bot, .bot, .bot, .bot, .bot, .bot, .bot, .bot, .bot, .bot, .bot, .bot, .bot, .bot, .bot, .bot, .bot, .bot, .bot, .bot, .bot, .bot, .bot, .bot, .bot, .bot, .bot, .bot, .bot, .bot, .bot, .bot, .bot, .bot, .bot, .bot, .bot, .bot, .bot, .bot, .bot, .bot, .bot, .bot, .bot, .bot, .bot, .bot, .bot, .bot, .bot, .bot, .bot, .bot, .bot, .bot, .bot, .bot, .bot, .bot, .bot, .bot], memG m t ++ [gh, some ⟨none, 112, 4, [frmA (7, 0, 0, -1)]⟩]⟩) (fun j => j ≤ 0 ∧ ∀ i, i < j → ∀ h : i < ([] : List Int).length, ([] : List Int)[i] < t.place.length) (fun j => 0 - j) 0 (le_sl' ?_ ?_) ⟨Nat.zero_le _, fun i h => absurd h (Nat.not_lt_zero _)⟩ ?_
  · simp only [memG, memS, Mch.ob, Mch.od, Mch.cells, rowP, rowC, rowS, stO', combR, List.cons_append, List.nil_append, Option.map_some, Option.map_none, List.drop_succ_cons, List.drop_zero, prsA_sub, strsA_sub, intsA_sub, gtsA_sub, AV.sub, AV.subL, keepF, keepG, liveI, List.getElem?_cons_succ, List.getElem?_cons_zero, List.getElem?_nil, AV.isO, AV.isQ, List.any_cons, List.any_nil, ghost, gA, List.take_succ_cons, List.take_zero, List.drop_nil, hgh, frmA]
  · simp [leSl, intsA]
  rintro j ⟨hj, hno⟩
  refine awp_sound (own := [6, 1022, 1033]) _ _ _ _ _ ?_
  simp only [wB, awp, binC, cmpC, asB, asI, St.ev, St.step, setS, killS, AV.kill, AV.killL, Mem.kill, AV.cells, Nat.reduceAdd, Nat.reduceEqDiff, Int.reduceAdd, Int.reduceNeg, memG, Mch.ob, Mch.od, Mch.cells, rowP, rowC, rowS, stO', ghost, hgh, frmA]
  by_cases h : (j : Int) < 0
  case pos =>
    omega
  obtain rfl : j = 0 := by omega
  clear hno
  simp only [awp, ACond_false, if_true, decide_false, Int.reduceNeg, Int.reduceLT, e0]
  refine swp_draw (own := [6]) (.take 0 .plain [] (.take 1 .reads [] (.take 2 .plain [] (.take 3 .plain [] (.take 4 .plain [] (.take 5 .plain [] (.take 6 .reads [] (.take 7 .reads [] (.take 8 .reads [] (.take 9 .plain [] (.take 10 .plain [] (.take 11 .plain [] (.take 12 .plain [] (.take 13 .reads [] (.take 14 .plain [] (.take 15 .plain [] (.done))))))))))))))))) [⟨36, 64, 0, 0, true⟩, ⟨37, 34359738368, 1, 0, true⟩, ⟨38, 68719476736, 2, 0, true⟩, ⟨39, 137438953472, 4, 0, true⟩, ⟨40, 274877906952, 8, 0, true⟩, ⟨41, 274877907008, 8, 0, true⟩, ⟨42, 1374389534720, 40, 0, true⟩, ⟨43, 3023656976384, 88, 0, true⟩, ⟨44, 4672924418048, 136, 0, true⟩, ⟨45, 274877906946, 8, 0, true⟩, ⟨46, 17867063951360, 520, 0, true⟩, ⟨47, 35459249995776, 1032, 0, true⟩, ⟨48, 70643622084608, 2056, 0, true⟩, ⟨49, 141012366262272, 4104, 0, true⟩, ⟨50, 290545947639808, 8456, 0, true⟩, ⟨51, 563224831328256, 16392, 0, true⟩] mo (by kernel_rfl) ?_
  simp only [wB, awp, binC, cmpC, asP, asQ, asB, asI, asN, obA, lenA, loadA, St.ev, St.step, setS, killS, AV.kill, AV.killL, Mem.kill, AV.cells, AV.flat, AV.single, Nat.reduceAdd, Nat.reduceEqDiff, Nat.reduceLeDiff, Int.reduceAdd, Int.reduceNeg, Int.reduceLE, Int.reduceEq, ASch, St.put, Md.mem, Md.need, lenK, Mch.cells, List.drop_succ_cons, List.drop_zero, List.take_succ_cons, List.take_zero]
  by_cases hc0 : (t.circ.length : Int) = 0
  · simp only [wB, awp, asN, fillA, putsA, St.ev, St.step, setS, killS, AV.kill, AV.killL, Mem.kill, AV.cells, AV.flat, AV.single, AV.cellular, Value.oneCell', Nat.reduceAdd, Nat.reduceEqDiff, Nat.reduceLeDiff, Int.reduceAdd, Int.reduceNeg, Aw.valOf, Aw.valsOf, cc139, memG, Mch.ob, Mch.od, Mch.cells, rowP, rowC, rowS, stO', gtsA_len, decide_eq_true hc0]
    have he : erS m.n m.lim m.ls t 7 0 0 0 = 9 := by simp only [erS]; rw [if_pos (List.eq_nil_of_length_eq_zero (by omega))]
    exact ⟨_, _, memG m t, _, Le.refl _, rfl, rfl, rfl, rfl, free_G _ m t, by simp [he, erV, errV], by first | (simp [he]; done) | (simp [he]; rfl)⟩
  · simp only [wB, awp, asP, asQ, asN, obA, storeA, putsA, St.ev, St.step, setS, killS, AV.kill, AV.killL, Mem.kill, AV.cells, AV.flat, AV.single, AV.cellular, Value.oneCell', Nat.reduceAdd, Nat.reduceEqDiff, Nat.reduceLeDiff, Int.reduceAdd, Int.reduceNeg, memG, Mch.ob, Mch.od, Mch.cells, rowP, rowC, rowS, stO', gtsA_len, decide_eq_false hc0]
    have he : erS m.n m.lim m.ls t 7 0 0 0 = 0 := by simp only [erS]; rw [if_neg (fun h => hc0 (by rw [h]; rfl))]
    refine ⟨_, .v .nilIface, memG m (nxS t 7 0 0 0), [], Le.trans (le_nil 7 0 2 81 4 rfl rfl rfl rfl) (le_ren [0, 1, 2, 3, 4, 5, 10, 7, 8] (by decide)), rfl, ?_, rfl, rfl, free_G _ m _, by simp [he, erV], by rw [if_pos he]; rfl⟩
    simp only [hgh, ghost]
    simp [reM, reF, reG, memG, Mch.ob, Mch.od, Mch.cells, rowP, rowC, rowS, stO', AV.sub, AV.subL, intsA_sub, gtsA_sub, prsA_sub, strsA_sub, nxS, frmA, List.idxOf?, List.findIdx?, List.findIdx?.go, ghost]
    rfl
end Go.Proofs.YtndniceeibflcaaGreatDoor

namespace Go.Proofs.YtndniceeibflcaaGreatDoor
open Aw Mp Go.RowKit
set_option linter.unusedSimpArgs false
set_option maxRecDepth 8000

theorem m73_3 (m : Mch) (t : MS) {c : Nat} (hI : InvS m.n c t) (hc : c ≤ 1000) (hT : vT m.n m.ls = 0) (hls : m.ls.length ≤ 1000000) (x : Int) (hx : 0 ≤ x ∧ x ≤ 99) :
    MSpec Tryz.prog 73 [.q 7 6 0 0, .q 0 13 0 0, frmA (3, 1, 0, -1), .s 1 (intsA [x])] (memG m t) (fun r N => r = erV (erS m.n m.lim m.ls t 3 x 0 0) ∧ N = memG m (if erS m.n m.lim m.ls t 3 x 0 0 = 0 then nxS t 3 x 0 0 else t)) := by
  refine mspec_of2 (own := [6, 1022, 1033]) Tryz.func73 rfl ok73 ?_
  intro vs
  have hp4 := hI.p4
  have hhl := hI.hl
  have e0 : ((0 : Nat) : Int) = 0 := rfl
  have e1 : ((1 : Nat) : Int) = 1 := rfl
  have e2 : ((2 : Nat) : Int) = 2 := rfl
  have e3 : ((3 : Nat) : Int) = 3 := rfl
  have g0 : 0 < [x].length := by simp
  obtain ⟨gh, hgh⟩ : ∃ gh, gh = some (ghost vs [AV.q 7 6 0 0, AV.q 0 13 0 0, frmA (3, 1, 0, -1), AV.s 1 (intsA [x])]) := ⟨_, rfl⟩
  simp only [wB, awp, asP, asQ, asS, asN, obA, bndA, lenA, loadA, Aw.newRow, St.ev, St.step, setS, killS, AV.kill, AV.killL, Mem.kill, AV.cells, AV.flat, AV.single, AV.cellular, AV.size, AV.sizeL, Nat.reduceAdd, Nat.reduceEqDiff, Nat.reduceSub, Nat.reduceLeDiff, Int.reduceAdd, Int.reduceSub, Int.reduceNeg, Int.reduceLE, lenK, Tryz.ntmps73, memG, Mch.ob, Mch.od, Mch.cells, rowP, rowC, rowS, stO', List.drop_succ_cons, List.drop_zero, ghost, List.take_succ_cons, List.take_zero, List.drop_nil, e0, e1, frmA, ← hgh]
  refine swp_loop' (fun j : Nat => ⟨[.q 7 6 0 0, .q 0 13 0 0, .bot, .s 1 (intsA [x]), .bot, .bot, .q 9 4 0 0, .bot, .v .nilIface, .bot, .bot, .bot, .bot, .bot, .bot, .bot, .bot, .bot, .bot, .s 1 (intsA []), I 0, I j, .bot, .bot, .bot, .bot, .bot, .bot, .bot, .bot, .bot, .bot, .bot, .bot, .bot, .bot, .bot, .bot, .bot, .bot, .bot, .bot, .bot, .bot, .bot, .bot, .bot, .bot, .bot, .bot, .bot, .bot, .bot, .bot, .bot, .bot, .bot, .bot, .bot, .bot, .bot, .bot, .bot, .bot, .bot, .bot, .bot, .bot, .bot, .bot, .bot, .bot, .bot, .bot, .bot, .bot, .bot, .bot, .bot, .bot, .bot, .bot, .bot, .bot, .bot, .bot, .bot, .bot, .bot, .bot, .bot, .bot, .bot, .bot, .bot, .bot, .bot, .bot, .bot, .bot, .bot, .bot, .bot, .bot, .bot, .bot, .bot, .bot, .bot, .bot, .bot, .bot, .bot, .bot, .bot, .bot, .bot, .bot, .bot, .bot, .bot, .bot, .bot, .bot, .bot, .bot, .bot, .bot, .bot, .bot, .bot, .bot, .bot, .bot, .bot, .bot, .bot, .bot, .bot, .bot, .bot, .bot, .bot, .bot, .bot, .bot, .bot, .bot, .bot, .bot, .bot, .bot, .bot, .bot, .bot, .bot, .bot, .bot, .bot, .bot, .bot, .bot, .bot, .bot, .bot, .bot, .bot, .bot, .bot, .bot, .bot, .bot, .bot, .bot, .bot, .bot, .bot, .bot, .bot, .bot, .bot, .bot, .bot, .bot, .bot, .bot, .bot, .bot, .bot, .bot, .bot, .bot, .bot, .bot, .bot, .bot, .bot, .bot, .bot, .bot, .bot, .bot, .bot, .bot, .bot, .bot, .bot, .bot, .bot, .bot, .bot, .bot, .bot, .bot, .bot, .bot, .bot, .bot, .bot, .bot, .bot, .bot, .bot, .bot, .bot, .bot, .bot, .bot, .bot, .bot, .bot, .bot, .bot, .bot, .bot, .bot, .bot, .bot, .bot, .bot, .bot, .bot, .bot, .bot, .bot, .bot, .bot, .bot, .bot, .bot, .bot, .bot, .bot, .bot], memG m t ++ [gh, some ⟨none, 112, 4, [frmA (3, 1, 0, -1)]⟩]⟩) (fun j => j ≤ 0 ∧ ∀ i, i < j → ∀ h : i < ([] : List Int).length, ([] : List Int)[i] < t.place.length) (fun j => 0 - j) 0 (le_sl' ?_ ?_) ⟨Nat.zero_le _, fun i h => absurd h (Nat.not_lt_zero _)⟩ ?_
  · simp only [memG, memS, Mch.ob, Mch.od, Mch.cells, rowP, rowC, rowS, stO', combR, List.cons_append, List.nil_append, Option.map_some, Option.map_none, List.drop_succ_cons, List.drop_zero, prsA_sub, strsA_sub, intsA_sub, gtsA_sub, AV.sub, AV.subL, keepF, keepG, liveI, List.getElem?_cons_succ, List.getElem?_cons_zero, List.getElem?_nil, AV.isO, AV.isQ, List.any_cons, List.any_nil, ghost, gA, List.take_succ_cons, List.take_zero, List.drop_nil, hgh, frmA]
  · simp [leSl, intsA]
  rintro j ⟨hj, hno⟩
  refine awp_sound (own := [6, 1022, 1033]) _ _ _ _ _ ?_
  simp only [wB, awp, binC, cmpC, asB, asI, St.ev, St.step, setS, killS, AV.kill, AV.killL, Mem.kill, AV.cells, Nat.reduceAdd, Nat.reduceEqDiff, Int.reduceAdd, Int.reduceNeg, memG, Mch.ob, Mch.od, Mch.cells, rowP, rowC, rowS, stO', ghost, hgh, frmA]
  by_cases h : (j : Int) < 0
  case pos =>
    omega
  obtain rfl : j = 0 := by omega
  clear hno
  simp only [awp, ACond_false, if_true, decide_false, Int.reduceNeg, Int.reduceLT, e0]
  refine swp_draw (own := [6]) (.take 0 .plain [] (.take 1 .reads [] (.take 2 .plain [] (.take 3 .plain [] (.take 4 .plain [] (.take 5 .plain [] (.take 6 .reads [] (.take 7 .reads [] (.take 8 .reads [] (.take 9 .plain [] (.take 10 .plain [] (.take 11 .plain [] (.take 12 .plain [] (.take 13 .reads [] (.take 14 .plain [] (.take 15 .plain [] (.done))))))))))))))))) [⟨36, 64, 0, 0, true⟩, ⟨37, 34359738368, 1, 0, true⟩, ⟨38, 68719476736, 2, 0, true⟩, ⟨39, 137438953472, 4, 0, true⟩, ⟨40, 274877906952, 8, 0, true⟩, ⟨41, 274877907008, 8, 0, true⟩, ⟨42, 1374389534720, 40, 0, true⟩, ⟨43, 3023656976384, 88, 0, true⟩, ⟨44, 4672924418048, 136, 0, true⟩, ⟨45, 274877906946, 8, 0, true⟩, ⟨46, 17867063951360, 520, 0, true⟩, ⟨47, 35459249995776, 1032, 0, true⟩, ⟨48, 70643622084608, 2056, 0, true⟩, ⟨49, 141012366262272, 4104, 0, true⟩, ⟨50, 290545947639808, 8456, 0, true⟩, ⟨51, 563224831328256, 16392, 0, true⟩] mo (by kernel_rfl) ?_
  simp only [wB, awp, binC, idxC, cmpC, asP, asQ, asS, asB, asI, asN, obA, loadA, St.ev, St.step, setS, killS, AV.kill, AV.killL, Mem.kill, AV.cells, AV.flat, AV.single, Nat.reduceAdd, Nat.reduceEqDiff, Nat.reduceLeDiff, Int.reduceAdd, Int.reduceNeg, Int.reduceLE, Int.reduceEq, ASch, St.put, Md.mem, Md.need, Mch.cells, List.drop_succ_cons, List.drop_zero, List.take_succ_cons, List.take_zero, List.getElem_cons_zero, aget_ints g0]
  by_cases hx0 : x = 0
  · simp only [wB, awp, asN, fillA, putsA, St.ev, St.step, setS, killS, AV.kill, AV.killL, Mem.kill, AV.cells, AV.flat, AV.single, AV.cellular, Value.oneCell', Nat.reduceAdd, Nat.reduceEqDiff, Nat.reduceLeDiff, Int.reduceAdd, Int.reduceNeg, Aw.valOf, Aw.valsOf, cc139, memG, Mch.ob, Mch.od, Mch.cells, rowP, rowC, rowS, stO', aget_ints g0, decide_eq_true hx0]
    have he : erS m.n m.lim m.ls t 3 x 0 0 = 1 := by simp only [erS]; rw [if_pos hx0]
    exact ⟨_, _, memG m t, _, Le.refl _, rfl, rfl, rfl, rfl, free_G _ m t, by simp [he, erV, errV], by first | (simp [he]; done) | (simp [he]; rfl)⟩
  simp only [wB, awp, asP, asQ, obA, lenA, loadA, St.ev, St.step, setS, killS, AV.kill, AV.killL, Mem.kill, AV.cells, AV.flat, AV.single, Nat.reduceAdd, Nat.reduceEqDiff, Nat.reduceLeDiff, Int.reduceAdd, Int.reduceNeg, lenK, Mch.cells, List.drop_succ_cons, List.drop_zero, List.take_succ_cons, List.take_zero, aget_ints g0, decide_eq_false hx0]
  have he : erS m.n m.lim m.ls t 3 x 0 0 = 0 := by simp only [erS]; rw [if_neg hx0]
  refine swp_loop' (fun j : Nat => ⟨[.q 7 6 0 0, .bot, .bot, .s 1 (intsA [x]), .bot, .bot, .bot, .bot, .v .nilIface, .bot, .bot, .bot, .bot, .bot, .bot, .bot, .bot, .bot, .bot, .bot, .bot, .bot, .bot, .bot, .bot, .bot, .bot, .bot, .bot, .bot, .bot, .bot, .bot, .bot, .bot, .bot, .bot, .bot, .bot, .bot, .bot, .bot, .bot, .bot, .bot, .bot, .bot, .bot, .bot, .bot, .bot, .bot, .bot, .bot, .bot, .bot, .bot, .bot, .bot, .bot, .bot, .bot, .bot, .bot, .bot, .bot, .bot, .bot, .bot, .bot, .bot, .bot, .bot, .bot, .bot, .bot, .bot, .bot, .bot, .bot, .bot, .bot, .bot, .bot, .bot, .bot, .bot, .bot, .bot, .bot, .bot, .bot, .bot, .bot, .bot, .bot, .bot, .bot, .bot, .bot, .bot, .bot, .bot, .bot, .bot, .bot, .bot, .bot, .bot, .bot, .bot, .bot, .bot, .bot, .bot, .bot, .bot, .bot, .bot, .bot, .bot, .bot, .bot, .bot, .bot, .bot, .bot, .bot, .bot, .bot, .bot, .bot, .bot, .bot, .bot, .bot, .bot, .bot, .bot, .bot, .bot, .bot, .bot, .bot, .bot, .bot, .bot, .bot, .bot, .bot, .bot, .bot, .bot, .bot, .bot, .bot, .bot, .bot, .bot, .bot, .bot, .bot, .bot, .bot, .bot, .bot, .bot, .bot, .bot, .bot, .bot, .bot, .bot, .bot, .bot, .bot, .bot, .bot, .bot, .bot, .bot, .bot, .bot, .bot, .bot, .bot, .bot, .bot, .bot, .bot, .bot, I t.heats.length, I j, .bot, .bot, .bot, .bot, .bot, .bot, .bot, .bot, .bot, .bot, .bot, .bot, .bot, .bot, .bot, .bot, .bot, .bot, .bot, .bot, .bot, .bot, .bot, .bot, .bot, .bot, .bot, .bot, .bot, .bot, .bot, .bot, .bot, .bot, .bot, .bot, .bot, .bot, .bot, .bot, .bot, .bot, .bot, .bot, .bot, .bot, .bot, .bot, .bot, .bot, .bot, .bot, .bot, .bot, .bot, .bot, .bot, .bot, .bot, .bot, .bot], memG m ({ t with heats := warmL t.heats x j }) ++ [gh, some ⟨none, 112, 4, [frmA (3, 1, 0, -1)]⟩]⟩) (fun j => j ≤ t.heats.length) (fun j => t.heats.length - j) 0 (le_sl' ?_ ?_) (Nat.zero_le _) ?_
  · simp only [memG, memS, Mch.ob, Mch.od, Mch.cells, rowP, rowC, rowS, stO', combR, List.cons_append, List.nil_append, Option.map_some, Option.map_none, List.drop_succ_cons, List.drop_zero, prsA_sub, strsA_sub, intsA_sub, gtsA_sub, AV.sub, AV.subL, keepF, keepG, liveI, List.getElem?_cons_succ, List.getElem?_cons_zero, List.getElem?_nil, AV.isO, AV.isQ, List.any_cons, List.any_nil, ghost, gA, List.take_succ_cons, List.take_zero, List.drop_nil, hgh, frmA, warmL, List.take_zero, List.map_nil, List.nil_append, List.drop_zero]
  · simp [leSl]
  intro j hj
  refine awp_sound (own := [6, 1022, 1033]) _ _ _ _ _ ?_
  simp only [wB, awp, binC, cmpC, asB, asI, St.ev, St.step, setS, killS, AV.kill, AV.killL, Mem.kill, AV.cells, Nat.reduceAdd, Nat.reduceEqDiff, Int.reduceAdd, Int.reduceNeg, memG, Mch.ob, Mch.od, Mch.cells, rowP, rowC, rowS, stO', ghost, hgh, frmA]
  by_cases h : j < t.heats.length
  case neg =>
    have h' : ¬ (j : Int) < (t.heats.length : Int) := by omega
    simp only [wB, awp, asN, St.ev, St.step, setS, killS, AV.kill, AV.killL, Mem.kill, AV.cells, Nat.reduceAdd, Nat.reduceEqDiff, Int.reduceAdd, Int.reduceNeg, memG, Mch.ob, Mch.od, Mch.cells, rowP, rowC, rowS, stO', decide_eq_false h']
    have hw : warmL t.heats x j = t.heats.map fun h => min (h + x) 1000 := by
      unfold warmL
      rw [List.take_of_length_le (by omega), List.drop_eq_nil_of_le (by omega), List.append_nil]
    rw [hw]
    exact ⟨_, _, memG m (nxS t 3 x 0 0), _, Le.refl _, rfl, rfl, rfl, rfl, free_G _ m _, by simp [he, erV], by rw [if_pos he]; rfl⟩
  have h' : (j : Int) < (t.heats.length : Int) := by omega
  simp only [wB, awp, asN, St.ev, St.step, setS, killS, AV.kill, AV.killL, Mem.kill, Nat.reduceAdd, Nat.reduceEqDiff, Int.reduceAdd, Int.reduceNeg, decide_eq_true h']
  refine swp_fm (own := [6]) 5 rfl rfl rfl ?_
  simp only [wB, idxC, asP, asS, asI, loadA, St.ev, St.step, setS, killS, AV.kill, AV.killL, Mem.kill, AV.cells, AV.flat, AV.single, Int.reduceNeg, Int.reduceLE, Mch.cells, List.take_succ_cons, List.take_zero, List.getElem_cons_zero, aget_ints g0]
  refine acall_f (fspec_of (m104 { t with heats := warmL t.heats x j } j (by simp only [warmL_len]; exact h) x (by omega) (warmL_in hI.hin hx.1 j)) [0, 1, 2, 3, 8, 9] rfl (by exact ⟨rfl, rfl, rfl, rfl, trivial⟩) rfl rfl (free_S _ _ (by decide)) (N := memG m ({ t with heats := warmL t.heats x (j + 1) }) ++ [gh, some ⟨none, 112, 4, [frmA (3, 1, 0, -1)]⟩]) ?_) ?_
  · simp only [memG, memS, Mch.ob, Mch.od, Mch.cells, rowP, rowC, rowS, stO', combR, List.cons_append, List.nil_append, Option.map_some, Option.map_none, List.drop_succ_cons, List.drop_zero, prsA_sub, strsA_sub, intsA_sub, gtsA_sub, AV.sub, AV.subL, keepF, keepG, liveI, List.getElem?_cons_succ, List.getElem?_cons_zero, List.getElem?_nil, AV.isO, AV.isQ, List.any_cons, List.any_nil, ghost, gA, List.take_succ_cons, List.take_zero, List.drop_nil, hgh, frmA, warmL_bump h]
    rfl
  · simp only [wB, awp, binC, arithC, cmpC, asI, St.ev, St.step, setS, killS, AV.kill, AV.killL, Mem.kill, AV.cells, Nat.reduceAdd, Nat.reduceEqDiff, Int.reduceAdd, Int.reduceNeg, isU, memG, memS, Mch.ob, Mch.od, Mch.cells, rowP, rowC, rowS, stO', List.drop_succ_cons, AV.sub, keepG, liveI, AV.isQ, List.any_cons, List.any_nil, ghost, List.drop_nil, hgh, frmA]
    refine ⟨by unfold lim; omega, j + 1, le_sl' ?_ (by simp [leSl]), h, by omega⟩
    simp only [memG, memS, Mch.ob, Mch.od, Mch.cells, rowP, rowC, rowS, stO', combR, List.cons_append, List.nil_append, Option.map_some, Option.map_none, List.drop_succ_cons, List.drop_zero, prsA_sub, strsA_sub, intsA_sub, gtsA_sub, AV.sub, AV.subL, keepF, keepG, liveI, List.getElem?_cons_succ, List.getElem?_cons_zero, List.getElem?_nil, AV.isO, AV.isQ, List.any_cons, List.any_nil, ghost, gA, List.take_succ_cons, List.take_zero, List.drop_nil, hgh, frmA]
end Go.Proofs.YtndniceeibflcaaGreatDoor

namespace Go.Proofs.YtndniceeibflcaaGreatDoor
open Aw Mp Go.RowKit
set_option linter.unusedSimpArgs false
set_option maxRecDepth 8000

theorem m73_0 (m : Mch) (t : MS) {c : Nat} (hI : InvS m.n c t) (hc : c ≤ 1000) (hT : vT m.n m.ls = 0) (hls : m.ls.length ≤ 1000000) (x : Int) (hx : 0 ≤ x ∧ x ≤ 99) :
    MSpec Tryz.prog 73 [.q 7 6 0 0, .q 0 13 0 0, frmA (0, 1, 0, 0), .s 1 (intsA [x])] (memG m t) (fun r N => r = erV (erS m.n m.lim m.ls t 0 x 0 0) ∧ N = memG m (if erS m.n m.lim m.ls t 0 x 0 0 = 0 then nxS t 0 x 0 0 else t)) := by
  refine mspec_of2 (own := [6, 1022, 1033]) Tryz.func73 rfl ok73 ?_
  intro vs
  have hp4 := hI.p4
  have hhl := hI.hl
  have e0 : ((0 : Nat) : Int) = 0 := rfl
  have e1 : ((1 : Nat) : Int) = 1 := rfl
  have e2 : ((2 : Nat) : Int) = 2 := rfl
  have e3 : ((3 : Nat) : Int) = 3 := rfl
  have g0 : 0 < [x].length := by simp
  obtain ⟨gh, hgh⟩ : ∃ gh, gh = some (ghost vs [AV.q 7 6 0 0, AV.q 0 13 0 0, frmA (0, 1, 0, 0), AV.s 1 (intsA [x])]) := ⟨_, rfl⟩
  simp only [wB, awp, asP, asQ, asS, asN, obA, bndA, lenA, loadA, Aw.newRow, St.ev, St.step, setS, killS, AV.kill, AV.killL, Mem.kill, AV.cells, AV.flat, AV.single, AV.cellular, AV.size, AV.sizeL, Nat.reduceAdd, Nat.reduceEqDiff, Nat.reduceSub, Nat.reduceLeDiff, Int.reduceAdd, Int.reduceSub, Int.reduceLE, lenK, Tryz.ntmps73, memG, Mch.ob, Mch.od, Mch.cells, rowP, rowC, rowS, stO', List.drop_succ_cons, List.drop_zero, ghost, List.take_succ_cons, List.take_zero, List.drop_nil, e0, e1, frmA, ← hgh]
  refine swp_loop' (fun j : Nat => ⟨[.q 7 6 0 0, .q 0 13 0 0, .bot, .s 1 (intsA [x]), .bot, .bot, .q 9 4 0 0, .bot, .v .nilIface, .bot, .bot, .bot, .bot, .bot, .bot, .bot, .bot, .bot, .bot, .s 1 (intsA []), I 0, I j, .bot, .bot, .bot, .bot, .bot, .bot, .bot, .bot, .bot, .bot, .bot, .bot, .bot, .bot, .bot, .bot, .bot, .bot, .bot, .bot, .bot, .bot, .bot, .bot, .bot, .bot, .bot, .bot, .bot, .bot, .bot, .bot, .bot, .bot, .bot, .bot, .bot, .bot, .bot, .bot, .bot, .bot, .bot, .bot, .bot, .bot, .bot, .bot, .bot, .bot, .bot, .bot, .bot, .bot, .bot, .bot, .bot, .bot, .bot, .bot, .bot, .bot, .bot, .bot, .bot, .bot, .bot, .bot, .bot, .bot, .bot, .bot, .bot, .bot, .bot, .bot, .bot, .bot, .bot, .bot, .bot, .bot, .bot, .bot, .bot, .bot, .bot, .bot, .bot, .bot, .bot, .bot, .bot, .bot, .bot, .bot, .bot, .bot, .bot, .bot, .bot, .bot, .bot, .bot, .bot, .bot, .bot, .bot, .bot, .bot, .bot, .bot, .bot, .bot, .bot, .bot, .bot, .bot, .bot, .bot, .bot, .bot, .bot, .bot, .bot, .bot, .bot, .bot, .bot, .bot, .bot, .bot, .bot, .bot, .bot, .bot, .bot, .bot, .bot, .bot, .bot, .bot, .bot, .bot, .bot, .bot, .bot, .bot, .bot, .bot, .bot, .bot, .bot, .bot, .bot, .bot, .bot, .bot, .bot, .bot, .bot, .bot, .bot, .bot, .bot, .bot, .bot, .bot, .bot, .bot, .bot, .bot, .bot, .bot, .bot, .bot, .bot, .bot, .bot, .bot, .bot, .bot, .bot, .bot, .bot, .bot, .bot, .bot, .bot, .bot, .bot, .bot, .bot, .bot, .bot, .bot, .bot, .bot, .bot, .bot, .bot, .bot, .bot, .bot, .bot, .bot, .bot, .bot, .bot, .bot, .bot, .bot, .bot, .bot, .bot, .bot, .bot, .bot, .bot, .bot, .bot, .bot, .bot, .bot, .bot, .bot, .bot, .bot, .bot, .bot, .bot, .bot], memG m t ++ [gh, some ⟨none, 112, 4, [frmA (0, 1, 0, 0)]⟩]⟩) (fun j => j ≤ 0 ∧ ∀ i, i < j → ∀ h : i < ([] : List Int).length, ([] : List Int)[i] < t.place.length) (fun j => 0 - j) 0 (le_sl' ?_ ?_) ⟨Nat.zero_le _, fun i h => absurd h (Nat.not_lt_zero _)⟩ ?_
  · simp only [memG, memS, Mch.ob, Mch.od, Mch.cells, rowP, rowC, rowS, stO', combR, List.cons_append, List.nil_append, Option.map_some, Option.map_none, List.drop_succ_cons, List.drop_zero, prsA_sub, strsA_sub, intsA_sub, gtsA_sub, AV.sub, AV.subL, keepF, keepG, liveI, List.getElem?_cons_succ, List.getElem?_cons_zero, List.getElem?_nil, AV.isO, AV.isQ, List.any_cons, List.any_nil, ghost, gA, List.take_succ_cons, List.take_zero, List.drop_nil, hgh, frmA]
  · simp [leSl, intsA]
  rintro j ⟨hj, hno⟩
  refine awp_sound (own := [6, 1022, 1033]) _ _ _ _ _ ?_
  simp only [wB, awp, binC, cmpC, asB, asI, St.ev, St.step, setS, killS, AV.kill, AV.killL, Mem.kill, AV.cells, Nat.reduceAdd, Nat.reduceEqDiff, Int.reduceAdd, memG, Mch.ob, Mch.od, Mch.cells, rowP, rowC, rowS, stO', ghost, hgh, frmA]
  by_cases h : (j : Int) < 0
  case pos =>
    omega
  obtain rfl : j = 0 := by omega
  clear hno
  simp only [awp, ACond_false, if_true, decide_false, Int.reduceLT, e0]
  refine swp_draw (own := [6]) (.take 0 .plain [] (.take 1 .reads [] (.take 2 .plain [] (.take 3 .plain [] (.take 4 .plain [] (.take 5 .plain [] (.take 6 .reads [] (.take 7 .reads [] (.take 8 .reads [] (.take 9 .plain [] (.take 10 .plain [] (.take 11 .plain [] (.take 12 .plain [] (.take 13 .reads [] (.take 14 .plain [] (.take 15 .plain [] (.done))))))))))))))))) [⟨36, 64, 0, 0, true⟩, ⟨37, 34359738368, 1, 0, true⟩, ⟨38, 68719476736, 2, 0, true⟩, ⟨39, 137438953472, 4, 0, true⟩, ⟨40, 274877906952, 8, 0, true⟩, ⟨41, 274877907008, 8, 0, true⟩, ⟨42, 1374389534720, 40, 0, true⟩, ⟨43, 3023656976384, 88, 0, true⟩, ⟨44, 4672924418048, 136, 0, true⟩, ⟨45, 274877906946, 8, 0, true⟩, ⟨46, 17867063951360, 520, 0, true⟩, ⟨47, 35459249995776, 1032, 0, true⟩, ⟨48, 70643622084608, 2056, 0, true⟩, ⟨49, 141012366262272, 4104, 0, true⟩, ⟨50, 290545947639808, 8456, 0, true⟩, ⟨51, 563224831328256, 16392, 0, true⟩] mo (by kernel_rfl) ?_
  simp only [wB, awp, binC, idxC, cmpC, asP, asQ, asS, asB, asI, obA, loadA, St.ev, setS, AV.cells, AV.flat, AV.single, Nat.reduceAdd, Nat.reduceEqDiff, Nat.reduceLeDiff, Int.reduceAdd, Int.reduceLE, ASch, St.put, Md.mem, Md.need, Mch.cells, List.drop_succ_cons, List.drop_zero, List.take_succ_cons, List.take_zero, List.getElem_cons_zero, aget_ints g0]
  by_cases hz : m.n ≤ x
  · simp only [wB, awp, asN, fillA, putsA, St.ev, St.step, setS, killS, AV.kill, AV.killL, Mem.kill, AV.cells, AV.flat, AV.single, AV.cellular, Value.oneCell', Nat.reduceAdd, Nat.reduceEqDiff, Nat.reduceLeDiff, Int.reduceAdd, St.put, Aw.valOf, Aw.valsOf, cc139, memG, Mch.ob, Mch.od, Mch.cells, rowP, rowC, rowS, stO', decide_eq_true hz]
    have he : erS m.n m.lim m.ls t 0 x 0 0 = 4 := by simp only [erS]; rw [if_pos hz]
    exact ⟨_, _, memG m t, _, Le.refl _, rfl, rfl, rfl, rfl, free_G _ m t, by simp [he, erV, errV], by first | (simp [he]; done) | (simp [he]; rfl)⟩
  simp only [wB, awp, binC, cmpC, asP, asQ, asB, asI, asN, obA, loadA, St.ev, St.step, setS, killS, AV.kill, AV.killL, Mem.kill, AV.cells, AV.flat, AV.single, Nat.reduceAdd, Nat.reduceEqDiff, Nat.reduceLeDiff, Int.reduceAdd, St.put, Mch.cells, List.drop_zero, List.take_succ_cons, List.take_zero, decide_eq_false hz]
  refine swp_draw (own := [6]) (.take 0 .plain [] (.take 1 .plain [] (.take 2 .plain [] (.take 3 .reads [] (.take 4 .reads [] (.take 5 .plain [] (.take 6 .plain [] (.take 7 .plain [] (.take 8 .plain [] (.take 9 .plain [] (.take 10 .reads [] (.take 11 .plain [] (.take 12 .reads [] (.take 13 .reads [] (.alt 14 (.take 15 .plain [] (.take 16 .plain [] (.alt 17 (.take 18 .plain [] (.done)) (.nil)))) (.nil)))))))))))))))) [⟨58, 1, 0, 0, true⟩, ⟨59, 144115188075855872, 1, 0, true⟩, ⟨60, 288230376151711744, 2, 0, true⟩, ⟨61, 576460752303423488, 4, 0, true⟩, ⟨62, 1152921504606846976, 8, 0, true⟩, ⟨63, 2305843009213693952, 16, 0, true⟩, ⟨64, 4611686018427387904, 32, 0, true⟩, ⟨65, 1, 0, 0, true⟩, ⟨66, 18446744073709551616, 128, 0, true⟩, ⟨67, 36893488147419103232, 256, 0, true⟩, ⟨68, 73786976294838206464, 512, 0, true⟩, ⟨69, 8, 0, 0, true⟩, ⟨70, 295147905179352825856, 2048, 0, true⟩, ⟨71, 590295810358705651712, 4096, 0, true⟩, ⟨72, 1328165573307087716352, 9216, 0, false⟩, ⟨73, 2361183241434822606848, 16384, 0, true⟩, ⟨74, 4731589854906499989504, 32832, 0, true⟩, ⟨75, 9444732965739290427392, 81920, 0, false⟩, ⟨12, 18889465931478580854784, 262143, 0, true⟩] mo (by kernel_rfl) ?_
  simp only [wB, binC, idxC, cmpC, asP, asQ, asS, asI, obA, lenA, loadA, fillA, putsA, St.ev, setS, AV.cells, AV.flat, AV.single, AV.cellular, Value.oneCell', Nat.reduceAdd, Nat.reduceEqDiff, Nat.reduceLeDiff, Int.reduceAdd, Int.reduceLE, ASch, St.put, Md.mem, Md.need, lenK, Mch.cells, List.drop_zero, List.take_succ_cons, List.take_zero, List.getElem_cons_zero, aget_ints g0]
  refine acall_ln 0 (s102 t.place x (by omega)) (by simp [frzN, frz, AV.sub, intsA_pure]) rfl rfl ?_
  simp only [wB, fillA, putsA, St.ev, St.step, setS, killS, AV.kill, AV.killL, Mem.kill, AV.cells, AV.flat, AV.single, AV.cellular, AV.size, AV.sizeL, AV.pure, AV.pureL, Value.oneCell', Nat.reduceAdd, Nat.reduceEqDiff, Nat.reduceMul, Nat.reduceLeDiff, Int.reduceAdd, Int.reduceMul, ASch, St.put, Md.mem, Md.need, Mch.cells, aget_ints g0]
  refine ⟨⟨by decide, rfl⟩, acall_v (s101 [(decide ((t.place.length : Int) = 4), 3), (memL t.place x, 6)] (Nat.le_of_ble_eq_true rfl)) rfl (fstE_pure _) ?_⟩
  have he : erS m.n m.lim m.ls t 0 x 0 0 = if decide ((t.place.length : Int) = 4) = true then 3 else if memL t.place x = true then 6 else 0 := by
    have h4 : (t.place.length = 4) = ((t.place.length : Int) = 4) := propext ⟨fun h => by omega, fun h => by omega⟩
    simp only [erS, decide_eq_true_eq, memL_eq]
    rw [if_neg hz]
    simp only [h4]
  rw [fst2 _ _ 3 6 (by decide) (by decide), ← he]
  by_cases c5 : erS m.n m.lim m.ls t 0 x 0 0 = 0
  case neg =>
    simp only [wB, awp, binC, eqC, asG, asB, asI, asN, St.ev, St.step, setS, killS, AV.kill, AV.killL, Mem.kill, AV.cells, Nat.reduceAdd, Nat.reduceEqDiff, Int.reduceAdd, ASch, St.put, Md.mem, Md.need, isNI, ptrN, ifcN, asStr, nt114, memG, Mch.ob, Mch.od, Mch.cells, rowP, rowC, rowS, stO', erV, if_neg c5, errV]
    exact ⟨_, _, memG m t, _, Le.refl _, rfl, rfl, rfl, rfl, free_G _ m t, by first | rfl | simp [c5], by first | rfl | simp [c5]⟩
  have hlt : t.place.length < 4 := by
    rcases Nat.lt_or_ge t.place.length 4 with h2 | h2
    · exact h2
    · rw [he, decide_eq_true (by omega)] at c5; cases c5
  simp only [wB, awp, binC, eqC, asG, asB, asI, asN, St.ev, St.step, setS, killS, AV.kill, AV.killL, Mem.kill, Nat.reduceAdd, Nat.reduceEqDiff, Int.reduceAdd, ASch, St.put, Md.mem, Md.need, isNI, ptrN, ifcN, asStr, nt114, erV, if_pos c5, errV]
  refine swp_to ⟨[.q 7 6 0 0, .bot, .bot, .bot, .bot, .bot, .bot, .bot, .v .nilIface, .bot, .bot, .bot, .bot, .bot, .bot, .bot, .bot, .bot, .bot, .bot, .bot, .bot, .bot, .bot, .bot, .bot, .bot, .bot, .bot, .bot, .bot, .bot, .bot, .bot, .bot, .bot, .bot, .bot, .bot, .bot, .bot, .bot, .bot, .bot, .bot, .bot, .bot, .bot, .bot, .bot, .bot, .bot, .bot, .bot, I 0, .bot, .bot, .bot, .bot, .bot, .bot, .bot, .bot, .bot, .bot, .bot, .bot, .bot, .bot, .bot, .bot, .bot, .bot, .bot, .bot, .bot, .bot, .bot, .bot, .bot, .bot, .bot, .bot, .bot, .bot, .bot, .bot, .bot, .bot, .bot, .bot, .bot, .bot, .bot, .bot, .bot, .bot, .bot, .bot, .bot, .bot, .bot, .bot, .bot, .bot, .bot, .bot, .bot, .bot, .bot, .bot, .bot, .bot, .bot, .bot, .bot, .bot, .bot, .bot, .bot, .bot, .bot, .bot, .bot, .bot, .bot, .bot, .bot, .bot, .bot, .bot, .bot, .bot, .bot, .bot, .bot, .bot, .bot, .bot, .bot, .bot, .bot, .bot, .bot, .bot, .bot, .bot, .bot, .bot, .bot, .bot, .bot, .bot, .bot, .bot, .bot, .bot, .bot, .bot, .bot, .bot, .bot, .bot, .bot, .bot, .bot, .bot, .bot, .bot, .bot, .bot, .bot, .bot, .bot, .bot, .bot, .bot, .bot, .bot, .bot, .bot, .bot, .bot, .bot, .bot, .bot, .bot, .bot, .bot, .bot, .bot, .bot, .bot, .bot, .bot, .bot, .bot, .bot, .bot, .bot, .bot, .bot, .bot, .bot, .bot, .bot, .bot, .bot, .bot, .bot, .bot, .bot, .bot, .bot, .bot, .bot, .bot, .bot, .bot, .bot, .bot, .bot, .bot, .bot, .bot, .bot, .bot, .bot, .bot, .bot, .bot, .bot, .bot, .bot, .bot, .bot, .bot, .bot, .bot, .bot, .bot, .bot, .bot, .bot, .bot, .bot, .bot, .bot, .bot, .bot, .bot, .bot, .bot, .bot], memG m ({ t with place := t.place ++ [x] }) ++ [gh, some ⟨none, 112, 4, [frmA (0, 1, 0, 0)]⟩]⟩ (swp_draw (own := [6]) (.take 1 .plain [] (.take 2 .plain [] (.take 3 .plain [] (.take 4 .reads [] (.take 5 .plain [] (.take 6 .reads [] (.take 7 .reads [] (.take 8 .plain [] (.alt 0 (.alt 9 (.take 10 .plain [] (.take 11 .plain [] (.alt 12 (.done) (.nil)))) (.nil)) (.alt 9 (.alt 0 (.take 10 .plain [] (.take 11 .plain [] (.alt 12 (.done) (.nil)))) (.nil)) (.nil))))))))))) [⟨79, 1, 0, 0, true⟩, ⟨80, 1, 0, 0, true⟩, ⟨81, 604462909807314587353088, 2, 0, true⟩, ⟨82, 1208925819614629174706176, 4, 0, true⟩, ⟨83, 2417851639229258349412352, 8, 0, true⟩, ⟨84, 8, 0, 0, true⟩, ⟨85, 9671406556917033397649408, 32, 0, true⟩, ⟨86, 19342813113834066795298816, 64, 0, true⟩, ⟨87, 38685626227668133590597632, 128, 0, true⟩, ⟨88, 82206955733794783880019968, 272, 2, false⟩, ⟨89, 302231454903657293676544, 1023, 0, true⟩, ⟨90, 309485009821345068724781056, 2047, 0, true⟩, ⟨0, 773712524553362671811952640, 3071, 1, false⟩] mo (by kernel_rfl) ?_) ?_
  · simp only [wB, idxC, asP, asQ, asO, asS, asI, obA, loadA, storeA, putsA, St.ev, St.step, setS, killS, AV.kill, AV.killL, Mem.kill, AV.cells, AV.flat, AV.single, AV.cellular, AV.size, AV.pure, AV.pureL, Value.oneCell', Nat.reduceAdd, Nat.reduceEqDiff, Nat.reduceMul, Nat.reduceLeDiff, Int.reduceAdd, Int.reduceMul, Int.reduceLE, ASch, St.put, Md.mem, Md.need, memG, Mch.ob, Mch.od, Mch.cells, rowP, rowC, rowS, stO', List.drop_zero, List.take_succ_cons, List.take_zero, List.getElem_cons_zero, aget_ints g0]
    have hle : (0 : Nat) < 1 := by decide
    have hcl : t.place.length ≤ 999999 := by omega
    refine ⟨⟨hle, rfl⟩, ⟨⟨hle, hcl⟩, le_sl' ?_ (by simp [leSl])⟩, ⟨hle, hcl⟩, le_sl' ?_ (by simp [leSl])⟩ <;>
    simp only [memG, memS, Mch.ob, Mch.od, Mch.cells, rowP, rowC, rowS, stO', combR, List.cons_append, List.nil_append, Option.map_some, Option.map_none, List.drop_succ_cons, List.drop_zero, prsA_sub, strsA_sub, intsA_sub, gtsA_sub, AV.sub, AV.subL, keepF, keepG, liveI, List.getElem?_cons_succ, List.getElem?_cons_zero, List.getElem?_nil, AV.isO, AV.isQ, List.any_cons, List.any_nil, ghost, gA, List.take_succ_cons, List.take_zero, List.drop_nil, hgh, frmA, prsA_kill, strsA_kill, intsA_kill, gtsA_kill, intsA_app]
  simp only [wB, awp, asP, asQ, asO, asS, asN, obA, loadA, storeA, putsA, St.ev, St.step, setS, killS, AV.kill, AV.killL, Mem.kill, AV.cells, AV.flat, AV.single, AV.cellular, AV.size, AV.pure, AV.pureL, Value.oneCell', Nat.reduceAdd, Nat.reduceEqDiff, Nat.reduceMul, Nat.reduceLeDiff, Int.reduceAdd, Int.reduceMul, memG, Mch.ob, Mch.od, Mch.cells, rowP, rowC, rowS, stO', List.drop_succ_cons, List.drop_zero, ghost, List.take_succ_cons, List.take_zero, hgh, frmA]
  refine ⟨⟨by decide, rfl⟩, ⟨by decide, by omega⟩, ?_⟩
  simp only [prsA_kill, strsA_kill, intsA_kill, gtsA_kill, intsA_app]
  have he : erS m.n m.lim m.ls t 0 x 0 0 = 0 := c5
  exact ⟨_, _, memG m (nxS t 0 x 0 0), _, Le.refl _, rfl, rfl, rfl, rfl, free_G _ m _, by simp [he, erV], by rw [if_pos he]; rfl⟩
end Go.Proofs.YtndniceeibflcaaGreatDoor

namespace Go.Proofs.YtndniceeibflcaaGreatDoor
open Aw Mp Go.RowKit
set_option linter.unusedSimpArgs false
set_option maxRecDepth 8000

theorem m73_4 (m : Mch) (t : MS) {c : Nat} (hI : InvS m.n c t) (hc : c ≤ 1000) (hT : vT m.n m.ls = 0) (hls : m.ls.length ≤ 1000000) (x : Int) (hx : 0 ≤ x ∧ x ≤ 99) (y : Int) (hy : 0 ≤ y ∧ y ≤ 99) :
    MSpec Tryz.prog 73 [.q 7 6 0 0, .q 0 13 0 0, frmA (4, 2, 1, -1), .s 1 (intsA [x, y])] (memG m t) (fun r N => r = erV (erS m.n m.lim m.ls t 4 x y 0) ∧ N = memG m (if erS m.n m.lim m.ls t 4 x y 0 = 0 then nxS t 4 x y 0 else t)) := by
  refine mspec_of2 (own := [6, 1022, 1033]) Tryz.func73 rfl ok73 ?_
  intro vs
  have hp4 := hI.p4
  have hhl := hI.hl
  have e0 : ((0 : Nat) : Int) = 0 := rfl
  have e1 : ((1 : Nat) : Int) = 1 := rfl
  have e2 : ((2 : Nat) : Int) = 2 := rfl
  have e3 : ((3 : Nat) : Int) = 3 := rfl
  have g0 : 0 < [x, y].length := by simp
  have g1 : 1 < [x, y].length := by simp
  obtain ⟨gh, hgh⟩ : ∃ gh, gh = some (ghost vs [AV.q 7 6 0 0, AV.q 0 13 0 0, frmA (4, 2, 1, -1), AV.s 1 (intsA [x, y])]) := ⟨_, rfl⟩
  simp only [wB, awp, asP, asQ, asS, asN, obA, bndA, lenA, loadA, Aw.newRow, St.ev, St.step, setS, killS, AV.kill, AV.killL, Mem.kill, AV.cells, AV.flat, AV.single, AV.cellular, AV.size, AV.sizeL, Nat.reduceAdd, Nat.reduceEqDiff, Nat.reduceSub, Nat.reduceLeDiff, Int.reduceAdd, Int.reduceSub, Int.reduceNeg, Int.reduceLE, lenK, Tryz.ntmps73, memG, Mch.ob, Mch.od, Mch.cells, rowP, rowC, rowS, stO', List.drop_succ_cons, List.drop_zero, ghost, List.take_succ_cons, List.take_zero, e2, frmA, ← hgh]
  refine swp_loop' (fun j : Nat => ⟨[.q 7 6 0 0, .q 0 13 0 0, .bot, .s 1 (intsA [x, y]), .bot, .bot, .q 9 4 0 0, .bot, .v .nilIface, .bot, .bot, .bot, .bot, .bot, .bot, .bot, .bot, .bot, .bot, .s 1 (intsA [x]), I 1, I j, .bot, .bot, .bot, .bot, .bot, .bot, .bot, .bot, .bot, .bot, .bot, .bot, .bot, .bot, .bot, .bot, .bot, .bot, .bot, .bot, .bot, .bot, .bot, .bot, .bot, .bot, .bot, .bot, .bot, .bot, .bot, .bot, .bot, .bot, .bot, .bot, .bot, .bot, .bot, .bot, .bot, .bot, .bot, .bot, .bot, .bot, .bot, .bot, .bot, .bot, .bot, .bot, .bot, .bot, .bot, .bot, .bot, .bot, .bot, .bot, .bot, .bot, .bot, .bot, .bot, .bot, .bot, .bot, .bot, .bot, .bot, .bot, .bot, .bot, .bot, .bot, .bot, .bot, .bot, .bot, .bot, .bot, .bot, .bot, .bot, .bot, .bot, .bot, .bot, .bot, .bot, .bot, .bot, .bot, .bot, .bot, .bot, .bot, .bot, .bot, .bot, .bot, .bot, .bot, .bot, .bot, .bot, .bot, .bot, .bot, .bot, .bot, .bot, .bot, .bot, .bot, .bot, .bot, .bot, .bot, .bot, .bot, .bot, .bot, .bot, .bot, .bot, .bot, .bot, .bot, .bot, .bot, .bot, .bot, .bot, .bot, .bot, .bot, .bot, .bot, .bot, .bot, .bot, .bot, .bot, .bot, .bot, .bot, .bot, .bot, .bot, .bot, .bot, .bot, .bot, .bot, .bot, .bot, .bot, .bot, .bot, .bot, .bot, .bot, .bot, .bot, .bot, .bot, .bot, .bot, .bot, .bot, .bot, .bot, .bot, .bot, .bot, .bot, .bot, .bot, .bot, .bot, .bot, .bot, .bot, .bot, .bot, .bot, .bot, .bot, .bot, .bot, .bot, .bot, .bot, .bot, .bot, .bot, .bot, .bot, .bot, .bot, .bot, .bot, .bot, .bot, .bot, .bot, .bot, .bot, .bot, .bot, .bot, .bot, .bot, .bot, .bot, .bot, .bot, .bot, .bot, .bot, .bot, .bot, .bot, .bot, .bot, .bot, .bot, .bot, .bot, .bot], memG m t ++ [gh, some ⟨none, 112, 4, [frmA (4, 2, 1, -1)]⟩]⟩) (fun j => j ≤ 1 ∧ ∀ i, i < j → ∀ h : i < ([x] : List Int).length, ([x] : List Int)[i] < t.place.length) (fun j => 1 - j) 0 (le_sl' ?_ ?_) ⟨Nat.zero_le _, fun i h => absurd h (Nat.not_lt_zero _)⟩ ?_
  · simp only [memG, memS, Mch.ob, Mch.od, Mch.cells, rowP, rowC, rowS, stO', combR, List.cons_append, List.nil_append, Option.map_some, Option.map_none, List.drop_succ_cons, List.drop_zero, prsA_sub, strsA_sub, intsA_sub, gtsA_sub, AV.sub, AV.subL, keepF, keepG, liveI, List.getElem?_cons_succ, List.getElem?_cons_zero, List.getElem?_nil, AV.isO, AV.isQ, List.any_cons, List.any_nil, ghost, gA, List.take_succ_cons, List.take_zero, List.drop_nil, hgh, frmA]
  · simp [leSl, intsA]
  rintro j ⟨hj, hno⟩
  refine awp_sound (own := [6, 1022, 1033]) _ _ _ _ _ ?_
  simp only [wB, awp, binC, cmpC, asB, asI, St.ev, St.step, setS, killS, AV.kill, AV.killL, Mem.kill, AV.cells, Nat.reduceAdd, Nat.reduceEqDiff, Int.reduceAdd, Int.reduceNeg, memG, Mch.ob, Mch.od, Mch.cells, rowP, rowC, rowS, stO', ghost, hgh, frmA]
  by_cases h : (j : Int) < 1
  case pos =>
    have hjl : j < ([x] : List Int).length := by simp; omega
    simp only [wB, awp, binC, idxC, cmpC, asP, asQ, asS, asB, asI, asN, obA, lenA, loadA, St.ev, St.step, setS, killS, AV.kill, AV.killL, Mem.kill, AV.cells, AV.flat, AV.single, Nat.reduceAdd, Nat.reduceEqDiff, Nat.reduceLeDiff, Int.reduceAdd, Int.reduceNeg, lenK, Mch.cells, List.drop_zero, List.take_succ_cons, List.take_zero, decide_eq_true h, aget_ints hjl, Int.toNat_natCast]
    refine ⟨by omega, ?_⟩
    obtain ⟨q, hq⟩ : ∃ q, q = ([x] : List Int)[j] := ⟨_, rfl⟩
    rw [← hq]
    by_cases hp : (t.place.length : Int) ≤ q
    · simp only [wB, awp, asN, fillA, putsA, St.ev, St.step, setS, killS, AV.kill, AV.killL, Mem.kill, AV.cells, AV.flat, AV.single, AV.cellular, Value.oneCell', Nat.reduceAdd, Nat.reduceEqDiff, Nat.reduceLeDiff, Int.reduceAdd, Int.reduceNeg, Aw.valOf, Aw.valsOf, cc139, memG, Mch.ob, Mch.od, Mch.cells, rowP, rowC, rowS, stO', decide_eq_true hp]
      have he : erS m.n m.lim m.ls t 4 x y 0 = 4 := by
        obtain rfl : j = 0 := by omega
        simp only [List.getElem_cons_zero] at hq
        subst hq
        simp only [erS]
        rw [if_pos hp]
      exact ⟨_, _, memG m t, _, Le.refl _, rfl, rfl, rfl, rfl, free_G _ m t, by simp [he, erV, errV], by first | (simp [he]; done) | (simp [he]; rfl)⟩
    · simp only [wB, awp, binC, arithC, cmpC, asI, St.ev, St.step, setS, killS, AV.kill, AV.killL, Mem.kill, AV.cells, Nat.reduceAdd, Nat.reduceEqDiff, Int.reduceAdd, Int.reduceNeg, isU, memG, Mch.ob, Mch.od, Mch.cells, rowP, rowC, rowS, stO', decide_eq_false hp]
      refine ⟨by unfold lim; omega, j + 1, le_sl' ?_ (by simp [leSl]), ⟨by omega, fun i hi hl => ?_⟩, by omega⟩
      · simp only [memG, memS, Mch.ob, Mch.od, Mch.cells, rowP, rowC, rowS, stO', combR, List.cons_append, List.nil_append, Option.map_some, Option.map_none, List.drop_succ_cons, List.drop_zero, prsA_sub, strsA_sub, intsA_sub, gtsA_sub, AV.sub, AV.subL, keepF, keepG, liveI, List.getElem?_cons_succ, List.getElem?_cons_zero, List.getElem?_nil, AV.isO, AV.isQ, List.any_cons, List.any_nil, ghost, gA, List.take_succ_cons, List.take_zero, List.drop_nil, hgh, frmA]
      · rcases Nat.lt_or_ge i j with h1 | h1
        · exact hno i h1 hl
        · obtain rfl : i = j := by omega
          rw [← hq]; omega
  obtain rfl : j = 1 := by omega
  have px : x < t.place.length := by have := hno 0 (by omega) (by simp); simpa using this
  clear hno
  simp only [awp, ACond_false, if_true, decide_false, Int.reduceNeg, Int.reduceLT, e1]
  refine swp_draw (own := [6]) (.take 0 .plain [] (.take 1 .reads [] (.take 2 .plain [] (.take 3 .plain [] (.take 4 .plain [] (.take 5 .plain [] (.take 6 .reads [] (.take 7 .reads [] (.take 8 .reads [] (.take 9 .plain [] (.take 10 .plain [] (.take 11 .plain [] (.take 12 .plain [] (.take 13 .reads [] (.take 14 .plain [] (.take 15 .plain [] (.done))))))))))))))))) [⟨36, 64, 0, 0, true⟩, ⟨37, 34359738368, 1, 0, true⟩, ⟨38, 68719476736, 2, 0, true⟩, ⟨39, 137438953472, 4, 0, true⟩, ⟨40, 274877906952, 8, 0, true⟩, ⟨41, 274877907008, 8, 0, true⟩, ⟨42, 1374389534720, 40, 0, true⟩, ⟨43, 3023656976384, 88, 0, true⟩, ⟨44, 4672924418048, 136, 0, true⟩, ⟨45, 274877906946, 8, 0, true⟩, ⟨46, 17867063951360, 520, 0, true⟩, ⟨47, 35459249995776, 1032, 0, true⟩, ⟨48, 70643622084608, 2056, 0, true⟩, ⟨49, 141012366262272, 4104, 0, true⟩, ⟨50, 290545947639808, 8456, 0, true⟩, ⟨51, 563224831328256, 16392, 0, true⟩] mo (by kernel_rfl) ?_
  simp only [wB, awp, binC, cmpC, asP, asQ, asB, asI, asN, obA, loadA, St.ev, St.step, setS, killS, AV.kill, AV.killL, Mem.kill, AV.cells, AV.flat, AV.single, Nat.reduceAdd, Nat.reduceEqDiff, Nat.reduceLeDiff, Int.reduceAdd, Int.reduceNeg, Int.reduceLE, Int.reduceEq, ASch, St.put, Md.mem, Md.need, Mch.cells, List.drop_succ_cons, List.drop_zero, List.take_succ_cons, List.take_zero, aget_ints g0, aget_ints g1]
  refine swp_splitF (own := [6]) (pre := #[_, _, _, _, _, _, _, _, _]) _ [_] rfl (.take 0 .plain [] (.take 1 .plain [] (.take 2 .plain [] (.take 3 .reads [] (.take 4 .reads [] (.take 5 .plain [] (.take 6 .reads [] (.take 7 .reads [] (.take 8 .plain [] (.done)))))))))) [⟨205, 1, 0, 0, true⟩, ⟨206, 2, 0, 0, true⟩, ⟨207, 8, 0, 0, true⟩, ⟨208, 102844034832575377634685573909834406561420991602098741459288064, 4, 0, true⟩, ⟨209, 205688069665150755269371147819668813122841983204197482918576128, 8, 0, true⟩, ⟨210, 8, 0, 0, true⟩, ⟨211, 822752278660603021077484591278675252491367932816789931674304512, 32, 0, true⟩, ⟨212, 1645504557321206042154969182557350504982735865633579863348609024, 64, 0, true⟩, ⟨213, 3291009114642412084309938365114701009965471731267159726697218048, 128, 0, true⟩] mo (by kernel_rfl) (by kernel_rfl) ?_
  simp only [wB, idxC, asP, asS, asI, loadA, St.ev, setS, AV.cells, AV.flat, AV.single, AV.cellular, AV.size, AV.pure, AV.pureL, Value.oneCell', Nat.reduceEqDiff, Nat.reduceMul, Nat.reduceLeDiff, Int.reduceMul, Int.reduceNeg, Int.reduceLE, ASch, St.put, Md.mem, Md.need, Mch.cells, List.getElem_cons_zero, List.getElem_cons_succ, aget_ints g0, aget_ints g1]
  have he : erS m.n m.lim m.ls t 4 x y 0 = er1 m.lim t x y := by simp only [erS]; rw [if_neg (by omega)]
  refine ⟨⟨by decide, rfl⟩, ⟨[.bot, .bot, .bot, .bot, .bot, .bot, .bot, .bot, .bot, .bot, .bot, .bot, .bot, .bot, .bot, .bot, .bot, .bot, .bot, .bot, .bot, .bot, .bot, .bot, .bot, .bot, .bot, .bot, .bot, .bot, .bot, .bot, .bot, .bot, .bot, .bot, .bot, .bot, .bot, .bot, .bot, .bot, .bot, .bot, .bot, .bot, .bot, .bot, .bot, .bot, .bot, .bot, .bot, .bot, .bot, .bot, .bot, .bot, .bot, .bot, .bot, .bot, .bot, .bot, .bot, .bot, .bot, .bot, .bot, .bot, .bot, .bot, .bot, .bot, .bot, .bot, .bot, .bot, .bot, .bot, .bot, .bot, .bot, .bot, .bot, .bot, .bot, .bot, .bot, .bot, .bot, .bot, .bot, .bot, .bot, .bot, .bot, .bot, .bot, .bot, .bot, .bot, .bot, .bot, .bot, .bot, .bot, .bot, .bot, .bot, .bot, .bot, .bot, .bot, .bot, .bot, .bot, .bot, .bot, .bot, .bot, .bot, .bot, .bot, .bot, .bot, .bot, .bot, .bot, .bot, .bot, .bot, .bot, .bot, .bot, .bot, .bot, .bot, .bot, .bot, .bot, .bot, .bot, .bot, .bot, .bot, .bot, .bot, .bot, .bot, .bot, .bot, .bot, .bot, .bot, .bot, .bot, .bot, .bot, .bot, .bot, .bot, .bot, .bot, .bot, .bot, .bot, .bot, .bot, .bot, .bot, .bot, .bot, .bot, .bot, .bot, .bot, .bot, .bot, .bot, .bot, .bot, .bot, .bot, .bot, .bot, .bot, .bot, .bot, .bot, .bot, .bot, .bot, .bot, .bot, .bot, .bot, .bot, .bot, .bot, .bot, .bot, .bot, .bot, .q 7 6 0 0, .q 0 13 0 0, .bot, .bot, I y, .bot, .bot, .bot, .s 1 (intsA [x]), .bot, .bot, .bot, .bot, .bot, .bot, .bot, .bot, .bot, .bot, .bot, .bot, .bot, .bot, .bot, .bot, .bot, .bot, .bot, .bot, .bot, .bot, .bot, .bot, .bot, .bot, .bot, .bot, .bot, .bot, .bot, .bot, .bot, .bot, .bot, .bot, .bot, .bot, .bot, .bot, .bot], memG m (t) ++ [gh, some ⟨none, 112, 4, [frmA (4, 2, 1, -1)]⟩]⟩, le_sl' ?_ (by simp [leSl, intsA]), ?_⟩
  · simp only [memG, memS, Mch.ob, Mch.od, Mch.cells, rowP, rowC, rowS, stO', combR, List.cons_append, List.nil_append, Option.map_some, Option.map_none, List.drop_succ_cons, List.drop_zero, prsA_sub, strsA_sub, intsA_sub, gtsA_sub, AV.sub, AV.subL, keepF, keepG, liveI, List.getElem?_cons_succ, List.getElem?_cons_zero, List.getElem?_nil, AV.isO, AV.isQ, List.any_cons, List.any_nil, ghost, gA, List.take_succ_cons, List.take_zero, List.drop_nil, hgh, frmA]
  simp only [St.ev, AV.cells, List.getD_cons_succ, List.getD_cons_zero, List.cons_append, List.nil_append, List.map_cons, List.map_nil, Int.reduceNeg, memG, Mch.ob, Mch.od, Mch.cells, rowP, rowC, rowS, stO', List.cons_append, List.nil_append, ghost, afc, hgh, frmA]
  refine acall_f (fspec_of (m105a m t hI hc 0 x y ⟨hx.1, px⟩) [1, 3, 8, 9] rfl (by exact ⟨rfl, rfl, rfl, rfl, rfl, rfl, trivial⟩) rfl rfl (free_GZ _ _ _ (by decide)) (N := memG m ((if er1 m.lim t x y = 0 then nx1 t 0 x y else t)) ++ [gh, some ⟨none, 112, 4, [frmA (4, 2, 1, -1)]⟩]) ?_) ?_
  · simp only [memG, memS, Mch.ob, Mch.od, Mch.cells, rowP, rowC, rowS, stO', combR, List.cons_append, List.nil_append, Option.map_some, Option.map_none, List.drop_succ_cons, List.drop_zero, prsA_sub, strsA_sub, intsA_sub, gtsA_sub, AV.sub, AV.subL, keepF, keepG, liveI, List.getElem?_cons_succ, List.getElem?_cons_zero, List.getElem?_nil, AV.isO, AV.isQ, List.any_cons, List.any_nil, ghost, gA, List.take_succ_cons, List.take_zero, List.drop_nil, hgh, frmA]
    rfl
  rw [he]
  obtain ⟨t', ht'⟩ : ∃ t', t' = if er1 m.lim t x y = 0 then nx1 t 0 x y else t := ⟨_, rfl⟩
  have hn : (if er1 m.lim t x y = 0 then nxS t 4 x y 0 else t) = t' := ht'.symm
  rw [← ht']
  simp only [wB, awp, asN, St.ev, St.step, setS, killS, AV.kill, AV.killL, Mem.kill, AV.cells, Nat.reduceEqDiff, Int.reduceNeg, memG, Mch.ob, Mch.od, Mch.cells, rowP, rowC, rowS, stO', AV.sub, keepG, liveI, AV.isQ, List.any_cons, List.any_nil, ghost, hgh, frmA, hn]
  exact ⟨_, _, memG m t', _, Le.refl _, rfl, rfl, erV_free _ _, rfl, free_G _ m _, rfl, rfl⟩
end Go.Proofs.YtndniceeibflcaaGreatDoor
