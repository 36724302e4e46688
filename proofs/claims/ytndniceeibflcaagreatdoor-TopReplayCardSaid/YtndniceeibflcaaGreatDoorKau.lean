/-
  Parts of several texts in one: MsB, MwL, MxC, MyG.
-/
import Derived.Test.YtndniceeibflcaaGreatDoorProg
import Derived.WalkKit
import Derived.Lib.ConvBytes
import Derived.LaidEql
import Derived.Lib.ItoaNum
import Derived.Lib.LaidTab
import Derived.KernelRfl
import GoSem.Claims
import GoSem.ClaimJoined
import Derived.Orders
import Derived.Laws.StructEq
import Derived.Maps.Keyed
import Derived.Lib.Strings
import Derived.Maps.AppendAt
import Derived.Laws.Concat
import Derived.MapKept
import Derived.Laws.MakeOwn
import Derived.Scope
import Derived.Laws.BitsLemmas
import Derived.Maps.RangeRun
import Derived.StillTail
import Derived.OrdersIn
import Derived.TacticsIn
import Derived.RangeFuncRecord
import Derived.RangeFuncCalls
import Derived.RangeFuncSeq
import Derived.Lib.Split
import Derived.Lib.AtoiAll
import Derived.Test.YtndniceeibflcaaGreatDoorRows
import Derived.Test.YtndniceeibflcaaGreatDoorChecked
import Derived.ChangeSame
import Derived.ChangeVars
import Derived.JoinedOf
import Derived.ProofKit
import Derived.RowKit
import Derived.RowKitTokens
import Derived.LaidLaws
import Derived.LaidHandle
import Derived.LaidMore
import Derived.Stop.Joined
import Derived.Stop.LaidErr
import Derived.HandedShaped
import Derived.Shelf.Vars
import Derived.Deep.Slices
import Derived.Deep.Strs
import Derived.Deep.Fields
import Derived.Lib.SmallJoins
import Derived.SliceStrings
import Derived.ChangeMaps5
import Derived.Shelf.LaysM
import Derived.Shelf.LaysC
import Derived.Shelf.Strconv.Itoa3
import Derived.Shelf.Strconv.AtoiAll
import Derived.Shelf.Strings.Search3
import Derived.Shelf.Strings.Cut
import Derived.Shelf.Strings.Prefix
import Derived.Shelf.Strings.Split
import Derived.Lib.AppendIntMem
import Derived.Stop.Asserts
import Derived.Conc.MuLone
import Derived.Test.YtndniceeibflcaaGreatDoorKaa
import Derived.Test.YtndniceeibflcaaGreatDoorKac
import Derived.Test.YtndniceeibflcaaGreatDoorKad
import Derived.Test.YtndniceeibflcaaGreatDoorKae
import Derived.Test.YtndniceeibflcaaGreatDoorKag
import Derived.Test.YtndniceeibflcaaGreatDoorKat
import Derived.Test.YtndniceeibflcaaGreatDoorKai
import Derived.Test.YtndniceeibflcaaGreatDoorKap
set_option linter.unusedSimpArgs false
set_option linter.unusedVariables false
namespace Go.Proofs.YtndniceeibflcaaGreatDoor
namespace Aw
end Aw
namespace Mp
end Mp
end Go.Proofs.YtndniceeibflcaaGreatDoor
namespace Go.Proofs.YtndniceeibflcaaGreatDoor
open Aw Go.ChangeShapes Go.WideShapes Go.ChangeAt Go.RowKit Go.Deep Go.Joins Go.Stop
set_option maxRecDepth 100000

theorem tc26 : Tryz.prog.cellsOf 26 = 3 := by kernel_rfl
theorem tc24 : Tryz.prog.cellsOf 24 = 2 := by kernel_rfl
theorem tc22 : Tryz.prog.cellsOf 22 = 1 := by kernel_rfl
theorem tc79 : Tryz.prog.cellsOf 79 = 2 := by kernel_rfl
theorem tc3 : Tryz.prog.cellsOf 3 = 1 := by kernel_rfl
/-- what a machine is made with. -/
def labA (n : Int) (ls : List (Int × Int)) (lm : Int) : AV := .g [I n, .s 2 (prsA ls), I lm]
section
variable {H : Type} {enc : TypeId × Value → H} {w : World}

theorem list_of {α : Type} (Φ : Nat → α → Prop) : ∀ n : Nat, (∀ i, i < n → ∃ x, Φ i x) → ∃ l : List α, l.length = n ∧ ∀ (i : Nat) (h : i < l.length), Φ i l[i]
  | 0, _ => ⟨[], rfl, by simp⟩
  | n + 1, h => by
    obtain ⟨l, hl, hp⟩ := list_of Φ n fun i hi => h i (by omega)
    obtain ⟨x, hx⟩ := h n (by omega)
    refine ⟨l ++ [x], by simp [hl], fun i hi => ?_⟩
    rcases Nat.lt_or_ge i l.length with hlt | hge
    · rw [List.getElem_append_left hlt]; exact hp i hlt
    · simp at hi
      obtain rfl : i = l.length := by omega
      simp only [List.getElem_append_right (Nat.le_refl _), Nat.sub_self, List.getElem_cons_zero]
      rw [hl]; exact hx

theorem rl_prs (zs : List (Int × Int)) : RL w noA noHv (prsA zs) (zs.flatMap fun z => [Value.int .i64 z.1, Value.int .i64 z.2]) := by
  induction zs with
  | nil => simp [prsA, RL]
  | cons z zs ih =>
    simp only [prsA, List.map_cons, RL, List.flatMap_cons] at *
    refine ⟨[.int .i64 z.1, .int .i64 z.2], _, rfl, ?_, ih⟩
    simp only [prA, R, RL]
    exact ⟨[.int .i64 z.1], [.int .i64 z.2], rfl, ⟨rfl, rfl⟩, [.int .i64 z.2], [], rfl, ⟨rfl, rfl⟩, rfl⟩

theorem prs_at (zs : List (Int × Int)) : ∀ (j : Nat) (u : Value), (zs.flatMap fun z => [Value.int .i64 z.1, Value.int .i64 z.2])[j]? = some u → ∃ (i : Nat) (h : i < zs.length), (j = i * 2 ∧ u = .int .i64 zs[i].1) ∨ (j = i * 2 + 1 ∧ u = .int .i64 zs[i].2) := by
  induction zs with
  | nil => intro j u h; simp at h
  | cons z zs ih =>
    intro j u h
    rw [List.flatMap_cons] at h
    match j with
    | 0 => simp at h; exact ⟨0, by simp, .inl ⟨rfl, h.symm⟩⟩
    | 1 => simp at h; exact ⟨0, by simp, .inr ⟨rfl, h.symm⟩⟩
    | j + 2 =>
      simp at h
      obtain ⟨i, hi, h⟩ := ih j u (by simpa using h)
      refine ⟨i + 1, by simpa using hi, ?_⟩
      rcases h with ⟨h1, h2⟩ | ⟨h1, h2⟩
      · exact .inl ⟨by omega, by simpa using h2⟩
      · exact .inr ⟨by omega, by simpa using h2⟩

theorem sa_prs {t e : TypeId} {f0 f1 : Field} (ht : Tryz.prog.underlying t = some (.slice e)) (he : Tryz.prog.underlying e = some (.struct #[f0, f1])) (hC : Tryz.prog.cellsOf e = 2) (e0 : f0.type = 3) (e1 : f1.type = 3) (o0 : f0.offset = 0) (o1 : f1.offset = 1)
    {v : Value} {cs : List Value} {b0 : Nat} {sp : Nat → Bool} {hd : Bool} {fuel : Nat} {x : DataW H × List MemPlace} (hcs : cs = [v]) (h : DataW.trod enc Tryz.prog w b0 sp hd fuel t cs = some x) : ∃ l, RV w noA noHv (.s 2 (prsA l)) v := by
  rcases open_slice ht h with ⟨h1, _⟩ | ⟨a, len, cap, m, n, D, Pl, h1, _, hl, hm, hmm, _, hi⟩
  · rw [hcs] at h1
    injection h1 with h1
    refine ⟨[], ?_⟩
    rw [h1]
    simp only [RV, R]
    exact ⟨none, 0, [], rfl, Nat.le_refl _, Nat.zero_le _, by simp [prsA], by simp [prsA, RL], fun h => absurd rfl h⟩
  · rw [hcs] at h1
    injection h1 with h1
    subst h1
    have hml : len ≤ m := by rw [hmm]; split <;> omega
    obtain ⟨zs, hzl, hzs⟩ := list_of (fun i (z : Int × Int) => w.cell? (a.add (i * 2)) = some (.int .i64 z.1) ∧ w.cell? (a.add (i * 2 + 1)) = some (.int .i64 z.2)) len fun i hil => by
      obtain ⟨cs', hc, htr⟩ := hi i (by omega)
      rw [hC] at hc
      obtain ⟨_, hcl, hat⟩ := World.cells?_some hc
      obtain ⟨y0, y1, n', _, _, t0, t1⟩ := trod_struct2 he htr
      match cs', hcl with
      | [c0, c1], _ =>
        rw [e0, o0, tc3] at t0
        rw [e1, o1, tc3] at t1
        obtain ⟨n0, g0, _, _⟩ := DataW.trod_int Tryz.underlying3 t0
        obtain ⟨n1, g1, _, _⟩ := DataW.trod_int Tryz.underlying3 t1
        simp at g0 g1
        subst g0; subst g1
        refine ⟨(n0, n1), ?_, ?_⟩
        · have := hat 0 (by omega)
          rw [Go.Deep.add_add] at this
          simpa using this
        · have := hat 1 (by omega)
          rw [Go.Deep.add_add] at this
          simpa using this
    refine ⟨zs, s_of_cells (k := 2) (us := zs.flatMap fun z => [Value.int .i64 z.1, Value.int .i64 z.2]) (by simp [prsA, hzl]) hl hm (by intro y hy; simp only [prsA, List.mem_map] at hy; obtain ⟨q, _, rfl⟩ := hy; rfl) (rl_prs _) (by decide) fun j u hu => ?_⟩
    obtain ⟨i, hi', hh⟩ := prs_at zs j u hu
    have := hzs i hi'
    rcases hh with ⟨rfl, rfl⟩ | ⟨rfl, rfl⟩
    · exact this.1
    · exact this.2

theorem sa_lab {v : Value} {r : Reach} {b1 b0 : Nat} {sp : Nat → Bool} {hd : Bool} {d : DataW H} {p : List MemPlace} (hv : Value.okWide Tryz.prog w r b1 26 v) (h : DataW.Trod enc Tryz.prog w b0 sp hd 26 v d p) : ∃ n ls lm, RV w noA noHv (labA n ls lm) v := by
  obtain ⟨cs, rfl, hsz⟩ := okWide_struct Tryz.underlying26 hv
  obtain ⟨fuel, hf⟩ := h
  obtain ⟨y0, y1, m, _, hl, t0, t1⟩ := trod_struct2 Tryz.underlying26 hf
  have hcs : cs.size = 3 := hsz.trans tc26
  have t0 : DataW.trod enc Tryz.prog w b0 sp hd m 24 ((cs.toList.drop 0).take (Tryz.prog.cellsOf 24)) = some y0 := by simpa [Value.cells] using t0
  have t1 : DataW.trod enc Tryz.prog w b0 sp hd m 3 ((cs.toList.drop 2).take (Tryz.prog.cellsOf 3)) = some y1 := by simpa [Value.cells] using t1
  rw [tc24] at t0
  rw [tc3] at t1
  match hcl : cs.toList, (show cs.toList.length = 3 by simpa using hcs) with
  | [c0, c1, c2], _ =>
    rw [hcl] at t0 t1
    simp only [List.drop_zero, List.take_succ_cons, List.take_zero, List.drop_succ_cons] at t0 t1
    obtain ⟨z0, z1, m', _, _, s0, s1⟩ := trod_struct2 Tryz.underlying24 t0
    have s0 : DataW.trod enc Tryz.prog w b0 sp hd m' 3 [c0] = some z0 := by simpa [tc3] using s0
    have s1 : DataW.trod enc Tryz.prog w b0 sp hd m' 22 [c1] = some z1 := by simpa [tc22] using s1
    obtain ⟨n0, e0, _, _⟩ := DataW.trod_int Tryz.underlying3 s0
    obtain ⟨n2, e2, _, _⟩ := DataW.trod_int Tryz.underlying3 t1
    simp at e0 e2
    subst e0
    subst e2
    obtain ⟨ls, hls⟩ := sa_prs Tryz.underlying22 Tryz.underlying79 tc79 rfl rfl rfl rfl rfl s1
    refine ⟨n0, ls, n2, ?_⟩
    have : cs = #[.int .i64 n0, c1, .int .i64 n2] := by rw [← Array.toList_inj, hcl]
    subst this
    simp only [labA, RV, RL, R]
    simp only [RV] at hls
    exact ⟨_, rfl, [.int .i64 n0], [c1, .int .i64 n2], rfl, ⟨rfl, rfl⟩, [c1], [.int .i64 n2], rfl, hls, [.int .i64 n2], [], rfl, ⟨rfl, rfl⟩, rfl⟩
theorem rr26 : Tryz.prog.readableRec 26 = true := by kernel_rfl
theorem lt26 : 26 < Tryz.prog.types.size := of_decide_eq_true (by kernel_rfl)
end
end Go.Proofs.YtndniceeibflcaaGreatDoor

namespace Go.Proofs.YtndniceeibflcaaGreatDoor
open Aw Mp Go.RowKit
set_option linter.unusedSimpArgs false
set_option maxRecDepth 8000

theorem s22e (n lim : Int) (ls : List (Int × Int)) (hls : ls.length ≤ 100000) (he : vN n lim ls ≠ 0) : ASpec Tryz.prog 22 [trapA n ls, I lim] (fun r Ms => r = .t [.v (.pointer none), I (vN n lim ls)] ∧ Ms = []) := by
  refine aspec_of (own := [2, 25]) Tryz.func22 rfl ok22 ?_
  simp only [wB, awp, asP, asQ, asN, obA, loadA, Aw.newRow, St.ev, St.step, setS, killS, AV.kill, AV.killL, Mem.kill, AV.cells, AV.flat, AV.single, AV.cellular, AV.size, AV.sizeL, Nat.reduceAdd, Nat.reduceEqDiff, Nat.reduceSub, Nat.reduceLeDiff, Int.reduceAdd, Int.reduceSub, Tryz.ntmps22, trapA]
  refine acall_v (s65 n ls (by omega)) (by simp [trapA, AV.pureL, AV.pure, prsA_pure]) rfl ?_
  by_cases h0 : vT n ls = 0
  · simp only [wB, awp, binC, cmpC, asB, asI, asN, St.ev, St.step, setS, killS, AV.kill, AV.killL, Mem.kill, Nat.reduceAdd, Nat.reduceEqDiff, Int.reduceAdd, decide_eq_true h0]
    by_cases h1 : lim < 0
    · simp only [wB, awp, asB, asN, St.ev, St.step, setS, killS, AV.kill, AV.killL, Mem.kill, Nat.reduceAdd, Nat.reduceEqDiff, Int.reduceAdd, decide_eq_true h1]
      exact aend_frz rfl ⟨by rw [vN, if_neg (by rw [h0]; simp), if_pos (.inl h1)]; rfl, rfl⟩
    simp only [wB, awp, binC, cmpC, asB, asI, St.ev, St.step, setS, killS, AV.kill, AV.killL, Mem.kill, decide_eq_false h1]
    by_cases h2 : 100 < lim
    · simp only [wB, awp, asN, St.ev, St.step, setS, killS, AV.kill, AV.killL, Mem.kill, Nat.reduceAdd, Nat.reduceEqDiff, Int.reduceAdd, decide_eq_true h2]
      exact aend_frz rfl ⟨by rw [vN, if_neg (by rw [h0]; simp), if_pos (.inr h2)]; rfl, rfl⟩
    · exact absurd (by rw [vN, if_neg (by rw [h0]; simp), if_neg (by omega)]) he
  · simp only [wB, awp, binC, cmpC, asB, asI, asN, St.ev, St.step, setS, killS, AV.kill, AV.killL, Mem.kill, Nat.reduceAdd, Nat.reduceEqDiff, Int.reduceAdd, decide_eq_false h0]
    exact aend_frz rfl ⟨by rw [vN, if_pos h0]; rfl, rfl⟩
end Go.Proofs.YtndniceeibflcaaGreatDoor

namespace Go.Proofs.YtndniceeibflcaaGreatDoor
open Aw Mp Go.RowKit
set_option linter.unusedSimpArgs false
set_option maxRecDepth 8000

theorem vN_ok {n lm : Int} {ls : List (Int × Int)} (h : vN n lm ls = 0) : vT n ls = 0 ∧ 0 ≤ lm ∧ lm ≤ 100 := by
  unfold vN at h
  split at h
  · exact absurd h (by assumption)
  · split at h
    · cases h
    · exact ⟨Classical.byContradiction fun g => by contradiction, by omega⟩
end Go.Proofs.YtndniceeibflcaaGreatDoor

namespace Go.Proofs.YtndniceeibflcaaGreatDoor
open Aw Mp Go.RowKit
set_option linter.unusedSimpArgs false
set_option maxRecDepth 8000

theorem ok20 : okFn Tryz.prog 20 = true := by kernel_rfl
theorem s20 (n lm : Int) (ls : List (Int × Int)) : ASpec Tryz.prog 20 [labA n ls lm] (fun r Ms => r = B (decide (60 < ls.length)) ∧ Ms = []) := by
  refine aspec_of (own := []) Tryz.func20 rfl ok20 ?_
  simp only [wB, awp, binC, cmpC, asP, asI, asN, lenA, loadA, St.ev, St.step, setS, killS, AV.kill, AV.killL, Mem.kill, AV.cells, AV.flat, AV.single, AV.cellular, AV.pure, AV.pureL, Nat.reduceAdd, Nat.reduceEqDiff, Nat.reduceSub, Nat.reduceLeDiff, Int.reduceAdd, Int.reduceSub, lenK, Tryz.ntmps20, labA, prsA_len]
  refine aend_frz rfl ⟨?_, rfl⟩
  have : decide ((60 : Int) < ls.length) = decide (60 < ls.length) := decide_eq_decide.2 (by omega)
  rw [← this]
  rfl
end Go.Proofs.YtndniceeibflcaaGreatDoor
