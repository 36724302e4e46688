/-
  The law MachineLeft: for every input, with the listed variables as the program's text lays them, it answers true, and each argument reads as it did.
-/
import Derived.Test.YtndniceeibflcaaGreatDoorProg
import Derived.WalkKit
import Derived.Lib.ConvBytes
import Derived.LaidEql
import Derived.Lib.ItoaNum
import Derived.Lib.LaidTab
import Derived.KernelRfl
import GoSem.Claims
import GoSem.ClaimJoined
import Derived.Orders
import Derived.Laws.StructEq
import Derived.Maps.Keyed
import Derived.Lib.Strings
import Derived.Maps.AppendAt
import Derived.Laws.Concat
import Derived.MapKept
import Derived.Laws.MakeOwn
import Derived.Scope
import Derived.Laws.BitsLemmas
import Derived.Maps.RangeRun
import Derived.StillTail
import Derived.OrdersIn
import Derived.TacticsIn
import Derived.RangeFuncRecord
import Derived.RangeFuncCalls
import Derived.RangeFuncSeq
import Derived.Lib.Split
import Derived.Lib.AtoiAll
import Derived.Test.YtndniceeibflcaaGreatDoorRows
import Derived.Test.YtndniceeibflcaaGreatDoorChecked
import Derived.ChangeSame
import Derived.ChangeVars
import Derived.JoinedOf
import Derived.ProofKit
import Derived.RowKit
import Derived.RowKitTokens
import Derived.LaidLaws
import Derived.LaidHandle
import Derived.LaidMore
import Derived.Stop.Joined
import Derived.Stop.LaidErr
import Derived.HandedShaped
import Derived.Shelf.Vars
import Derived.Deep.Slices
import Derived.Deep.Strs
import Derived.Deep.Fields
import Derived.Lib.SmallJoins
import Derived.SliceStrings
import Derived.ChangeMaps5
import Derived.Shelf.LaysM
import Derived.Shelf.LaysC
import Derived.Shelf.Strconv.Itoa3
import Derived.Shelf.Strconv.AtoiAll
import Derived.Shelf.Strings.Search3
import Derived.Shelf.Strings.Cut
import Derived.Shelf.Strings.Prefix
import Derived.Shelf.Strings.Split
import Derived.Lib.AppendIntMem
import Derived.Stop.Asserts
import Derived.Conc.MuLone
import Derived.Shelf.RegionOpenPlain
import Derived.Deep.LoopGhost
import Derived.Deep.RegionLaw
import Derived.Lib.Walk
import Derived.Sort.WalkB12
import Derived.Lib.SliceRun
import Derived.Lib.SlicesDelete
import Derived.Test.YtndniceeibflcaaGreatDoorTie
import Derived.Test.YtndniceeibflcaaGreatDoorCards
import Derived.SevenTiedAt
import Derived.Test.YtndniceeibflcaaGreatDoorLaa
import Derived.Test.YtndniceeibflcaaGreatDoorLab
import Derived.Test.YtndniceeibflcaaGreatDoorLac
import Derived.Test.YtndniceeibflcaaGreatDoorLad
import Derived.Test.YtndniceeibflcaaGreatDoorLae
import Derived.Test.YtndniceeibflcaaGreatDoorLag
import Derived.Test.YtndniceeibflcaaGreatDoorLaf
import Derived.Test.YtndniceeibflcaaGreatDoorLah
import Derived.Test.YtndniceeibflcaaGreatDoorLai
import Derived.Test.YtndniceeibflcaaGreatDoorLaj
import Derived.Test.YtndniceeibflcaaGreatDoorLal
import Derived.Test.YtndniceeibflcaaGreatDoorLam
set_option linter.unusedSimpArgs false
set_option linter.unusedVariables false
namespace Go.Proofs.YtndniceeibflcaaGreatDoor
namespace Aw
end Aw
namespace Mp
end Mp
end Go.Proofs.YtndniceeibflcaaGreatDoor
namespace Go.Proofs.YtndniceeibflcaaGreatDoor
open Aw Go.ChangeShapes Go.WideShapes Go.ChangeAt Go.RowKit Go.Deep Go.Joins Go.Stop
set_option maxRecDepth 100000

theorem tc26 : Tryz.prog.cellsOf 26 = 3 := by kernel_rfl
theorem tc24 : Tryz.prog.cellsOf 24 = 2 := by kernel_rfl
theorem tc22 : Tryz.prog.cellsOf 22 = 1 := by kernel_rfl
theorem tc79 : Tryz.prog.cellsOf 79 = 2 := by kernel_rfl
theorem tc3 : Tryz.prog.cellsOf 3 = 1 := by kernel_rfl
/-- what a machine is made with. -/
def labA (n : Int) (ls : List (Int × Int)) (lm : Int) : AV := .g [I n, .s 2 (prsA ls), I lm]
section
variable {H : Type} {enc : TypeId × Value → H} {w : World}

theorem cell_at_lit {a : Addr} {v : Value} (h : w.cell? a = some v) : a.spot = none ∧ a.block < w.heap.size := by
  unfold World.cell? at h
  split at h
  · rename_i c e f hh
    refine ⟨?_, (Array.getElem?_eq_some_iff.1 hh).1⟩
    cases hsp : a.spot with
    | none => rfl
    | some s => simp [hsp] at h
  · cases h

/-- a row of cells reads as a list of abstract values. -/
theorem s_of_cells {k : Nat} {a : Addr} {n cap : Nat} {xs : List AV} {us : List Value} (hn : xs.length = n) (hc : n ≤ cap) (hm : cap ≤ maxLen) (hk : ∀ x ∈ xs, x.size = k) (hr : RL w noA noHv xs us) (hpos : 0 < k)
    (hcell : ∀ (j : Nat) (u : Value), us[j]? = some u → w.cell? (a.add j) = some u) : RV w noA noHv (.s k xs) (.slice (some a) n cap) := by
  simp only [RV, R]
  refine ⟨some a, cap, us, by rw [hn], by omega, hm, hk, hr, fun hne => ?_⟩
  have hl := RL_len xs us hk hr
  have h0 : 0 < us.length := by
    rw [hl]
    exact Nat.mul_pos (List.length_pos_iff.2 hne) hpos
  have h1 := hcell 0 us[0] (List.getElem?_eq_getElem h0)
  have ea : a.add 0 = a := by simp [Addr.add]
  rw [ea] at h1
  obtain ⟨hs, hb⟩ := cell_at_lit h1
  obtain ⟨b, off, sp⟩ := a
  simp only at hs
  subst hs
  refine ⟨b, off, rfl, hb, fun h => h, fun j u hu => ?_⟩
  have := hcell j u hu
  rw [Addr.add_lit] at this
  exact this

theorem list_of {α : Type} (Φ : Nat → α → Prop) : ∀ n : Nat, (∀ i, i < n → ∃ x, Φ i x) → ∃ l : List α, l.length = n ∧ ∀ (i : Nat) (h : i < l.length), Φ i l[i]
  | 0, _ => ⟨[], rfl, by simp⟩
  | n + 1, h => by
    obtain ⟨l, hl, hp⟩ := list_of Φ n fun i hi => h i (by omega)
    obtain ⟨x, hx⟩ := h n (by omega)
    refine ⟨l ++ [x], by simp [hl], fun i hi => ?_⟩
    rcases Nat.lt_or_ge i l.length with hlt | hge
    · rw [List.getElem_append_left hlt]; exact hp i hlt
    · simp at hi
      obtain rfl : i = l.length := by omega
      simp only [List.getElem_append_right (Nat.le_refl _), Nat.sub_self, List.getElem_cons_zero]
      rw [hl]; exact hx

theorem rl_prs (zs : List (Int × Int)) : RL w noA noHv (prsA zs) (zs.flatMap fun z => [Value.int .i64 z.1, Value.int .i64 z.2]) := by
  induction zs with
  | nil => simp [prsA, RL]
  | cons z zs ih =>
    simp only [prsA, List.map_cons, RL, List.flatMap_cons] at *
    refine ⟨[.int .i64 z.1, .int .i64 z.2], _, rfl, ?_, ih⟩
    simp only [prA, R, RL]
    exact ⟨[.int .i64 z.1], [.int .i64 z.2], rfl, ⟨rfl, rfl⟩, [.int .i64 z.2], [], rfl, ⟨rfl, rfl⟩, rfl⟩

theorem prs_at (zs : List (Int × Int)) : ∀ (j : Nat) (u : Value), (zs.flatMap fun z => [Value.int .i64 z.1, Value.int .i64 z.2])[j]? = some u → ∃ (i : Nat) (h : i < zs.length), (j = i * 2 ∧ u = .int .i64 zs[i].1) ∨ (j = i * 2 + 1 ∧ u = .int .i64 zs[i].2) := by
  induction zs with
  | nil => intro j u h; simp at h
  | cons z zs ih =>
    intro j u h
    rw [List.flatMap_cons] at h
    match j with
    | 0 => simp at h; exact ⟨0, by simp, .inl ⟨rfl, h.symm⟩⟩
    | 1 => simp at h; exact ⟨0, by simp, .inr ⟨rfl, h.symm⟩⟩
    | j + 2 =>
      simp at h
      obtain ⟨i, hi, h⟩ := ih j u (by simpa using h)
      refine ⟨i + 1, by simpa using hi, ?_⟩
      rcases h with ⟨h1, h2⟩ | ⟨h1, h2⟩
      · exact .inl ⟨by omega, by simpa using h2⟩
      · exact .inr ⟨by omega, by simpa using h2⟩

theorem sa_prs {t e : TypeId} {f0 f1 : Field} (ht : Tryz.prog.underlying t = some (.slice e)) (he : Tryz.prog.underlying e = some (.struct #[f0, f1])) (hC : Tryz.prog.cellsOf e = 2) (e0 : f0.type = 3) (e1 : f1.type = 3) (o0 : f0.offset = 0) (o1 : f1.offset = 1)
    {v : Value} {cs : List Value} {b0 : Nat} {sp : Nat → Bool} {hd : Bool} {fuel : Nat} {x : DataW H × List MemPlace} (hcs : cs = [v]) (h : DataW.trod enc Tryz.prog w b0 sp hd fuel t cs = some x) : ∃ l, RV w noA noHv (.s 2 (prsA l)) v := by
  rcases open_slice ht h with ⟨h1, _⟩ | ⟨a, len, cap, m, n, D, Pl, h1, _, hl, hm, hmm, _, hi⟩
  · rw [hcs] at h1
    injection h1 with h1
    refine ⟨[], ?_⟩
    rw [h1]
    simp only [RV, R]
    exact ⟨none, 0, [], rfl, Nat.le_refl _, Nat.zero_le _, by simp [prsA], by simp [prsA, RL], fun h => absurd rfl h⟩
  · rw [hcs] at h1
    injection h1 with h1
    subst h1
    have hml : len ≤ m := by rw [hmm]; split <;> omega
    obtain ⟨zs, hzl, hzs⟩ := list_of (fun i (z : Int × Int) => w.cell? (a.add (i * 2)) = some (.int .i64 z.1) ∧ w.cell? (a.add (i * 2 + 1)) = some (.int .i64 z.2)) len fun i hil => by
      obtain ⟨cs', hc, htr⟩ := hi i (by omega)
      rw [hC] at hc
      obtain ⟨_, hcl, hat⟩ := World.cells?_some hc
      obtain ⟨y0, y1, n', _, _, t0, t1⟩ := trod_struct2 he htr
      match cs', hcl with
      | [c0, c1], _ =>
        rw [e0, o0, tc3] at t0
        rw [e1, o1, tc3] at t1
        obtain ⟨n0, g0, _, _⟩ := DataW.trod_int Tryz.underlying3 t0
        obtain ⟨n1, g1, _, _⟩ := DataW.trod_int Tryz.underlying3 t1
        simp at g0 g1
        subst g0; subst g1
        refine ⟨(n0, n1), ?_, ?_⟩
        · have := hat 0 (by omega)
          rw [Go.Deep.add_add] at this
          simpa using this
        · have := hat 1 (by omega)
          rw [Go.Deep.add_add] at this
          simpa using this
    refine ⟨zs, s_of_cells (k := 2) (us := zs.flatMap fun z => [Value.int .i64 z.1, Value.int .i64 z.2]) (by simp [prsA, hzl]) hl hm (by intro y hy; simp only [prsA, List.mem_map] at hy; obtain ⟨q, _, rfl⟩ := hy; rfl) (rl_prs _) (by decide) fun j u hu => ?_⟩
    obtain ⟨i, hi', hh⟩ := prs_at zs j u hu
    have := hzs i hi'
    rcases hh with ⟨rfl, rfl⟩ | ⟨rfl, rfl⟩
    · exact this.1
    · exact this.2

theorem rl_strs (zs : List (List UInt8)) : RL w noA noHv (zs.map S) (zs.map fun l => Value.string ⟨l.toArray⟩) := by
  induction zs with
  | nil => simp [RL]
  | cons z zs ih =>
    simp only [List.map_cons, RL] at *
    exact ⟨[.string ⟨z.toArray⟩], _, rfl, ⟨rfl, rfl⟩, ih⟩
theorem sa_strs {v : Value} {r : Reach} {b1 b0 : Nat} {sp : Nat → Bool} {hd : Bool} {d : DataW H} {p : List MemPlace} (hv : Value.okWide Tryz.prog w r b1 27 v) (h : DataW.Trod enc Tryz.prog w b0 sp hd 27 v d p) : ∃ l : List (List UInt8), RV w noA noHv (.s 1 (l.map S)) v ∧ ∀ o ∈ l, o.length ≤ 9223372036854775807 := by
  obtain ⟨a0, len, cap, rfl⟩ := okWide_slice Tryz.underlying27 hv
  obtain ⟨fuel, hf⟩ := h
  rcases open_strings Tryz.underlying27 Tryz.underlying9 tc9 hf with ⟨h1, _⟩ | ⟨a, len', cap', ss, h1, _, hl, hm, hz, _, hcell, hbound⟩
  · injection h1 with h1
    refine ⟨[], ?_, by simp⟩
    rw [h1]
    simp only [RV, R]
    exact ⟨none, 0, [], rfl, Nat.le_refl _, Nat.zero_le _, by simp, by simp [RL], fun h => absurd rfl h⟩
  · injection h1 with h1
    rw [h1]
    have hzl : len' ≤ ss.length := by rw [hz]; split <;> omega
    refine ⟨(ss.take len').map fun s => s.data.toList, s_of_cells (k := 1) (us := ((ss.take len').map fun s => s.data.toList).map fun l => Value.string ⟨l.toArray⟩) (by simp; omega) hl hm (by intro y hy; simp only [List.mem_map] at hy; obtain ⟨q, _, rfl⟩ := hy; rfl) (rl_strs _) (by decide) fun j u hu => ?_, fun o ho => ?_⟩
    · simp only [List.getElem?_map, Option.map_eq_some_iff] at hu
      obtain ⟨l, ⟨z, hz1, rfl⟩, rfl⟩ := hu
      have hj : j < (ss.take len').length := (List.getElem?_eq_some_iff.1 hz1).1
      simp at hj
      have := hcell j (by omega)
      rw [this]
      congr 2
      have e : (ss.take len')[j]? = ss[j]? := by rw [List.getElem?_take, if_pos (by omega)]
      rw [e] at hz1
      rw [List.getD_eq_getElem?_getD, hz1]
      rfl
    · simp only [List.mem_map] at ho
      obtain ⟨s, hs, rfl⟩ := ho
      have := hbound s (List.mem_of_mem_take hs)
      have e : s.size = s.data.size := rfl
      unfold maxLen at this
      simp only [Array.length_toList]
      omega
theorem sa_lab {v : Value} {r : Reach} {b1 b0 : Nat} {sp : Nat → Bool} {hd : Bool} {d : DataW H} {p : List MemPlace} (hv : Value.okWide Tryz.prog w r b1 26 v) (h : DataW.Trod enc Tryz.prog w b0 sp hd 26 v d p) : ∃ n ls lm, RV w noA noHv (labA n ls lm) v := by
  obtain ⟨cs, rfl, hsz⟩ := okWide_struct Tryz.underlying26 hv
  obtain ⟨fuel, hf⟩ := h
  obtain ⟨y0, y1, m, _, hl, t0, t1⟩ := trod_struct2 Tryz.underlying26 hf
  have hcs : cs.size = 3 := hsz.trans tc26
  have t0 : DataW.trod enc Tryz.prog w b0 sp hd m 24 ((cs.toList.drop 0).take (Tryz.prog.cellsOf 24)) = some y0 := by simpa [Value.cells] using t0
  have t1 : DataW.trod enc Tryz.prog w b0 sp hd m 3 ((cs.toList.drop 2).take (Tryz.prog.cellsOf 3)) = some y1 := by simpa [Value.cells] using t1
  rw [tc24] at t0
  rw [tc3] at t1
  match hcl : cs.toList, (show cs.toList.length = 3 by simpa using hcs) with
  | [c0, c1, c2], _ =>
    rw [hcl] at t0 t1
    simp only [List.drop_zero, List.take_succ_cons, List.take_zero, List.drop_succ_cons] at t0 t1
    obtain ⟨z0, z1, m', _, _, s0, s1⟩ := trod_struct2 Tryz.underlying24 t0
    have s0 : DataW.trod enc Tryz.prog w b0 sp hd m' 3 [c0] = some z0 := by simpa [tc3] using s0
    have s1 : DataW.trod enc Tryz.prog w b0 sp hd m' 22 [c1] = some z1 := by simpa [tc22] using s1
    obtain ⟨n0, e0, _, _⟩ := DataW.trod_int Tryz.underlying3 s0
    obtain ⟨n2, e2, _, _⟩ := DataW.trod_int Tryz.underlying3 t1
    simp at e0 e2
    subst e0
    subst e2
    obtain ⟨ls, hls⟩ := sa_prs Tryz.underlying22 Tryz.underlying79 tc79 rfl rfl rfl rfl rfl s1
    refine ⟨n0, ls, n2, ?_⟩
    have : cs = #[.int .i64 n0, c1, .int .i64 n2] := by rw [← Array.toList_inj, hcl]
    subst this
    simp only [labA, RV, RL, R]
    simp only [RV] at hls
    exact ⟨_, rfl, [.int .i64 n0], [c1, .int .i64 n2], rfl, ⟨rfl, rfl⟩, [c1], [.int .i64 n2], rfl, hls, [.int .i64 n2], [], rfl, ⟨rfl, rfl⟩, rfl⟩
theorem rr26 : Tryz.prog.readableRec 26 = true := by kernel_rfl
theorem rr27 : Tryz.prog.readableRec 27 = true := by kernel_rfl
theorem lt26 : 26 < Tryz.prog.types.size := of_decide_eq_true (by kernel_rfl)
theorem lt27 : 27 < Tryz.prog.types.size := of_decide_eq_true (by kernel_rfl)
end
end Go.Proofs.YtndniceeibflcaaGreatDoor

namespace Go.Proofs.YtndniceeibflcaaGreatDoor
open Aw Mp Go.RowKit
set_option linter.unusedSimpArgs false

theorem Acc.do {n lim : Int} {ls : List (Int × Int)} {l : List By} (h : Acc n lim ls l) (o : By) : Acc n lim ls (doO n lim ls l o) := by
  unfold doO
  split
  · exact .snoc h (by assumption)
  · exact h
end Go.Proofs.YtndniceeibflcaaGreatDoor

namespace Go.Proofs.YtndniceeibflcaaGreatDoor
open Aw Mp Go.RowKit
set_option linter.unusedSimpArgs false
set_option maxRecDepth 8000

theorem m47 (m : Mch) (hs : Sml m) : MSpec Tryz.prog 47 [.q 0 13 0 0] (memD m) (fun r N => r = .s 4 (gtsA m.st.circ) ∧ N = memD m) := by
  refine mspec_of2 (own := [3, 1001]) Tryz.func47 rfl ok47 ?_
  intro vs
  obtain ⟨gh, hgh⟩ : ∃ gh, gh = some (ghost vs [AV.q 0 13 0 0]) := ⟨_, rfl⟩
  simp only [wB, awp, asN, St.ev, St.step, setS, killS, AV.kill, AV.killL, Mem.kill, Nat.reduceAdd, Nat.reduceEqDiff, Nat.reduceSub, Int.reduceAdd, Int.reduceSub, Tryz.ntmps47, ← hgh, memD]
  refine swp_fm (own := [3]) 1 rfl rfl rfl ?_
  simp only [wB, St.ev, St.step, setS, killS, AV.kill, AV.killL, Mem.kill, AV.cells, Mch.ob, Mch.od, Mch.cells, List.take_succ_cons, List.take_zero]
  refine acall_f (fspec_of (m67f m hs.mu hs.p hs.h hs.c) [1, 3] rfl (by exact ⟨rfl, rfl, trivial⟩) rfl rfl (by simp [freeM, memD, Mch.ob, Mch.od, Mch.cells, AV.freeL, AV.free, strsA_free]) (N := [some m.ob, none, some m.od, gh]) (by rw [hgh]; rfl)) ?_
  simp only [wB, awp, asP, asQ, asT, asN, obA, loadA, storeA, putsA, mkA, Aw.newRow, St.ev, St.step, setS, killS, AV.kill, AV.killL, Mem.kill, AV.cells, AV.flat, AV.single, AV.cellular, Nat.reduceAdd, Nat.reduceEqDiff, Nat.reduceLeDiff, Int.reduceAdd, Mch.ob, Mch.od, Mch.cells, List.drop_succ_cons, List.drop_zero, AV.sub, keepG, liveI, AV.isQ, List.any_cons, List.any_nil, List.take_succ_cons, List.take_zero, stA]
  exact ⟨_, _, memD m, _, Le.refl _, rfl, by rw [hgh]; rfl, rfl, rfl, free_D _ m, rfl, rfl⟩

end Go.Proofs.YtndniceeibflcaaGreatDoor

namespace Go.Proofs.YtndniceeibflcaaGreatDoor
open Aw Mp Go.RowKit
set_option linter.unusedSimpArgs false
set_option maxRecDepth 8000

theorem s22e (n lim : Int) (ls : List (Int × Int)) (hls : ls.length ≤ 100000) (he : vN n lim ls ≠ 0) : ASpec Tryz.prog 22 [trapA n ls, I lim] (fun r Ms => r = .t [.v (.pointer none), I (vN n lim ls)] ∧ Ms = []) := by
  refine aspec_of (own := [2, 25]) Tryz.func22 rfl ok22 ?_
  simp only [wB, awp, asP, asQ, asN, obA, loadA, Aw.newRow, St.ev, St.step, setS, killS, AV.kill, AV.killL, Mem.kill, AV.cells, AV.flat, AV.single, AV.cellular, AV.size, AV.sizeL, Nat.reduceAdd, Nat.reduceEqDiff, Nat.reduceSub, Nat.reduceLeDiff, Int.reduceAdd, Int.reduceSub, Tryz.ntmps22, trapA]
  refine acall_v (s65 n ls (by omega)) (by simp [trapA, AV.pureL, AV.pure, prsA_pure]) rfl ?_
  by_cases h0 : vT n ls = 0
  · simp only [wB, awp, binC, cmpC, asB, asI, asN, St.ev, St.step, setS, killS, AV.kill, AV.killL, Mem.kill, Nat.reduceAdd, Nat.reduceEqDiff, Int.reduceAdd, decide_eq_true h0]
    by_cases h1 : lim < 0
    · simp only [wB, awp, asB, asN, St.ev, St.step, setS, killS, AV.kill, AV.killL, Mem.kill, Nat.reduceAdd, Nat.reduceEqDiff, Int.reduceAdd, decide_eq_true h1]
      exact aend_frz rfl ⟨by rw [vN, if_neg (by rw [h0]; simp), if_pos (.inl h1)]; rfl, rfl⟩
    simp only [wB, awp, binC, cmpC, asB, asI, St.ev, St.step, setS, killS, AV.kill, AV.killL, Mem.kill, decide_eq_false h1]
    by_cases h2 : 100 < lim
    · simp only [wB, awp, asN, St.ev, St.step, setS, killS, AV.kill, AV.killL, Mem.kill, Nat.reduceAdd, Nat.reduceEqDiff, Int.reduceAdd, decide_eq_true h2]
      exact aend_frz rfl ⟨by rw [vN, if_neg (by rw [h0]; simp), if_pos (.inr h2)]; rfl, rfl⟩
    · exact absurd (by rw [vN, if_neg (by rw [h0]; simp), if_neg (by omega)]) he
  · simp only [wB, awp, binC, cmpC, asB, asI, asN, St.ev, St.step, setS, killS, AV.kill, AV.killL, Mem.kill, Nat.reduceAdd, Nat.reduceEqDiff, Int.reduceAdd, decide_eq_false h0]
    exact aend_frz rfl ⟨by rw [vN, if_pos h0]; rfl, rfl⟩
end Go.Proofs.YtndniceeibflcaaGreatDoor

namespace Go.Proofs.YtndniceeibflcaaGreatDoor
open Aw Mp Go.RowKit
set_option linter.unusedSimpArgs false

theorem g4_eq (g h : G4) : [g.k, g.a, g.b, g.t] = [h.k, h.a, h.b, h.t] ↔ g = h := by
  cases g; cases h; simp
theorem ok53 : okFn Tryz.prog 53 = true := by kernel_rfl
theorem s53 (a b : List G4) (ha : a.length ≤ 1000000) (hb : b.length ≤ 1000000) : ASpec Tryz.prog 53 [.s 4 (gtsA a), .s 4 (gtsA b)] (fun r Ms => r = B (decide (a = b)) ∧ Ms = []) := by
  refine aspec_of (own := []) Tryz.func53 rfl ok53 ?_
  simp only [wB, awp, binC, cmpC, asB, asI, asN, lenA, St.ev, St.step, setS, killS, AV.kill, AV.killL, Mem.kill, Nat.reduceAdd, Nat.reduceSub, Int.reduceAdd, Int.reduceSub, lenK, Tryz.ntmps53, gtsA_len]
  by_cases hl : (a.length : Int) = b.length
  · simp only [wB, awp, asN, St.ev, St.step, setS, killS, AV.kill, AV.killL, Mem.kill, Nat.reduceAdd, Int.reduceAdd, decide_eq_true hl]
    refine swp_loop' (fun k : Nat => ⟨[.s 4 (gtsA a), .s 4 (gtsA b), .bot, .bot, .bot, I k, .bot, .bot, .bot, .bot, .bot, .bot, .bot, .bot, .bot, .bot, .bot, .bot, .bot, .bot, .bot, .bot, .bot, .bot, .bot, .bot], []⟩) (fun k => k ≤ a.length ∧ ∀ j (h : j < a.length) (h' : j < b.length), j < k → a[j] = b[j]) (fun k => a.length - k) 0 (le_sl (by simp [leSl, gtsA_len])) ⟨Nat.zero_le _, by omega⟩ ?_
    rintro k ⟨hk, hno⟩
    refine awp_sound (own := []) _ _ _ _ _ ?_
    simp only [wB, awp, binC, cmpC, asB, asI, lenA, St.ev, St.step, setS, killS, AV.kill, AV.killL, Mem.kill, Nat.reduceAdd, Int.reduceAdd, lenK, gtsA_len]
    by_cases h : k < a.length
    · have h' : (k : Int) < (a.length : Int) := by omega
      have h2 : k < b.length := by omega
      simp only [awp, ACond_true, decide_eq_true h']
      refine swp_draw (own := []) (.take 0 .plain [] (.take 1 .plain [] (.take 2 .reads [] (.take 3 .reads [] (.take 4 .plain [] (.take 5 .plain [] (.take 6 .reads [] (.take 7 .reads [] (.take 8 .plain [] (.done)))))))))) [⟨18, 1, 0, 0, true⟩, ⟨19, 32, 0, 0, true⟩, ⟨20, 393216, 3, 0, true⟩, ⟨21, 524288, 4, 0, true⟩, ⟨22, 2, 0, 0, true⟩, ⟨23, 32, 0, 0, true⟩, ⟨24, 6291456, 48, 0, true⟩, ⟨25, 8388608, 64, 0, true⟩, ⟨26, 17825792, 136, 0, true⟩] mo (by kernel_rfl) ?_
      simp only [wB, awp, binC, idxC, eqC, asP, asS, asG, asB, asI, loadA, St.ev, setS, AV.cells, AV.flat, AV.single, ints, Nat.reduceAdd, Nat.reduceLeDiff, Int.reduceAdd, ASch, St.put, Md.mem, Md.need, aget_gts h, aget_gts h2, Int.toNat_natCast]
      refine ⟨by omega, by omega, ?_⟩
      by_cases hx : [a[k].k, a[k].a, a[k].b, a[k].t] = [b[k].k, b[k].a, b[k].b, b[k].t]
      · simp only [wB, awp, binC, arithC, cmpC, asI, asN, St.ev, St.step, setS, killS, AV.kill, AV.killL, Mem.kill, Nat.reduceAdd, Int.reduceAdd, St.put, isU, decide_eq_true hx]
        refine ⟨by unfold lim; omega, k + 1, le_sl (by simp [leSl, gtsA_len]), ⟨h, fun j hj hj' hlt => ?_⟩, by omega⟩
        rcases Nat.lt_or_ge j k with h1 | h1
        · exact hno j hj hj' h1
        · obtain rfl : j = k := by omega
          exact (g4_eq _ _).1 hx
      · simp only [wB, awp, asN, St.ev, St.step, setS, killS, AV.kill, AV.killL, Mem.kill, Nat.reduceAdd, Int.reduceAdd, St.put, decide_eq_false hx]
        refine aend_frz rfl ⟨?_, rfl⟩
        rw [decide_eq_false (fun e => hx (by subst e; rfl))]
        rfl
    · have h' : ¬ (k : Int) < (a.length : Int) := by omega
      simp only [wB, awp, asN, St.ev, St.step, setS, killS, AV.kill, AV.killL, Mem.kill, Nat.reduceAdd, Int.reduceAdd, decide_eq_false h']
      refine aend_frz rfl ⟨?_, rfl⟩
      rw [decide_eq_true (List.ext_getElem (by omega) fun j h1 h2 => hno j h1 h2 (by omega))]
      rfl
  · simp only [wB, awp, asN, St.ev, St.step, setS, killS, AV.kill, AV.killL, Mem.kill, Nat.reduceAdd, Int.reduceAdd, decide_eq_false hl]
    refine aend_frz rfl ⟨?_, rfl⟩
    rw [decide_eq_false (fun e => hl (by rw [e]))]
    rfl

end Go.Proofs.YtndniceeibflcaaGreatDoor

namespace Go.Proofs.YtndniceeibflcaaGreatDoor
open Aw Mp Go.RowKit
set_option linter.unusedSimpArgs false
set_option maxRecDepth 8000

def doL (n lm : Int) (ls : List (Int × Int)) (l : List By) : List By := l.foldl (doO n lm ls) []
theorem doL_acc (n lm : Int) (ls : List (Int × Int)) (l : List By) : Acc n lm ls (doL n lm ls l) := by
  suffices h : ∀ (l d : List By), Acc n lm ls d → Acc n lm ls (l.foldl (doO n lm ls) d) from h l [] .nil
  intro l
  induction l with
  | nil => exact fun d h => h
  | cons o r ih => exact fun d h => ih _ (h.do o)
theorem doL_take {n lm : Int} {ls : List (Int × Int)} {l : List By} {k : Nat} (h : k < l.length) : doL n lm ls (l.take (k + 1)) = doO n lm ls (doL n lm ls (l.take k)) l[k] := by
  unfold doL
  rw [← List.take_append_getElem h, List.foldl_append]
  rfl
end Go.Proofs.YtndniceeibflcaaGreatDoor

namespace Go.Proofs.YtndniceeibflcaaGreatDoor
open Aw Mp Go.RowKit
set_option linter.unusedSimpArgs false
set_option maxRecDepth 8000

theorem vN_ok {n lm : Int} {ls : List (Int × Int)} (h : vN n lm ls = 0) : vT n ls = 0 ∧ 0 ≤ lm ∧ lm ≤ 100 := by
  unfold vN at h
  split at h
  · exact absurd h (by assumption)
  · split at h
    · cases h
    · exact ⟨Classical.byContradiction fun g => by contradiction, by omega⟩
end Go.Proofs.YtndniceeibflcaaGreatDoor

namespace Go.Proofs.YtndniceeibflcaaGreatDoor
open Aw Mp Go.RowKit
set_option linter.unusedSimpArgs false
set_option maxRecDepth 8000

/-- a machine whose orders are the object j. -/
def Mch.obA (m : Mch) (j : Nat) : Ob := ⟨none, 107, 13, [m.cells (.s 2 (prsA m.ls)) (.o j)]⟩
theorem not_dead {M : Mem} {n i : Nat} (h : liveI M i = true) : (deadL M n).contains i = false := by
  cases hc : (deadL M n).contains i with
  | false => rfl
  | true =>
    have hm := List.contains_iff_mem.1 hc
    unfold deadL at hm
    have := (List.mem_filter.1 hm).2
    rw [h] at this
    cases this
end Go.Proofs.YtndniceeibflcaaGreatDoor

namespace Go.Proofs.YtndniceeibflcaaGreatDoor
open Aw Mp Go.RowKit
set_option linter.unusedSimpArgs false
set_option maxRecDepth 8000

theorem f24 (n lm : Int) (ls : List (Int × Int)) (hT : vT n ls = 0) (hls : ls.length ≤ 1000000) (l : List By) (hA : Acc n lm ls l) (o : By) (ho : o.length ≤ 9223372036854775807) : FSpec Tryz.prog 24 [.q 0 13 0 0, S o] (memD (mkM n lm ls l)) (memD (mkM n lm ls l)) (I (erO n lm ls l o)) (memD (mkM n lm ls (doO n lm ls l o))) := by
  have := fD (m24 n lm ls l hA hT hls o ho) [] [1] rfl rfl rfl
  simpa using this
theorem mk_ren (m : Mch) : reM [0, 2] (memD m) = [some (m.obA 1), some m.od] := by
  simp [reM, reF, reG, memD, Mch.ob, Mch.obA, Mch.od, Mch.cells, AV.sub, AV.subL, prsA_sub, strsA_sub, intsA_sub, gtsA_sub, List.idxOf?, List.findIdx?, List.findIdx?.go]
theorem ok43 : okFn Tryz.prog 43 = true := by kernel_rfl
theorem s43n (n lm : Int) (ls : List (Int × Int)) (hls : ls.length ≤ 100000) (h0 : vN n lm ls ≠ 0) (l : List By) : ASpec Tryz.prog 43 [labA n ls lm, .s 1 (strsA l)] (fun r Ms => r = .v (.pointer none) ∧ Ms = []) := by
  refine aspec_of (own := []) Tryz.func43 rfl ok43 ?_
  have h22 := s22e n lm ls hls h0
  simp only [trapA] at h22
  simp only [wB, awp, asP, asN, loadA, St.ev, St.step, setS, killS, AV.kill, AV.killL, Mem.kill, AV.cells, AV.flat, AV.single, AV.cellular, AV.pure, AV.pureL, Nat.reduceAdd, Nat.reduceEqDiff, Nat.reduceSub, Nat.reduceLeDiff, Int.reduceAdd, Int.reduceSub, Tryz.ntmps43, labA]
  refine acall_v h22 (by simp [AV.pureL, AV.pure, prsA_pure]) rfl ?_
  simp only [wB, awp, binC, cmpC, asT, asB, asI, asN, St.ev, St.step, setS, killS, AV.kill, AV.killL, Mem.kill, Nat.reduceAdd, Int.reduceAdd, decide_eq_false h0]
  exact aend_frz rfl ⟨rfl, rfl⟩
theorem s43 (n lm : Int) (ls : List (Int × Int)) (hls : ls.length ≤ 100000) (h0 : vN n lm ls = 0) (l : List By) (hs : ∀ o ∈ l, o.length ≤ 9223372036854775807) : ASpec Tryz.prog 43 [labA n ls lm, .s 1 (strsA l)] (fun r Ms => r = .q 0 13 0 0 ∧ Ms = [(mkM n lm ls (doL n lm ls (l.take 40))).obA 1, (mkM n lm ls (doL n lm ls (l.take 40))).od]) := by
  refine aspec_of (own := [1002, 1007]) Tryz.func43 rfl ok43 ?_
  have h22 := s22o n lm ls hls h0
  have hT := (vN_ok h0).1
  simp only [trapA] at h22
  simp only [wB, awp, asP, asN, loadA, St.ev, St.step, setS, killS, AV.kill, AV.killL, Mem.kill, AV.cells, AV.flat, AV.single, AV.cellular, AV.pure, AV.pureL, Nat.reduceAdd, Nat.reduceEqDiff, Nat.reduceSub, Nat.reduceLeDiff, Int.reduceAdd, Int.reduceSub, Tryz.ntmps43, labA]
  refine acall_os h22 (by simp [AV.pureL, AV.pure, prsA_pure]) ?_
  simp only [wB, awp, asT, asN, St.ev, St.step, setS, killS, AV.kill, AV.killL, Mem.kill, Nat.reduceAdd, Nat.reduceEqDiff, Int.reduceAdd, List.drop_zero, AV.sub, AV.subL, List.take_succ_cons, List.take_zero, AV.up, Ob.up, prsA_msub, new_sub]
  refine swp_le (σ' := ⟨[.bot, .s 1 (strsA l), .bot, .bot, .bot, .q 0 13 0 0, I 0, .bot, .bot, .bot, .bot, .bot, .bot, .bot, .bot, .bot, .bot, .bot, .bot, .bot, .bot, .bot, .bot, .bot, .bot, .bot, .bot, .bot, .bot, .bot, .bot, .bot, .bot, .bot, .bot, .bot, .bot, .bot, .bot], memD (mkM n lm ls [])⟩) (le_new (by simp [leSl, frz1, AV.sub])) ?_
  refine awp_sound (own := [1007]) _ _ _ _ _ ?_
  simp only [wB, awp, binC, cmpC, eqC, asG, asB, asI, asN, St.ev, St.step, setS, killS, AV.kill, AV.killL, Mem.kill, Nat.reduceAdd, Nat.reduceEqDiff, Int.reduceAdd, isNP, ptrN, asStr, nt32]
  refine swp_loop' (fun k : Nat => ⟨[.bot, .s 1 (strsA l), .bot, .bot, .bot, .q 0 13 0 0, .bot, I k, .bot, .bot, .bot, .bot, .bot, .bot, .bot, .bot, .bot, .bot, .bot, .bot, .bot, .bot, .bot, .bot, .bot, .bot, .bot, .bot, .bot, .bot, .bot, .bot, .bot, .bot, .bot, .bot, .bot, .bot, .bot], memD (mkM n lm ls (doL n lm ls (l.take k)))⟩) (fun k => k ≤ l.length ∧ k ≤ 40) (fun k => 40 - k) 0 (le_sl' ?_ (by simp [leSl])) ⟨Nat.zero_le _, Nat.zero_le _⟩ ?_
  · simp [doL]
  rintro k ⟨hk, hk4⟩
  have hA := doL_acc n lm ls (l.take k)
  refine awp_sound (own := [1007]) _ _ _ _ _ ?_
  simp only [wB, awp, binC, cmpC, asI, lenA, St.ev, St.step, setS, killS, AV.kill, AV.killL, Mem.kill, Nat.reduceAdd, Nat.reduceEqDiff, Int.reduceAdd, lenK, strsA_len, strsA_len]
  by_cases h : k < l.length
  case neg =>
    have h' : ¬ (k : Int) < l.length := by omega
    simp only [wB, awp, asB, asN, St.ev, St.step, setS, killS, AV.kill, AV.killL, Mem.kill, Nat.reduceAdd, Nat.reduceEqDiff, Int.reduceAdd, decide_eq_false h']
    have e : l.take k = l.take 40 := by rw [List.take_of_length_le (by omega), List.take_of_length_le (by omega)]
    rw [e]
    refine aend_ren [0, 2] (by decide) [(mkM n lm ls (doL n lm ls (l.take 40))).obA 1, (mkM n lm ls (doL n lm ls (l.take 40))).od] rfl (mk_ren _) ⟨rfl, rfl⟩
  have h' : (k : Int) < l.length := by omega
  by_cases h4 : k < 40
  case neg =>
    have h4' : ¬ (k : Int) < 40 := by omega
    simp only [wB, awp, binC, cmpC, asB, asI, asN, St.ev, St.step, setS, killS, AV.kill, AV.killL, Mem.kill, Nat.reduceAdd, Nat.reduceEqDiff, Int.reduceAdd, decide_eq_true h', decide_eq_false h4']
    have e : l.take k = l.take 40 := by rw [show k = 40 by omega]
    rw [e]
    refine aend_ren [0, 2] (by decide) [(mkM n lm ls (doL n lm ls (l.take 40))).obA 1, (mkM n lm ls (doL n lm ls (l.take 40))).od] rfl (mk_ren _) ⟨rfl, rfl⟩
  have h4' : (k : Int) < 40 := by omega
  simp only [wB, awp, binC, cmpC, asB, asI, St.ev, St.step, setS, killS, AV.kill, AV.killL, Mem.kill, Nat.reduceAdd, Int.reduceAdd, decide_eq_true h', decide_eq_true h4']
  refine swp_fs (own := []) [false, false, false, false, false, true] ?_
  simp only [wB, idxC, asP, asS, asI, loadA, St.ev, St.step, setS, killS, AV.kill, AV.killL, Mem.kill, AV.cells, AV.flat, AV.single, memD, aget_strs h, Int.toNat_natCast]
  refine ⟨by omega, acall_f (f24 n lm ls hT (by omega) _ hA l[k] (hs _ (List.getElem_mem h))) ?_⟩
  simp only [wB, awp, binC, arithC, cmpC, asI, asN, St.ev, St.step, setS, killS, AV.kill, AV.killL, Mem.kill, Nat.reduceAdd, Nat.reduceEqDiff, Int.reduceAdd, isU, memD, AV.sub, keepG, liveI, AV.isQ, List.any_cons, List.any_nil]
  refine ⟨by unfold lim; omega, k + 1, le_sl' ?_ (by simp [leSl]), ⟨h, h4⟩, by omega⟩
  simp [doL_take h, memD]
end Go.Proofs.YtndniceeibflcaaGreatDoor

namespace Go.Proofs.YtndniceeibflcaaGreatDoor
open Aw Mp Go.RowKit
set_option linter.unusedSimpArgs false
set_option maxRecDepth 8000

theorem ok21 : okFn Tryz.prog 21 = true := by kernel_rfl
theorem s21 (l : List By) : ASpec Tryz.prog 21 [.s 1 (strsA l)] (fun r Ms => r = B (decide (150 < l.length)) ∧ Ms = []) := by
  refine aspec_of (own := []) Tryz.func21 rfl ok21 ?_
  simp only [wB, awp, binC, cmpC, asI, asN, lenA, St.ev, St.step, setS, killS, AV.kill, AV.killL, Mem.kill, Nat.reduceAdd, Nat.reduceSub, Int.reduceAdd, Int.reduceSub, lenK, strsA_len, Tryz.ntmps21]
  refine aend_frz rfl ⟨?_, rfl⟩
  have : decide ((150 : Int) < l.length) = decide (150 < l.length) := decide_eq_decide.2 (by omega)
  rw [← this]
  rfl
end Go.Proofs.YtndniceeibflcaaGreatDoor

namespace Go.Proofs.YtndniceeibflcaaGreatDoor
open Aw Mp Go.RowKit
set_option linter.unusedSimpArgs false
set_option maxRecDepth 8000

theorem ok20 : okFn Tryz.prog 20 = true := by kernel_rfl
theorem s20 (n lm : Int) (ls : List (Int × Int)) : ASpec Tryz.prog 20 [labA n ls lm] (fun r Ms => r = B (decide (60 < ls.length)) ∧ Ms = []) := by
  refine aspec_of (own := []) Tryz.func20 rfl ok20 ?_
  simp only [wB, awp, binC, cmpC, asP, asI, asN, lenA, loadA, St.ev, St.step, setS, killS, AV.kill, AV.killL, Mem.kill, AV.cells, AV.flat, AV.single, AV.cellular, AV.pure, AV.pureL, Nat.reduceAdd, Nat.reduceEqDiff, Nat.reduceSub, Nat.reduceLeDiff, Int.reduceAdd, Int.reduceSub, lenK, Tryz.ntmps20, labA, prsA_len]
  refine aend_frz rfl ⟨?_, rfl⟩
  have : decide ((60 : Int) < ls.length) = decide (60 < ls.length) := decide_eq_decide.2 (by omega)
  rw [← this]
  rfl
end Go.Proofs.YtndniceeibflcaaGreatDoor

namespace Go.Proofs.YtndniceeibflcaaGreatDoor
open Aw Mp Go.RowKit
set_option linter.unusedSimpArgs false
set_option maxRecDepth 8000

/-- other objects that no machine's call turns. -/
theorem fT {f : FuncId} {ars : List AV} {m m' : Mch} {x : AV} (h : MSpec Tryz.prog f ars (memD m) (fun r N => r = x ∧ N = memD m')) (T : Mem) (hfa : AV.freeL (deadL (memD m) (3 + T.length)) ars = true)
    (hT : ∀ F G, (T.map fun c : Option Ob => c.map fun ob => { ob with xs := AV.subL F G ob.xs }) = T) : FSpec Tryz.prog f ars (memD m) (memD m ++ T) x (memD m' ++ T) := fD h T _ rfl hfa (hT _ _)
theorem q0_free (m : Mch) (k : Nat) (ars : List AV) (h : AV.pureL ars = true) : AV.freeL (deadL (memD m) k) (.q 0 13 0 0 :: ars) = true := by
  have h0 : (deadL (memD m) k).contains 0 = false := not_dead rfl
  simp [AV.freeL, AV.free, -List.contains_eq_mem, h0, freeL_pure _ h]
end Go.Proofs.YtndniceeibflcaaGreatDoor

namespace Go.Proofs.YtndniceeibflcaaGreatDoor
open Aw Mp Go.RowKit
set_option linter.unusedSimpArgs false
set_option maxRecDepth 8000

/-- a machine that was made by another function. -/
theorem le_mk {m : Mch} {sl sl' : List AV} (h : leSl (sl.map (AV.sub (reF [0, 99, 1]) (reG [0, 99, 1]))) sl') : Le ⟨sl, [some (m.obA 1), some m.od]⟩ ⟨sl', memD m⟩ := by
  refine le_rn [0, 99, 1] (by decide) ?_ h
  simp [reM, reF, reG, memD, Mch.ob, Mch.obA, Mch.od, Mch.cells, AV.sub, AV.subL, prsA_sub, strsA_sub, intsA_sub, gtsA_sub, List.idxOf?, List.findIdx?, List.findIdx?.go]
theorem strsA_msub (F : Nat → AV) (G : Nat → Nat → Nat → Nat → AV) (l : List By) : (strsA l).map (AV.sub F G) = strsA l := by rw [← AV.subL_map, strsA_sub]
theorem acall_mk {f : FuncId} {aS : List AV} {M : Mem} {K : HK (AV → Mem → Prop)} {x : AV} {m : Mch} (spec : ASpec Tryz.prog f aS (fun r Ns => r = x ∧ Ns = [m.obA 1, m.od])) (ha : AV.pureL aS = true) (h : K.k (x.up M.length) (M ++ [some (m.obA (M.length + 1)), some m.od])) : ACall Tryz.prog f aS M (K := K) := by
  refine acall_os spec ha ?_
  have e1 : (m.obA 1).up M.length = m.obA (M.length + 1) := by
    simp [Ob.up, Mch.obA, Mch.cells, AV.up, AV.sub, AV.subL, prsA_sub, strsA_sub, intsA_sub, gtsA_sub, Nat.add_comm]
  have e2 : m.od.up M.length = m.od := by
    simp [Ob.up, Mch.od, AV.up, AV.sub, AV.subL, strsA_sub, strsA_msub]
  simp only [List.map_cons, List.map_nil, e1, e2]
  exact h
end Go.Proofs.YtndniceeibflcaaGreatDoor

namespace Go.Proofs.YtndniceeibflcaaGreatDoor
open Aw Mp Go.RowKit
set_option linter.unusedSimpArgs false
set_option maxRecDepth 8000

theorem fG {m m' : Mch} {f : FuncId} {ars : List AV} {x : AV} (h : MSpec Tryz.prog f (.q 0 13 0 0 :: ars) (memD m) (fun r N => r = x ∧ N = memD m')) (ha : AV.pureL ars = true) : FSpec Tryz.prog f (.q 0 13 0 0 :: ars) (memD m) (memD m) x (memD m') := by
  have := fT h [] (q0_free _ _ _ ha) (fun F G => rfl)
  simpa using this
end Go.Proofs.YtndniceeibflcaaGreatDoor

namespace Go.Proofs.YtndniceeibflcaaGreatDoor
open Aw Mp Go.RowKit
set_option linter.unusedSimpArgs false
set_option maxRecDepth 8000

theorem vC4 {n : Int} {c : Nat} {s : MS} (h : InvS n c s) : vC 4 s.circ = 0 := by
  unfold vC vG
  rw [if_neg (by omega), if_neg (by have := h.c10; omega), if_pos]
  intro g hg
  exact okG_mono (h.cok g hg) (by have := h.p4; omega)
/-- what is left of a machine's circuit. -/
theorem s55m {n : Int} {k : Nat} {t : MS} (h : InvS n k t) : ASpec Tryz.prog 55 [I 4, .s 4 (gtsA t.circ)] (fun r Ms => r = .t [.s 4 (gtsA (redC t.circ)), I 0] ∧ Ms = []) := by
  have h1 := s55 4 t.circ (by have := h.c10; omega)
  rw [if_pos (vC4 h), vC4 h] at h1
  exact h1
theorem m56 (m : Mch) (hs : Sml m) {n : Int} {k : Nat} (hI : InvS n k m.st) : MSpec Tryz.prog 56 [.q 0 13 0 0] (memD m) (fun r N => r = .s 4 (gtsA (redC m.st.circ)) ∧ N = memD m) := by
  refine mspec_of2 (own := [3, 1001]) Tryz.func56 rfl ok56 ?_
  intro vs
  obtain ⟨gh, hgh⟩ : ∃ gh, gh = some (ghost vs [AV.q 0 13 0 0]) := ⟨_, rfl⟩
  have h67 : MSpec Tryz.prog 67 [.q 0 13 0 0] (memD m) (fun r N => r = .t [.g [.s 1 (intsA m.st.place), .s 1 (intsA m.st.heats), .s 4 (gtsA m.st.circ), I m.st.moves, I m.st.cools, I m.st.done], S m.log] ∧ N = memD m) := m67f m hs.mu hs.p hs.h hs.c
  simp only [wB, awp, asN, St.ev, St.step, setS, killS, AV.kill, AV.killL, Mem.kill, Nat.reduceAdd, Nat.reduceEqDiff, Nat.reduceSub, Int.reduceAdd, Int.reduceSub, Tryz.ntmps56, ← hgh, memD]
  refine swp_fs (own := [3]) [false, true, false, false, false, false, false, false] ?_
  simp only [wB, St.ev, St.step, setS, killS, AV.kill, AV.killL, Mem.kill]
  refine acall_f (fD h67 [gh] [1, 3] rfl rfl (by rw [hgh]; rfl)) ?_
  simp only [wB, awp, asP, asQ, asT, asN, obA, loadA, storeA, putsA, mkA, Aw.newRow, St.ev, St.step, setS, killS, AV.kill, AV.killL, Mem.kill, AV.cells, AV.flat, AV.single, AV.cellular, Nat.reduceAdd, Nat.reduceEqDiff, Nat.reduceLeDiff, Int.reduceAdd, memD, List.drop_succ_cons, List.drop_zero, AV.sub, keepG, liveI, AV.isQ, List.any_cons, List.any_nil, List.take_succ_cons, List.take_zero]
  refine acall_v (s55m hI) (by simp [AV.pureL, AV.pure, gtsA_pure]) (by simp [AV.pure, AV.pureL, gtsA_pure]) ?_
  simp only [wB, awp, asT, asN, St.ev, St.step, setS, killS, AV.kill, AV.killL, Mem.kill, Nat.reduceAdd, Nat.reduceEqDiff, Int.reduceAdd]
  exact ⟨_, _, memD m, _, Le.refl _, rfl, by rw [hgh]; rfl, rfl, rfl, free_D _ m, rfl, rfl⟩
theorem ok16 : okFn Tryz.prog 16 = true := by kernel_rfl
theorem s16 (n lm : Int) (ls : List (Int × Int)) (l : List By) (hs : ∀ o ∈ l, o.length ≤ 9223372036854775807) : ASpec Tryz.prog 16 [labA n ls lm, .s 1 (strsA l)] (fun r Ms => r = B true ∧ Ms = []) := by
  refine aspec_of (own := [1004, 1006, 1007]) Tryz.func16 rfl ok16 ?_
  have h20 := s20 n lm ls
  simp only [labA] at h20
  simp only [wB, awp, asP, asN, loadA, St.ev, St.step, setS, killS, AV.kill, AV.killL, Mem.kill, AV.cells, AV.flat, AV.single, AV.cellular, AV.pure, AV.pureL, Nat.reduceAdd, Nat.reduceEqDiff, Nat.reduceSub, Nat.reduceLeDiff, Int.reduceAdd, Int.reduceSub, Tryz.ntmps16, labA]
  refine acall_v h20 (by simp [AV.pureL, AV.pure, prsA_pure]) rfl ?_
  by_cases h60 : 60 < ls.length
  · simp only [wB, awp, asB, St.ev, St.step, setS, killS, AV.kill, AV.killL, Mem.kill, Nat.reduceAdd, Nat.reduceEqDiff, Int.reduceAdd, decide_eq_true h60]
    refine acall_v s31 rfl rfl ?_
    simp only [wB, awp, asN, St.ev, St.step, setS, killS, AV.kill, AV.killL, Mem.kill, Nat.reduceEqDiff]
    exact aend_frz rfl ⟨rfl, rfl⟩
  simp only [wB, St.ev, St.step, setS, killS, AV.kill, AV.killL, Mem.kill, decide_eq_false h60]
  refine acall_v (s21 l) (by simp [AV.pureL, AV.pure, strsA_pure]) rfl ?_
  by_cases h150 : 150 < l.length
  · simp only [wB, awp, asB, St.ev, St.step, setS, killS, AV.kill, AV.killL, Mem.kill, Nat.reduceAdd, Nat.reduceEqDiff, Int.reduceAdd, decide_eq_true h150]
    refine acall_v s31 rfl rfl ?_
    simp only [wB, awp, asN, St.ev, St.step, setS, killS, AV.kill, AV.killL, Mem.kill, Nat.reduceEqDiff]
    exact aend_frz rfl ⟨rfl, rfl⟩
  simp only [wB, awp, asP, asB, loadA, St.ev, St.step, setS, killS, AV.kill, AV.killL, Mem.kill, AV.cells, AV.flat, AV.single, Nat.reduceAdd, Nat.reduceEqDiff, Nat.reduceLeDiff, Int.reduceAdd, decide_eq_false h150]
  by_cases h0 : vN n lm ls = 0
  case neg =>
    have h43 := s43n n lm ls (by omega) h0 l
    simp only [labA] at h43
    refine acall_v h43 (by simp [AV.pureL, AV.pure, prsA_pure, strsA_pure]) rfl ?_
    simp only [wB, awp, asN, St.ev, St.step, setS, killS, AV.kill, AV.killL, Mem.kill, Nat.reduceAdd, Nat.reduceEqDiff, Int.reduceAdd]
    refine awp_sound (own := []) _ _ _ _ _ ?_
    simp only [wB, awp, binC, eqC, asG, asB, asI, St.ev, St.step, setS, killS, AV.kill, AV.killL, Mem.kill, Nat.reduceAdd, Nat.reduceEqDiff, Int.reduceAdd, isNP, ptrN, asStr, nt32]
    refine acall_v s31 rfl rfl ?_
    simp only [wB, awp, asN, St.ev, St.step, setS, killS, AV.kill, AV.killL, Mem.kill, Nat.reduceEqDiff]
    exact aend_frz rfl ⟨rfl, rfl⟩
  have h43 := s43 n lm ls (by omega) h0 l hs
  have hA := doL_acc n lm ls (l.take 40)
  generalize doL n lm ls (l.take 40) = d at *
  simp only [labA] at h43
  refine acall_mk h43 (by simp [AV.pureL, AV.pure, prsA_pure, strsA_pure]) ?_
  simp only [wB, awp, asN, St.ev, St.step, setS, killS, AV.kill, AV.killL, Mem.kill, Nat.reduceAdd, Nat.reduceEqDiff, Int.reduceAdd, AV.sub, AV.up]
  refine swp_le (σ' := ⟨[.bot, .bot, .bot, .bot, .bot, .q 0 13 0 0, .bot, .bot, .bot, .bot, .bot, .bot, .bot, .bot, .bot, .bot, .bot, .bot, .bot, .bot, .bot, .bot, .bot, .bot, .bot, .bot, .bot, .bot, .bot, .bot, .bot, .bot, .bot, .bot, .bot, .bot, .bot, .bot], memD (mkM n lm ls d)⟩) (le_mk (by simp [leSl, AV.sub, AV.subL, prsA_sub, prsA_msub, reF, reG, List.idxOf?, List.findIdx?, List.findIdx?.go])) ?_
  refine awp_sound (own := []) _ _ _ _ _ ?_
  simp only [wB, awp, binC, eqC, asG, asB, asI, St.ev, St.step, setS, killS, AV.kill, AV.killL, Mem.kill, Nat.reduceAdd, Nat.reduceEqDiff, Int.reduceAdd, isNP, ptrN, asStr, nt32, memD]
  have hm := sml_of hA
  have hI := hA.inv.2
  have hc10 := hI.c10
  have h47 : FSpec Tryz.prog 47 [.q 0 13 0 0] (memD (mkM n lm ls d)) (memD (mkM n lm ls d)) (.s 4 (gtsA (stO d).circ)) (memD (mkM n lm ls d)) := fG (m47 _ hm) rfl
  have h56 : FSpec Tryz.prog 56 [.q 0 13 0 0] (memD (mkM n lm ls d)) (memD (mkM n lm ls d)) (.s 4 (gtsA (redC (stO d).circ))) (memD (mkM n lm ls d)) := fG (m56 (mkM n lm ls d) hm hI) rfl
  have hrl := redC_len (stO d).circ
  refine swp_fs (own := []) [false, true, false, false, false, false, false, false] ?_
  simp only [wB, St.ev, St.step, setS, killS, AV.kill, AV.killL, Mem.kill]
  refine acall_f h47 ?_
  simp only [wB, St.ev, setS, memD, AV.sub, keepG, liveI, AV.isQ, List.any_cons, List.any_nil]
  refine acall_v (s55m hI) (by simp [AV.pureL, AV.pure, gtsA_pure]) (by simp [AV.pure, AV.pureL, gtsA_pure]) ?_
  simp only [wB, awp, asT, asN, St.ev, St.step, setS, killS, AV.kill, AV.killL, Mem.kill, Nat.reduceAdd, Nat.reduceEqDiff, Int.reduceAdd]
  refine swp_fs (own := []) [false, false, false, false, true, false, false, false, false, false, false, false] ?_
  simp only [wB, binC, cmpC, asI, St.ev, St.step, setS, killS, AV.kill, AV.killL, Mem.kill]
  refine acall_f h56 ?_
  simp only [wB, St.ev, St.step, setS, killS, AV.kill, AV.killL, Mem.kill, memD, AV.sub, AV.subL, keepG, liveI, AV.isQ, List.any_cons, List.any_nil]
  refine acall_v (s53 (redC (stO d).circ) (redC (stO d).circ) (by omega) (by omega)) (by simp [AV.pureL, AV.pure, gtsA_pure]) rfl ?_
  simp only [wB, asB, St.ev, St.step, setS, killS, AV.kill, AV.killL, Mem.kill]
  refine acall_v s31 rfl rfl ?_
  simp only [wB, awp, asB, asN, St.ev, St.step, setS, killS, AV.kill, AV.killL, Mem.kill]
  exact aend_frz rfl ⟨rfl, rfl⟩
end Go.Proofs.YtndniceeibflcaaGreatDoor

namespace Go.Proofs.YtndniceeibflcaaGreatDoor
open Aw Go.ChangeShapes Go.WideShapes Go.ChangeAt Go.RowKit Go.Deep Go.Joins

set_option maxRecDepth 100000 in
theorem machineLeft_lifted (os : Os) (started : os.Started) (H : Type) (enc : TypeId × Value → H) :
    ReturnsInHanded {} Tryz.checked os 16 .any (fun w args => (Rows.machineLeftSpec.pre enc Tryz.prog Tryz.f16 [] false w args ∧ laidMetH Tryz.prog Rows.machineLeftRow.laid w) ∧ sizedMet enc Tryz.prog Tryz.f16 (OpenSpec.ofChange Rows.machineLeftSpec) false w args)
      (Rows.machineLeftSpec.post enc Tryz.prog Tryz.f16 false true false false) := by
  refine returns_laid (C := Tryz.checked) (X := fun w _ => laidMetH Tryz.prog Rows.machineLeftRow.laid w) (fun _ _ _ hh h => h.of_heap hh) Tryz.own started (by kernel_rfl) Tryz.func16
    (ChangeSpec.witness_at (enc := enc) (C := Tryz.checked) (os := os) (X := fun w _ => laidMetH Tryz.prog Rows.machineLeftRow.laid w) false (laidWorld os) #[.agg #[.int .i64 0, .slice none 0 0, .int .i64 0], .slice none 0 0] 8 rfl (by kernel_rfl) (by kernel_rfl) (by kernel_rfl) (by kernel_rfl) (by kernel_rfl) (laidWorld_met os _)) ?_
  intro W base args ds gs before hval0 hW hsz hL hsh
  have hval : ∀ (j : Nat) t v, Tryz.f16.params[j]? = some t → args[j]? = some v → Value.okWide Tryz.prog W .any base t v := hval0
  have hG : GOk W := gok_of hL hsh
  have hW' := hW
  obtain ⟨p, q, hA0, hV, rfl, hfz, hnd⟩ := hW
  have hA : DataW.TrodAll enc Tryz.prog W 0 (fun _ => true) true Tryz.f16.params.toList args.toList ds p := hA0
  rw [Tryz.params16] at hA hval hsz
  obtain ⟨v0, v1, d0, d1, p0, p1, rfl, rfl, rfl, h0, h1⟩ := trodAll_two hA
  obtain ⟨rfl, rfl⟩ := trodVars_none hV
  obtain ⟨n0, ls0, lm0, r0⟩ := sa_lab (hval 0 26 v0 rfl rfl) h0
  obtain ⟨l1, r1, b1⟩ := sa_strs (hval 1 27 v1 rfl rfl) h1
  clear hA0 hval0
  simp only [List.append_nil] at hW'
  have hlt : ∀ x ∈ p0 ++ p1, x.block < W.heap.size := fun x hx => hW'.lt x (by simpa using hx)
  refine (calls_true (s16 n0 lm0 ls0 l1 b1) (vs := [v0, v1]) (by simp only [RVL]; exact ⟨_, _, rfl, r0, _, _, rfl, r1, rfl⟩) hG).mono fun e W' ⟨he, hb⟩ => ?_
  subst he
  refine ⟨_, rfl, law_shut hW' hb rfl (fun _ _ _ => trodAll_mk1 (shut_bool Tryz.underlying4 true)) (fun sp hsp => ?_) rfl (ok_one (by kernel_rfl) rfl (okWide_bool_mk Tryz.underlying4 true))⟩
  exact trodAll_mk2 (arg_stays Tryz.laidOut rr26 lt26 h0 hb (fun x hx => hlt x (by simp [hx])) (sp := sp) (fun x hx => hsp x (by simp [hx])))
    (arg_stays Tryz.laidOut rr27 lt27 h1 hb (fun x hx => hlt x (by simp [hx])) (sp := sp) (fun x hx => hsp x (by simp [hx])))

theorem machineLeft_func : Tryz.prog.funcNamed "quadrupole/quadrupolelaw09.MachineLeft" = some 16 := by kernel_rfl
theorem machineLeft_k10 : (Rows.machineLeftRow.inPlace == Tryz.prog.inPlace 16) = true := by kernel_rfl
theorem machineLeft_k11 : (Rows.machineLeftRow.unfollowed == Tryz.prog.unfollowed 16) = true := by kernel_rfl
theorem machineLeft_k12 : (Rows.machineLeftRow.recurses == Tryz.prog.recurses 16) = true := by kernel_rfl
theorem machineLeft_k13 : (Rows.machineLeftRow.named == Tryz.prog.varsNamed 16) = true := by kernel_rfl
theorem machineLeft_closed : joinedFacts Tryz.prog 16 Tryz.f16 Rows.machineLeftSpec Rows.machineLeftRow = true :=
  joined_of (by kernel_rfl) (by kernel_rfl) (by kernel_rfl) rfl rfl machineLeft_k10 machineLeft_k11 machineLeft_k12 machineLeft_k13 (by kernel_rfl) Tryz.keysE rfl Tryz.lifts Tryz.made (by kernel_rfl)
theorem machineLeft_goes : false = Rows.machineLeftRow.goesBy Tryz.prog := by kernel_rfl
theorem machineLeft_row : Rows.MachineLeftSaid :=
  OpenClaim.holds_of_wide 16 Tryz.f16 rfl rfl rfl rfl rfl rfl rfl ⟨rfl, rfl, rfl, rfl, rfl⟩ rfl rfl rfl rfl rfl machineLeft_func Tryz.func16 machineLeft_closed
    (of_decide_eq_true (by kernel_rfl)) (by unfold Func.isWrapper; rw [if_neg (of_decide_eq_false (by kernel_rfl))]; exact ⟨rfl, rfl⟩)
    (fun os started H enc _ => machineLeft_lifted os started H enc)

theorem machineLeft_holds : Rows.MachineLeftCardSaid :=
  Claim7.holds_tied_plain_at .later [] [.data, .data, .data, .data, .handle, .sentinel, .sentinel, .pinned] true (true, "aa03d57e40d7f46a321b7a338959e31570b187a828c7cad4885241d6f19c00d7") true
    machineLeft_row (fun _ h => by cases h) (by kernel_rfl) (fun _ h => by cases h) machineLeft_row_tie rfl ⟨rfl, rfl⟩ Tryz.mainE rfl
    (fun f fn hf hfn => by
      obtain rfl : f = 16 := Option.some.inj (machineLeft_func.symm.trans hf) |>.symm
      obtain rfl : fn = Tryz.f16 := (Option.some.inj (Tryz.func16.symm.trans hfn)).symm
      refine ⟨Tryz.looksE, fun j t ht => ?_⟩
      rw [Tryz.params16] at ht
      have h3 := Array.mem_of_getElem? ht
      simp only [List.mem_toArray, List.mem_cons, List.not_mem_nil, or_false] at h3
      rcases h3 with rfl | rfl
      · exact Tryz.st26
      · exact Tryz.st27)
    machineLeft_goes
end Go.Proofs.YtndniceeibflcaaGreatDoor
