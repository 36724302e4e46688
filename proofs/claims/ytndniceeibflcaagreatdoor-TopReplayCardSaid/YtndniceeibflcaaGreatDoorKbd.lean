/-
  Parts of several texts in one: AAB, MxA, MxC, MyA, MyK, MyL.
-/
import Derived.Test.YtndniceeibflcaaGreatDoorProg
import Derived.WalkKit
import Derived.Lib.ConvBytes
import Derived.LaidEql
import Derived.Lib.ItoaNum
import Derived.Lib.LaidTab
import Derived.KernelRfl
import GoSem.Claims
import GoSem.ClaimJoined
import Derived.Orders
import Derived.Laws.StructEq
import Derived.Maps.Keyed
import Derived.Lib.Strings
import Derived.Maps.AppendAt
import Derived.Laws.Concat
import Derived.MapKept
import Derived.Laws.MakeOwn
import Derived.Scope
import Derived.Laws.BitsLemmas
import Derived.Maps.RangeRun
import Derived.StillTail
import Derived.OrdersIn
import Derived.TacticsIn
import Derived.RangeFuncRecord
import Derived.RangeFuncCalls
import Derived.RangeFuncSeq
import Derived.Lib.Split
import Derived.Lib.AtoiAll
import Derived.Shelf.LaysM
import Derived.Shelf.LaysC
import Derived.Shelf.Strconv.Itoa3
import Derived.Shelf.Strconv.AtoiAll
import Derived.Shelf.Strings.Search3
import Derived.Shelf.Strings.Cut
import Derived.Shelf.Strings.Prefix
import Derived.Shelf.Strings.Split
import Derived.Lib.AppendIntMem
import Derived.Stop.Asserts
import Derived.RowKitTokens
import Derived.Conc.MuLone
import Derived.Test.YtndniceeibflcaaGreatDoorRows
import Derived.Test.YtndniceeibflcaaGreatDoorChecked
import Derived.ChangeSame
import Derived.ChangeVars
import Derived.JoinedOf
import Derived.ProofKit
import Derived.RowKit
import Derived.LaidLaws
import Derived.LaidHandle
import Derived.LaidMore
import Derived.Stop.Joined
import Derived.Stop.LaidErr
import Derived.HandedShaped
import Derived.Shelf.Vars
import Derived.Deep.Slices
import Derived.Deep.Strs
import Derived.Deep.Fields
import Derived.Lib.SmallJoins
import Derived.SliceStrings
import Derived.ChangeMaps5
import Derived.Test.YtndniceeibflcaaGreatDoorKaa
import Derived.Test.YtndniceeibflcaaGreatDoorKab
import Derived.Test.YtndniceeibflcaaGreatDoorKac
import Derived.Test.YtndniceeibflcaaGreatDoorKad
import Derived.Test.YtndniceeibflcaaGreatDoorKae
import Derived.Test.YtndniceeibflcaaGreatDoorKam
import Derived.Test.YtndniceeibflcaaGreatDoorKag
import Derived.Test.YtndniceeibflcaaGreatDoorKas
import Derived.Test.YtndniceeibflcaaGreatDoorKau
import Derived.Test.YtndniceeibflcaaGreatDoorKai
import Derived.Test.YtndniceeibflcaaGreatDoorKaq
import Derived.Test.YtndniceeibflcaaGreatDoorKap
import Derived.Test.YtndniceeibflcaaGreatDoorKaz
import Derived.Test.YtndniceeibflcaaGreatDoorKbb
import Derived.Test.YtndniceeibflcaaGreatDoorKay
import Derived.Test.YtndniceeibflcaaGreatDoorKar
import Derived.Test.YtndniceeibflcaaGreatDoorKbc
set_option linter.unusedSimpArgs false
set_option linter.unusedVariables false
namespace Go.Proofs.YtndniceeibflcaaGreatDoor
namespace Aw
end Aw
namespace Mp
end Mp
end Go.Proofs.YtndniceeibflcaaGreatDoor
namespace Go.Proofs.YtndniceeibflcaaGreatDoor
namespace Aw
open Go.RowKit
set_option linter.unusedSimpArgs false

section
variable {P : Program} {own : List Nat} {ops : List Oper} {N : HK (St → Prop)} {σ : St} {d : Option Tmp} {f : FuncId} {args : Array Operand} {ats : Array TypeId} {t : TypeId} {p : String} {af : Array Edge} {ms : List Bool} {o : Oper} {rest : List Oper}
end

section
variable {P : Program} {C : Ctx} {σ : St} {a : Act} {w : World} {Q : Exit → Act → World → Prop}
end

/-- where the object j of a contract lies. -/
def baF (ix : List Nat) (j : Nat) : AV := match ix[j]? with | some i => .o i | none => .bot
def baG (ix : List Nat) (j k m off : Nat) : AV := match ix[j]? with | some i => .q i k m off | none => .bot
def baM (ix : List Nat) (n : Nat) (M : Mem) : Mem := (List.range n).map fun i => match ix.idxOf? i with | some j => ((M[j]?).getD none).map fun ob => { ob with xs := AV.subL (baF ix) (baG ix) ob.xs } | none => none
theorem baM_get {ix : List Nat} {n : Nat} {M : Mem} {i : Nat} {ob : Ob} (h : (baM ix n M)[i]? = some (some ob)) : ∃ j ob0, ix.idxOf? i = some j ∧ M[j]? = some (some ob0) ∧ ob = { ob0 with xs := AV.subL (baF ix) (baG ix) ob0.xs } := by
  unfold baM at h
  rw [List.getElem?_map, Option.map_eq_some_iff] at h
  obtain ⟨i', hi', h⟩ := h
  have : i' = i := by
    obtain ⟨_, e⟩ := List.getElem?_eq_some_iff.1 hi'
    simpa using e.symm
  subst this
  cases hx : ix.idxOf? i' with
  | none => rw [hx] at h; cases h
  | some j =>
    rw [hx] at h
    simp only at h
    cases hm : M[j]? with
    | none => rw [hm] at h; cases h
    | some o =>
      rw [hm] at h
      simp only [Option.getD_some, Option.map_eq_some_iff] at h
      obtain ⟨ob0, rfl, h⟩ := h
      exact ⟨j, ob0, rfl, hm, h.symm⟩
theorem idx_of {ix : List Nat} (hnd : ix.Nodup) {i j : Nat} (h : ix[j]? = some i) : ix.idxOf? i = some j := by
  unfold List.idxOf?
  rw [List.findIdx?_eq_some_iff_getElem]
  obtain ⟨hj, he⟩ := List.getElem?_eq_some_iff.1 h
  refine ⟨hj, by simpa using he, fun m hm => ?_⟩
  have hp := List.pairwise_iff_getElem.1 hnd m j (by omega) hj hm
  simp only [beq_iff_eq, Bool.not_eq_true]
  simp only [beq_eq_false_iff_ne, ne_eq]
  intro e
  exact hp (e.trans he.symm)

/-- a contract over other numbers: its objects 0, 1 .. are ix. -/
theorem MSpec.ren {P : Program} {f : FuncId} {aS aT : List AV} {M M' K : Mem} {x : AV} (h : MSpec P f aS M (fun r N => r = x ∧ N = M')) (ix : List Nat) (hnd : ix.Nodup) (h1 : aT.map (AV.sub (reF ix) (reG ix)) = aS) (h2 : reM ix K = M) (h3 : aS.map (AV.sub (baF ix) (baG ix)) = aT)
    (hix : ∀ i ∈ ix, i < K.length) (hdom : ∀ i, i ∉ ix → K[i]? = none ∨ K[i]? = some none) : MSpec P f aT K (fun r N => r = x.sub (baF ix) (baG ix) ∧ N = baM ix K.length M') := by
  refine ⟨h.1, fun w vs A hv hM hsep hvs => ?_⟩
  obtain ⟨hv2, hE⟩ : ∃ hv2 : Nat → Option Value, hv2 = fun j => match ix[j]? with | some i => hv i | none => none := ⟨_, rfl⟩
  have e2 : ∀ j i, ix[j]? = some i → hv2 j = hv i := fun j i h => by rw [hE]; simp only [h]
  have e3 : ∀ j v, hv2 j = some v → ∃ i, ix[j]? = some i ∧ hv i = some v := fun j v h => by
    rw [hE] at h
    simp only at h
    cases hi : ix[j]? with
    | none => rw [hi] at h; cases h
    | some i => rw [hi] at h; exact ⟨i, rfl, h⟩
  have hO : ∀ b, Own hv2 b → Own hv b := by
    rintro b ⟨j, v, hj, hb⟩
    obtain ⟨i, _, hi⟩ := e3 j v hj
    exact ⟨i, v, hi, hb⟩
  have hO' : ∀ b, Own hv b → Own hv2 b := by
    rintro b ⟨i, v, hi, hb⟩
    obtain ⟨ob, hob⟩ := hM.dom i v hi
    have hmem : i ∈ ix := by
      rcases Classical.em (i ∈ ix) with hm | hm
      · exact hm
      · rcases hdom i hm with h | h <;> rw [h] at hob <;> cases hob
    obtain ⟨j, hj, hji⟩ := List.mem_iff_getElem.1 hmem
    exact ⟨j, v, by rw [e2 j i (by rw [List.getElem?_eq_getElem hj, hji])]; exact hi, hb⟩
  have hT : OwnA A hv2 = OwnA A hv := by
    funext b; apply propext
    exact ⟨fun h => h.elim .inl fun h => .inr (hO b h), fun h => h.elim .inl fun h => .inr (hO' b h)⟩
  have hk : Keeps w (OwnA A hv) w (OwnA A hv2) := by rw [hT]; exact Keeps.refl _ _
  have sF : ∀ i, (reF ix i).single = true := fun i => by unfold reF; split <;> rfl
  have sG : ∀ i k j off, (reG ix i k j off).single = true := fun i k j off => by unfold reG; split <;> rfl
  have hFF : ∀ i v, hv i = some v → v.oneCell' = true → R w (OwnA A hv2) hv2 (reF ix i) [v] := by
    intro i v hi h1
    unfold reF
    split
    · rename_i j hj
      simp only [R]
      exact ⟨v, by rw [e2 j i (idx_at hj)]; exact hi, rfl, h1⟩
    · simp only [R]; exact ⟨v, rfl, h1⟩
  have hGG : ∀ i k j off us, R w (OwnA A hv) hv (.q i k j off) us → R w (OwnA A hv2) hv2 (reG ix i k j off) us := by
    intro i k j off us h
    unfold reG
    split
    · rename_i m hm
      simp only [R] at h ⊢
      obtain ⟨b, n, c, g1, g2⟩ := h
      exact ⟨b, n, c, by rw [e2 m i (idx_at hm)]; exact g1, g2⟩
    · exact R_botq h
  have hM2 : MemR A w hv2 M := by
    subst h2
    refine ⟨fun j ob hj => ?_, fun j v hj => ?_, fun j1 j2 v1 v2 b e1 e2' b1 b2 => ?_, hM.old, hM.gl.1, fun b h => hM.gl.2 b (hO b h)⟩
    · unfold reM at hj
      simp only [List.getElem?_map, Option.map_eq_some_iff] at hj
      obtain ⟨i, hi, hj⟩ := hj
      cases ho : K[i]? with
      | none => rw [ho] at hj; simp at hj
      | some o =>
        rw [ho] at hj
        simp only [Option.getD_some, Option.map_eq_some_iff] at hj
        obtain ⟨ob0, rfl, rfl⟩ := hj
        obtain ⟨v, e1, hob⟩ := hM.live i ob0 ho
        refine ⟨v, by rw [e2 j i hi]; exact e1, ?_⟩
        cases hm : ob0.mp with
        | some ks =>
          obtain ⟨vals, g1, g3⟩ := hob.map hm
          exact ObR.of_map (ks := ks) rfl ⟨vals, g1, RVL_subk hk hFF sF hGG sG _ _ g3⟩
        | none =>
          obtain ⟨us, g1, g2, g3⟩ := hob.row hm
          refine ObR.of_row rfl ⟨us, ?_, fun x hx => ?_, RL_subk hk hFF sF hGG sG _ _ g3⟩
          · simp only [AV.subL_map, List.length_map]; exact g1
          · simp only [AV.subL_map, List.mem_map] at hx
            obtain ⟨y, hy, rfl⟩ := hx
            rw [size_sub sF sG]; exact g2 y hy
    · obtain ⟨i, hi, hv0⟩ := e3 j v hj
      obtain ⟨ob, hob⟩ := hM.dom i v hv0
      refine ⟨{ ob with xs := AV.subL (reF ix) (reG ix) ob.xs }, ?_⟩
      unfold reM
      rw [List.getElem?_map, hi, Option.map_some, hob]
      rfl
    · obtain ⟨i1, hi1, hv1⟩ := e3 j1 v1 e1
      obtain ⟨i2, hi2, hv2'⟩ := e3 j2 v2 e2'
      have := hM.inj i1 i2 v1 v2 b hv1 hv2' b1 b2
      subst this
      have := (idx_of hnd hi1).symm.trans (idx_of hnd hi2)
      injection this
  have hvs2 : RVL w (OwnA A hv2) hv2 aS vs := by
    have := RVL_subk hk hFF sF hGG sG _ _ hvs
    rwa [AV.subL_map, h1] at this
  refine (h.2 w vs A hv2 hM2 (fun b hb => hsep b (hO b hb)) hvs2).mono ?_
  rintro e w' ⟨r, N, v, hw, rfl, ⟨rfl, rfl⟩, m1, m2, m3, kp, o1, o2, o3, o4⟩
  obtain ⟨hw2, hwE⟩ : ∃ hw2 : Nat → Option Value, hw2 = fun i => if i < K.length then (match ix.idxOf? i with | some j => hw j | none => none) else none := ⟨_, rfl⟩
  have d2 : ∀ i j, ix.idxOf? i = some j → hw2 i = hw j := fun i j h => by
    rw [hwE]; simp only [h]
    rw [if_pos (hix i (List.mem_of_getElem? (idx_at h)))]
  have d3 : ∀ i v, hw2 i = some v → ∃ j, ix.idxOf? i = some j ∧ hw j = some v := fun i v h => by
    rw [hwE] at h
    simp only at h
    split at h
    · cases hi : ix.idxOf? i with
      | none => rw [hi] at h; cases h
      | some j => rw [hi] at h; exact ⟨j, rfl, h⟩
    · cases h
  have pO : ∀ b, Own hw2 b → Own hw b := by
    rintro b ⟨j, v, hj, hb⟩
    obtain ⟨i, _, hi⟩ := d3 j v hj
    exact ⟨i, v, hi, hb⟩
  have kk : Keeps w' (OwnA A hw) w' (OwnA A hw2) := ⟨Nat.le_refl _, fun _ _ _ => rfl, fun b _ h => h.elim .inl fun h => .inr (pO b h)⟩
  have bF : ∀ i, (baF ix i).single = true := fun i => by unfold baF; split <;> rfl
  have bG : ∀ i k j off, (baG ix i k j off).single = true := fun i k j off => by unfold baG; split <;> rfl
  have bFF : ∀ i v, hw i = some v → v.oneCell' = true → R w' (OwnA A hw2) hw2 (baF ix i) [v] := by
    intro i v hi h1
    unfold baF
    split
    · rename_i j hj
      simp only [R]
      exact ⟨v, by rw [d2 j i (idx_of hnd hj)]; exact hi, rfl, h1⟩
    · simp only [R]; exact ⟨v, rfl, h1⟩
  have bGG : ∀ i k j off us, R w' (OwnA A hw) hw (.q i k j off) us → R w' (OwnA A hw2) hw2 (baG ix i k j off) us := by
    intro i k j off us h
    unfold baG
    split
    · rename_i m hm
      simp only [R] at h ⊢
      obtain ⟨b, n, c, g1, g2⟩ := h
      exact ⟨b, n, c, by rw [d2 m i (idx_of hnd hm)]; exact g1, g2⟩
    · exact R_botq h
  refine ⟨_, _, v, hw2, rfl, ⟨rfl, rfl⟩, ⟨fun i ob hi => ?_, fun i u hi => ?_, fun i1 i2 v1 v2 b g1 g2 b1 b2 => ?_, m1.old, m1.gl.1, fun b h => m1.gl.2 b (pO b h)⟩, RV_subk kk bFF bF bGG bG _ _ m2, ?_, ⟨kp.size, fun b hb hn => kp.block b hb fun h => hn (hO b h), fun b hb h => hO b (kp.own b hb (pO b h))⟩, o1, o2, o3, o4⟩
  · obtain ⟨j, ob0, hj, hm, rfl⟩ := baM_get hi
    obtain ⟨u, g0, hob⟩ := m1.live j ob0 hm
    refine ⟨u, by rw [d2 i j hj]; exact g0, ?_⟩
    cases hmm : ob0.mp with
    | some ks =>
      obtain ⟨vals, g1, g3⟩ := hob.map hmm
      exact ObR.of_map (ks := ks) rfl ⟨vals, g1, RVL_subk kk bFF bF bGG bG _ _ g3⟩
    | none =>
      obtain ⟨us, g1, g2, g3⟩ := hob.row hmm
      refine ObR.of_row rfl ⟨us, ?_, fun x hx => ?_, RL_subk kk bFF bF bGG bG _ _ g3⟩
      · simp only [AV.subL_map, List.length_map]; exact g1
      · simp only [AV.subL_map, List.mem_map] at hx
        obtain ⟨y, hy, rfl⟩ := hx
        rw [size_sub bF bG]; exact g2 y hy
  · obtain ⟨j, hj, hu⟩ := d3 i u hi
    obtain ⟨ob, hob⟩ := m1.dom j u hu
    refine ⟨{ ob with xs := AV.subL (baF ix) (baG ix) ob.xs }, ?_⟩
    unfold baM
    rw [List.getElem?_map, List.getElem?_range (hix i (List.mem_of_getElem? (idx_at hj))), Option.map_some, hj]
    simp only [hob, Option.getD_some, Option.map_some]
  · obtain ⟨j1, hj1, q1⟩ := d3 i1 v1 g1
    obtain ⟨j2, hj2, q2⟩ := d3 i2 v2 g2
    have := m1.inj j1 j2 v1 v2 b q1 q2 b1 b2
    subst this
    have := (idx_at hj1).symm.trans (idx_at hj2)
    injection this
  · have := RVL_subk kk bFF bF bGG bG _ _ m3
    rwa [AV.subL_map, h3] at this
end Aw
end Go.Proofs.YtndniceeibflcaaGreatDoor

namespace Go.Proofs.YtndniceeibflcaaGreatDoor
open Aw Mp Go.RowKit
set_option linter.unusedSimpArgs false
set_option maxRecDepth 8000

theorem rpL_acc {n lm : Int} {ls : List (Int × Int)} : ∀ (r d : List By), Acc n lm ls (d ++ r) → rpL n lm ls d r = ((d ++ r).length, 0)
  | [], d, _ => by simp [rpL]
  | o :: r, d, h => by
    have h1 : erO n lm ls d o = 0 := by
      have := (h.at d.length (by simp)).2
      simpa using this
    rw [rpL, if_pos h1, rpL_acc r (d ++ [o]) (by simpa using h)]
    simp
end Go.Proofs.YtndniceeibflcaaGreatDoor

namespace Go.Proofs.YtndniceeibflcaaGreatDoor
open Aw Mp Go.RowKit
set_option linter.unusedSimpArgs false
set_option maxRecDepth 8000

theorem inv_circ' {n : Int} {c : Nat} {s : MS} (h : InvS n c s) (h0 : 0 < s.circ.length) : vC s.place.length s.circ = 0 := by
  refine inv_circ h ?_
  rcases Nat.eq_zero_or_pos s.place.length with h1 | h1
  · rw [h.emp (List.length_eq_zero_iff.1 h1)] at h0
    cases h0
  · exact h1
end Go.Proofs.YtndniceeibflcaaGreatDoor

namespace Go.Proofs.YtndniceeibflcaaGreatDoor
open Aw Mp Go.RowKit
set_option linter.unusedSimpArgs false
set_option maxRecDepth 8000

/-- a machine at k. -/
def memA (k : Nat) (m : Mch) : Mem := List.replicate k none ++ [some (m.obA (k + 2)), none, some m.od]
theorem memA_len (k : Nat) (m : Mch) : (memA k m).length = k + 3 := by simp [memA]
theorem memA_lo {k : Nat} {m : Mch} {i : Nat} (h : i < k) : (memA k m)[i]? = some none := by
  unfold memA
  rw [List.getElem?_append_left (by simpa using h), List.getElem?_replicate, if_pos h]
theorem memA_hi {k : Nat} {m : Mch} (i : Nat) : (memA k m)[k + i]? = [some (m.obA (k + 2)), none, some m.od][i]? := by
  unfold memA
  rw [List.getElem?_append_right (by simp)]
  simp
theorem cells_sub (F : Nat → AV) (G : Nat → Nat → Nat → Nat → AV) (m : Mch) (i : Nat) : AV.subL F G [m.cells (.s 2 (prsA m.ls)) (.o i)] = [m.cells (.s 2 (prsA m.ls)) (F i)] := rfl

theorem mA (k : Nat) {f : FuncId} {ars : List AV} {x : AV} {m m' : Mch} (h : MSpec Tryz.prog f (.q 0 13 0 0 :: ars) (memD m) (fun r N => r = x ∧ N = memD m')) (ha : AV.pureL ars = true) (hx : x.pure = true) :
    MSpec Tryz.prog f (.q k 13 0 0 :: ars) (memA k m) (fun r N => r = x ∧ N = memA k m') := by
  have hnd : [k, k + 1, k + 2].Nodup := by simp
  have e0 := idx_of hnd (i := k) (j := 0) rfl
  have e1 := idx_of hnd (i := k + 1) (j := 1) rfl
  have e2 := idx_of hnd (i := k + 2) (j := 2) rfl
  have hF2 : reF [k, k + 1, k + 2] (k + 2) = .o 2 := by unfold reF; rw [e2]
  have hG : reG [k, k + 1, k + 2] k 13 0 0 = .q 0 13 0 0 := by unfold reG; rw [e0]
  have hars : ∀ F G, ars.map (AV.sub F G) = ars := fun F G => by rw [← AV.subL_map]; exact subL_pure F G ha
  have key := MSpec.ren (aT := .q k 13 0 0 :: ars) (K := memA k m) h [k, k + 1, k + 2] hnd (by simp only [List.map_cons, AV.sub, hG, hars]) (by
      unfold reM
      simp only [List.map_cons, List.map_nil]
      rw [show (memA k m)[k]? = some (some (m.obA (k + 2))) from memA_hi 0, memA_hi 1, memA_hi 2]
      simp only [List.getElem?_cons_succ, List.getElem?_cons_zero, Option.getD_some, Option.map_some, Option.map_none]
      have e3 : AV.subL (reF [k, k + 1, k + 2]) (reG [k, k + 1, k + 2]) (m.obA (k + 2)).xs = m.ob.xs := by
        show AV.subL _ _ [m.cells (.s 2 (prsA m.ls)) (.o (k + 2))] = _
        rw [cells_sub, hF2]
        rfl
      have e4 : AV.subL (reF [k, k + 1, k + 2]) (reG [k, k + 1, k + 2]) m.od.xs = m.od.xs := strsA_sub _ _ _
      rw [e3, e4]
      rfl) (by simp only [List.map_cons, hars]; rfl) (fun i hi => by
      rw [memA_len]
      simp only [List.mem_cons, List.not_mem_nil, or_false] at hi
      omega) (fun i hi => by
      rcases Nat.lt_or_ge i k with h1 | h1
      · exact .inr (memA_lo h1)
      · refine .inl (List.getElem?_eq_none ?_)
        rw [memA_len]
        simp only [List.mem_cons, List.not_mem_nil, or_false] at hi
        omega)
  have hM : baM [k, k + 1, k + 2] (memA k m).length (memD m') = memA k m' := by
    apply List.ext_getElem?
    intro i
    unfold baM
    rw [memA_len, List.getElem?_map]
    rcases Nat.lt_or_ge i (k + 3) with h1 | h1
    · rw [List.getElem?_range h1, Option.map_some]
      rcases Nat.lt_or_ge i k with h2 | h2
      · have : [k, k + 1, k + 2].idxOf? i = none := by
          rw [List.idxOf?_eq_none_iff]
          simp only [List.mem_cons, List.not_mem_nil, or_false]
          omega
        rw [this, memA_lo h2]
      · obtain ⟨d, rfl⟩ : ∃ d, i = k + d := ⟨i - k, by omega⟩
        rw [memA_hi]
        match d, h1 with
        | 0, _ => rw [show k + 0 = k from rfl, e0]; rfl
        | 1, _ => rw [e1]; rfl
        | 2, _ =>
          rw [e2]
          have e4 : AV.subL (baF [k, k + 1, k + 2]) (baG [k, k + 1, k + 2]) m'.od.xs = m'.od.xs := strsA_sub _ _ _
          show some (some { m'.od with xs := AV.subL (baF [k, k + 1, k + 2]) (baG [k, k + 1, k + 2]) m'.od.xs }) = _
          rw [e4]
          rfl
        | d + 3, h => exact absurd h (by omega)
    · rw [List.getElem?_eq_none (by simpa using h1), List.getElem?_eq_none (by rw [memA_len]; exact h1)]
      rfl
  rw [hM, AV.sub_pure _ _ _ hx] at key
  exact key

theorem combR_rep (F : Nat → AV) (G : Nat → Nat → Nat → Nat → AV) : ∀ (T X Y Z : Mem), combR F G (List.replicate T.length none ++ X) (T ++ Y) (List.replicate T.length none ++ Z) = (T.map fun c => c.map fun ob => { ob with xs := AV.subL F G ob.xs }) ++ combR F G X Y Z
  | [], _, _, _ => rfl
  | c :: T, X, Y, Z => by simp only [List.length_cons, List.replicate_succ, List.cons_append, combR, List.drop_succ_cons, List.drop_zero, List.map_cons, combR_rep F G T X Y Z]
theorem subM_rep : ∀ (T X Y : Mem), subM X Y → subM (List.replicate T.length none ++ X) (T ++ Y)
  | [], _, _, h => h
  | c :: T, X, Y, h => by
    simp only [List.length_cons, List.replicate_succ, List.cons_append]
    exact subM_rep T X Y h
/-- a function is lent a machine that lies at k; T1 lies before it, T2 behind it. -/
theorem fA {f : FuncId} {ars : List AV} {x : AV} {m m' : Mch} (T1 T2 : Mem) (h : MSpec Tryz.prog f (.q 0 13 0 0 :: ars) (memD m) (fun r N => r = x ∧ N = memD m')) (ha : AV.pureL ars = true) (hx : x.pure = true) (k : Nat) (hk : T1.length = k)
    (h1 : (T1.map fun c => c.map fun ob => { ob with xs := AV.subL (keepF (memA k m) (.q k 13 0 0 :: ars)) (keepG (memA k m) (.q k 13 0 0 :: ars)) ob.xs }) = T1)
    (h2 : (T2.map fun c => c.map fun ob => { ob with xs := AV.subL (keepF (memA k m) (.q k 13 0 0 :: ars)) (keepG (memA k m) (.q k 13 0 0 :: ars)) ob.xs }) = T2) :
    FSpec Tryz.prog f (.q k 13 0 0 :: ars) (memA k m) (T1 ++ some (m.obA (k + 2)) :: none :: some m.od :: T2) x (T1 ++ some (m'.obA (k + 2)) :: none :: some m'.od :: T2) := by
  have hs := mA k h ha hx
  have l0 : liveI (memA k m) k = true := liveI_some (memA_hi 0)
  have l2 : liveI (memA k m) (k + 2) = true := liveI_some (memA_hi 2)
  refine fspec_of hs _ ?_ ?_ rfl ?_ ?_ ?_
  · simp [lvL, memA]
  · subst hk
    exact subM_rep T1 _ _ ⟨rfl, rfl, trivial⟩
  · simp only [AV.freeL, AV.free, freeL_pure _ ha, not_dead l0, Bool.not_false, Bool.and_self]
  · have e2 := not_dead (n := (T1 ++ some (m.obA (k + 2)) :: none :: some m.od :: T2).length) l2
    generalize deadL (memA k m) _ = Z at e2 ⊢
    unfold freeM memA
    rw [List.all_append, Bool.and_eq_true]
    refine ⟨?_, ?_⟩
    · rw [List.all_eq_true]
      intro o ho
      rw [List.eq_of_mem_replicate ho]
    · simp [Mch.obA, Mch.od, Mch.cells, AV.freeL, AV.free, strsA_free, -List.contains_eq_mem, e2]
  · generalize keepF (memA k m) (.q k 13 0 0 :: ars) = F at *
    generalize keepG (memA k m) (.q k 13 0 0 :: ars) = G at *
    subst hk
    unfold memA
    rw [combR_rep, h1]
    show _ ++ (some (m'.obA _) :: none :: some m'.od :: combR F G [] T2 []) = _
    rw [combR_tail, h2]
end Go.Proofs.YtndniceeibflcaaGreatDoor

namespace Go.Proofs.YtndniceeibflcaaGreatDoor
open Aw Mp Go.RowKit
set_option linter.unusedSimpArgs false
set_option maxRecDepth 8000

theorem ok108 : okFn Tryz.prog 108 = true := by kernel_rfl
theorem s108 (a : List Int) (ha : a.length ≤ 1000000) : ASpec Tryz.prog 108 [.s 1 (intsA a), .s 1 (intsA a)] (fun r Ms => r = B true ∧ Ms = []) := by
  refine aspec_of (own := []) Tryz.func108 rfl ok108 ?_
  simp only [wB, awp, binC, cmpC, asB, asI, asN, lenA, St.ev, St.step, setS, killS, AV.kill, AV.killL, Mem.kill, Nat.reduceAdd, Nat.reduceSub, Int.reduceAdd, Int.reduceSub, lenK, Tryz.ntmps108]
  refine swp_loop' (fun k : Nat => ⟨[.s 1 (intsA a), .s 1 (intsA a), .bot, .bot, .bot, .bot, .bot, .bot, .bot, .bot, .bot, .bot, I a.length, I k, .bot, .bot, .bot, .bot, .bot, .bot, .bot, .bot, .bot, .bot, .bot, .bot], []⟩) (fun k => k ≤ a.length) (fun k => a.length - k) 0 (le_sl (by simp [leSl, intsA_len])) (Nat.zero_le _) ?_
  intro k hk
  refine awp_sound (own := []) _ _ _ _ _ ?_
  simp only [wB, awp, binC, cmpC, asB, asI, St.ev, St.step, setS, killS, AV.kill, AV.killL, Mem.kill, Nat.reduceAdd, Int.reduceAdd]
  by_cases h : k < a.length
  case neg =>
    have h' : ¬ (k : Int) < a.length := by omega
    simp only [wB, awp, asN, St.ev, St.step, setS, killS, AV.kill, AV.killL, Mem.kill, Nat.reduceAdd, Int.reduceAdd, decide_eq_false h']
    exact aend_frz rfl ⟨rfl, rfl⟩
  have h' : (k : Int) < a.length := by omega
  simp only [wB, awp, asN, St.ev, St.step, setS, killS, AV.kill, AV.killL, Mem.kill, Nat.reduceAdd, Int.reduceAdd, decide_eq_true h']
  refine swp_draw (own := []) (.take 0 .plain [] (.take 1 .plain [] (.take 2 .reads [] (.take 3 .reads [] (.take 4 .plain [] (.take 5 .plain [] (.take 6 .reads [] (.take 7 .reads [] (.take 8 .plain [] (.done)))))))))) [⟨17, 1, 0, 0, true⟩, ⟨18, 32, 0, 0, true⟩, ⟨19, 196608, 3, 0, true⟩, ⟨20, 262144, 4, 0, true⟩, ⟨21, 2, 0, 0, true⟩, ⟨22, 32, 0, 0, true⟩, ⟨23, 3145728, 48, 0, true⟩, ⟨24, 4194304, 64, 0, true⟩, ⟨25, 8912896, 136, 0, true⟩] mo (by kernel_rfl) ?_
  simp only [wB, awp, binC, idxC, arithC, cmpC, asP, asS, asB, asI, loadA, St.ev, St.step, setS, killS, AV.kill, AV.killL, Mem.kill, AV.cells, AV.flat, AV.single, Nat.reduceAdd, Int.reduceAdd, ASch, St.put, Md.mem, Md.need, isU, aget_ints h, Int.toNat_natCast]
  exact ⟨by omega, by omega, by unfold lim; omega, k + 1, le_sl (by simp [leSl]), h, by omega⟩
theorem ok109 : okFn Tryz.prog 109 = true := by kernel_rfl
theorem s109 (a : List G4) (ha : a.length ≤ 1000000) : ASpec Tryz.prog 109 [.s 4 (gtsA a), .s 4 (gtsA a)] (fun r Ms => r = B true ∧ Ms = []) := by
  refine aspec_of (own := []) Tryz.func109 rfl ok109 ?_
  simp only [wB, awp, binC, cmpC, asB, asI, asN, lenA, St.ev, St.step, setS, killS, AV.kill, AV.killL, Mem.kill, Nat.reduceAdd, Nat.reduceSub, Int.reduceAdd, Int.reduceSub, lenK, Tryz.ntmps109, gtsA_len]
  refine swp_loop' (fun k : Nat => ⟨[.s 4 (gtsA a), .s 4 (gtsA a), .bot, .bot, .bot, .bot, .bot, .bot, .bot, .bot, .bot, .bot, I a.length, I k, .bot, .bot, .bot, .bot, .bot, .bot, .bot, .bot, .bot, .bot, .bot, .bot], []⟩) (fun k => k ≤ a.length) (fun k => a.length - k) 0 (le_sl (by simp [leSl, gtsA_len])) (Nat.zero_le _) ?_
  intro k hk
  refine awp_sound (own := []) _ _ _ _ _ ?_
  simp only [wB, awp, binC, cmpC, asB, asI, St.ev, St.step, setS, killS, AV.kill, AV.killL, Mem.kill, Nat.reduceAdd, Int.reduceAdd]
  by_cases h : k < a.length
  case neg =>
    have h' : ¬ (k : Int) < a.length := by omega
    simp only [wB, awp, asN, St.ev, St.step, setS, killS, AV.kill, AV.killL, Mem.kill, Nat.reduceAdd, Int.reduceAdd, decide_eq_false h']
    exact aend_frz rfl ⟨rfl, rfl⟩
  have h' : (k : Int) < a.length := by omega
  simp only [wB, awp, asN, St.ev, St.step, setS, killS, AV.kill, AV.killL, Mem.kill, Nat.reduceAdd, Int.reduceAdd, decide_eq_true h']
  refine swp_draw (own := []) (.take 0 .plain [] (.take 1 .plain [] (.take 2 .reads [] (.take 3 .reads [] (.take 4 .plain [] (.take 5 .plain [] (.take 6 .reads [] (.take 7 .reads [] (.take 8 .plain [] (.done)))))))))) [⟨17, 1, 0, 0, true⟩, ⟨18, 32, 0, 0, true⟩, ⟨19, 196608, 3, 0, true⟩, ⟨20, 262144, 4, 0, true⟩, ⟨21, 2, 0, 0, true⟩, ⟨22, 32, 0, 0, true⟩, ⟨23, 3145728, 48, 0, true⟩, ⟨24, 4194304, 64, 0, true⟩, ⟨25, 8912896, 136, 0, true⟩] mo (by kernel_rfl) ?_
  simp only [wB, awp, binC, idxC, arithC, cmpC, eqC, asP, asS, asG, asB, asI, loadA, St.ev, St.step, setS, killS, AV.kill, AV.killL, Mem.kill, AV.cells, AV.flat, AV.single, ints, Nat.reduceAdd, Nat.reduceLeDiff, Int.reduceAdd, ASch, St.put, Md.mem, Md.need, isU, aget_gts h, Int.toNat_natCast]
  exact ⟨by omega, by omega, by unfold lim; omega, k + 1, le_sl (by simp [leSl]), h, by omega⟩
theorem ok76 : okFn Tryz.prog 76 = true := by kernel_rfl
theorem s76 (z : Int) : ASpec Tryz.prog 76 [I z] (fun r Ms => r = B (decide (z < 0)) ∧ Ms = []) := by
  refine aspec_of (own := []) Tryz.func76 rfl ok76 ?_
  simp only [wB, awp, binC, cmpC, asI, asN, St.ev, St.step, setS, killS, AV.kill, AV.killL, Mem.kill, Nat.reduceAdd, Nat.reduceSub, Int.reduceAdd, Int.reduceSub, Tryz.ntmps76]
  exact aend_frz rfl ⟨rfl, rfl⟩
theorem ok77 : okFn Tryz.prog 77 = true := by kernel_rfl
theorem s77 (t : MS) (h1 : t.place.length ≤ 1000) (h2 : t.heats.length ≤ 1000) (h3 : t.circ.length ≤ 1000) : ASpec Tryz.prog 77 [stA t, stA t] (fun r Ms => r = B true ∧ Ms = []) := by
  refine aspec_of (own := []) Tryz.func77 rfl ok77 ?_
  simp only [wB, awp, asP, asN, loadA, St.ev, St.step, setS, killS, AV.kill, AV.killL, Mem.kill, AV.cells, AV.flat, AV.single, AV.cellular, AV.pure, AV.pureL, Nat.reduceAdd, Nat.reduceEqDiff, Nat.reduceSub, Nat.reduceLeDiff, Int.reduceAdd, Int.reduceSub, Tryz.ntmps77, stA]
  refine acall_v (s108 t.place (by omega)) (by simp [AV.pureL, AV.pure, intsA_pure]) rfl ?_
  simp only [wB, asP, loadA, St.ev, St.step, setS, killS, AV.kill, AV.killL, Mem.kill, AV.cells, AV.flat, AV.single, Nat.reduceAdd, Nat.reduceEqDiff, Nat.reduceLeDiff, Int.reduceAdd]
  refine acall_v (s108 t.heats (by omega)) (by simp [AV.pureL, AV.pure, intsA_pure]) rfl ?_
  simp only [wB, asP, asB, loadA, St.ev, St.step, setS, killS, AV.kill, AV.killL, Mem.kill, AV.cells, AV.flat, AV.single, Nat.reduceAdd, Nat.reduceEqDiff, Nat.reduceLeDiff, Int.reduceAdd]
  refine acall_v (s109 t.circ (by omega)) (by simp [AV.pureL, AV.pure, gtsA_pure]) rfl ?_
  simp only [wB, awp, binC, cmpC, asP, asB, asI, asN, loadA, St.ev, St.step, setS, killS, AV.kill, AV.killL, Mem.kill, AV.cells, AV.flat, AV.single, Nat.reduceAdd, Nat.reduceEqDiff, Nat.reduceLeDiff, Int.reduceAdd]
  exact aend_frz rfl ⟨rfl, rfl⟩
end Go.Proofs.YtndniceeibflcaaGreatDoor

namespace Go.Proofs.YtndniceeibflcaaGreatDoor
open Aw Mp Go.RowKit
set_option linter.unusedSimpArgs false
set_option maxRecDepth 8000

theorem rpO_acc {n lm : Int} {ls : List (Int × Int)} {l : List By} (h0 : vN n lm ls = 0) (hA : Acc n lm ls l) : rpO n lm ls (lg 0 l) = (l.length, 0) := by
  unfold rpO
  rw [if_neg (fun g => g h0), rd_acc hA, if_neg (fun g => g rfl)]
  exact rpL_acc l [] hA
theorem s27l {n lm : Int} {ls : List (Int × Int)} (hls : ls.length ≤ 100000) {l : List By} (h0 : vN n lm ls = 0) (hA : Acc n lm ls l) : ASpec Tryz.prog 27 [.g [I n, .s 2 (prsA ls)], I lm, S (lg 0 l)] (fun r Ms => r = .t [.q 0 13 0 0, I l.length, I 0] ∧ Ms = [(mkM n lm ls l).obA 1, (mkM n lm ls l).od]) := by
  have h := s27 n lm ls hls (lg 0 l) (by have := lg_small hA; omega)
  unfold rpP rpM at h
  rw [rpO_acc h0 hA, rd_acc hA] at h
  simpa [trapA] using h
theorem ok29 : okFn Tryz.prog 29 = true := by kernel_rfl
theorem m29 (n lm : Int) (ls : List (Int × Int)) (hls : ls.length ≤ 100000) (l : List By) (h0 : vN n lm ls = 0) (hA : Acc n lm ls l) : MSpec Tryz.prog 29 [.q 0 13 0 0] (memD (mkM n lm ls l)) (fun r N => r = B true ∧ N = memD (mkM n lm ls l)) := by
  refine mspec_of2 (own := [3, 8, 1003, 1006, 1011]) Tryz.func29 rfl ok29 ?_
  intro vs
  obtain ⟨gh, hgh⟩ : ∃ gh, gh = some (ghost vs [AV.q 0 13 0 0]) := ⟨_, rfl⟩
  have hs := sml_of hA
  have hI := hA.inv.2
  obtain ⟨hT, hlm, _⟩ := vN_ok h0
  have h27 := s27l hls h0 hA
  have h67 : MSpec Tryz.prog 67 [.q 0 13 0 0] (memD (mkM n lm ls l)) (fun r N => r = .t [.g [.s 1 (intsA (stO l).place), .s 1 (intsA (stO l).heats), .s 4 (gtsA (stO l).circ), I (stO l).moves, I (stO l).cools, I (stO l).done], S (lg 0 l)] ∧ N = memD (mkM n lm ls l)) := m67f _ hs.mu hs.p hs.h hs.c
  simp only [wB, awp, binC, eqC, asG, asB, asI, asN, St.ev, St.step, setS, killS, AV.kill, AV.killL, Mem.kill, Nat.reduceAdd, Nat.reduceEqDiff, Nat.reduceSub, Int.reduceAdd, Int.reduceSub, isNP, ptrN, asStr, nt32, Tryz.ntmps29, ← hgh, memD]
  refine swp_fs (own := [3]) [false, true, false, false, false, false, false, false] ?_
  simp only [wB, St.ev, St.step, setS, killS, AV.kill, AV.killL, Mem.kill]
  refine acall_f (fD h67 [gh] [1, 3] rfl rfl (by rw [hgh]; rfl)) ?_
  simp only [wB, awp, asQ, asT, asN, obA, storeA, putsA, mkA, Aw.newRow, St.ev, St.step, setS, killS, AV.kill, AV.killL, Mem.kill, AV.cells, AV.flat, AV.single, AV.cellular, Nat.reduceAdd, Nat.reduceEqDiff, Nat.reduceLeDiff, Int.reduceAdd, memD, AV.sub, keepG, liveI, AV.isQ, List.any_cons, List.any_nil, Mch.ob, Mch.od, Mch.cells, mkM]
  have est : (mkM n lm ls l).st = stO l := rfl
  have h48 := s48 n ls (stO l).place (by omega) (by have := hI.p4; omega)
  rw [inv_place hI hT] at h48
  simp only [trapA] at h48
  refine swp_draw (own := [3, 8]) (.take 0 .plain [] (.take 1 .plain [] (.take 2 .plain [] (.take 3 .reads [] (.take 4 .plain [] (.take 5 .reads [] (.alt 6 (.take 7 .plain [] (.take 8 .plain [] (.take 9 .plain [] (.take 10 .reads [] (.alt 11 (.take 12 .plain [] (.done)) (.nil)))))) (.nil)))))))) [⟨18, 1, 0, 0, true⟩, ⟨19, 131072, 1, 0, true⟩, ⟨20, 262144, 2, 0, true⟩, ⟨21, 524288, 4, 0, true⟩, ⟨22, 8, 0, 0, true⟩, ⟨23, 2097152, 16, 0, true⟩, ⟨24, 5242880, 40, 0, false⟩, ⟨25, 8388608, 64, 0, true⟩, ⟨26, 16777216, 192, 0, true⟩, ⟨27, 33554440, 256, 0, true⟩, ⟨28, 100663296, 768, 0, true⟩, ⟨29, 167772160, 1280, 0, false⟩, ⟨30, 301989888, 2304, 0, true⟩] mo (by kernel_rfl) ?_
  simp only [wB, asP, asQ, obA, loadA, St.ev, setS, AV.cells, AV.flat, AV.single, Nat.reduceAdd, Nat.reduceEqDiff, Nat.reduceLeDiff, Int.reduceAdd, ASch, St.put, Md.mem, Md.need]
  refine acall_v h48 (by simp [AV.pureL, AV.pure, prsA_pure, intsA_pure]) rfl ?_
  simp only [wB, binC, cmpC, asP, asQ, asI, obA, loadA, St.ev, St.step, setS, killS, AV.kill, AV.killL, Mem.kill, AV.cells, AV.flat, AV.single, Nat.reduceAdd, Nat.reduceEqDiff, Nat.reduceLeDiff, Int.reduceAdd, ASch, St.put, Md.mem, Md.need]
  have h75 : ASpec Tryz.prog 75 [.s 1 (intsA (stO l).heats), .f (.func 76) []] (fun r Ms => r = B false ∧ Ms = []) := by
    have h := s75 (stO l).heats (fun z => decide (z < 0)) 76 [] (by have := hI.hl; have := hI.p4; omega) rfl (fun z _ => s76 z)
    have e : (stO l).heats.any (fun z => decide (z < 0)) = false := by
      rw [List.any_eq_false]
      intro z hz
      have := hI.hin z hz
      simpa using this.1
    rw [e] at h
    exact h
  refine acall_v h75 rfl rfl ?_
  simp only [wB, awp, asB, St.ev, St.step, setS, killS, AV.kill, AV.killL, Mem.kill, Nat.reduceAdd, Nat.reduceEqDiff, Int.reduceAdd, ASch, St.put, Md.mem, Md.need]
  refine swp_to ⟨[.q 0 13 0 0, .bot, .bot, .q 4 6 0 0, S (lg 0 l), .bot, .bot, .bot, .bot, .bot, .bot, .bot, .bot, .bot, .bot, .bot, .bot, .bot, .bot, .bot, .bot, .bot, .bot, .bot, .bot, .bot, .bot, .bot, .bot, .bot, .bot, .bot, .bot, .bot, .bot, .bot, .bot, .bot, .bot, .bot, .bot, .bot, B false, .bot, .bot, .bot, .bot, .bot, .bot, .bot, .bot, .bot, .bot, .bot, .bot, .bot, .bot, .bot, .bot, .bot, .bot, .bot, .bot, .bot, .bot, .bot, .bot, .bot, .bot, .bot, .bot, .bot], [some (mkM n lm ls l).ob, none, some (mkM n lm ls l).od, gh, some ⟨none, 105, 6, [stA (stO l)]⟩]⟩ (awp_sound (own := [3, 8]) _ _ _ _ _ ?_) ?_
  · by_cases hc : 0 < (stO l).circ.length
    · have h49 := s49 (stO l).place.length (stO l).circ (by have := hI.c10; omega)
      rw [inv_circ' hI hc] at h49
      simp only [wB, awp, binC, cmpC, asP, asQ, asI, obA, lenA, loadA, St.ev, St.step, setS, killS, AV.kill, AV.killL, Mem.kill, AV.cells, AV.flat, AV.single, Nat.reduceAdd, Nat.reduceEqDiff, Nat.reduceLeDiff, Int.reduceAdd, lenK, gtsA_len, decide_eq_true (show 0 < ((stO l).circ.length : Int) by omega)]
      refine acall_v h49 (by simp [AV.pureL, AV.pure, gtsA_pure]) rfl ?_
      simp only [wB, binC, cmpC, asB, asI, St.ev, St.step, setS, killS, AV.kill, AV.killL, Mem.kill]
      refine le_sl' ?_ (by simp [leSl])
      simp [Mch.ob, Mch.od, Mch.cells, mkM, stA]
    · simp only [wB, awp, binC, cmpC, asP, asQ, asB, asI, obA, lenA, loadA, St.ev, St.step, setS, killS, AV.kill, AV.killL, Mem.kill, AV.cells, AV.flat, AV.single, Nat.reduceAdd, Nat.reduceEqDiff, Nat.reduceLeDiff, Int.reduceAdd, lenK, gtsA_len, decide_eq_false (show ¬ 0 < ((stO l).circ.length : Int) by omega)]
      refine le_sl' ?_ (by simp [leSl])
      simp [Mch.ob, Mch.od, Mch.cells, mkM, stA]
  simp only [wB, awp, asB, St.ev, AV.cells, Mch.ob, Mch.od, Mch.cells, mkM, stA]
  refine swp_draw (own := [3, 8]) (.take 0 .plain [] (.take 1 .plain [] (.take 2 .plain [] (.take 3 .reads [] (.take 4 .plain [] (.take 5 .plain [] (.take 6 .plain [] (.take 7 .reads [] (.take 8 .plain [] (.alt 9 (.take 10 .plain [] (.take 11 .plain [] (.take 12 .plain [] (.take 13 .plain [] (.take 14 .plain [] (.take 15 .plain [] (.take 16 .plain [] (.done)))))))) (.nil))))))))))) [⟨45, 1, 0, 0, true⟩, ⟨46, 17592186044416, 1, 0, true⟩, ⟨47, 35184372088832, 2, 0, true⟩, ⟨48, 70368744177664, 4, 0, true⟩, ⟨49, 1, 0, 0, true⟩, ⟨50, 281474976710656, 16, 0, true⟩, ⟨51, 562949953421312, 32, 0, true⟩, ⟨52, 1125899906842624, 64, 0, true⟩, ⟨53, 16, 0, 0, true⟩, ⟨54, 6896136929411072, 392, 0, false⟩, ⟨44, 9007199254740992, 512, 0, true⟩, ⟨55, 8796093022208, 1024, 0, true⟩, ⟨56, 8796093022208, 1024, 0, true⟩, ⟨57, 8796093022208, 1024, 0, true⟩, ⟨6, 18014398509481984, 4095, 0, true⟩, ⟨7, 36028797018963968, 24575, 0, true⟩, ⟨8, 72057594037927936, 65535, 0, true⟩] mo (by kernel_rfl) ?_
  simp only [wB, asP, asQ, obA, loadA, St.ev, setS, AV.cells, AV.flat, AV.single, Nat.reduceAdd, Nat.reduceEqDiff, Nat.reduceLeDiff, Int.reduceAdd, ASch, St.put, Md.mem, Md.need]
  refine acall_mk h27 (by simp [AV.pureL, AV.pure, prsA_pure]) ?_
  simp only [wB, awp, binC, cmpC, asT, asB, asI, asN, St.ev, St.step, setS, killS, AV.kill, AV.killL, Mem.kill, Nat.reduceAdd, Nat.reduceEqDiff, Int.reduceAdd, ASch, St.put, Md.mem, Md.need, List.drop_succ_cons, List.drop_zero, AV.sub, AV.subL, List.take_succ_cons, List.take_zero, AV.up]
  refine swp_le (σ' := ⟨[.q 0 13 0 0, .bot, .bot, .q 4 6 0 0, S (lg 0 l), .q 5 13 0 0, .bot, .bot, .bot, .bot, .bot, .bot, .bot, .bot, .bot, .bot, .bot, .bot, .bot, .bot, .bot, .bot, .bot, .bot, .bot, .bot, .bot, .bot, .bot, .bot, .bot, .bot, .bot, .bot, .bot, .bot, .bot, .bot, .bot, .bot, .bot, .bot, .bot, .bot, .bot, .bot, .bot, .bot, .bot, .bot, .bot, .bot, .bot, .bot, .bot, .bot, .bot, .bot, .bot, .bot, .bot, .bot, .bot, .bot, .bot, .bot, .bot, .bot, .bot, .bot, .bot, .bot], [some (mkM n lm ls l).ob, none, some (mkM n lm ls l).od, gh, some ⟨none, 105, 6, [stA (stO l)]⟩, some ((mkM n lm ls l).obA 7), none, some (mkM n lm ls l).od]⟩) (le_rn [0, 1, 2, 3, 4, 5, 99, 6] (by decide) ?_ (by simp [leSl, AV.sub, AV.subL, prsA_sub, prsA_msub, reF, reG, List.idxOf?, List.findIdx?, List.findIdx?.go])) ?_
  · rw [hgh]
    simp [reM, reF, reG, Mch.ob, Mch.obA, Mch.od, Mch.cells, mkM, stA, AV.sub, AV.subL, prsA_sub, strsA_sub, intsA_sub, gtsA_sub, strsA_msub, List.idxOf?, List.findIdx?, List.findIdx?.go, ghost]
  refine swp_fs (own := [3, 8]) [false, true, false, false, false, false, false, false] ?_
  simp only [wB, St.ev, St.step, setS, killS, AV.kill, AV.killL, Mem.kill]
  have fa := fA [some (mkM n lm ls l).ob, none, some (mkM n lm ls l).od, gh, some ⟨none, 105, 6, [stA (stO l)]⟩] [] h67 rfl (by simp [AV.pure, AV.pureL, intsA_pure, gtsA_pure]) 5 rfl (by
    rw [hgh]
    simp [memA, keepF, keepG, Mch.ob, Mch.obA, Mch.od, Mch.cells, mkM, stA, AV.sub, AV.subL, prsA_sub, strsA_sub, intsA_sub, gtsA_sub, strsA_msub, ghost, liveI, AV.isO, AV.isQ]) rfl
  refine acall_f fa ?_
  have h77 := s77 (stO l) hs.p hs.h hs.c
  simp only [stA] at h77
  simp only [wB, awp, binC, eqC, asP, asQ, asT, asG, asB, asI, asN, obA, loadA, storeA, putsA, mkA, Aw.newRow, St.ev, St.step, setS, killS, AV.kill, AV.killL, Mem.kill, AV.cells, AV.flat, AV.single, AV.cellular, Nat.reduceAdd, Nat.reduceEqDiff, Nat.reduceLeDiff, Int.reduceAdd, asStr, strC, List.drop_zero, AV.sub, keepG, liveI, AV.isQ, List.any_cons, List.any_nil, List.take_succ_cons, List.take_zero, memA, stA]
  refine acall_v h77 (by simp [AV.pureL, AV.pure, intsA_pure, gtsA_pure]) rfl ?_
  simp only [wB, awp, asB, asN, St.ev, St.step, setS, killS, AV.kill, AV.killL, Mem.kill, Nat.reduceEqDiff]
  exact ⟨_, _, memD (mkM n lm ls l), _, Le.refl _, rfl, by rw [hgh]; rfl, rfl, rfl, free_D _ _, rfl, rfl⟩
end Go.Proofs.YtndniceeibflcaaGreatDoor
