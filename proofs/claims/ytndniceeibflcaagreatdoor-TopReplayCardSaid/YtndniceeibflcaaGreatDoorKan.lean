/-
  Parts of several texts in one: AA9, MtA, AAD, MxH.
-/
import Derived.Test.YtndniceeibflcaaGreatDoorProg
import Derived.WalkKit
import Derived.Lib.ConvBytes
import Derived.LaidEql
import Derived.Lib.ItoaNum
import Derived.Lib.LaidTab
import Derived.KernelRfl
import GoSem.Claims
import GoSem.ClaimJoined
import Derived.Orders
import Derived.Laws.StructEq
import Derived.Maps.Keyed
import Derived.Lib.Strings
import Derived.Maps.AppendAt
import Derived.Laws.Concat
import Derived.MapKept
import Derived.Laws.MakeOwn
import Derived.Scope
import Derived.Laws.BitsLemmas
import Derived.Maps.RangeRun
import Derived.StillTail
import Derived.OrdersIn
import Derived.TacticsIn
import Derived.RangeFuncRecord
import Derived.RangeFuncCalls
import Derived.RangeFuncSeq
import Derived.Lib.Split
import Derived.Lib.AtoiAll
import Derived.Shelf.LaysM
import Derived.Shelf.LaysC
import Derived.Shelf.Strconv.Itoa3
import Derived.Shelf.Strconv.AtoiAll
import Derived.Shelf.Strings.Search3
import Derived.Shelf.Strings.Cut
import Derived.Shelf.Strings.Prefix
import Derived.Shelf.Strings.Split
import Derived.Lib.AppendIntMem
import Derived.Stop.Asserts
import Derived.RowKitTokens
import Derived.Conc.MuLone
import Derived.Test.YtndniceeibflcaaGreatDoorKaa
import Derived.Test.YtndniceeibflcaaGreatDoorKac
import Derived.Test.YtndniceeibflcaaGreatDoorKad
import Derived.Test.YtndniceeibflcaaGreatDoorKae
import Derived.Test.YtndniceeibflcaaGreatDoorKag
set_option linter.unusedSimpArgs false
set_option linter.unusedVariables false
namespace Go.Proofs.YtndniceeibflcaaGreatDoor
namespace Aw
end Aw
namespace Mp
end Mp
end Go.Proofs.YtndniceeibflcaaGreatDoor
namespace Go.Proofs.YtndniceeibflcaaGreatDoor
namespace Aw
open Go.RowKit
set_option linter.unusedSimpArgs false

/-- what is left of such a region. -/
def SOps (P : Program) (ops : Array Oper) (k : Nat) (rest : List Oper) (σ : St) (N : HN) : Prop :=
  ops.toList.drop k = rest → ∀ (C : Ctx) (a : Act) (w : World) (Q : Exit → Act → World → Prop), StR C σ a w → (∀ σ a w, N.k σ → StR C σ a w → Q .normal a w) → wpOps P ops Q (List.range' k rest.length) a w
/-- an operation by hand: from one state to the other. -/
def HOp (P : Program) (ops : Array Oper) (k : Nat) (σ σ' : St) : Prop := ∀ (C : Ctx) (a : Act) (w : World) (Q : Exit → Act → World → Prop), StR C σ a w → wpOp P ops Q k (fun a' w' => StR C σ' a' w') a w

variable {P : Program} {ops : Array Oper} {k : Nat} {σ σ' : St} {N : HN} {o : Oper} {rest : List Oper}
theorem sops_op (h : HOp P ops k σ σ') (h2 : SOps P ops (k + 1) rest σ' N) : SOps P ops k (o :: rest) σ N := by
  intro hd C a w Q hS hQ
  rw [List.length_cons, List.range'_succ, wpOps_cons]
  refine wpOp_mono (fun a' w' hS' => ?_) (h C a w Q hS)
  exact h2 (by rw [← List.drop_drop, hd]; rfl) C a' w' Q hS' hQ
theorem sops_pre {own : List Nat} (pre : List Oper) {l : List Oper} (hl : l = pre ++ rest) (h : @AOps P own ops.toList pre σ ⟨fun σ' => SOps P ops (k + pre.length) rest σ' N⟩) : SOps P ops k l σ N := by
  subst hl
  intro hd C a w Q hS hQ
  refine aops_then (P := P) (own := own) rest pre k σ a w hd h hS ?_
  intro σ' a' w' h' hS'
  exact h' (by rw [← List.drop_drop, hd]; simp) C a' w' Q hS' hQ
theorem sops_end (h : N.k σ) : SOps P ops k [] σ N := by
  intro _ C a w Q hS hQ
  exact hQ σ a w h hS
theorem swp_s {id : Nat} {E : HE} {Rt : HR} (h : SOps P ops 0 ops.toList σ N) : @SWp P (.region id ops false) σ N E Rt := by
  intro C a w hS
  refine wp_region ?_
  have := h rfl C a w (APost C N.k E.k (fun σ => Rt.k σ ())) hS (fun σ a w h1 h2 => ⟨σ, h1, h2⟩)
  rw [List.range_eq_range']
  simpa using this
end Aw
end Go.Proofs.YtndniceeibflcaaGreatDoor

namespace Go.Proofs.YtndniceeibflcaaGreatDoor
open Aw Mp Go.RowKit
set_option linter.unusedSimpArgs false

theorem io46 : intOf Tryz.prog 46 = some .u64 := by kernel_rfl
theorem strsA_take (l : List By) (k : Nat) : (strsA l).take k = strsA (l.take k) := by simp [strsA]
end Go.Proofs.YtndniceeibflcaaGreatDoor

namespace Go.Proofs.YtndniceeibflcaaGreatDoor
namespace Aw
open Go.RowKit
set_option linter.unusedSimpArgs false

theorem hop_slice3 {P : Program} {ops : Array Oper} {k : Nat} {σ : St} {o : Oper} {t e : TypeId} {x hi mx : Operand} {ti te : TI} {kk : Nat} {xs : List AV} {n : Int} (d : Option Tmp) (hdst : o.dst = d) (ho : ops[k]? = some o) (hg : o.guard = none) (hop : o.op = .slice t x none (some hi) (some mx))
    (hti : tiOf P t = some ti) (he : ti.elem = some e) (hte : tiOf P e = some te) (hk : kk = te.size) (hx : σ.ev x = .s kk xs) (hh : σ.ev hi = I n) (hm : σ.ev mx = I n) (h0 : 0 ≤ n) (h1 : n ≤ xs.length) :
    HOp P ops k σ ⟨setS σ.sl d (.s kk (xs.take n.toNat)), σ.M⟩ := by
  subst hdst
  intro C a w Q hS
  obtain ⟨hv, hd, hsz, hsl, hM, hF⟩ := hS
  have hρ := fun y => ev_ok hsl y
  have hxv := hρ x
  have hhv := hρ hi
  have hmv := hρ mx
  rw [hx] at hxv
  rw [hh] at hhv
  rw [hm] at hmv
  simp only [RV] at hhv hmv
  simp only [RV, R] at hxv
  obtain ⟨A, c, ws, e1, h5, h6, h7, h8, h9⟩ := hxv
  injection e1 with e1
  have hu := ti_elem hti he
  obtain ⟨m, hmn, hm0⟩ : ∃ m : Nat, (m : Int) = n ∧ n.toNat = m := ⟨n.toNat, by omega, rfl⟩
  have sb : ∀ (k : IntKind) (i : Int) (n y : Nat) (code : BoundsCode), (n : Int) = i → n ≤ y → (Instr.sliceBound (.int k i) y code).run P w = .ok n w := by
    intro k i n y code h0 h1
    simp only [Instr.sliceBound, Sem.run_bind, asIntOf, Sem.run_pure, Result.andThen_ok]
    rw [if_pos (by omega)]
    simp only [Sem.run_pure]
    congr 1; omega
  have hb : (Instr.sliceBounds true xs.length c none (some (a.eval hi)) (some (a.eval mx))).run P w = .ok (0, m, m) w := by
    simp only [Instr.sliceBounds, hhv, hmv, Sem.run_bind]
    rw [sb .i64 n m c _ hmn (by omega)]
    simp only [Result.andThen_ok, Sem.run_bind]
    rw [sb .i64 n m m _ hmn (Nat.le_refl _)]
    simp only [Result.andThen_ok, Sem.run_bind, Sem.run_pure]
  have hrun : (execOp a.eval o).run P w = .ok (.value (.slice (if m = 0 then A else A.map (·.add (0 * te.size))) (m - 0) (m - 0))) w := by
    simp [execOp, hop, e1, Instr.sliceAt, Instr.slice, Sem.run_bind, run_underlying hu, Result.andThen_ok, hb, ti_size hte, Sem.run_pure]
  unfold wpOp
  simp only [ho]
  rw [if_pos (wanted_none hg _)]
  left
  refine wp_value hrun ?_
  have hS' := StR.next (C := C) (σ := σ) (a := a) (w := w) (w' := w) (Z := []) (M' := σ.M) (r := .s kk (xs.take n.toNat)) (v := .slice (if m = 0 then A else A.map (·.add (0 * te.size))) (m - 0) (m - 0)) (d := o.dst) hd hsz hsl hF hM ?_ (StepR.refl C.A w hv)
  · simpa [St.step, killS] using hS'
  · simp only [RV, R]
    have hlen : (xs.take n.toNat).length = m := by simp; omega
    refine ⟨_, m, _, by rw [hlen, Nat.sub_zero], by omega, by omega, fun x hx => h7 x (List.mem_of_mem_take hx), RL_take h7 h8 n.toNat, fun hne => ?_⟩
    have hm1 : 0 < m := by
      rcases Nat.eq_zero_or_pos m with h | h
      · exact absurd (List.eq_nil_of_length_eq_zero (by omega)) hne
      · exact h
    obtain ⟨b, off, rfl, hbb, hT, hc⟩ := h9 (by intro e; rw [e] at h1; simp at h1; omega)
    rw [if_neg (by omega)]
    refine ⟨b, off, by simp [Addr.add_lit], hbb, hT, fun j u hu => ?_⟩
    rw [List.getElem?_take] at hu
    split at hu
    · exact hc _ _ hu
    · cases hu
end Aw
end Go.Proofs.YtndniceeibflcaaGreatDoor

namespace Go.Proofs.YtndniceeibflcaaGreatDoor
open Aw Mp Go.RowKit
set_option linter.unusedSimpArgs false
set_option maxRecDepth 8000

theorem u64_wrap (n : Int) : IntKind.u64.wrap n = n % 18446744073709551616 := by
  unfold IntKind.wrap
  rfl
/-- a number of a place in a list. -/
theorem keep_at (keep : Int) (n : Nat) (hn : n ≤ 1000000) : IntKind.u64.wrap ((n : Int) + 1) = (n : Int) + 1 ∧ ∃ k : Nat, k ≤ n ∧ IntKind.i64.wrap ((IntKind.u64.wrap keep).tmod ((n : Int) + 1)) = (k : Int) := by
  refine ⟨by rw [u64_wrap]; omega, ?_⟩
  have h0 : 0 ≤ IntKind.u64.wrap keep := by rw [u64_wrap]; omega
  rw [Int.tmod_eq_emod_of_nonneg h0]
  generalize IntKind.u64.wrap keep = q at *
  have h1 : 0 ≤ q % ((n : Int) + 1) := Int.emod_nonneg _ (by omega)
  have h2 : q % ((n : Int) + 1) < (n : Int) + 1 := Int.emod_lt_of_pos _ (by omega)
  refine ⟨(q % ((n : Int) + 1)).toNat, by omega, ?_⟩
  rw [IntWalk.i64_in _ (by omega)]
  omega
end Go.Proofs.YtndniceeibflcaaGreatDoor
