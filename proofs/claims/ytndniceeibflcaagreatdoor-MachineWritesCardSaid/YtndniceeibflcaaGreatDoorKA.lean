/-
  The law MachineWrites: for every input, with the listed variables as the program's text lays them, it answers true, and each argument reads as it did.
-/
import Derived.Test.YtndniceeibflcaaGreatDoorProg
import Derived.WalkKit
import Derived.Lib.ConvBytes
import Derived.LaidEql
import Derived.Lib.ItoaNum
import Derived.Lib.LaidTab
import Derived.KernelRfl
import GoSem.Claims
import GoSem.ClaimJoined
import Derived.Orders
import Derived.Laws.StructEq
import Derived.Maps.Keyed
import Derived.Lib.Strings
import Derived.Maps.AppendAt
import Derived.Laws.Concat
import Derived.MapKept
import Derived.Laws.MakeOwn
import Derived.Scope
import Derived.Laws.BitsLemmas
import Derived.Maps.RangeRun
import Derived.StillTail
import Derived.OrdersIn
import Derived.TacticsIn
import Derived.RangeFuncRecord
import Derived.RangeFuncCalls
import Derived.RangeFuncSeq
import Derived.Lib.Split
import Derived.Lib.AtoiAll
import Derived.Shelf.LaysM
import Derived.Shelf.LaysC
import Derived.Shelf.Strconv.Itoa3
import Derived.Shelf.Strconv.AtoiAll
import Derived.Shelf.Strings.Search3
import Derived.Shelf.Strings.Cut
import Derived.Shelf.Strings.Prefix
import Derived.Shelf.Strings.Split
import Derived.Lib.AppendIntMem
import Derived.Stop.Asserts
import Derived.RowKitTokens
import Derived.Conc.MuLone
import Derived.Test.YtndniceeibflcaaGreatDoorRows
import Derived.Test.YtndniceeibflcaaGreatDoorChecked
import Derived.ChangeSame
import Derived.ChangeVars
import Derived.JoinedOf
import Derived.ProofKit
import Derived.RowKit
import Derived.LaidLaws
import Derived.LaidHandle
import Derived.LaidMore
import Derived.Stop.Joined
import Derived.Stop.LaidErr
import Derived.HandedShaped
import Derived.Shelf.Vars
import Derived.Deep.Slices
import Derived.Deep.Strs
import Derived.Deep.Fields
import Derived.Lib.SmallJoins
import Derived.SliceStrings
import Derived.ChangeMaps5
import Derived.Test.YtndniceeibflcaaGreatDoorTie
import Derived.Test.YtndniceeibflcaaGreatDoorCards
import Derived.SevenTiedAt
import Derived.Test.YtndniceeibflcaaGreatDoorKa
import Derived.Test.YtndniceeibflcaaGreatDoorKb
import Derived.Test.YtndniceeibflcaaGreatDoorKc
import Derived.Test.YtndniceeibflcaaGreatDoorKd
import Derived.Test.YtndniceeibflcaaGreatDoorKe
import Derived.Test.YtndniceeibflcaaGreatDoorKg
import Derived.Test.YtndniceeibflcaaGreatDoorKp
import Derived.Test.YtndniceeibflcaaGreatDoorKq
import Derived.Test.YtndniceeibflcaaGreatDoorKr
import Derived.Test.YtndniceeibflcaaGreatDoorKs
import Derived.Test.YtndniceeibflcaaGreatDoorKt
import Derived.Test.YtndniceeibflcaaGreatDoorKf
import Derived.Test.YtndniceeibflcaaGreatDoorKu
import Derived.Test.YtndniceeibflcaaGreatDoorKv
import Derived.Test.YtndniceeibflcaaGreatDoorKi
import Derived.Test.YtndniceeibflcaaGreatDoorKy
import Derived.Test.YtndniceeibflcaaGreatDoorKz
import Derived.Test.YtndniceeibflcaaGreatDoorKl
set_option linter.unusedSimpArgs false
set_option linter.unusedVariables false
namespace Go.Proofs.YtndniceeibflcaaGreatDoor
namespace Aw
end Aw
namespace Mp
end Mp
end Go.Proofs.YtndniceeibflcaaGreatDoor
namespace Go.Proofs.YtndniceeibflcaaGreatDoor
namespace Aw
open Go.RowKit
set_option linter.unusedSimpArgs false

/-- what is left of such a region. -/
def SOps (P : Program) (ops : Array Oper) (k : Nat) (rest : List Oper) (σ : St) (N : HN) : Prop :=
  ops.toList.drop k = rest → ∀ (C : Ctx) (a : Act) (w : World) (Q : Exit → Act → World → Prop), StR C σ a w → (∀ σ a w, N.k σ → StR C σ a w → Q .normal a w) → wpOps P ops Q (List.range' k rest.length) a w
/-- an operation by hand: from one state to the other. -/
def HOp (P : Program) (ops : Array Oper) (k : Nat) (σ σ' : St) : Prop := ∀ (C : Ctx) (a : Act) (w : World) (Q : Exit → Act → World → Prop), StR C σ a w → wpOp P ops Q k (fun a' w' => StR C σ' a' w') a w

variable {P : Program} {ops : Array Oper} {k : Nat} {σ σ' : St} {N : HN} {o : Oper} {rest : List Oper}
theorem sops_op (h : HOp P ops k σ σ') (h2 : SOps P ops (k + 1) rest σ' N) : SOps P ops k (o :: rest) σ N := by
  intro hd C a w Q hS hQ
  rw [List.length_cons, List.range'_succ, wpOps_cons]
  refine wpOp_mono (fun a' w' hS' => ?_) (h C a w Q hS)
  exact h2 (by rw [← List.drop_drop, hd]; rfl) C a' w' Q hS' hQ
theorem sops_pre {own : List Nat} (pre : List Oper) {l : List Oper} (hl : l = pre ++ rest) (h : @AOps P own ops.toList pre σ ⟨fun σ' => SOps P ops (k + pre.length) rest σ' N⟩) : SOps P ops k l σ N := by
  subst hl
  intro hd C a w Q hS hQ
  refine aops_then (P := P) (own := own) rest pre k σ a w hd h hS ?_
  intro σ' a' w' h' hS'
  exact h' (by rw [← List.drop_drop, hd]; simp) C a' w' Q hS' hQ
theorem sops_end (h : N.k σ) : SOps P ops k [] σ N := by
  intro _ C a w Q hS hQ
  exact hQ σ a w h hS
theorem swp_s {id : Nat} {E : HE} {Rt : HR} (h : SOps P ops 0 ops.toList σ N) : @SWp P (.region id ops false) σ N E Rt := by
  intro C a w hS
  refine wp_region ?_
  have := h rfl C a w (APost C N.k E.k (fun σ => Rt.k σ ())) hS (fun σ a w h1 h2 => ⟨σ, h1, h2⟩)
  rw [List.range_eq_range']
  simpa using this
end Aw
end Go.Proofs.YtndniceeibflcaaGreatDoor

namespace Go.Proofs.YtndniceeibflcaaGreatDoor
namespace Mp
open Go
set_option linter.unusedSimpArgs false

theorem okLine_line (b : Int) (o t : By) (h : ordB o = true) : okLine b (lineB (sumB b o) o ++ t) = true ∧ ordOf (lineB (sumB b o) o ++ t) = o ∧ restOf (lineB (sumB b o) o ++ t) = t := by
  obtain ⟨_, _, h10⟩ := (ordB_iff o).1 h
  have hs := (sumB_lim b o).1
  have e1 : cutB 10 (lineB (sumB b o) o ++ t) = (Lib.itoa (sumB b o) ++ 32 :: o, t, true) := by
    unfold lineB
    rw [List.append_assoc]
    refine cutB_at 10 _ t ?_
    simp only [List.mem_append, List.mem_cons, not_or]
    exact ⟨itoa_no hs 10 (by decide), by decide, h10⟩
  have e2 : cutB 32 (Lib.itoa (sumB b o) ++ 32 :: o) = (Lib.itoa (sumB b o), o, true) := cutB_at 32 _ o (itoa_no hs 32 (by decide))
  unfold okLine ordOf restOf
  rw [e1]
  simp only
  rw [e2]
  simp [h]

/-- what is written is read again. -/
theorem rd_of_lg : ∀ (l : List By) (k : Nat) (b : Int) (t : By), (∀ o ∈ l, ordB o = true) → rd (l.length + k) b (lg b l ++ t) = (l ++ (rd k (sumL b l) t).1, (rd k (sumL b l) t).2)
  | [], k, b, t, _ => by simp [lg, sumL]
  | o :: l, k, b, t, h => by
    obtain ⟨h1, h2, h3⟩ := okLine_line b o (lg (sumB b o) l ++ t) (h o (by simp))
    have ih := rd_of_lg l k (sumB b o) t (fun x hx => h x (by simp [hx]))
    rw [show (o :: l).length + k = (l.length + k) + 1 by simp; omega]
    simp only [lg, List.append_assoc]
    rw [rd_succ, if_pos h1, h2, h3, ih]
    rfl
theorem rd_nil (k : Nat) (b : Int) : rd k b [] = ([], []) := by
  cases k with
  | zero => rfl
  | succ k => simp [rd, okLine, cutB]
theorem rd_all {l : List By} (hl : l.length ≤ 100) (ho : ∀ o ∈ l, ordB o = true) : rd 100 0 (lg 0 l) = (l, []) := by
  have := rd_of_lg l (100 - l.length) 0 [] ho
  rw [show l.length + (100 - l.length) = 100 by omega] at this
  simpa [rd_nil] using this

/-- of two logs that begin alike the orders do. -/
theorem lg_pre : ∀ (l m : List By) (b : Int) (t u : By), (∀ o ∈ l, ordB o = true) → (∀ o ∈ m, ordB o = true) → lg b l ++ t = lg b m ++ u → l.length ≤ m.length → l <+: m
  | [], m, _, _, _, _, _, _, _ => List.nil_prefix
  | o :: l, [], _, _, _, _, _, _, h => by simp at h
  | o :: l, p :: m, b, t, u, h1, h2, he, hl => by
    have e1 := okLine_line b o (lg (sumB b o) l ++ t) (h1 o (by simp))
    have e2 := okLine_line b p (lg (sumB b p) m ++ u) (h2 p (by simp))
    simp only [lg, List.append_assoc] at he
    rw [he, e2.2.1, e2.2.2] at e1
    obtain ⟨_, rfl, e3⟩ := e1
    have := lg_pre l m (sumB b p) t u (fun x hx => h1 x (by simp [hx])) (fun x hx => h2 x (by simp [hx])) e3.symm (by simpa using hl)
    exact (List.prefix_cons_inj p).2 this
theorem lineB_pos (n : Int) (o : By) : 0 < (lineB n o).length := by simp [lineB]; omega
theorem lg_len : ∀ (l : List By) (b : Int), l.length ≤ (lg b l).length
  | [], _ => by simp [lg]
  | o :: l, b => by
    have := lg_len l (sumB b o)
    have := lineB_pos (sumB b o) o
    simp only [lg, List.length_append, List.length_cons]; omega
end Mp
end Go.Proofs.YtndniceeibflcaaGreatDoor

namespace Go.Proofs.YtndniceeibflcaaGreatDoor
open Aw Mp Go.RowKit
set_option linter.unusedSimpArgs false

theorem io46 : intOf Tryz.prog 46 = some .u64 := by kernel_rfl
theorem nt149 : nilT Tryz.prog 149 = some true := by kernel_rfl
theorem cc147 : conc Tryz.prog 147 = true := by kernel_rfl
theorem strsA_take (l : List By) (k : Nat) : (strsA l).take k = strsA (l.take k) := by simp [strsA]
end Go.Proofs.YtndniceeibflcaaGreatDoor

namespace Go.Proofs.YtndniceeibflcaaGreatDoor
namespace Aw
open Go.RowKit
set_option linter.unusedSimpArgs false

theorem hop_slice3 {P : Program} {ops : Array Oper} {k : Nat} {σ : St} {o : Oper} {t e : TypeId} {x hi mx : Operand} {ti te : TI} {kk : Nat} {xs : List AV} {n : Int} (d : Option Tmp) (hdst : o.dst = d) (ho : ops[k]? = some o) (hg : o.guard = none) (hop : o.op = .slice t x none (some hi) (some mx))
    (hti : tiOf P t = some ti) (he : ti.elem = some e) (hte : tiOf P e = some te) (hk : kk = te.size) (hx : σ.ev x = .s kk xs) (hh : σ.ev hi = I n) (hm : σ.ev mx = I n) (h0 : 0 ≤ n) (h1 : n ≤ xs.length) :
    HOp P ops k σ ⟨setS σ.sl d (.s kk (xs.take n.toNat)), σ.M⟩ := by
  subst hdst
  intro C a w Q hS
  obtain ⟨hv, hd, hsz, hsl, hM, hF⟩ := hS
  have hρ := fun y => ev_ok hsl y
  have hxv := hρ x
  have hhv := hρ hi
  have hmv := hρ mx
  rw [hx] at hxv
  rw [hh] at hhv
  rw [hm] at hmv
  simp only [RV] at hhv hmv
  simp only [RV, R] at hxv
  obtain ⟨A, c, ws, e1, h5, h6, h7, h8, h9⟩ := hxv
  injection e1 with e1
  have hu := ti_elem hti he
  obtain ⟨m, hmn, hm0⟩ : ∃ m : Nat, (m : Int) = n ∧ n.toNat = m := ⟨n.toNat, by omega, rfl⟩
  have sb : ∀ (k : IntKind) (i : Int) (n y : Nat) (code : BoundsCode), (n : Int) = i → n ≤ y → (Instr.sliceBound (.int k i) y code).run P w = .ok n w := by
    intro k i n y code h0 h1
    simp only [Instr.sliceBound, Sem.run_bind, asIntOf, Sem.run_pure, Result.andThen_ok]
    rw [if_pos (by omega)]
    simp only [Sem.run_pure]
    congr 1; omega
  have hb : (Instr.sliceBounds true xs.length c none (some (a.eval hi)) (some (a.eval mx))).run P w = .ok (0, m, m) w := by
    simp only [Instr.sliceBounds, hhv, hmv, Sem.run_bind]
    rw [sb .i64 n m c _ hmn (by omega)]
    simp only [Result.andThen_ok, Sem.run_bind]
    rw [sb .i64 n m m _ hmn (Nat.le_refl _)]
    simp only [Result.andThen_ok, Sem.run_bind, Sem.run_pure]
  have hrun : (execOp a.eval o).run P w = .ok (.value (.slice (if m = 0 then A else A.map (·.add (0 * te.size))) (m - 0) (m - 0))) w := by
    simp [execOp, hop, e1, Instr.sliceAt, Instr.slice, Sem.run_bind, run_underlying hu, Result.andThen_ok, hb, ti_size hte, Sem.run_pure]
  unfold wpOp
  simp only [ho]
  rw [if_pos (wanted_none hg _)]
  left
  refine wp_value hrun ?_
  have hS' := StR.next (C := C) (σ := σ) (a := a) (w := w) (w' := w) (Z := []) (M' := σ.M) (r := .s kk (xs.take n.toNat)) (v := .slice (if m = 0 then A else A.map (·.add (0 * te.size))) (m - 0) (m - 0)) (d := o.dst) hd hsz hsl hF hM ?_ (StepR.refl C.A w hv)
  · simpa [St.step, killS] using hS'
  · simp only [RV, R]
    have hlen : (xs.take n.toNat).length = m := by simp; omega
    refine ⟨_, m, _, by rw [hlen, Nat.sub_zero], by omega, by omega, fun x hx => h7 x (List.mem_of_mem_take hx), RL_take h7 h8 n.toNat, fun hne => ?_⟩
    have hm1 : 0 < m := by
      rcases Nat.eq_zero_or_pos m with h | h
      · exact absurd (List.eq_nil_of_length_eq_zero (by omega)) hne
      · exact h
    obtain ⟨b, off, rfl, hbb, hT, hc⟩ := h9 (by intro e; rw [e] at h1; simp at h1; omega)
    rw [if_neg (by omega)]
    refine ⟨b, off, by simp [Addr.add_lit], hbb, hT, fun j u hu => ?_⟩
    rw [List.getElem?_take] at hu
    split at hu
    · exact hc _ _ hu
    · cases hu
end Aw
end Go.Proofs.YtndniceeibflcaaGreatDoor

namespace Go.Proofs.YtndniceeibflcaaGreatDoor
open Aw Mp Go.RowKit
set_option linter.unusedSimpArgs false

theorem ok40 : okFn Tryz.prog 40 = true := by kernel_rfl
theorem s40 (l : List By) (hs : ∀ o ∈ l, o.length ≤ 9223372036854775807) : ASpec Tryz.prog 40 [.s 1 (strsA l)] (fun r Ms => r = .t [S (wrB l).1, I (wrB l).2] ∧ Ms = []) := by
  refine aspec_of (own := []) Tryz.func40 rfl ok40 ?_
  by_cases hl : (100 : Int) < l.length
  · simp only [wB, awp, binC, cmpC, asB, asI, asN, lenA, St.ev, St.step, setS, killS, AV.kill, AV.killL, Mem.kill, Nat.reduceAdd, Nat.reduceSub, Int.reduceAdd, Int.reduceSub, lenK, strsA_len, Tryz.ntmps40, decide_eq_true hl]
    exact aend_frz rfl ⟨by unfold wrB; rw [if_pos (by omega)]; rfl, rfl⟩
  simp only [wB, awp, binC, cmpC, asB, asI, asN, lenA, St.ev, St.step, setS, killS, AV.kill, AV.killL, Mem.kill, Nat.reduceAdd, Nat.reduceSub, Int.reduceAdd, Int.reduceSub, lenK, strsA_len, Tryz.ntmps40, decide_eq_false hl]
  refine swp_loop' (fun k : Nat => ⟨[.s 1 (strsA l), .bot, .bot, .bot, I k, .bot, .bot, .bot, .bot, .bot, .bot, .bot, .bot, .bot, .bot, .bot, .bot, .bot, .bot, .bot, .bot, .bot], []⟩) (fun k => k ≤ l.length ∧ ∀ o ∈ l.take k, ordB o = true) (fun k => l.length - k) 0 (le_sl (by simp [leSl])) ⟨Nat.zero_le _, by simp⟩ ?_
  rintro k ⟨hk, hall⟩
  refine awp_sound (own := []) _ _ _ _ _ ?_
  simp only [wB, awp, binC, cmpC, asB, asI, lenA, St.ev, St.step, setS, killS, AV.kill, AV.killL, Mem.kill, Nat.reduceAdd, Int.reduceAdd, lenK, strsA_len]
  by_cases h : k < l.length
  · have h' : (k : Int) < l.length := by omega
    simp only [wB, awp, idxC, asP, asS, asI, loadA, St.ev, St.step, setS, killS, AV.kill, AV.killL, Mem.kill, AV.cells, AV.flat, AV.single, Nat.reduceAdd, Int.reduceAdd, decide_eq_true h', Int.toNat_natCast, aget_strs h]
    refine ⟨by omega, acall_v (s85 _ (hs _ (List.getElem_mem h))) rfl rfl ?_⟩
    cases ho : ordB l[k] with
    | false =>
      simp only [wB, awp, asB, asN, St.ev, St.step, setS, killS, AV.kill, AV.killL, Mem.kill, Nat.reduceAdd, Int.reduceAdd]
      exact aend_frz rfl ⟨by rw [wr_bad (by omega) (List.getElem_mem h) ho]; rfl, rfl⟩
    | true =>
      simp only [wB, awp, binC, arithC, cmpC, asB, asI, asN, St.ev, St.step, setS, killS, AV.kill, AV.killL, Mem.kill, Nat.reduceAdd, Int.reduceAdd, isU]
      have e : l.take k ++ [l[k]] = l.take (k + 1) := by rw [List.take_add_one, List.getElem?_eq_getElem h]; rfl
      refine ⟨by unfold lim; omega, k + 1, le_sl (by simp [leSl]), ⟨by omega, fun o ho' => ?_⟩, by omega⟩
      rw [← e] at ho'
      rcases List.mem_append.1 ho' with ho' | ho'
      · exact hall o ho'
      · simp only [List.mem_singleton] at ho'; rw [ho']; exact ho
  · have h' : ¬ (k : Int) < l.length := by omega
    rw [List.take_of_length_le (by omega)] at hall
    simp only [wB, awp, St.ev, St.step, setS, killS, AV.kill, AV.killL, Mem.kill, Nat.reduceAdd, Int.reduceAdd, decide_eq_false h']
    refine acall_v (s36 l (by omega) hall) rfl rfl ?_
    simp only [wB, awp, asN, St.ev, St.step, setS, killS, AV.kill, AV.killL, Mem.kill]
    refine aend_frz rfl ⟨?_, rfl⟩
    rw [wr_all (by omega) hall]
    rfl

end Go.Proofs.YtndniceeibflcaaGreatDoor

namespace Go.Proofs.YtndniceeibflcaaGreatDoor
open Aw Mp Go.RowKit
set_option linter.unusedSimpArgs false
set_option maxRecDepth 8000

theorem wr_inv {l : List By} (h : (wrB l).2 = 0) : l.length ≤ 100 ∧ (∀ o ∈ l, ordB o = true) ∧ wrB l = (lg 0 l, 0) := by
  unfold wrB at h ⊢
  split at h
  · cases h
  rename_i h1
  split at h
  · rename_i h2
    exact ⟨by omega, List.all_eq_true.1 h2, by rw [if_neg h1, if_pos h2]⟩
  · cases h
theorem lg_inj0 {m : List By} {b : Int} (h : lg b m = []) : m = [] := by
  have := lg_len m b
  rw [h] at this
  exact List.length_eq_zero_iff.1 (by simpa using this)
/-- of a log without its end a beginning of the orders is read, and the torn line. -/
theorem cut_law {l : List By} (ho : ∀ o ∈ l, ordB o = true) (k : Nat) (hk : k ≤ (lg 0 l).length) :
    (rd 100 0 ((lg 0 l).take k)).2.length ≤ k ∧ ((lg 0 l).take k).drop (k - (rd 100 0 ((lg 0 l).take k)).2.length) = (rd 100 0 ((lg 0 l).take k)).2 ∧ (rd 100 0 ((lg 0 l).take k)).1.length ≤ l.length ∧ (rd 100 0 ((lg 0 l).take k)).1 = l.take (rd 100 0 ((lg 0 l).take k)).1.length := by
  have e1 := rd_lg 100 0 ((lg 0 l).take k)
  have o1 := rd_ord 100 0 ((lg 0 l).take k)
  generalize (rd 100 0 ((lg 0 l).take k)).1 = p at *
  generalize (rd 100 0 ((lg 0 l).take k)).2 = t at *
  have hlen : (lg 0 p).length + t.length = k := by
    have := congrArg List.length e1
    simp only [List.length_append, List.length_take] at this
    omega
  have e2 : lg 0 p ++ (t ++ (lg 0 l).drop k) = lg 0 l ++ [] := by
    rw [← List.append_assoc, e1, List.take_append_drop, List.append_nil]
  refine ⟨by omega, by rw [← e1, show k - t.length = (lg 0 p).length by omega, List.drop_left], ?_⟩
  rcases Nat.lt_or_ge l.length p.length with h | h
  · obtain ⟨m, rfl⟩ := lg_pre l p 0 [] (t ++ (lg 0 l).drop k) ho o1 e2.symm (by omega)
    rw [lg_app, List.append_assoc] at e2
    have e3 := List.append_cancel_left e2
    have : lg (sumL 0 l) m = [] := (List.append_eq_nil_iff.1 e3).1
    have := lg_inj0 this
    subst this
    simp at h
  · have hp := lg_pre p l 0 _ _ o1 ho e2 h
    exact ⟨h, List.prefix_iff_eq_take.1 hp⟩
end Go.Proofs.YtndniceeibflcaaGreatDoor

namespace Go.Proofs.YtndniceeibflcaaGreatDoor
open Aw Mp Go.RowKit
set_option linter.unusedSimpArgs false
set_option maxRecDepth 8000

theorem u64_wrap (n : Int) : IntKind.u64.wrap n = n % 18446744073709551616 := by
  unfold IntKind.wrap
  rfl
/-- a number of a place in a list. -/
theorem keep_at (keep : Int) (n : Nat) (hn : n ≤ 1000000) : IntKind.u64.wrap ((n : Int) + 1) = (n : Int) + 1 ∧ ∃ k : Nat, k ≤ n ∧ IntKind.i64.wrap ((IntKind.u64.wrap keep).tmod ((n : Int) + 1)) = (k : Int) := by
  refine ⟨by rw [u64_wrap]; omega, ?_⟩
  have h0 : 0 ≤ IntKind.u64.wrap keep := by rw [u64_wrap]; omega
  rw [Int.tmod_eq_emod_of_nonneg h0]
  generalize IntKind.u64.wrap keep = q at *
  have h1 : 0 ≤ q % ((n : Int) + 1) := Int.emod_nonneg _ (by omega)
  have h2 : q % ((n : Int) + 1) < (n : Int) + 1 := Int.emod_lt_of_pos _ (by omega)
  refine ⟨(q % ((n : Int) + 1)).toNat, by omega, ?_⟩
  rw [IntWalk.i64_in _ (by omega)]
  omega
theorem ok9 : okFn Tryz.prog 9 = true := by kernel_rfl
theorem s9 (l : List By) (hs : ∀ o ∈ l, o.length ≤ 9223372036854775807) (keep : Int) (hk : lim keep) : ASpec Tryz.prog 9 [.s 1 (strsA l), I keep] (fun r Ms => r = B true ∧ Ms = []) := by
  refine aspec_of (own := [1016]) Tryz.func9 rfl ok9 ?_
  simp only [wB, awp, asN, St.ev, St.step, setS, killS, AV.kill, AV.killL, Mem.kill, Nat.reduceAdd, Nat.reduceEqDiff, Nat.reduceSub, Int.reduceAdd, Int.reduceSub, Tryz.ntmps9]
  refine acall_v (s21 l) (by simp [AV.pureL, AV.pure, strsA_pure]) rfl ?_
  by_cases h : 150 < l.length
  · simp only [wB, awp, asB, St.ev, St.step, setS, killS, AV.kill, AV.killL, Mem.kill, Nat.reduceAdd, Nat.reduceEqDiff, Int.reduceAdd, decide_eq_true h]
    refine acall_v s31 rfl rfl ?_
    simp only [wB, awp, asN, St.ev, St.step, setS, killS, AV.kill, AV.killL, Mem.kill, Nat.reduceEqDiff]
    exact aend_frz rfl ⟨rfl, rfl⟩
  simp only [wB, awp, asB, St.ev, St.step, setS, killS, AV.kill, AV.killL, Mem.kill, Nat.reduceAdd, Nat.reduceEqDiff, Int.reduceAdd, decide_eq_false h]
  refine acall_v (s26 l) (by simp [AV.pureL, AV.pure, strsA_pure]) rfl ?_
  simp only [wB, awp, asT, asN, St.ev, St.step, setS, killS, AV.kill, AV.killL, Mem.kill, Nat.reduceAdd, Nat.reduceEqDiff, Int.reduceAdd]
  refine acall_v (s40 l hs) (by simp [AV.pureL, AV.pure, strsA_pure]) rfl ?_
  by_cases h0 : (wrB l).2 = 0
  case neg =>
    simp only [wB, awp, binC, cmpC, eqC, asT, asG, asB, asI, asN, St.ev, St.step, setS, killS, AV.kill, AV.killL, Mem.kill, Nat.reduceAdd, Nat.reduceEqDiff, Int.reduceAdd, asStr, strC, decide_eq_false h0]
    refine acall_v s31 rfl rfl ?_
    simp only [wB, awp, asN, St.ev, St.step, setS, killS, AV.kill, AV.killL, Mem.kill, Nat.reduceEqDiff]
    exact aend_frz rfl ⟨rfl, rfl⟩
  obtain ⟨hl, ho, hw⟩ := wr_inv h0
  rw [hw]
  simp only [wB, awp, binC, cmpC, eqC, asT, asG, asB, asI, asN, St.ev, St.step, setS, killS, AV.kill, AV.killL, Mem.kill, Nat.reduceAdd, Nat.reduceEqDiff, Int.reduceAdd, asStr, strC]
  have hlen := lg_size l 0 ho
  refine acall_v (s19 (lg 0 l) (by omega)) rfl (by simp [AV.pure, AV.pureL, strsA_pure]) ?_
  simp only [wB, awp, asT, asN, St.ev, St.step, setS, killS, AV.kill, AV.killL, Mem.kill, Nat.reduceAdd, Nat.reduceEqDiff, Int.reduceAdd, rd_all hl ho]
  refine acall_v (s39 l l (by omega)) (by simp [AV.pureL, AV.pure, strsA_pure]) rfl ?_
  simp only [wB, awp, binC, arithC, cmpC, eqC, asS, asG, asB, asI, asN, bndA, lenA, St.ev, St.step, setS, killS, AV.kill, AV.killL, Mem.kill, Nat.reduceAdd, Nat.reduceEqDiff, Int.reduceAdd, Int.reduceLE, isU, asStr, strC, arithU, lenK, io3, io46]
  obtain ⟨e1, k, hk1, e2⟩ := keep_at keep (lg 0 l).length (by omega)
  rw [e1, e2]
  obtain ⟨c1, c2, c3, c4⟩ := cut_law ho k hk1
  generalize hP : (rd 100 0 ((lg 0 l).take k)).1 = p at *
  generalize hT : (rd 100 0 ((lg 0 l).take k)).2 = tn at *
  refine ⟨by unfold lim; omega, by omega, ⟨by omega, by omega⟩, ?_⟩
  rw [Int.toNat_natCast, List.drop_zero]
  have h19 := s19 ((lg 0 l).take k) (by simp; omega)
  rw [hP, hT] at h19
  refine acall_v h19 rfl (by simp [AV.pure, AV.pureL, strsA_pure]) ?_
  simp only [wB, awp, binC, cmpC, asT, asI, asN, lenA, St.ev, St.step, setS, killS, AV.kill, AV.killL, Mem.kill, Nat.reduceAdd, Nat.reduceEqDiff, Int.reduceAdd, lenK]
  simp only [wB, binC, arithC, cmpC, eqC, asS, asG, asB, asI, bndA, lenA, St.ev, St.step, setS, killS, AV.kill, AV.killL, Mem.kill, isU, asStr, strC, lenK, decide_eq_false (show ¬ (k : Int) < tn.length by omega)]
  refine ⟨by unfold lim; omega, ⟨by omega, by omega, by omega⟩, ?_⟩
  rw [Int.toNat_natCast, show ((k : Int) - tn.length).toNat = k - tn.length by omega, c2]
  simp only [wB, awp, binC, cmpC, asB, asI, lenA, St.ev, St.step, setS, killS, AV.kill, AV.killL, Mem.kill, Nat.reduceAdd, Int.reduceAdd, lenK, strsA_len, strsA_len, decide_eq_false (show ¬ (l.length : Int) < p.length by omega)]
  refine swp_s ?_
  simp only [List.toList_toArray]
  refine sops_pre (own := []) [_, _, _, _, _, _] rfl ?_
  simp only [wB, awp, lenA, St.ev, St.step, setS, killS, AV.kill, AV.killL, Mem.kill, Nat.reduceAdd, Int.reduceAdd, lenK, strsA_len, strsA_len]
  refine sops_op (hop_slice3 (some 93) rfl rfl rfl rfl ti27 rfl ti9 rfl rfl rfl rfl (by omega) (by rw [strsA_len]; omega)) ?_
  simp only [setS, List.set_cons_succ, List.set_cons_zero, Nat.reduceAdd, Int.reduceAdd, strsA_take, Int.toNat_natCast]
  refine sops_pre (own := []) [_, _, _, _, _] rfl ?_
  simp only [wB, St.ev]
  rw [← c4]
  refine acall_v (s39 p p (by omega)) (by simp [AV.pureL, AV.pure, strsA_pure]) rfl ?_
  simp only [wB, St.ev, St.step, setS, killS, AV.kill, AV.killL, Mem.kill]
  refine acall_v s31 rfl rfl ?_
  simp only [wB, asB, asN, St.ev, St.step, setS, killS, AV.kill, AV.killL, Mem.kill, Nat.reduceAdd, Int.reduceAdd]
  refine sops_end ?_
  simp only [wB, lenM, oneOf, awp, binC, idxC, arithC, cmpC, eqC, asP, asQ, asO, asS, asT, asG, asF, asB, asI, asN, asE, obA, bndA, lenA, minmaxA, loadA, storeA, fillA, putsA, mkA, Aw.newRow, St.ev, St.step, setS, killS, AV.kill, AV.killL, Mem.kill, AV.cells, AV.flat, AV.single, AV.cellular, AV.size, AV.sizeL, AV.pure, AV.pureL, Value.oneCell', ints, Nat.reduceAdd, Nat.reduceEqDiff, Nat.reduceMul, Nat.reduceSub, Nat.reduceLeDiff, Nat.reduceBEq, Int.reduceAdd, Int.reduceSub, Int.reduceMul, Int.reduceNeg, Int.reduceToNat, Int.reduceLE, Int.reduceLT, Int.reduceEq, ASch, St.put, Md.mem, Md.need, isNP, isNI, isU, ptrN, ifcN, asStr, strC, arithU, lenK, Aw.valOf, Aw.valsOf, io3, io5, io46, nt32, nt149, nt114, cc139, cc147, us9, wrap_byte, bytesA_len, strsA_len, Tryz.ntmps9]
  exact aend_frz rfl ⟨rfl, rfl⟩
end Go.Proofs.YtndniceeibflcaaGreatDoor

namespace Go.Proofs.YtndniceeibflcaaGreatDoor
open Aw Go.ChangeShapes Go.WideShapes Go.ChangeAt Go.RowKit Go.Deep Go.Joins

set_option maxRecDepth 100000 in
theorem machineWrites_lifted (os : Os) (started : os.Started) (H : Type) (enc : TypeId × Value → H) :
    ReturnsInHanded {} Tryz.checked os 9 .any (fun w args => (Rows.machineWritesSpec.pre enc Tryz.prog Tryz.f9 [] false w args ∧ laidMetH Tryz.prog Rows.machineWritesRow.laid w) ∧ sizedMet enc Tryz.prog Tryz.f9 (OpenSpec.ofChange Rows.machineWritesSpec) false w args)
      (Rows.machineWritesSpec.post enc Tryz.prog Tryz.f9 false true false false) := by
  refine returns_laid (C := Tryz.checked) (X := fun w _ => laidMetH Tryz.prog Rows.machineWritesRow.laid w) (fun _ _ _ hh h => h.of_heap hh) Tryz.own started (by kernel_rfl) Tryz.func9
    (ChangeSpec.witness_at (enc := enc) (C := Tryz.checked) (os := os) (X := fun w _ => laidMetH Tryz.prog Rows.machineWritesRow.laid w) false (laidWorld os) #[.slice none 0 0, .int .i64 0] 8 rfl (by kernel_rfl) (by kernel_rfl) (by kernel_rfl) (by kernel_rfl) (by kernel_rfl) (laidWorld_met os _)) ?_
  intro W base args ds gs before hval0 hW hsz hL hsh
  have hval : ∀ (j : Nat) t v, Tryz.f9.params[j]? = some t → args[j]? = some v → Value.okWide Tryz.prog W .any base t v := hval0
  have hG : GOk W := gok_of hL hsh
  have hW' := hW
  obtain ⟨p, q, hA0, hV, rfl, hfz, hnd⟩ := hW
  have hA : DataW.TrodAll enc Tryz.prog W 0 (fun _ => true) true Tryz.f9.params.toList args.toList ds p := hA0
  rw [Tryz.params9] at hA hval hsz
  obtain ⟨v0, v1, d0, d1, p0, p1, rfl, rfl, rfl, h0, h1⟩ := trodAll_two hA
  obtain ⟨rfl, rfl⟩ := trodVars_none hV
  obtain ⟨l0, r0, b0⟩ := sa_strs (hval 0 27 v0 rfl rfl) h0
  obtain ⟨n1, r1, b1⟩ := sa_int (hval 1 3 v1 rfl rfl) h1
  clear hA0 hval0
  simp only [List.append_nil] at hW'
  have hlt : ∀ x ∈ p0 ++ p1, x.block < W.heap.size := fun x hx => hW'.lt x (by simpa using hx)
  refine (calls_true (s9 l0 b0 n1 b1) (vs := [v0, v1]) (by simp only [RVL]; exact ⟨_, _, rfl, r0, _, _, rfl, r1, rfl⟩) hG).mono fun e W' ⟨he, hb⟩ => ?_
  subst he
  refine ⟨_, rfl, law_shut hW' hb rfl (fun _ _ _ => trodAll_mk1 (shut_bool Tryz.underlying4 true)) (fun sp hsp => ?_) rfl (ok_one (by kernel_rfl) rfl (okWide_bool_mk Tryz.underlying4 true))⟩
  exact trodAll_mk2 (arg_stays Tryz.laidOut rr27 lt27 h0 hb (fun x hx => hlt x (by simp [hx])) (sp := sp) (fun x hx => hsp x (by simp [hx])))
    (arg_stays Tryz.laidOut rr3 lt3 h1 hb (fun x hx => hlt x (by simp [hx])) (sp := sp) (fun x hx => hsp x (by simp [hx])))

theorem machineWrites_func : Tryz.prog.funcNamed "quadrupole/quadrupolelaw09.MachineWrites" = some 9 := by kernel_rfl
theorem machineWrites_k10 : (Rows.machineWritesRow.inPlace == Tryz.prog.inPlace 9) = true := by kernel_rfl
theorem machineWrites_k11 : (Rows.machineWritesRow.unfollowed == Tryz.prog.unfollowed 9) = true := by kernel_rfl
theorem machineWrites_k12 : (Rows.machineWritesRow.recurses == Tryz.prog.recurses 9) = true := by kernel_rfl
theorem machineWrites_k13 : (Rows.machineWritesRow.named == Tryz.prog.varsNamed 9) = true := by kernel_rfl
theorem machineWrites_closed : joinedFacts Tryz.prog 9 Tryz.f9 Rows.machineWritesSpec Rows.machineWritesRow = true :=
  joined_of (by kernel_rfl) (by kernel_rfl) (by kernel_rfl) rfl rfl machineWrites_k10 machineWrites_k11 machineWrites_k12 machineWrites_k13 (by kernel_rfl) Tryz.keysE rfl Tryz.lifts Tryz.made (by kernel_rfl)
theorem machineWrites_goes : false = Rows.machineWritesRow.goesBy Tryz.prog := by kernel_rfl
theorem machineWrites_row : Rows.MachineWritesSaid :=
  OpenClaim.holds_of_wide 9 Tryz.f9 rfl rfl rfl rfl rfl rfl rfl ⟨rfl, rfl, rfl, rfl, rfl⟩ rfl rfl rfl rfl rfl machineWrites_func Tryz.func9 machineWrites_closed
    (of_decide_eq_true (by kernel_rfl)) (by unfold Func.isWrapper; rw [if_neg (of_decide_eq_false (by kernel_rfl))]; exact ⟨rfl, rfl⟩)
    (fun os started H enc _ => machineWrites_lifted os started H enc)

theorem machineWrites_holds : Rows.MachineWritesCardSaid :=
  Claim7.holds_tied_plain_at .later [] [.data, .data, .data, .data, .handle, .sentinel, .sentinel, .pinned] true (true, "aa03d57e40d7f46a321b7a338959e31570b187a828c7cad4885241d6f19c00d7") true
    machineWrites_row (fun _ h => by cases h) (by kernel_rfl) (fun _ h => by cases h) machineWrites_row_tie rfl ⟨rfl, rfl⟩ Tryz.mainE rfl
    (fun f fn hf hfn => by
      obtain rfl : f = 9 := Option.some.inj (machineWrites_func.symm.trans hf) |>.symm
      obtain rfl : fn = Tryz.f9 := (Option.some.inj (Tryz.func9.symm.trans hfn)).symm
      refine ⟨Tryz.looksE, fun j t ht => ?_⟩
      rw [Tryz.params9] at ht
      have h3 := Array.mem_of_getElem? ht
      simp only [List.mem_toArray, List.mem_cons, List.not_mem_nil, or_false] at h3
      rcases h3 with rfl | rfl
      · exact Tryz.st27
      · exact Tryz.st3)
    machineWrites_goes
end Go.Proofs.YtndniceeibflcaaGreatDoor
