/-
  Several texts in one: AwV, AwW, AwX, AwY, AwZ, AA1, AA2, AA3, AA4, AA5, AA6, AA7, AA8, AA9, AAA.
-/
import Derived.Test.YtkmbbbemmohmcaaMb
import Derived.Laws.BitsLemmas
import Derived.Maps.RangeRun
import Derived.StillTail
import Derived.OrdersIn
import Derived.TacticsIn
import Derived.RangeFuncRecord
import Derived.RangeFuncCalls
import Derived.RangeFuncSeq
set_option linter.unusedSimpArgs false
set_option linter.unusedVariables false
namespace Go.Proofs.Ytkmbbbemmohmcaa
namespace Aw
open Go.RowKit

section
variable {P : Program} {σ : St}

theorem ev_put_ne {a : Act} {d t : Tmp} {v : Value} (h : d ≠ t) : (a.put (some d) v).eval (.tmp t) = a.eval (.tmp t) := by
  simp [Act.eval, Act.put, Array.getD_eq_getD_getElem?, Array.getElem?_setIfInBounds_ne h]
theorem ev_put_eq {a : Act} {d : Tmp} {v : Value} (h : d < a.tmps.size) : (a.put (some d) v).eval (.tmp d) = v := by
  simp [Act.eval, Act.put, Array.getD_eq_getD_getElem?, h]
theorem size_put {a : Act} {d : Tmp} {v : Value} : (a.put (some d) v).tmps.size = a.tmps.size := by simp [Act.put]
theorem defers_put {a : Act} {d : Tmp} {v : Value} : (a.put (some d) v).defers = a.defers := rfl

theorem grow_slots {a : Act} {w : World} {T : Nat → Prop} {hv : Nat → Option Value} {m : Nat} {v : Value} (hsa : a.tmps.size = 27) (hr : RV w T hv (.o m) v) : ∀ (j : Nat) (x : AV), ((List.replicate 27 AV.bot).set 0 (.o m))[j]? = some x → ∃ u, (a.put (some 0) v).tmps[j]? = some u ∧ RV w T hv x u := by
  intro j x hx
  rw [List.getElem?_set] at hx
  simp only [List.length_replicate, List.getElem?_replicate] at hx
  simp only [Act.put]
  split at hx
  · rename_i hm
    subst hm
    simp only [show (0 : Nat) < 27 by decide, if_true, Option.some.injEq] at hx
    subst hx
    exact ⟨v, by simp [hsa], hr⟩
  · rename_i hm
    split at hx
    · rename_i hlt
      injection hx with hx
      subst hx
      exact ⟨_, Array.getElem?_eq_getElem (by simp only [Array.size_setIfInBounds, hsa]; exact hlt), by simp [RV]⟩
    · cases hx

theorem run_append_zeros (w : World) (t ty e tn : TypeId) (i : TypeInfo) (z : Value) {k : IntKind} (ht : P.underlying t = some (.slice e)) (hn : P.underlying tn = some (.int k)) (hi : P.info? e = some i) (hz : i.zero = some z)
    (n : Nat) (h0 : 0 < n) (h1 : n ≤ 1000000) (hb : i.bytes ≤ 1000) (hs : 0 < i.size) :
    (Builtin.append_ #[t, tn] ty #[.slice none 0 0, .int .i64 n]).run P w =
      .ok (.slice (some ⟨w.heap.size, 0, none⟩) n (grownCap w n 0 e)) (w.drew.alloc (.cells (Builtin.zeroCells z.cells n ++ Builtin.zeroCells z.cells (grownCap w n 0 e - n)) e)) := by
  have hw : IntKind.i64.wrap (n : Int) = n := by rw [IntKind.wrap_i64]; omega
  have hn0 : ¬ ((n : Int) < 0) := by omega
  have hne : n ≠ 0 := by omega
  have hne2 : ¬ (n * i.size = 0) := by
    intro h
    rcases Nat.mul_eq_zero.1 h with h | h <;> omega
  have hby : n * i.bytes ≤ 1000000 * 1000 := Nat.mul_le_mul h1 hb
  have hbyI : ¬ ((281474976710656 : Int) < (n : Int) * (i.bytes : Int)) := by
    have : ((n * i.bytes : Nat) : Int) ≤ 1000000 * 1000 := by omega
    rw [Int.natCast_mul] at this
    omega
  have h63' : ¬ (9223372036854775807 < (n : Int)) := by omega
  have h48' : ¬ (281474976710656 < Builtin.nextslicecap n 0 * i.bytes) := by rw [nextslicecap_zero h0]; omega
  simp [Builtin.append_, run_underlying ht, run_underlying hn, sizeOf, typeInfo, zeroValue, hi, hz, hw, hn0, hne, hne2, hbyI, h63', h48', asInt, asIntOf, Question.forced, run_firstCells_none, Go.newRow, newObj, Sem.run, grownCap]

theorem swp_grow {id : Nat} {ts tn : TypeId} {y0 y1 y2 y3 y4 y5 y6 y7 y8 y9 : TypeId} {p0 p1 p2 p3 p4 p5 p6 p7 p8 p9 : String} {f0 f1 f2 f3 f4 f5 f6 f7 f8 f9 : Array Edge} {N : HN} {E : HE} {Rt : HR} {tis te : TI} {e : TypeId} {n : Nat} {k : IntKind}
    (hts : tiOf P ts = some tis) (htse : tis.elem = some e) (hte : tiOf P e = some te) (hint : P.underlying tn = some (.int k)) (hs : σ.sl[0]? = some (.v (.slice none 0 0))) (hn : σ.sl[1]? = some (I (n : Int)))
    (h0 : 0 < n) (h1 : n ≤ 1000000) (hby : te.bytes ≤ 1000) (hsz : 0 < te.size) (hlen : σ.sl.length = 27)
    (h : N.k ⟨(List.replicate 27 .bot).set 0 (.o σ.M.length), σ.M ++ [some ⟨none, e, te.size, []⟩]⟩) :
    @SWp P (.region id #[⟨some 17, .move (.tmp 0), y0, p0, f0, none⟩, ⟨some 18, .move (.tmp 0), y1, p1, f1, none⟩, ⟨some 19, .call ⟨.builtin .cap, #[.tmp 18], #[ts]⟩, y2, p2, f2, none⟩,
      ⟨some 20, .slice ts (.tmp 17) none (some (.tmp 19)) none, y3, p3, f3, none⟩, ⟨some 21, .move (.tmp 1), y4, p4, f4, none⟩, ⟨some 22, .call ⟨.builtin .append, #[.tmp 20, .tmp 21], #[ts, tn]⟩, y5, p5, f5, none⟩,
      ⟨some 23, .move (.tmp 0), y6, p6, f6, none⟩, ⟨some 24, .call ⟨.builtin .len, #[.tmp 23], #[ts]⟩, y7, p7, f7, none⟩, ⟨some 25, .slice ts (.tmp 22) none (some (.tmp 24)) none, y8, p8, f8, none⟩, ⟨some 0, .assign (.tmp 25), y9, p9, f9, none⟩] false) σ N E Rt := by
  intro C a w hS
  obtain ⟨hv, hd, hsz', hsl, hM, hF⟩ := hS
  have hu := ti_elem hts htse
  obtain ⟨i, d, z, hi, hdd, hz, hz1, hz2, _, hsi, hbi, _⟩ := tiOf_spec hte
  obtain ⟨v0, g0, g0'⟩ := hsl 0 _ hs
  obtain ⟨v1, g1, g1'⟩ := hsl 1 _ hn
  simp only [RV] at g0' g1'
  subst g0'
  subst g1'
  have hsa : a.tmps.size = 27 := by rw [hsz', hlen]
  have e0 : a.eval (.tmp 0) = .slice none 0 0 := by simp [Act.eval, Array.getD_eq_getD_getElem?, g0]
  have e1 : a.eval (.tmp 1) = .int .i64 n := by simp [Act.eval, Array.getD_eq_getD_getElem?, g1]
  have hap := run_append_zeros w ts y5 e tn i z hu hint hi hz n h0 h1 (by omega) (by omega)
  generalize hc : grownCap w n 0 e = c at hap
  have hcn : n ≤ c := by rw [← hc]; exact grownCap_ge w n 0 e
  have hcm : c ≤ maxLen := by rw [← hc]; exact grownCap_le_maxLen w n 0 e (by simp only [maxLen]; omega)
  generalize hrow : Builtin.zeroCells z.cells n ++ Builtin.zeroCells z.cells (c - n) = cs at hap
  have hcs : cs.size = c * te.size := by
    rw [← hrow, Array.size_append, size_zeroCells, size_zeroCells, hz1, hsi, ← Nat.add_mul]
    congr 1; omega
  have sb : ∀ (W : World) (y : Nat) (code : BoundsCode), (Instr.sliceBound (.int .i64 0) y code).run P W = .ok 0 W := by
    intro W y code
    simp only [Instr.sliceBound, Sem.run_bind, asIntOf, Sem.run_pure, Result.andThen_ok]
    rw [if_pos (by omega)]
    simp
  refine wp_region ?_
  show wpOps P _ _ [0, 1, 2, 3, 4, 5, 6, 7, 8, 9] a w
  rw [wpOps_cons]
  refine wpOp_of (o := ⟨some 17, .move (.tmp 0), y0, p0, f0, none⟩) rfl rfl (wp_value (v := .slice none 0 0) (w' := w) ?_ ?_)
  · have q0 : a.eval (.tmp 0) = .slice none 0 0 := by simp only [ev_put_eq, ev_put_ne, size_put, e0, e1, hsa, ne_eq, Nat.reduceLT, Nat.reduceEqDiff, not_false_eq_true, reduceCtorEq]
    simp only [execOp, q0, Sem.run_bind, Sem.run_pure, Result.andThen_ok]
  rw [wpOps_cons]
  refine wpOp_of (o := ⟨some 18, .move (.tmp 0), y1, p1, f1, none⟩) rfl rfl (wp_value (v := .slice none 0 0) (w' := w) ?_ ?_)
  · have q0 : (a.put (some 17) (.slice none 0 0)).eval (.tmp 0) = .slice none 0 0 := by simp only [ev_put_eq, ev_put_ne, size_put, e0, e1, hsa, ne_eq, Nat.reduceLT, Nat.reduceEqDiff, not_false_eq_true, reduceCtorEq]
    simp only [execOp, q0, Sem.run_bind, Sem.run_pure, Result.andThen_ok]
  rw [wpOps_cons]
  refine wpOp_of (o := ⟨some 19, .call ⟨.builtin .cap, #[.tmp 18], #[ts]⟩, y2, p2, f2, none⟩) rfl rfl (wp_value (v := .int .i64 0) (w' := w) ?_ ?_)
  · have q18 : ((a.put (some 17) (.slice none 0 0)).put (some 18) (.slice none 0 0)).eval (.tmp 18) = .slice none 0 0 := by simp only [ev_put_eq, ev_put_ne, size_put, e0, e1, hsa, ne_eq, Nat.reduceLT, Nat.reduceEqDiff, not_false_eq_true, reduceCtorEq]
    simp [execOp, resolve, invoke, builtin, q18, Builtin.cap_, run_underlying hu, goInt]
  rw [wpOps_cons]
  refine wpOp_of (o := ⟨some 20, .slice ts (.tmp 17) none (some (.tmp 19)) none, y3, p3, f3, none⟩) rfl rfl (wp_value (v := .slice none 0 0) (w' := w) ?_ ?_)
  · have q17 : (((a.put (some 17) (.slice none 0 0)).put (some 18) (.slice none 0 0)).put (some 19) (.int .i64 0)).eval (.tmp 17) = .slice none 0 0 := by simp only [ev_put_eq, ev_put_ne, size_put, e0, e1, hsa, ne_eq, Nat.reduceLT, Nat.reduceEqDiff, not_false_eq_true, reduceCtorEq]
    have q19 : (((a.put (some 17) (.slice none 0 0)).put (some 18) (.slice none 0 0)).put (some 19) (.int .i64 0)).eval (.tmp 19) = .int .i64 0 := by simp only [ev_put_eq, ev_put_ne, size_put, e0, e1, hsa, ne_eq, Nat.reduceLT, Nat.reduceEqDiff, not_false_eq_true, reduceCtorEq]
    simp [execOp, q17, q19, Instr.sliceAt, Instr.slice, Instr.sliceBounds, run_underlying hu, sb, ti_size hte]
  rw [wpOps_cons]
  refine wpOp_of (o := ⟨some 21, .move (.tmp 1), y4, p4, f4, none⟩) rfl rfl (wp_value (v := .int .i64 n) (w' := w) ?_ ?_)
  · have q1 : ((((a.put (some 17) (.slice none 0 0)).put (some 18) (.slice none 0 0)).put (some 19) (.int .i64 0)).put (some 20) (.slice none 0 0)).eval (.tmp 1) = .int .i64 n := by simp only [ev_put_eq, ev_put_ne, size_put, e0, e1, hsa, ne_eq, Nat.reduceLT, Nat.reduceEqDiff, not_false_eq_true, reduceCtorEq]
    simp only [execOp, q1, Sem.run_bind, Sem.run_pure, Result.andThen_ok]
  rw [wpOps_cons]
  refine wpOp_of (o := ⟨some 22, .call ⟨.builtin .append, #[.tmp 20, .tmp 21], #[ts, tn]⟩, y5, p5, f5, none⟩) rfl rfl (wp_value (v := .slice (some ⟨w.heap.size, 0, none⟩) n c) (w' := (w.drew.alloc (.cells cs e))) ?_ ?_)
  · have q20 : (((((a.put (some 17) (.slice none 0 0)).put (some 18) (.slice none 0 0)).put (some 19) (.int .i64 0)).put (some 20) (.slice none 0 0)).put (some 21) (.int .i64 n)).eval (.tmp 20) = .slice none 0 0 := by simp only [ev_put_eq, ev_put_ne, size_put, e0, e1, hsa, ne_eq, Nat.reduceLT, Nat.reduceEqDiff, not_false_eq_true, reduceCtorEq]
    have q21 : (((((a.put (some 17) (.slice none 0 0)).put (some 18) (.slice none 0 0)).put (some 19) (.int .i64 0)).put (some 20) (.slice none 0 0)).put (some 21) (.int .i64 n)).eval (.tmp 21) = .int .i64 n := by simp only [ev_put_eq, ev_put_ne, size_put, e0, e1, hsa, ne_eq, Nat.reduceLT, Nat.reduceEqDiff, not_false_eq_true, reduceCtorEq]
    simp only [execOp, resolve, invoke, builtin, Sem.run_bind, Sem.run_pure, Result.andThen_ok, List.map_toArray, List.map_cons, List.map_nil, q20, q21, hap]
  rw [wpOps_cons]
  refine wpOp_of (o := ⟨some 23, .move (.tmp 0), y6, p6, f6, none⟩) rfl rfl (wp_value (v := .slice none 0 0) (w' := (w.drew.alloc (.cells cs e))) ?_ ?_)
  · have q0 : ((((((a.put (some 17) (.slice none 0 0)).put (some 18) (.slice none 0 0)).put (some 19) (.int .i64 0)).put (some 20) (.slice none 0 0)).put (some 21) (.int .i64 n)).put (some 22) (.slice (some ⟨w.heap.size, 0, none⟩) n c)).eval (.tmp 0) = .slice none 0 0 := by simp only [ev_put_eq, ev_put_ne, size_put, e0, e1, hsa, ne_eq, Nat.reduceLT, Nat.reduceEqDiff, not_false_eq_true, reduceCtorEq]
    simp only [execOp, q0, Sem.run_bind, Sem.run_pure, Result.andThen_ok]
  rw [wpOps_cons]
  refine wpOp_of (o := ⟨some 24, .call ⟨.builtin .len, #[.tmp 23], #[ts]⟩, y7, p7, f7, none⟩) rfl rfl (wp_value (v := .int .i64 0) (w' := (w.drew.alloc (.cells cs e))) ?_ ?_)
  · have q23 : (((((((a.put (some 17) (.slice none 0 0)).put (some 18) (.slice none 0 0)).put (some 19) (.int .i64 0)).put (some 20) (.slice none 0 0)).put (some 21) (.int .i64 n)).put (some 22) (.slice (some ⟨w.heap.size, 0, none⟩) n c)).put (some 23) (.slice none 0 0)).eval (.tmp 23) = .slice none 0 0 := by simp only [ev_put_eq, ev_put_ne, size_put, e0, e1, hsa, ne_eq, Nat.reduceLT, Nat.reduceEqDiff, not_false_eq_true, reduceCtorEq]
    simp [execOp, resolve, invoke, builtin, q23, Builtin.len_, run_underlying hu, goInt]
  rw [wpOps_cons]
  refine wpOp_of (o := ⟨some 25, .slice ts (.tmp 22) none (some (.tmp 24)) none, y8, p8, f8, none⟩) rfl rfl (wp_value (v := .slice (some ⟨w.heap.size, 0, none⟩) 0 c) (w' := (w.drew.alloc (.cells cs e))) ?_ ?_)
  · have q22 : ((((((((a.put (some 17) (.slice none 0 0)).put (some 18) (.slice none 0 0)).put (some 19) (.int .i64 0)).put (some 20) (.slice none 0 0)).put (some 21) (.int .i64 n)).put (some 22) (.slice (some ⟨w.heap.size, 0, none⟩) n c)).put (some 23) (.slice none 0 0)).put (some 24) (.int .i64 0)).eval (.tmp 22) = .slice (some ⟨w.heap.size, 0, none⟩) n c := by simp only [ev_put_eq, ev_put_ne, size_put, e0, e1, hsa, ne_eq, Nat.reduceLT, Nat.reduceEqDiff, not_false_eq_true, reduceCtorEq]
    have q24 : ((((((((a.put (some 17) (.slice none 0 0)).put (some 18) (.slice none 0 0)).put (some 19) (.int .i64 0)).put (some 20) (.slice none 0 0)).put (some 21) (.int .i64 n)).put (some 22) (.slice (some ⟨w.heap.size, 0, none⟩) n c)).put (some 23) (.slice none 0 0)).put (some 24) (.int .i64 0)).eval (.tmp 24) = .int .i64 0 := by simp only [ev_put_eq, ev_put_ne, size_put, e0, e1, hsa, ne_eq, Nat.reduceLT, Nat.reduceEqDiff, not_false_eq_true, reduceCtorEq]
    simp [execOp, q22, q24, Instr.sliceAt, Instr.slice, Instr.sliceBounds, run_underlying hu, sb, ti_size hte, Addr.add_lit]
  rw [wpOps_cons]
  refine wpOp_of (o := ⟨some 0, .assign (.tmp 25), y9, p9, f9, none⟩) rfl rfl (wp_value (v := .slice (some ⟨w.heap.size, 0, none⟩) 0 c) (w' := (w.drew.alloc (.cells cs e))) ?_ ?_)
  · have q25 : (((((((((a.put (some 17) (.slice none 0 0)).put (some 18) (.slice none 0 0)).put (some 19) (.int .i64 0)).put (some 20) (.slice none 0 0)).put (some 21) (.int .i64 n)).put (some 22) (.slice (some ⟨w.heap.size, 0, none⟩) n c)).put (some 23) (.slice none 0 0)).put (some 24) (.int .i64 0)).put (some 25) (.slice (some ⟨w.heap.size, 0, none⟩) 0 c)).eval (.tmp 25) = .slice (some ⟨w.heap.size, 0, none⟩) 0 c := by simp only [ev_put_eq, ev_put_ne, size_put, e0, e1, hsa, ne_eq, Nat.reduceLT, Nat.reduceEqDiff, not_false_eq_true, reduceCtorEq]
    simp only [execOp, q25, Sem.run_bind, Sem.run_pure, Result.andThen_ok]
  simp only [wpOps]
  have hb : Below w.heap.size w (w.drew.alloc (.cells cs e)) := ⟨rfl, rfl, rfl, by simp, fun k hk => heap_alloc_old w.drew _ (by simpa using hk)⟩
  obtain ⟨m1, m2⟩ := mem_add hM hb (ob := ⟨none, e, te.size, []⟩) (v := .slice (some ⟨w.heap.size, 0, none⟩) 0 c) (fun b hb => by simp [blk, Value.ownBlock] at hb; omega)
    (fun hs => ObR.of_row rfl ⟨[], ⟨by simp, .inr ⟨w.heap.size, c, cs, rfl, Nat.zero_le _, heap_alloc_new w.drew _, Nat.zero_le _, hcm, hcs, by simp⟩⟩, by simp, by simp [RL]⟩)
  refine ⟨_, h, ?_⟩
  refine ⟨_, by simp only [defers_put]; exact hd, by simp only [size_put, hsa]; simp, grow_slots (by simp only [size_put, hsa]) ?_, m1, hF.step m2⟩
  simp only [RV, R]
  exact ⟨_, hvAdd_self _ _, rfl, rfl⟩
end
end Aw
end Go.Proofs.Ytkmbbbemmohmcaa

namespace Go.Proofs.Ytkmbbbemmohmcaa
namespace Aw
open Go.RowKit
set_option linter.unusedSimpArgs false

section
theorem RL_set_imp {w : World} {T : Nat → Prop} {hv : Nat → Option Value} {y : AV} : ∀ (xs : List AV) (j : Nat) (x : AV) (us : List Value), xs[j]? = some x → (∀ u, R w T hv x u → R w T hv y u) → RL w T hv xs us → RL w T hv (xs.set j y) us
  | [], j, x, us, h, _, _ => by simp at h
  | z :: xs, 0, x, us, h, hxy, hr => by
    simp only [List.getElem?_cons_zero, Option.some.injEq] at h
    subst h
    simp only [List.set_cons_zero, RL] at hr ⊢
    obtain ⟨u1, u2, e, h1, h2⟩ := hr
    exact ⟨u1, u2, e, hxy u1 h1, h2⟩
  | z :: xs, j + 1, x, us, h, hxy, hr => by
    simp only [List.getElem?_cons_succ] at h
    simp only [List.set_cons_succ, RL] at hr ⊢
    obtain ⟨u1, u2, e, h1, h2⟩ := hr
    exact ⟨u1, u2, e, h1, RL_set_imp xs j x u2 h hxy h2⟩
theorem sizeL_set {y : AV} : ∀ (xs : List AV) (j : Nat) (x : AV), xs[j]? = some x → y.size = x.size → AV.sizeL (xs.set j y) = AV.sizeL xs
  | [], j, x, h, _ => by simp at h
  | z :: xs, 0, x, h, e => by
    simp only [List.getElem?_cons_zero, Option.some.injEq] at h
    subst h
    simp [AV.sizeL, e]
  | z :: xs, j + 1, x, h, e => by
    simp only [List.getElem?_cons_succ] at h
    simp [AV.sizeL, sizeL_set xs j x h e]

theorem mem_same {A : Nat → Prop} {w : World} {hv : Nat → Option Value} {M : Mem} (hM : MemR A w hv M) {i : Nat} {ob ob' : Ob} (hi : M[i]? = some (some ob)) (h : ∀ v, ObR w (OwnA A hv) hv ob v → ObR w (OwnA A hv) hv ob' v) : MemR A w hv (M.set i (some ob')) := by
  have hlt := (List.getElem?_eq_some_iff.1 hi).1
  refine ⟨fun j o hj => ?_, fun j v hj => ?_, hM.inj, hM.old⟩
  · rw [List.getElem?_set] at hj
    split at hj
    · rename_i e
      subst e
      try rw [if_pos hlt] at hj
      injection hj with hj
      injection hj with hj
      subst hj
      obtain ⟨v, h1, h2⟩ := hM.live i ob hi
      exact ⟨v, h1, h v h2⟩
    · exact hM.live j o hj
  · obtain ⟨o, ho⟩ := hM.dom j v hj
    by_cases e : i = j
    · subst e
      exact ⟨ob', by simp [hlt]⟩
    · exact ⟨o, by rw [List.getElem?_set_ne e]; exact ho⟩

theorem le_nil {sl : List AV} {M : Mem} (i j c : Nat) (ty : TypeId) (k : Nat) {ob : Ob} {cells : List AV} (hi : M[i]? = some (some ob)) (hm : ob.mp = none) (hj : ob.xs[j]? = some (.g cells)) (hc : cells[c]? = some (.v (.slice none 0 0))) :
    Le ⟨sl, M⟩ ⟨sl, (M.set i (some { ob with xs := ob.xs.set j (.g (cells.set c (.o M.length))) })) ++ [some ⟨none, ty, k, []⟩]⟩ := by
  intro C a w hS
  obtain ⟨hv, hd, hsz, hsl, hM, hF⟩ := hS
  have hlt := (List.getElem?_eq_some_iff.1 hi).1
  obtain ⟨m1, m2⟩ := mem_add hM (w' := w) ⟨rfl, rfl, rfl, Nat.le_refl _, fun _ _ => rfl⟩ (ob := ⟨none, ty, k, []⟩) (v := .slice none 0 0) (fun b hb => by simp [blk, Value.ownBlock] at hb)
    (fun hs => ObR.of_row rfl ⟨[], World.ownsRow_nil _ _ _ _, by simp, by simp [RL]⟩)
  have m3 := mem_same (ob' := { ob with xs := ob.xs.set j (.g (cells.set c (.o M.length))) }) m1 (i := i) (ob := ob) (by rw [List.getElem?_append_left hlt]; exact hi) (fun v h => by
    obtain ⟨us, h1, h2, h3⟩ := h.row hm
    refine ObR.of_row hm ⟨us, ?_, ?_, ?_⟩
    · simpa using h1
    · intro x hx
      rcases List.mem_or_eq_of_mem_set hx with hx | rfl
      · exact h2 x hx
      · have h4 := h2 (.g cells) (List.mem_of_getElem? hj)
        simp only [AV.size] at h4 ⊢
        rw [sizeL_set (y := .o M.length) cells c _ hc rfl]; exact h4
    · refine RL_set_imp ob.xs j _ us hj (fun u hu => ?_) h3
      simp only [R] at hu ⊢
      refine RL_set_imp cells c _ u hc (fun u hu => ?_) hu
      simp only [R] at hu ⊢
      exact ⟨_, hvAdd_self _ _, hu.1, hu.2⟩)
  rw [List.set_append_left _ _ hlt] at m3
  refine ⟨_, hd, hsz, fun m x hx => ?_, m3, hF.step m2⟩
  obtain ⟨v, h1, h2⟩ := hsl m x hx
  have := m2.rv h2
  rw [AV.kill_nil] at this
  exact ⟨v, h1, this⟩
/-! the room of a nil slice -/
theorem slots2 {a : Act} {w : World} {T : Nat → Prop} {hv : Nat → Option Value} {v0 v1 : Value} (hsa : a.tmps.size = 27) (h0 : a.eval (.tmp 0) = v0) (h1 : a.eval (.tmp 1) = v1) : ∀ (j : Nat) (x : AV), (((List.replicate 27 AV.bot).set 0 (.v v0)).set 1 (.v v1))[j]? = some x → ∃ u, a.tmps[j]? = some u ∧ RV w T hv x u := by
  intro j x hx
  have hat : ∀ t : Nat, t < 27 → a.tmps[t]? = some (a.eval (.tmp t)) := fun t ht => by
    rw [Array.getElem?_eq_getElem (by omega)]
    simp [Act.eval, Array.getD_eq_getD_getElem?, hsa, ht]
  have hj : j < 27 := by
    have := (List.getElem?_eq_some_iff.1 hx).1
    simpa using this
  refine ⟨_, hat j hj, ?_⟩
  rw [List.getElem?_set] at hx
  split at hx
  · rename_i e
    subst e
    simp at hx
    subst hx
    simp [RV, h1]
  · rw [List.getElem?_set] at hx
    split at hx
    · rename_i e
      subst e
      try simp at hx
      subst hx
      simp [RV, h0]
    · simp only [List.getElem?_replicate, hj, if_true, Option.some.injEq] at hx
      rw [← hx]
      simp [RV]

theorem run_sub {P : Program} {w : World} {ty : TypeId} {ox oy : Operand} {a b : Int} (h : lim (a - b)) : (do eqGuard .sub ty ox oy (.int .i64 a) (.int .i64 b); binOp .sub ty (.int .i64 a) (.int .i64 b) : Sem Value).run P w = .ok (.int .i64 (a - b)) w := by
  simp only [lim] at h
  simp [eqGuard_at_int, binOp_sub, Op.intArith, IntWalk.i64_in _ h]

variable {P : Program} {σ : St}
theorem swp_cap {id : Nat} {ts tn tm : TypeId} {y0 y1 y2 y3 y4 y5 y6 y7 : TypeId} {p0 p1 p2 p3 p4 p5 p6 p7 : String} {f0 f1 f2 f3 f4 f5 f6 f7 : Array Edge} {N : HN} {E : HE} {Rt : HR} {tis : TI} {e : TypeId} {n : Int}
    (hts : tiOf P ts = some tis) (htse : tis.elem = some e) (hs : σ.sl[0]? = some (.v (.slice none 0 0))) (hn : σ.sl[1]? = some (I n)) (hl : lim n) (hlen : σ.sl.length = 27)
    (h : N.k ⟨((List.replicate 27 .bot).set 0 (.v (.slice none 0 0))).set 1 (I n), σ.M⟩) :
    @SWp P (.region id #[⟨some 8, .move (.tmp 1), y0, p0, f0, none⟩, ⟨some 9, .move (.tmp 0), y1, p1, f1, none⟩, ⟨some 10, .call ⟨.builtin .cap, #[.tmp 9], #[ts]⟩, y2, p2, f2, none⟩, ⟨some 11, .move (.tmp 0), y3, p3, f3, none⟩, ⟨some 12, .call ⟨.builtin .len, #[.tmp 11], #[ts]⟩, y4, p4, f4, none⟩, ⟨some 13, .binOp .sub tn (.tmp 10) (.tmp 12) tm, y5, p5, f5, none⟩, ⟨some 14, .binOp .sub tn (.tmp 8) (.tmp 13) tm, y6, p6, f6, none⟩, ⟨some 1, .assign (.tmp 14), y7, p7, f7, none⟩] false) σ N E Rt := by
  intro C a w hS
  obtain ⟨hv, hd, hsz', hsl, hM, hF⟩ := hS
  have hu := ti_elem hts htse
  obtain ⟨v0, g0, g0'⟩ := hsl 0 _ hs
  obtain ⟨v1, g1, g1'⟩ := hsl 1 _ hn
  simp only [RV] at g0' g1'
  subst g0'
  subst g1'
  have hsa : a.tmps.size = 27 := by rw [hsz', hlen]
  have e0 : a.eval (.tmp 0) = .slice none 0 0 := by simp [Act.eval, Array.getD_eq_getD_getElem?, g0]
  have e1 : a.eval (.tmp 1) = .int .i64 n := by simp [Act.eval, Array.getD_eq_getD_getElem?, g1]
  have hl1 := hl
  have hl0 : lim 0 := by unfold lim; decide
  refine wp_region ?_
  show wpOps P _ _ [0, 1, 2, 3, 4, 5, 6, 7] a w
  rw [wpOps_cons]
  refine wpOp_of (o := ⟨some 8, .move (.tmp 1), y0, p0, f0, none⟩) rfl rfl (wp_value (v := .int .i64 n) (w' := w) ?_ ?_)
  · simp only [execOp, e1, Sem.run_bind, Sem.run_pure, Result.andThen_ok]
  have y0 : (a.put (some 8) (.int .i64 n)).tmps.size = 27 := by rw [size_put, hsa]
  have x0 : (a.put (some 8) (.int .i64 n)).defers = C.dl := hd
  have u0_8 : (a.put (some 8) (.int .i64 n)).eval (.tmp 8) = .int .i64 n := ev_put_eq (by rw [hsa]; decide)
  have u0_0 : (a.put (some 8) (.int .i64 n)).eval (.tmp 0) = .slice none 0 0 := (ev_put_ne (by decide)).trans e0
  have u0_1 : (a.put (some 8) (.int .i64 n)).eval (.tmp 1) = .int .i64 n := (ev_put_ne (by decide)).trans e1
  generalize a.put (some 8) (.int .i64 n) = b0 at y0 x0 u0_8 u0_0 u0_1 ⊢
  rw [wpOps_cons]
  refine wpOp_of (o := ⟨some 9, .move (.tmp 0), y1, p1, f1, none⟩) rfl rfl (wp_value (v := .slice none 0 0) (w' := w) ?_ ?_)
  · simp only [execOp, u0_0, Sem.run_bind, Sem.run_pure, Result.andThen_ok]
  have y1 : (b0.put (some 9) (.slice none 0 0)).tmps.size = 27 := by rw [size_put, y0]
  have x1 : (b0.put (some 9) (.slice none 0 0)).defers = C.dl := x0
  have u1_9 : (b0.put (some 9) (.slice none 0 0)).eval (.tmp 9) = .slice none 0 0 := ev_put_eq (by rw [y0]; decide)
  have u1_8 : (b0.put (some 9) (.slice none 0 0)).eval (.tmp 8) = .int .i64 n := (ev_put_ne (by decide)).trans u0_8
  have u1_0 : (b0.put (some 9) (.slice none 0 0)).eval (.tmp 0) = .slice none 0 0 := (ev_put_ne (by decide)).trans u0_0
  have u1_1 : (b0.put (some 9) (.slice none 0 0)).eval (.tmp 1) = .int .i64 n := (ev_put_ne (by decide)).trans u0_1
  generalize b0.put (some 9) (.slice none 0 0) = b1 at y1 x1 u1_9 u1_8 u1_0 u1_1 ⊢
  rw [wpOps_cons]
  refine wpOp_of (o := ⟨some 10, .call ⟨.builtin .cap, #[.tmp 9], #[ts]⟩, y2, p2, f2, none⟩) rfl rfl (wp_value (v := .int .i64 0) (w' := w) ?_ ?_)
  · simp [execOp, resolve, invoke, builtin, u1_9, Builtin.cap_, run_underlying hu, goInt]
  have y2 : (b1.put (some 10) (.int .i64 0)).tmps.size = 27 := by rw [size_put, y1]
  have x2 : (b1.put (some 10) (.int .i64 0)).defers = C.dl := x1
  have u2_10 : (b1.put (some 10) (.int .i64 0)).eval (.tmp 10) = .int .i64 0 := ev_put_eq (by rw [y1]; decide)
  have u2_8 : (b1.put (some 10) (.int .i64 0)).eval (.tmp 8) = .int .i64 n := (ev_put_ne (by decide)).trans u1_8
  have u2_0 : (b1.put (some 10) (.int .i64 0)).eval (.tmp 0) = .slice none 0 0 := (ev_put_ne (by decide)).trans u1_0
  have u2_1 : (b1.put (some 10) (.int .i64 0)).eval (.tmp 1) = .int .i64 n := (ev_put_ne (by decide)).trans u1_1
  generalize b1.put (some 10) (.int .i64 0) = b2 at y2 x2 u2_10 u2_8 u2_0 u2_1 ⊢
  rw [wpOps_cons]
  refine wpOp_of (o := ⟨some 11, .move (.tmp 0), y3, p3, f3, none⟩) rfl rfl (wp_value (v := .slice none 0 0) (w' := w) ?_ ?_)
  · simp only [execOp, u2_0, Sem.run_bind, Sem.run_pure, Result.andThen_ok]
  have y3 : (b2.put (some 11) (.slice none 0 0)).tmps.size = 27 := by rw [size_put, y2]
  have x3 : (b2.put (some 11) (.slice none 0 0)).defers = C.dl := x2
  have u3_11 : (b2.put (some 11) (.slice none 0 0)).eval (.tmp 11) = .slice none 0 0 := ev_put_eq (by rw [y2]; decide)
  have u3_10 : (b2.put (some 11) (.slice none 0 0)).eval (.tmp 10) = .int .i64 0 := (ev_put_ne (by decide)).trans u2_10
  have u3_8 : (b2.put (some 11) (.slice none 0 0)).eval (.tmp 8) = .int .i64 n := (ev_put_ne (by decide)).trans u2_8
  have u3_0 : (b2.put (some 11) (.slice none 0 0)).eval (.tmp 0) = .slice none 0 0 := (ev_put_ne (by decide)).trans u2_0
  have u3_1 : (b2.put (some 11) (.slice none 0 0)).eval (.tmp 1) = .int .i64 n := (ev_put_ne (by decide)).trans u2_1
  generalize b2.put (some 11) (.slice none 0 0) = b3 at y3 x3 u3_11 u3_10 u3_8 u3_0 u3_1 ⊢
  rw [wpOps_cons]
  refine wpOp_of (o := ⟨some 12, .call ⟨.builtin .len, #[.tmp 11], #[ts]⟩, y4, p4, f4, none⟩) rfl rfl (wp_value (v := .int .i64 0) (w' := w) ?_ ?_)
  · simp [execOp, resolve, invoke, builtin, u3_11, Builtin.len_, run_underlying hu, goInt]
  have y4 : (b3.put (some 12) (.int .i64 0)).tmps.size = 27 := by rw [size_put, y3]
  have x4 : (b3.put (some 12) (.int .i64 0)).defers = C.dl := x3
  have u4_12 : (b3.put (some 12) (.int .i64 0)).eval (.tmp 12) = .int .i64 0 := ev_put_eq (by rw [y3]; decide)
  have u4_10 : (b3.put (some 12) (.int .i64 0)).eval (.tmp 10) = .int .i64 0 := (ev_put_ne (by decide)).trans u3_10
  have u4_8 : (b3.put (some 12) (.int .i64 0)).eval (.tmp 8) = .int .i64 n := (ev_put_ne (by decide)).trans u3_8
  have u4_0 : (b3.put (some 12) (.int .i64 0)).eval (.tmp 0) = .slice none 0 0 := (ev_put_ne (by decide)).trans u3_0
  have u4_1 : (b3.put (some 12) (.int .i64 0)).eval (.tmp 1) = .int .i64 n := (ev_put_ne (by decide)).trans u3_1
  generalize b3.put (some 12) (.int .i64 0) = b4 at y4 x4 u4_12 u4_10 u4_8 u4_0 u4_1 ⊢
  rw [wpOps_cons]
  refine wpOp_of (o := ⟨some 13, .binOp .sub tn (.tmp 10) (.tmp 12) tm, y5, p5, f5, none⟩) rfl rfl (wp_value (v := .int .i64 0) (w' := w) ?_ ?_)
  · have r0 := run_sub (P := P) (w := w) (ty := tn) (ox := .tmp 10) (oy := .tmp 12) (a := 0) (b := 0) (by simpa using hl0)
    rw [Int.sub_zero] at r0
    simp only [execOp, u4_10, u4_12, Sem.run_bind, Sem.run_pure] at r0 ⊢
    rw [r0]
    rfl
  have y5 : (b4.put (some 13) (.int .i64 0)).tmps.size = 27 := by rw [size_put, y4]
  have x5 : (b4.put (some 13) (.int .i64 0)).defers = C.dl := x4
  have u5_13 : (b4.put (some 13) (.int .i64 0)).eval (.tmp 13) = .int .i64 0 := ev_put_eq (by rw [y4]; decide)
  have u5_8 : (b4.put (some 13) (.int .i64 0)).eval (.tmp 8) = .int .i64 n := (ev_put_ne (by decide)).trans u4_8
  have u5_0 : (b4.put (some 13) (.int .i64 0)).eval (.tmp 0) = .slice none 0 0 := (ev_put_ne (by decide)).trans u4_0
  have u5_1 : (b4.put (some 13) (.int .i64 0)).eval (.tmp 1) = .int .i64 n := (ev_put_ne (by decide)).trans u4_1
  generalize b4.put (some 13) (.int .i64 0) = b5 at y5 x5 u5_13 u5_8 u5_0 u5_1 ⊢
  rw [wpOps_cons]
  refine wpOp_of (o := ⟨some 14, .binOp .sub tn (.tmp 8) (.tmp 13) tm, y6, p6, f6, none⟩) rfl rfl (wp_value (v := .int .i64 n) (w' := w) ?_ ?_)
  · have r0 := run_sub (P := P) (w := w) (ty := tn) (ox := .tmp 8) (oy := .tmp 13) (a := n) (b := 0) (by simpa using hl1)
    rw [Int.sub_zero] at r0
    simp only [execOp, u5_8, u5_13, Sem.run_bind, Sem.run_pure] at r0 ⊢
    rw [r0]
    rfl
  have y6 : (b5.put (some 14) (.int .i64 n)).tmps.size = 27 := by rw [size_put, y5]
  have x6 : (b5.put (some 14) (.int .i64 n)).defers = C.dl := x5
  have u6_14 : (b5.put (some 14) (.int .i64 n)).eval (.tmp 14) = .int .i64 n := ev_put_eq (by rw [y5]; decide)
  have u6_0 : (b5.put (some 14) (.int .i64 n)).eval (.tmp 0) = .slice none 0 0 := (ev_put_ne (by decide)).trans u5_0
  have u6_1 : (b5.put (some 14) (.int .i64 n)).eval (.tmp 1) = .int .i64 n := (ev_put_ne (by decide)).trans u5_1
  generalize b5.put (some 14) (.int .i64 n) = b6 at y6 x6 u6_14 u6_0 u6_1 ⊢
  rw [wpOps_cons]
  refine wpOp_of (o := ⟨some 1, .assign (.tmp 14), y7, p7, f7, none⟩) rfl rfl (wp_value (v := .int .i64 n) (w' := w) ?_ ?_)
  · simp only [execOp, u6_14, Sem.run_bind, Sem.run_pure, Result.andThen_ok]
  have y7 : (b6.put (some 1) (.int .i64 n)).tmps.size = 27 := by rw [size_put, y6]
  have x7 : (b6.put (some 1) (.int .i64 n)).defers = C.dl := x6
  have u7_1 : (b6.put (some 1) (.int .i64 n)).eval (.tmp 1) = .int .i64 n := ev_put_eq (by rw [y6]; decide)
  have u7_0 : (b6.put (some 1) (.int .i64 n)).eval (.tmp 0) = .slice none 0 0 := (ev_put_ne (by decide)).trans u6_0
  generalize b6.put (some 1) (.int .i64 n) = b7 at y7 x7 u7_1 u7_0 ⊢
  simp only [wpOps]
  exact ⟨_, h, ⟨hv, x7, by simp [y7], slots2 y7 u7_0 u7_1, hM, hF⟩⟩
end
end Aw
end Go.Proofs.Ytkmbbbemmohmcaa

namespace Go.Proofs.Ytkmbbbemmohmcaa
namespace Aw
open Go.RowKit
open Go.ChangeMaps (setBlock)
set_option linter.unusedSimpArgs false

section
theorem ObR_anti {w : World} {T T' : Nat → Prop} (h : ∀ b, T' b → T b) {hv : Nat → Option Value} {ob : Ob} {v : Value} (ho : ObR w T hv ob v) : ObR w T' hv ob v := by
  have hk : Keeps w T w T' := ⟨Nat.le_refl _, fun _ _ _ => rfl, fun b _ h' => h b h'⟩
  cases hm : ob.mp with
  | none =>
    obtain ⟨us, h1, h2, h3⟩ := ho.row hm
    have := RL_keep hk (Z := []) (hv := hv) (hv' := hv) (fun _ _ _ h => h) _ _ h3
    rw [AV.killL_nil] at this
    exact ObR.of_row hm ⟨us, h1, h2, this⟩
  | some ks =>
    obtain ⟨vals, h1, h3⟩ := ho.map hm
    have := RVL_keep hk (Z := []) (hv := hv) (hv' := hv) (fun _ _ _ h => h) _ _ h3
    rw [AV.killL_nil] at this
    exact ObR.of_map hm ⟨vals, h1, this⟩

/-- the context D lies inside the context C: its blocks to be kept away from are more, and its world is one that C can come to. -/
structure Sub (C D : Ctx) : Prop where
  a : ∀ b, C.A b → D.A b
  os : D.w0.os = C.w0.os
  tape : D.w0.tape = C.w0.tape
  output : D.w0.output = C.w0.output
  size : C.w0.heap.size ≤ D.w0.heap.size
  block : ∀ b, b < C.w0.heap.size → ¬ C.In b → D.w0.heap[b]? = C.w0.heap[b]?
  inn : ∀ b, D.In b → C.In b ∨ C.w0.heap.size ≤ b
  aold : ∀ b, C.A b → b < C.w0.heap.size
  dis : ∀ b, C.A b → ¬ C.In b
  dl : D.dl = C.dl

theorem Sub.str {C D : Ctx} (s : Sub C D) {σ : St} {a : Act} {w : World} (h : StR D σ a w) : StR C σ a w := by
  obtain ⟨hv, hd, hsz, hsl, hM, hF⟩ := h
  have hT : ∀ b, OwnA C.A hv b → OwnA D.A hv b := fun b h => h.elim (fun h => .inl (s.a b h)) .inr
  have hk : Keeps w (OwnA D.A hv) w (OwnA C.A hv) := ⟨Nat.le_refl _, fun _ _ _ => rfl, fun b _ h => hT b h⟩
  refine ⟨hv, hd.trans s.dl, hsz, fun i x hx => ?_, ⟨fun i ob h => ?_, hM.dom, hM.inj, fun b h => hM.old b (s.a b h)⟩, ⟨hF.os.trans s.os, hF.tape.trans s.tape, hF.output.trans s.output, Nat.le_trans s.size hF.size, fun b hb hn => ?_, fun b hb => ?_, s.aold, s.dis⟩⟩
  · obtain ⟨v, h1, h2⟩ := hsl i x hx
    have := RV_keep hk x [] hv hv v (fun _ _ _ h => h) h2
    rw [AV.kill_nil] at this
    exact ⟨v, h1, this⟩
  · obtain ⟨v, h1, h2⟩ := hM.live i ob h
    exact ⟨v, h1, ObR_anti hT h2⟩
  · refine (hF.block b (Nat.lt_of_lt_of_le hb s.size) (fun h => ?_)).trans (s.block b hb hn)
    rcases s.inn b h with h | h
    · exact hn h
    · omega
  · rcases hF.own b hb with h | h
    · exact s.inn b h
    · exact .inr (Nat.le_trans s.size h)

theorem MemR.keep {A : Nat → Prop} {w w2 : World} {hv : Nat → Option Value} {M : Mem} (hM : MemR A w hv M) (hk : Keeps w (OwnA A hv) w2 (OwnA A hv)) (hb : ∀ b, Own hv b → w2.heap[b]? = w.heap[b]?) (hsz : w.heap.size ≤ w2.heap.size) : MemR A w2 hv M := by
  refine ⟨fun i ob h => ?_, hM.dom, hM.inj, fun b h => Nat.lt_of_lt_of_le (hM.old b h) hsz⟩
  obtain ⟨v, hv1, hob⟩ := hM.live i ob h
  refine ⟨v, hv1, ?_⟩
  cases hm : ob.mp with
  | some ks =>
    obtain ⟨vals, h1, h3⟩ := hob.map hm
    have := RVL_keep hk (Z := []) (hv := hv) (hv' := hv) (fun _ _ _ h => h) _ _ h3
    rw [AV.killL_nil] at this
    exact ObR.of_map hm ⟨vals, h1.block fun b hb' => hb b ⟨i, v, hv1, hb'⟩, this⟩
  | none =>
    obtain ⟨us, h1, h2, h3⟩ := hob.row hm
    have := RL_keep hk (Z := []) (hv := hv) (hv' := hv) (fun _ _ _ h => h) _ _ h3
    rw [AV.killL_nil] at this
    exact ObR.of_row hm ⟨us, ownsRow_of_block h1 fun b hb' => hb b ⟨i, v, hv1, by rw [blk_row h1]; exact hb'⟩, h2, this⟩

/-- an iterator at the block r, over the map at the block bm; 'seen' are the entries that it has handed out. -/
structure It (xs : List AV) (C D : Ctx) (r bm : Nat) (es : Array MapEntry) (clock : Nat) (seen : Array Nat) : Prop where
  sub : Sub C D
  ar : D.A r
  am : D.A bm
  ge : C.w0.heap.size ≤ r
  ne : bm ≠ r
  hr : D.w0.heap[r]? = some (.mapIter (some bm) clock seen clock)
  hm : D.w0.heap[bm]? = some (.map es clock)
  st : Stamps es clock
  pu : AV.pureL xs = true
  vals : RVL D.w0 (fun b => D.A b ∨ D.In b) noHv xs (es.toList.map (·.val))

theorem It.at_r {xs : List AV} {C D : Ctx} {r bm : Nat} {es : Array MapEntry} {clock : Nat} {seen : Array Nat} (h : It xs C D r bm es clock seen) {σ : St} {a : Act} {w : World} (hS : StR D σ a w) : w.heap[r]? = some (.mapIter (some bm) clock seen clock) := by
  obtain ⟨hv, _, _, _, _, hF⟩ := hS
  exact (hF.block r (hF.aold r h.ar) (hF.dis r h.ar)).trans h.hr
theorem It.at_m {xs : List AV} {C D : Ctx} {r bm : Nat} {es : Array MapEntry} {clock : Nat} {seen : Array Nat} (h : It xs C D r bm es clock seen) {σ : St} {a : Act} {w : World} (hS : StR D σ a w) : w.heap[bm]? = some (.map es clock) := by
  obtain ⟨hv, _, _, _, _, hF⟩ := hS
  exact (hF.block bm (hF.aold bm h.am) (hF.dis bm h.am)).trans h.hm

theorem setBlock_size (w : World) (r : Nat) (o : Obj) : (setBlock w r o).heap.size = w.heap.size := by simp [setBlock]
theorem setBlock_ne (w : World) {r b : Nat} (o : Obj) (h : b ≠ r) : (setBlock w r o).heap[b]? = w.heap[b]? := Array.getElem?_setIfInBounds_ne (Ne.symm h)

/-- the iterator goes on: a new context. -/
theorem It.step {xs : List AV} {C D : Ctx} {r bm : Nat} {es : Array MapEntry} {clock : Nat} {seen : Array Nat} (h : It xs C D r bm es clock seen) {σ : St} {a : Act} {w w1 : World} (hS : StR D σ a w) (h1 : w1 = w ∨ w1 = w.drew) (s : Nat) :
    ∃ D', It xs C D' r bm es clock (seen.push s) ∧ StR D' σ a (setBlock w1 r (.mapIter (some bm) clock (seen.push s) clock)) := by
  have hr := h.at_r hS
  have hm := h.at_m hS
  obtain ⟨hv, hd, hsz, hsl, hM, hF⟩ := hS
  have hlt : r < w.heap.size := (Array.getElem?_eq_some_iff.1 hr).1
  have hw : w1.heap = w.heap ∧ w1.os = w.os ∧ w1.tape = w.tape ∧ w1.output = w.output := by rcases h1 with rfl | rfl <;> exact ⟨rfl, rfl, rfl, rfl⟩
  obtain ⟨w2, hw2⟩ : ∃ w2, w2 = setBlock w1 r (.mapIter (some bm) clock (seen.push s) clock) := ⟨_, rfl⟩
  have hsame : ∀ b, b ≠ r → w2.heap[b]? = w.heap[b]? := fun b hb => by rw [hw2, setBlock_ne _ _ hb, hw.1]
  have hsize : w2.heap.size = w.heap.size := by rw [hw2, setBlock_size, hw.1]
  have hself : w2.heap[r]? = some (.mapIter (some bm) clock (seen.push s) clock) := by
    rw [hw2]; simp [setBlock, hw.1, hlt]
  have ho : w2.os = w.os ∧ w2.tape = w.tape ∧ w2.output = w.output := by rw [hw2]; exact hw.2
  rw [← hw2]
  have hnr : ¬ Own hv r := fun h' => hF.sep h' h.ar
  have hk : Keeps w (OwnA D.A hv) w2 (OwnA D.A hv) := ⟨by rw [hsize]; exact Nat.le_refl _, fun b _ hT => hsame b (by rintro rfl; exact hT (.inl h.ar)), fun b _ h => h⟩
  refine ⟨⟨w2, Own hv, D.A, D.dl⟩, ⟨⟨h.sub.a, ho.1.trans (hF.os.trans h.sub.os), ho.2.1.trans (hF.tape.trans h.sub.tape), ho.2.2.trans (hF.output.trans h.sub.output), ?_, fun b hb hn => ?_, fun b hb => ?_, h.sub.aold, h.sub.dis, h.sub.dl⟩, h.ar, h.am, h.ge, h.ne, hself, (hsame bm h.ne).trans hm, h.st, h.pu, ?_⟩, hv, hd, hsz, fun i x hx => ?_, MemR.keep hM hk (fun b hb => hsame b (by rintro rfl; exact hnr hb)) (by omega), ⟨rfl, rfl, rfl, Nat.le_refl _, fun _ _ _ => rfl, fun b hb => .inl hb, fun b hb => ?_, fun b hA hO => hF.sep hO hA⟩⟩
  · show C.w0.heap.size ≤ w2.heap.size
    rw [hsize]
    exact Nat.le_trans h.sub.size hF.size
  · have hbr : b ≠ r := by rintro rfl; have := h.ge; omega
    refine (hsame b hbr).trans ((hF.block b (Nat.lt_of_lt_of_le hb h.sub.size) (fun h' => ?_)).trans (h.sub.block b hb hn))
    rcases h.sub.inn b h' with h' | h'
    · exact hn h'
    · omega
  · rcases hF.own b hb with h' | h'
    · exact h.sub.inn b h'
    · exact .inr (Nat.le_trans h.sub.size h')
  · have k1 : Keeps D.w0 (fun b => D.A b ∨ D.In b) w2 (fun b => D.A b ∨ Own hv b) := ⟨by rw [hsize]; exact hF.size, fun b hb hn => (hsame b (by rintro rfl; exact hn (.inl h.ar))).trans (hF.block b hb (fun h' => hn (.inr h'))), fun b hb hT => hT.elim .inl (fun h' => by
      rcases hF.own b h' with h' | h'
      · exact .inr h'
      · omega)⟩
    have := RVL_keep k1 (Z := []) (hv := noHv) (hv' := noHv) (fun _ _ _ h => h) _ _ h.vals
    rwa [AV.killL_nil] at this
  · obtain ⟨v, g1, g2⟩ := hsl i x hx
    have := RV_keep hk x [] hv hv v (fun _ _ _ h => h) g2
    rw [AV.kill_nil] at this
    exact ⟨v, g1, this⟩
  · show b < w2.heap.size
    rw [hsize]
    exact hM.old b hb

theorem It.at_val {xs : List AV} {C D : Ctx} {r bm : Nat} {es : Array MapEntry} {clock : Nat} {seen : Array Nat} (h : It xs C D r bm es clock seen) {w : World} {hv : Nat → Option Value} (hF : Frm D w hv) {j : Nat} {x : AV} {e : MapEntry} (hx : xs[j]? = some x) (he : es[j]? = some e) :
    RV w (OwnA D.A hv) hv x e.val := by
  have k1 : Keeps D.w0 (fun b => D.A b ∨ D.In b) w (OwnA D.A hv) := ⟨hF.size, fun b hb hn => hF.block b hb (fun h' => hn (.inr h')), fun b hb hT => hT.elim .inl (fun h' => by
      rcases hF.own b h' with h' | h'
      · exact .inr h'
      · omega)⟩
  have := RVL_keep k1 (Z := []) (hv := noHv) (hv' := noHv) (fun _ _ _ h => h) _ _ h.vals
  rw [AV.killL_nil] at this
  have := RVL_pure xs noHv hv _ h.pu this
  exact rvl_at xs _ j x e.val this hx (by simp [he])

theorem ObR_keep {w w' : World} {T T' : Nat → Prop} {hv hv' : Nat → Option Value} {Z : List Nat} (hk : Keeps w T w' T') (hh : ∀ i u, i ∉ Z → hv i = some u → hv' i = some u) {ob : Ob} {v : Value} (hb : ∀ b, blk v = some b → w'.heap[b]? = w.heap[b]?) (h : ObR w T hv ob v) : ObR w' T' hv' (ob.kill Z) v := by
  cases hm : ob.mp with
  | some ks =>
    obtain ⟨vals, h1, h3⟩ := h.map hm
    exact ObR.of_map (ob := ob.kill Z) hm ⟨vals, h1.block hb, RVL_keep hk hh _ _ h3⟩
  | none =>
    obtain ⟨us, h1, h2, h3⟩ := h.row hm
    refine ObR.of_row (ob := ob.kill Z) hm ⟨us, ?_, fun x hx => ?_, RL_keep hk hh _ _ h3⟩
    · simp only [Ob.kill, AV.killL_map, List.length_map]
      exact ownsRow_of_block h1 fun b hb' => hb b (by rw [blk_row h1]; exact hb')
    · simp only [Ob.kill, AV.killL_map, List.mem_map] at hx
      obtain ⟨y, hy, rfl⟩ := hx
      rw [AV.size_kill]
      exact h2 y hy

theorem It.init {C : Ctx} {σ : St} {a : Act} {w : World} {d : Tmp} {id : Nat} {ks : List Value} {ty : TypeId} {xs : List AV} (hS : StR C σ a w) {m : Operand} (hm : σ.ev m = .o id) (hi : σ.M[id]? = some (some ⟨some ks, ty, 0, xs⟩)) (hp : AV.pureL xs = true) :
    ∃ (D : Ctx) (bm : Nat) (es : Array MapEntry) (clock : Nat), a.eval m = .map (some bm) ∧ w.heap[bm]? = some (.map es clock) ∧ es.size = xs.length ∧
      It xs C D w.heap.size bm es clock #[] ∧ StR D ⟨setS (killS [id] σ.sl) (some d) (.v (.pointer (some ⟨w.heap.size, 0, none⟩))), (Mem.kill [id] σ.M).set id none⟩ (a.put (some d) (.pointer (some ⟨w.heap.size, 0, none⟩))) (w.alloc (.mapIter (some bm) clock #[] clock)) := by
  obtain ⟨hv, hd, hsz, hsl, hM, hF⟩ := hS
  have hmv := ev_ok hsl m
  rw [hm] at hmv
  simp only [RV, R] at hmv
  obtain ⟨v, hv1, e1, _⟩ := hmv
  injection e1 with e1
  obtain ⟨vals, ⟨_, bm, es, clock, rfl, h1, h2, rfl, hst⟩ | ⟨hk1, _⟩, h3⟩ := (hM_ob hM hi hv1).map rfl
  case inr => exact absurd rfl hk1
  have hlt : bm < w.heap.size := (Array.getElem?_eq_some_iff.1 h1).1
  have hown : Own hv bm := ⟨id, _, hv1, rfl⟩
  obtain ⟨hv', hhv'⟩ : ∃ hv' : Nat → Option Value, hv' = fun i => if i = id then none else hv i := ⟨_, rfl⟩
  have hne : ∀ i u, hv' i = some u → i ≠ id ∧ hv i = some u := fun i u h => by
    rw [hhv'] at h
    simp only at h
    split at h
    · cases h
    · exact ⟨by assumption, h⟩
  have hsub : ∀ b, Own hv' b → Own hv b := by
    rintro b ⟨i, u, h, hb⟩
    exact ⟨i, u, (hne i u h).2, hb⟩
  obtain ⟨w', hw'⟩ : ∃ w', w' = w.alloc (.mapIter (some bm) clock #[] clock) := ⟨_, rfl⟩
  have hnew : w'.heap[w.heap.size]? = some (.mapIter (some bm) clock #[] clock) := by rw [hw']; exact heap_alloc_new w _
  have hold : ∀ b, b < w.heap.size → w'.heap[b]? = w.heap[b]? := fun b hb => by rw [hw']; exact heap_alloc_old w _ hb
  have hsize : w'.heap.size = w.heap.size + 1 := by rw [hw']; show (w.heap.push _).size = _; simp
  have ho : w'.os = w.os ∧ w'.tape = w.tape ∧ w'.output = w.output := by rw [hw']; exact ⟨rfl, rfl, rfl⟩
  let DA : Nat → Prop := fun b => C.A b ∨ b = w.heap.size ∨ b = bm
  have hk : Keeps w (OwnA C.A hv) w' (OwnA DA hv') := ⟨by omega, fun b hb _ => hold b hb, fun b hb hT => by
    rcases hT with (h | h | h) | h
    · exact .inl h
    · omega
    · subst h; exact .inr hown
    · exact .inr (hsub b h)⟩
  have hkeep : ∀ i u, i ∉ [id] → hv i = some u → hv' i = some u := fun i u hi h => by
    rw [hhv']; simp only; rw [if_neg (by simpa using hi)]; exact h
  refine ⟨⟨w', Own hv', DA, C.dl⟩, bm, es, clock, e1, h1, by have := rvl_len _ _ h3; simp at this; omega, ⟨⟨fun b h => .inl h, ho.1.trans hF.os, ho.2.1.trans hF.tape, ho.2.2.trans hF.output, by show _ ≤ w'.heap.size; have := hF.size; omega, fun b hb hn => (hold b (Nat.lt_of_lt_of_le hb hF.size)).trans (hF.block b hb hn), fun b hb => hF.own b (hsub b hb), hF.aold, hF.dis, rfl⟩, .inr (.inl rfl), .inr (.inr rfl), hF.size, by omega, hnew, (hold bm hlt).trans h1, hst, hp, ?_⟩, hw' ▸ ⟨hv', by exact hd, ?_, fun i x hx => ?_, ⟨fun i ob h => ?_, fun i u h => ?_, fun i j vi vj b hi hj => hM.inj i j vi vj b (hne i vi hi).2 (hne j vj hj).2, fun b hb => ?_⟩, ⟨rfl, rfl, rfl, Nat.le_refl _, fun _ _ _ => rfl, fun b hb => .inl hb, fun b hb => ?_, fun b hb hO => ?_⟩⟩⟩
  · have := RVL_pure xs hv noHv _ hp h3
    have := RVL_keep hk (Z := []) (hv := noHv) (hv' := noHv) (fun _ _ _ h => h) _ _ this
    rw [AV.killL_nil] at this
    exact this
  · rw [put_size, hsz]; simp only [setS_len, killS_len]
  · simp only at hx
    rcases setS_get _ _ _ _ hx with ⟨hdi, rfl, hl⟩ | ⟨hdn, hx⟩
    · injection hdi with hdi
      subst hdi
      refine ⟨.pointer (some ⟨w.heap.size, 0, none⟩), ?_, by simp [RV]⟩
      rw [killS_len] at hl
      simp [Act.put, hsz, hl]
    · rw [killS_get] at hx
      simp only [Option.map_eq_some_iff] at hx
      obtain ⟨y, hy, rfl⟩ := hx
      obtain ⟨u, g1, g2⟩ := hsl i y hy
      exact ⟨u, by rw [put_get _ _ _ _ hdn]; exact g1, RV_keep hk y [id] hv hv' u hkeep g2⟩
  · rw [List.getElem?_set] at h
    split at h
    · split at h
      · injection h with h; cases h
      · cases h
    · rename_i hid
      rw [Mem.kill_get] at h
      simp only [Option.map_eq_some_iff] at h
      obtain ⟨o, h5, h6⟩ := h
      match o, h5, h6 with
      | some ob0, h5, h6 =>
        obtain ⟨ob0', h7, rfl⟩ := h6
        injection h7 with h7
        subst h7
        obtain ⟨v0, g1, g2⟩ := hM.live i ob0 h5
        exact ⟨v0, hkeep i v0 (by simpa using Ne.symm hid) g1, ObR_keep hk hkeep (fun b hb => hold b (hM.own_lt ⟨i, v0, g1, hb⟩)) g2⟩
  · obtain ⟨hin, h⟩ := hne i u h
    obtain ⟨o, ho⟩ := hM.dom i u h
    exact ⟨o.kill [id], by rw [List.getElem?_set_ne (Ne.symm hin), Mem.kill_get, ho]; rfl⟩
  · rcases hb with h | h | h
    · have := hM.old b h; omega
    · omega
    · omega
  · show b < w'.heap.size
    rcases hb with h | h | h
    · have := hM.old b h; omega
    · omega
    · omega
  · have hO' := hsub b hO
    rcases hb with h | h | h
    · exact hF.sep hO' h
    · have := hM.own_lt hO'; omega
    · subst h
      obtain ⟨i, u, g1, g2⟩ := hO
      obtain ⟨g3, g4⟩ := hne i u g1
      exact g3 (hM.inj i id u _ b g4 hv1 g2 rfl)

variable {P : Program}

/-- A FUNCTION's contract, from what its body does. -/
theorem aspec_of_swp {f : FuncId} {fn : Func} {c : Code} {as : List AV} {post : AV → List Ob → Prop} (hf : P.funcs[f]? = some fn) (hb : fn.body = some c) (hok : okFn P f = true)
    (h : @SWp P c ⟨as ++ List.replicate (fn.ntmps - as.length) .bot, []⟩ ⟨AEnd P fn.results.toList post⟩ ⟨fun _ _ => False⟩ ⟨fun σ _ => AEnd P fn.results.toList post σ⟩) : ASpec P f as post := by
  refine ⟨hok, fun w vs A hA hvs => calls_of_wp hf hb ?_⟩
  have hown : ∀ b, ¬ Own noHv b := fun b h => by obtain ⟨i, v, h, _⟩ := h; simp [noHv] at h
  obtain ⟨hlen, hget⟩ := rvl_get as vs hvs
  have hk : Keeps w A w (OwnA A noHv) := ⟨Nat.le_refl _, fun _ _ _ => rfl, fun b _ h => h.elim id (fun h => absurd h (hown b))⟩
  have hS : StR ⟨w, fun _ => False, A, []⟩ ⟨as ++ List.replicate (fn.ntmps - as.length) .bot, []⟩ { tmps := vs.toArray ++ Array.replicate (fn.ntmps - vs.toArray.size) undef, defers := [] } w := by
    refine ⟨noHv, rfl, by simp [hlen], fun i x hx => ?_, ⟨fun i ob h => by simp at h, fun i v h => by simp [noHv] at h, fun i j vi vj b h => by simp [noHv] at h, hA⟩, ⟨rfl, rfl, rfl, Nat.le_refl _, fun _ _ _ => rfl, fun b h => absurd h (hown b), hA, fun _ _ h => h⟩⟩
    rcases Nat.lt_or_ge i as.length with hlt | hge
    · simp only [List.getElem?_append_left hlt] at hx
      obtain ⟨v, h1, h2⟩ := hget i x hx
      refine ⟨v, ?_, ?_⟩
      · rw [Array.getElem?_append_left (by simp; omega)]; simpa using h1
      · have := RV_keep hk x [] noHv noHv v (fun _ _ _ h => h) h2
        rwa [AV.kill_nil] at this
    · simp only [List.getElem?_append_right hge, List.getElem?_replicate] at hx
      split at hx
      · rename_i hr
        injection hx with hx
        subst hx
        refine ⟨undef, ?_, by simp [RV]⟩
        rw [Array.getElem?_append_right (by simp; omega)]
        simp [hlen, hr]
      · cases hx
  have fin : ∀ (σ : St) (a' : Act) (w' : World), AEnd P fn.results.toList post σ → StR ⟨w, fun _ => False, A, []⟩ σ a' w' → a'.defers = [] ∧ ∃ v, (results fn a'.tmps).run P w' = .ok v w' ∧
      ∃ r Ms v' hv, Ending.returned v = .returned v' ∧ post r Ms ∧ MemR A w' hv (Ms.map some) ∧ RV w' (OwnA A hv) hv r v' ∧ (∀ b, Own hv b → w.heap.size ≤ b) ∧ Below w.heap.size w w' := by
    rintro σ a' w' ⟨x, hx, r, Ms, hret, hp⟩ ⟨hv, hd, _, hsl, hM, hF⟩
    obtain ⟨v, h1, h2⟩ := res_ok (C := ⟨w, fun _ => False, A, []⟩) hsl hM hx
    have hfr : ∀ b, Own hv b → w.heap.size ≤ b := fun b h => (hF.own b h).elim (fun h => h.elim) id
    obtain ⟨hv', m1, m2, m3⟩ := hret A w' hv v hM (fun b hb hAb => by have := hfr b hb; have := hA b hAb; omega) h2
    exact ⟨hd, v, h1, r, Ms, v, hv', rfl, hp, m1, m2, fun b hb => hfr b (m3 b hb), ⟨hF.os, hF.tape, hF.output, hF.size, fun b hb => hF.block b hb (fun h => h)⟩⟩
  refine wp_mono (h _ _ _ hS) fun e a' w' hq => ?_
  cases e with
  | normal => obtain ⟨σ, h1, h2⟩ := hq; exact fin σ a' w' h1 h2
  | ret => obtain ⟨σ, h1, h2⟩ := hq; exact fin σ a' w' h1 h2
  | exit id => obtain ⟨σ, h1, h2⟩ := hq; exact h1.elim
  | goto l => exact hq.elim
  | panic ch => exact hq.elim
  | outgrown => exact hq.elim

theorem swp_seq {x y : Code} {N : HN} {E : HE} {Rt : HR} {σ : St} (h : @SWp P x σ ⟨fun σ' => @SWp P y σ' N E Rt⟩ E Rt) : @SWp P (.seq x y) σ N E Rt := fun C a w hS => by
  refine wp_seq (wp_mono (h C a w hS) fun e a' w' hq => ?_)
  cases e with
  | normal => obtain ⟨σ', h1, h2⟩ := hq; exact h1 C a' w' h2
  | exit id => exact hq
  | ret => exact hq
  | goto l => exact hq.elim
  | panic ch => exact hq.elim
  | outgrown => exact hq.elim

theorem aops_then {own : List Nat} {ops : Array Oper} {N : HK (St → Prop)} {C : Ctx} {Q : Exit → Act → World → Prop} (l' : List Oper) : ∀ (l : List Oper) (k : Nat) (σ : St) (a : Act) (w : World), ops.toList.drop k = l ++ l' → @AOps P own ops.toList l σ N → StR C σ a w →
    (∀ σ a w, N.k σ → StR C σ a w → wpOps P ops Q (List.range' (k + l.length) l'.length) a w) → wpOps P ops Q (List.range' k (l ++ l').length) a w
  | [], k, σ, a, w, hk, h, hS, hN => by simpa using hN σ a w h hS
  | o :: l, k, σ, a, w, hk, h, hS, hN => by
    have ho : ops[k]? = some o := by
      have : (ops.toList.drop k)[0]? = some o := by rw [hk]; rfl
      rw [List.getElem?_drop] at this
      simpa using this
    have hk' : ops.toList.drop (k + 1) = l ++ l' := by rw [← List.drop_drop, hk]; rfl
    rw [List.cons_append, List.length_cons, List.range'_succ, wpOps_cons]
    refine wpOp_mono (fun a' w' => ?_) (aop_sound ho h hS)
    rintro ⟨σ', h1, h2⟩
    refine aops_then l' l (k + 1) σ' a' w' hk' h1 h2 (fun σ a w hn hs => ?_)
    have := hN σ a w hn hs
    rw [List.length_cons] at this
    rwa [show k + (l.length + 1) = k + 1 + l.length by omega] at this

theorem nodup_lt' : ∀ (N : Nat) (l : List Nat), l.Nodup → (∀ x ∈ l, x < N) → l.length ≤ N
  | 0, l, _, h => by
    cases l with
    | nil => simp
    | cons x l => exact absurd (h x (by simp)) (by omega)
  | N + 1, l, hnd, h => by
    have h1 := nodup_lt' N (l.erase N) (hnd.erase N) (fun x hx => by
      have h2 := h x (List.mem_of_mem_erase hx)
      have h3 : x ≠ N := by rintro rfl; exact (List.Nodup.not_mem_erase hnd) hx
      omega)
    have h4 := List.length_erase (a := N) (l := l)
    split at h4 <;> omega

/-- how many rounds are left. -/
def leftN (n r : Nat) (w : World) : Nat := match w.heap[r]? with | some (.mapIter _ _ seen _) => n - seen.size | _ => 0

theorem StR.put1 {C : Ctx} {σ : St} {a : Act} {w : World} (hS : StR C σ a w) {n : Tmp} {x : AV} {v : Value} (hr : ∀ hv, MemR C.A w hv σ.M → Frm C w hv → RV w (OwnA C.A hv) hv x v) : StR C ⟨σ.sl.set n x, σ.M⟩ (a.put (some n) v) w := by
  obtain ⟨hv, hd, hsz, hsl, hM, hF⟩ := hS
  have h := StR.next (C := C) (σ := σ) (a := a) (w := w) (w' := w) (hv := hv) (hv' := hv) (Z := []) (M' := σ.M) (r := x) (v := v) (d := some n) hd hsz hsl hF hM (hr hv hM hF) (StepR.refl C.A w hv)
  simpa [St.step, setS, killS] using h

set_option maxHeartbeats 1000000 in
theorem swp_maprange {ι : Type} {own : List Nat} {id5 id6 id7 b0 b1 : Nat} {pre ops7 : List Oper} {d m n n1 e : Tmp} {tm : TypeId} {y0 y1 y2 y3 : TypeId} {p0 p1 p2 p3 : String} {f0 f1 f2 f3 : Array Edge} {ops5 opsE : Array Oper} {body : Code} {N : HN} {E : HE} {Rt : HR} {σ : St} {xs : List AV} (S : Nat → ι → St) (J : List Nat → ι → Prop) (i0 : ι)
    (hmap : (mapOf P tm).isSome = true) (h5 : ops5.toList = pre ++ [⟨some d, .range tm (.tmp m), y0, p0, f0, none⟩]) (h7 : opsE.toList = ⟨some e, .entry (.tmp d), y3, p3, f3, none⟩ :: ops7)
    (hd : ∀ r i, (S r i).sl[d]? = some (.v (.pointer (some ⟨r, 0, none⟩)))) (hdn : d ≠ n) (hdn1 : d ≠ n1) (hnn : n1 ≠ n) (hn : ∀ r i, n < (S r i).sl.length) (hn1 : ∀ r i, n1 < (S r i).sl.length)
    (hstart : @AOps P own ops5.toList pre σ ⟨fun σ' => ∃ (id : Nat) (ks : List Value) (ty : TypeId), σ'.ev (.tmp m) = .o id ∧ σ'.M[id]? = some (some ⟨some ks, ty, 0, xs⟩) ∧ AV.pureL xs = true ∧
      ∀ r, Le ⟨setS (killS [id] σ'.sl) (some d) (.v (.pointer (some ⟨r, 0, none⟩))), (Mem.kill [id] σ'.M).set id none⟩ (S r i0)⟩)
    (hJ : J [] i0) (hend : ∀ r i sn, J sn i → (∀ j, j < xs.length → j ∈ sn) → N.k ⟨((S r i).sl.set n (.t [B false])).set n1 (B false), (S r i).M⟩)
    (hstep : ∀ r i sn j x, J sn i → xs[j]? = some x → j ∉ sn → @AOps P own opsE.toList ops7 ⟨(((S r i).sl.set n (.t [B true, .bot, x])).set n1 (B true)).set e (.t [.bot, x]), (S r i).M⟩
      ⟨fun σ' => @SWp P body σ' ⟨fun σ'' => ∃ i', Le σ'' (S r i') ∧ J (j :: sn) i'⟩ ⟨fun _ _ => False⟩ ⟨fun _ _ => False⟩⟩) :
    @SWp P (.seq (.region id5 ops5 false) (.block b0 (.loop (.seq (.region id6 #[⟨some n, .next (.tmp d) false, y1, p1, f1, none⟩, ⟨some n1, .extract (.tmp n) 0, y2, p2, f2, none⟩] false) (.seq (.cond (.tmp n1) .skip (.exit b0)) (.block b1 (.seq (.region id7 opsE false) body))))))) σ N E Rt := by
  intro C a w hS
  refine wp_seq (wp_region ?_)
  have hl5 : ops5.size = (pre ++ [(⟨some d, .range tm (.tmp m), y0, p0, f0, none⟩ : Oper)]).length := by rw [← h5]; simp
  rw [List.range_eq_range', hl5]
  refine aops_then (P := P) (own := own) _ pre 0 σ a w (by simpa using h5) hstart hS ?_
  rintro σ' a w ⟨id, ks, ty, hm, hi, hp, hle⟩ hS
  obtain ⟨D, bm, es, clock, e1, hbm, hes, hit, hS'⟩ := It.init (d := d) hS hm hi hp
  have ho : ops5[0 + pre.length]? = some ⟨some d, .range tm (.tmp m), y0, p0, f0, none⟩ := by
    have : ops5.toList[pre.length]? = some ⟨some d, .range tm (.tmp m), y0, p0, f0, none⟩ := by rw [h5]; simp
    rw [Nat.zero_add]; simpa using this
  obtain ⟨ke, hke⟩ := Option.isSome_iff_exists.1 hmap
  rw [List.length_singleton, show List.range' (0 + pre.length) 1 = [0 + pre.length] from rfl, wpOps_cons]
  refine wpOp_of ho rfl (wp_value (v := .pointer (some ⟨w.heap.size, 0, none⟩)) (w' := w.alloc (.mapIter (some bm) clock #[] clock)) ?_ ?_)
  · have := run_range_map (P := P) w tm ke.1 ke.2 bm es clock (mapOf_eq hke) hbm
    simp only [execOp, e1, Sem.run_bind, this, Result.andThen_ok, Sem.run_pure]
  simp only [wpOps, Exit.then]
  have hS0 := hle _ _ _ _ hS'
  clear hS hS' hle hm hi hstart
  generalize w.heap.size = r at hit hS0 ⊢
  generalize a.put (some d) (.pointer (some ⟨r, 0, none⟩)) = a0 at hS0 ⊢
  generalize w.alloc (.mapIter (some bm) clock #[] clock) = w0 at hS0 ⊢
  refine wp_block (wp_loop (fun a w => ∃ D i sn seen, It xs C D r bm es clock seen ∧ StR D (S r i) a w ∧ J sn i ∧ seen.size = sn.length ∧ sn.Nodup ∧ (∀ j ∈ sn, j < xs.length) ∧ ∀ (j : Nat) (x : MapEntry), es[j]? = some x → (seen.contains x.born = true ↔ j ∈ sn)) (fun _ w => leftN xs.length r w)
    ⟨D, i0, [], #[], hit, hS0, hJ, rfl, List.nodup_nil, by simp, by simp⟩ ?_)
  clear hS0 hit hbm
  rintro a w ⟨D, i, sn, seen, hit, hS, hJi, hsz, hnd, hlt, hsn⟩
  have hr := hit.at_r hS
  have hm := hit.at_m hS
  have hslot : ∀ a' : Act, a'.tmps[d]? = a.tmps[d]? → a'.eval (.tmp d) = .pointer (some ⟨r, 0, none⟩) := fun a' ha' => by
    obtain ⟨hv, _, _, hsl, _⟩ := hS
    obtain ⟨v, g1, g2⟩ := hsl d _ (hd r i)
    simp only [RV] at g2
    simp [Act.eval, Array.getD_eq_getD_getElem?, ha', g1, g2]
  have hasz : a.tmps.size = (S r i).sl.length := by obtain ⟨hv, _, h, _⟩ := hS; exact h
  refine wp_seq (wp_region ?_)
  show wpOps P _ _ [0, 1] a w
  rw [wpOps_cons]
  rcases run_next_at (P := P) w y1 r bm clock clock seen es clock hr hm (fun x hx => hit.st.1 x hx) (Nat.le_refl _) with ⟨h0, hrun⟩ | ⟨x, hx, w1, hw1, hrun⟩
  · refine wpOp_of (o := ⟨some n, .next (.tmp d) false, y1, p1, f1, none⟩) rfl rfl (wp_value (v := .tuple #[.bool false]) (w' := w) ?_ ?_)
    · simp only [execOp, hslot a rfl, Sem.run_bind, hrun, Result.andThen_ok, Sem.run_pure]
    rw [wpOps_cons]
    refine wpOp_of (o := ⟨some n1, .extract (.tmp n) 0, y2, p2, f2, none⟩) rfl rfl (wp_value (v := .bool false) (w' := w) ?_ ?_)
    · have : (a.put (some n) (.tuple #[.bool false])).eval (.tmp n) = .tuple #[.bool false] := ev_put_eq (by rw [hasz]; exact hn r i)
      simp [execOp, Instr.extract, this]
    simp only [wpOps, Exit.then]
    have hS2 := (hS.put1 (n := n) (x := .t [B false]) (v := .tuple #[.bool false]) (fun hv _ _ => by simp [RV, RVL])).put1 (n := n1) (x := B false) (v := .bool false) (fun hv _ _ => by simp [RV])
    refine wp_seq (wp_cond (t := false) (ev_put_eq (by rw [size_put, hasz]; exact hn1 r i)) ?_)
    simp only [Bool.false_eq_true, if_false]
    refine wp_exit ?_
    simp only [Exit.then, Exit.inBlock, if_true]
    refine ⟨_, hend r i sn hJi (fun j hj => ?_), hit.sub.str hS2⟩
    have hj' : j < es.size := by omega
    rw [← hsn j es[j] (Array.getElem?_eq_getElem hj')]
    have : leftOf es seen = #[] := Array.eq_empty_of_size_eq_zero h0
    unfold leftOf at this
    rw [Array.filter_eq_empty_iff] at this
    have := this es[j] (Array.getElem_mem hj')
    simpa using this
  · have hx' : x ∈ es.toList ∧ seen.contains x.born = false := by
      unfold leftOf at hx
      simp at hx
      exact ⟨by simpa using hx.1, by simpa using hx.2⟩
    obtain ⟨j, hj⟩ := List.mem_iff_getElem?.1 hx'.1
    have hje : es[j]? = some x := by simpa using hj
    have hjl : j < xs.length := by have := (Array.getElem?_eq_some_iff.1 hje).1; omega
    have hjn : j ∉ sn := fun h => by have := (hsn j x hje).2 h; rw [hx'.2] at this; cases this
    obtain ⟨D', hit', hS'⟩ := hit.step hS hw1 x.born
    refine wpOp_of (o := ⟨some n, .next (.tmp d) false, y1, p1, f1, none⟩) rfl rfl (wp_value (v := .tuple #[.bool true, x.key, x.val]) (w' := setBlock w1 r (.mapIter (some bm) clock (seen.push x.born) clock)) ?_ ?_)
    · simp only [execOp, hslot a rfl, Sem.run_bind, hrun, Result.andThen_ok, Sem.run_pure]
    rw [wpOps_cons]
    generalize setBlock w1 r (.mapIter (some bm) clock (seen.push x.born) clock) = w2 at hS' ⊢
    refine wpOp_of (o := ⟨some n1, .extract (.tmp n) 0, y2, p2, f2, none⟩) rfl rfl (wp_value (v := .bool true) (w' := w2) ?_ ?_)
    · have : (a.put (some n) (.tuple #[.bool true, x.key, x.val])).eval (.tmp n) = .tuple #[.bool true, x.key, x.val] := ev_put_eq (by rw [hasz]; exact hn r i)
      simp [execOp, Instr.extract, this]
    simp only [wpOps, Exit.then]
    have hxv : xs[j]? = some xs[j] := List.getElem?_eq_getElem hjl
    have hS2 := (hS'.put1 (n := n) (x := .t [B true, .bot, xs[j]]) (v := .tuple #[.bool true, x.key, x.val]) (fun hv _ hF => by simp only [RV, RVL]; exact ⟨_, rfl, _, _, rfl, rfl, _, _, rfl, trivial, _, _, rfl, hit'.at_val hF hxv hje, rfl⟩)).put1 (n := n1) (x := B true) (v := .bool true) (fun hv _ _ => by simp [RV])
    refine wp_seq (wp_cond (t := true) (ev_put_eq (by rw [size_put, hasz]; exact hn1 r i)) ?_)
    simp only [if_true]
    refine wp_skip ?_
    simp only [Exit.then]
    refine wp_block (wp_seq (wp_region ?_))
    have hlE : opsE.size = (⟨some e, .entry (.tmp d), y3, p3, f3, none⟩ :: ops7 : List Oper).length := by rw [← h7]; simp
    rw [List.range_eq_range', hlE, List.length_cons, List.range'_succ, wpOps_cons]
    have hoE : opsE[0]? = some ⟨some e, .entry (.tmp d), y3, p3, f3, none⟩ := by
      have : opsE.toList[0]? = some ⟨some e, .entry (.tmp d), y3, p3, f3, none⟩ := by rw [h7]; rfl
      simpa using this
    refine wpOp_of hoE rfl (wp_value (v := .tuple #[x.key, x.val]) (w' := w2) ?_ ?_)
    · have hrE := run_entry_at (P := P) w2 r bm clock seen es clock x (hit'.at_r hS') (hit'.at_m hS') hx'.1 hit'.st.2
      have hev : ((a.put (some n) (.tuple #[.bool true, x.key, x.val])).put (some n1) (.bool true)).eval (.tmp d) = .pointer (some ⟨r, 0, none⟩) := by
        rw [ev_put_ne (Ne.symm hdn1), ev_put_ne (Ne.symm hdn)]; exact hslot a rfl
      simp only [execOp, hev, Sem.run_bind, hrE, Result.andThen_ok, Sem.run_pure]
    have hS3 := hS2.put1 (n := e) (x := .t [.bot, xs[j]]) (v := .tuple #[x.key, x.val]) (fun hv _ hF => by simp only [RV, RVL]; exact ⟨_, rfl, _, _, rfl, trivial, _, _, rfl, hit'.at_val hF hxv hje, rfl⟩)
    refine aops_sound (P := P) (own := own) (ops := opsE) (Q := _) (fun σ a w hN hS => ?_) ops7 1 _ _ _ (by rw [h7]; rfl) (hstep r i sn j xs[j] hJi hxv hjn) hS3
    simp only [Exit.then]
    refine wp_mono (hN D' a w hS) fun ex a' w' hq => ?_
    cases ex with
    | normal =>
      obtain ⟨σ2, ⟨i', hle, hJ'⟩, hS4⟩ := hq
      have hS5 := hle _ _ _ hS4
      have hlen : (seen.push x.born).size = (j :: sn).length := by simp [hsz]
      have hnd' : (j :: sn).Nodup := List.nodup_cons.2 ⟨hjn, hnd⟩
      refine ⟨⟨D', i', j :: sn, seen.push x.born, hit', hS5, hJ', hlen, hnd', fun q hq => ?_, fun q y hq => ?_⟩, ?_⟩
      · rcases List.mem_cons.1 hq with rfl | hq
        · exact hjl
        · exact hlt q hq
      · simp only [Array.contains_push, Bool.or_eq_true, List.mem_cons, hsn q y hq, beq_iff_eq]
        constructor
        · rintro (h | h)
          · exact .inr h
          · left
            have h2 := hit'.st.2
            rw [List.Nodup, List.pairwise_iff_getElem] at h2
            have hq' := Array.getElem?_eq_some_iff.1 hq
            have hj' := Array.getElem?_eq_some_iff.1 hje
            obtain ⟨q1, q2⟩ := hq'
            obtain ⟨j1, j2⟩ := hj'
            rcases Nat.lt_trichotomy q j with h3 | h3 | h3
            · exact (h2 q j (by simpa using q1) (by simpa using j1) h3 (by simp only [List.getElem_map, Array.getElem_toList]; rw [q2, j2, h])).elim
            · exact h3
            · exact (h2 j q (by simpa using j1) (by simpa using q1) h3 (by simp only [List.getElem_map, Array.getElem_toList]; rw [q2, j2, h])).elim
        · rintro (h | h)
          · right
            subst h
            rw [hje] at hq
            injection hq with hq
            rw [hq]
          · exact .inl h
      · have hr2 := hit'.at_r hS5
        have hle' := nodup_lt' xs.length (j :: sn) hnd' (fun q hq => by
          rcases List.mem_cons.1 hq with rfl | hq
          · exact hjl
          · exact hlt q hq)
        simp only [leftN, hr2, hr, Array.size_push, hsz]
        simp only [List.length_cons] at hle'
        omega
    | exit id => obtain ⟨_, h, _⟩ := hq; exact h.elim
    | ret => obtain ⟨_, h, _⟩ := hq; exact h.elim
    | goto l => exact hq.elim
    | panic ch => exact hq.elim
    | outgrown => exact hq.elim
end
end Aw
end Go.Proofs.Ytkmbbbemmohmcaa

namespace Go.Proofs.Ytkmbbbemmohmcaa
namespace Aw
open Go.RowKit

/-- the objects are read; a pointer into one reads as its element does. -/
def frz2 (M : Mem) : AV → AV := AV.sub (fun i => match M[i]? with | some (some ob) => if (ob.mp.isNone && AV.pureL ob.xs) = true then .s ob.k ob.xs else .bot | _ => .bot)
  (fun i k j off => match M[i]? with | some (some ob) => if (ob.mp.isNone && ob.k == k && decide (j < ob.xs.length)) = true then .p (frz M (ob.xs.getD j .bot)) off else .bot | _ => .bot)

section
variable {P : Program} {own : List Nat}

theorem frz_oR {A : Nat → Prop} {M : Mem} {w : World} {hv : Nat → Option Value} (hM : MemR A w hv M) {i : Nat} {v : Value} (h : hv i = some v) :
    R w (fun _ => False) noHv (match M[i]? with | some (some ob) => if (ob.mp.isNone && AV.pureL ob.xs) = true then .s ob.k ob.xs else .bot | _ => .bot) [v] := by
  obtain ⟨ob, hob⟩ := hM.dom i v h
  have := coe_frz M (.o i) A w hv v hM (by simp only [RV, R]; exact ⟨v, h, rfl, (hM_ob hM hob h).one⟩)
  simp only [if_true, frz, AV.sub, hob] at this ⊢
  by_cases hp : (ob.mp.isNone && AV.pureL ob.xs) = true
  · rw [if_pos hp] at this ⊢
    simpa only [RV] using this
  · rw [if_neg hp]
    simp only [R]; exact ⟨v, rfl, (hM_ob hM hob h).one⟩

theorem frz_o1 (M : Mem) (i : Nat) : AV.single (match M[i]? with | some (some ob) => if (ob.mp.isNone && AV.pureL ob.xs) = true then .s ob.k ob.xs else .bot | _ => .bot) = true := by
  split
  · split <;> rfl
  · rfl

theorem frz_R {A : Nat → Prop} {M : Mem} {w : World} {hv : Nat → Option Value} (hM : MemR A w hv M) {x : AV} {us : List Value} (hx : R w (OwnA A hv) hv x us) : R w (fun _ => False) noHv (frz M x) us :=
  R_sub (T := OwnA A hv) (T' := fun _ => False) (hv := hv) (hv' := noHv) (fun b h => h.elim) (fun i v h => frz_oR hM h) (fun i => frz_o1 M i) (fun i k j off us h => R_botq h) (fun _ _ _ _ => rfl) x us hx

theorem coe_frz2 (M : Mem) (x : AV) : Coe true M x (frz2 M x) := by
  intro A w hv v hM hx
  refine RV_sub (T := OwnA A hv) (T' := fun _ => False) (hv := hv) (hv' := noHv) (fun b h => h.elim) (fun i v h => frz_oR hM h) (fun i => frz_o1 M i) (fun i k j off us h => ?_) (fun i k j off => ?_) x v hx
  · have h0 := h
    simp only [R] at h
    obtain ⟨b, n, c, hb, rfl⟩ := h
    obtain ⟨ob, hob⟩ := hM.dom i _ hb
    simp only [hob]
    by_cases hp : (ob.mp.isNone && ob.k == k && decide (j < ob.xs.length)) = true
    · rw [if_pos hp]
      simp only [Bool.and_eq_true, Option.isNone_iff_eq_none, beq_iff_eq, decide_eq_true_eq] at hp
      obtain ⟨⟨hm, rfl⟩, hj⟩ := hp
      obtain ⟨g, cap, ws, e, h1, h2⟩ := ob_cells (hM_ob hM hob hb) hm hj
      injection e with e
      injection e with e
      injection e with e
      subst e
      simp only [R]
      refine ⟨b, j * ob.k, ws, rfl, frz_R hM h1, b, j * ob.k, rfl, hM.own_lt ⟨i, _, hb, rfl⟩, fun h => h, h2⟩
    · rw [if_neg hp]
      exact R_botq h0
  · split
    · split <;> rfl
    · rfl

theorem coel_frz2 (M : Mem) : ∀ (as : List AV), CoeL true M as (as.map (frz2 M))
  | [] => trivial
  | a :: as => ⟨coe_frz2 M a, coel_frz2 M as⟩

/-- a call whose result is a value; objects, and pointers to objects, are lent. -/
theorem acall_l2 {f : FuncId} {as bs : List AV} {M : Mem} {K : HK (AV → Mem → Prop)} {x : AV} (spec : ASpec P f bs (fun r Ms => r = x ∧ Ms = [])) (hb : as.map (frz2 M) = bs) (hx : x.pure = true) (ht : x.tfree = true) (h : K.k x M) : ACall P f as M (K := K) := by
  refine ⟨true, bs, _, hb ▸ coel_frz2 M as, spec, ?_⟩
  rintro r Ms ⟨rfl, rfl⟩
  refine ⟨fun e => ⟨ht, by simp⟩, ?_⟩
  rw [AV.up, AV.sub_pure _ _ _ hx]
  simpa using h
end
end Aw
end Go.Proofs.Ytkmbbbemmohmcaa

namespace Go.Proofs.Ytkmbbbemmohmcaa
namespace Aw
open Go.RowKit

/-- each operation comes behind earlier ones alone; the first n have no guard. -/
def headB (ops : Array Oper) (n : Nat) : Bool :=
  (List.range ops.size).all fun i => match ops[i]? with | some o => o.after.all (fun e => decide (e.on < i)) && (decide (n ≤ i) || o.guard.isNone) | none => true

theorem headB_at {ops : Array Oper} {n : Nat} (h : headB ops n = true) {i : Nat} {o : Oper} (ho : ops[i]? = some o) : (∀ e ∈ o.after, e.on < i) ∧ (i < n → o.guard = none) := by
  have hi := (Array.getElem?_eq_some_iff.1 ho).1
  have := List.all_eq_true.1 h i (List.mem_range.2 hi)
  simp only [ho, Bool.and_eq_true, Bool.or_eq_true, decide_eq_true_eq, Option.isNone_iff_eq_none] at this
  refine ⟨fun e he => ?_, fun hin => by
    rcases this.2 with h2 | h2
    · omega
    · exact h2⟩
  have h1 := Array.all_eq_true'.1 this.1 e he
  simpa using h1

section
variable {P : Program} {own : List Nat} {ops pre : Array Oper} {n : Nat}

/-- the tail. -/
theorem any_tail {Q : Exit → Act → World → Prop} (hh : headB ops n = true) (hc : Region.chainB .any ops n = true) : ∀ (g t fuel : Nat) (listed : Array Bool) (a : Act) (w : World), t + g = ops.size → n ≤ t → g ≤ fuel → listed.size = ops.size →
    (∀ j, j < t → listed.getD j false = true) → (∀ j, t ≤ j → j < ops.size → listed.getD j true = false) → wpOps P ops Q (List.range' t g) a w → wpAny P .any ops Q fuel listed a w := by
  intro g
  induction g with
  | zero =>
    intro t fuel listed a w htg hnt hf hls hlo hhi h
    have h0 : Region.ready .any ops listed = [] := by
      rw [List.eq_nil_iff_forall_not_mem]
      intro i hi
      obtain ⟨hun, o, ho, _⟩ := mem_ready.1 hi
      have hil := (Array.getElem?_eq_some_iff.1 ho).1
      have := hlo i (by omega)
      rw [getD_both hun] at this
      cases this
    simp only [List.range'_zero, wpOps] at h
    cases fuel with
    | zero => exact ⟨h0, h⟩
    | succ f => exact ⟨fun _ => h, fun i hi => by rw [h0] at hi; cases hi⟩
  | succ g ih =>
    intro t fuel listed a w htg hnt hf hls hlo hhi h
    cases fuel with
    | zero => omega
    | succ f =>
      have htl : t < ops.size := by omega
      have hot : ops[t]? = some ops[t] := Array.getElem?_eq_getElem htl
      have hrt : t ∈ Region.ready .any ops listed := by
        rw [mem_ready]
        refine ⟨hhi t (Nat.le_refl _) htl, ops[t], hot, fun e he _ => hlo e.on ((headB_at hh hot).1 e he)⟩
      refine ⟨fun h0 => (by rw [h0] at hrt; cases hrt), fun i hi => ?_⟩
      obtain ⟨hun, o, ho, hall⟩ := mem_ready.1 hi
      have hil := (Array.getElem?_eq_some_iff.1 ho).1
      have hit : i = t := by
        rcases Nat.lt_trichotomy i t with h1 | h1 | h1
        · have := hlo i h1
          rw [getD_both hun] at this
          cases this
        · exact h1
        · have h2 := List.all_eq_true.1 hc i (List.mem_range.2 hil)
          simp only [Bool.or_eq_true, decide_eq_true_eq] at h2
          rcases h2 with h2 | h2
          · omega
          · obtain ⟨o', ho', e, he, hb, hon⟩ := Region.waitsFor_spec h2
            have : o' = o := Option.some.inj (ho'.symm.trans ho)
            subst this
            have h3 := hall e he hb
            rw [hon, getD_both (hhi (i - 1) (by omega) (by omega))] at h3
            cases h3
      subst hit
      rw [List.range'_succ, wpOps_cons] at h
      refine wpOp_mono (fun a' w' h' => ?_) h
      refine ih (i + 1) f _ a' w' (by omega) (by omega) (by omega) (by simp [hls]) (fun j hj => ?_) (fun j hj hjs => ?_) h'
      · by_cases hji : j = i
        · subst hji
          simp [hls, htl]
        · exact getD_set_true (hlo j (by omega))
      · rw [getD_set_ne true (by omega)]
        exact hhi j (by omega) hjs

theorem aany_split {C : Ctx} {Q : Exit → Act → World → Prop} {N : St → Prop} (hpre : ∀ j, j < n → pre[j]? = ops[j]?) (hps : pre.size = n) (hn : n < ops.size) (hh : headB ops n = true) (hs : Region.sinkB .any ops n = true) (hc : Region.chainB .any ops n = true)
    (hN : ∀ σ a w, N σ → StR C σ a w → wpOps P ops Q (List.range' n (ops.size - n)) a w) :
    ∀ (f : Nat) (lp listed : Array Bool) (σ : St) (a : Act) (w : World), lp.size = n → (∀ j, j < n → lp.getD j true = listed.getD j true) → HeadInv .any ops n listed → AAny P own pre N f lp σ → StR C σ a w →
      wpAny P .any ops Q (f + (ops.size - n)) listed a w := by
  have hrd : ∀ (lp listed : Array Bool), lp.size = n → (∀ j, j < n → lp.getD j true = listed.getD j true) → listed.size = ops.size → ∀ i, i < n → (i ∈ Region.ready .any pre lp ↔ i ∈ Region.ready .any ops listed) := by
    intro lp listed hl he hls i hi
    have hgd : ∀ j, j < n → lp.getD j false = listed.getD j false := fun j hj => by
      have := he j hj
      simp only [Array.getD_eq_getD_getElem?] at this ⊢
      rw [Array.getElem?_eq_getElem (by omega), Array.getElem?_eq_getElem (by omega)] at this ⊢
      simpa using this
    rw [mem_ready, mem_ready, hpre i hi, he i hi]
    constructor
    · rintro ⟨h1, o, ho, h2⟩
      exact ⟨h1, o, ho, fun e hem hb => by rw [← hgd e.on (Nat.lt_trans ((headB_at hh ho).1 e hem) hi)]; exact h2 e hem hb⟩
    · rintro ⟨h1, o, ho, h2⟩
      exact ⟨h1, o, ho, fun e hem hb => by rw [hgd e.on (Nat.lt_trans ((headB_at hh ho).1 e hem) hi)]; exact h2 e hem hb⟩
  have hmin : ∀ (listed : Array Bool), listed.size = ops.size → (∃ i, i < n ∧ listed.getD i true = false) → ∃ i, i < n ∧ i ∈ Region.ready .any ops listed := by
    intro listed hls hex
    obtain ⟨i, ⟨hin, hun⟩, hle⟩ := least (fun i => i < n ∧ listed.getD i true = false) hex
    have hoi : ops[i]? = some ops[i] := Array.getElem?_eq_getElem (by omega)
    refine ⟨i, hin, mem_ready.2 ⟨hun, ops[i], hoi, fun e he _ => ?_⟩⟩
    have h1 := (headB_at hh hoi).1 e he
    cases hl : listed.getD e.on false with
    | true => rfl
    | false =>
      have := hle e.on ⟨by omega, getD_in (by omega) hl⟩
      omega
  intro f
  induction f with
  | zero =>
    intro lp listed σ a w hl he inv h hS
    have hall : ∀ j, j < n → listed.getD j false = true := fun j hj => by
      cases hjl : listed.getD j false with
      | true => rfl
      | false =>
        obtain ⟨i, hin, hir⟩ := hmin listed inv.size ⟨j, hj, getD_in (by rw [inv.size]; omega) hjl⟩
        have := (hrd lp listed hl he inv.size i hin).2 hir
        rw [h.1] at this
        cases this
    rw [Nat.zero_add]
    exact any_tail hh hc (ops.size - n) n _ listed a w (by omega) (Nat.le_refl _) (Nat.le_refl _) inv.size hall (fun j h1 h2 => inv.tail j h1 h2) (hN σ a w h.2 hS)
  | succ f ih =>
    intro lp listed σ a w hl he inv h hS
    by_cases hex : ∃ i, i < n ∧ listed.getD i true = false
    · obtain ⟨i0, h01, h02⟩ := hex
      obtain ⟨i1, h11, h12⟩ := hmin listed inv.size ⟨i0, h01, h02⟩
      rw [show f + 1 + (ops.size - n) = (f + (ops.size - n)) + 1 by omega]
      refine ⟨fun h0 => (by rw [h0] at h12; cases h12), fun i hi => ?_⟩
      have hin : i < n := by
        rcases Nat.lt_or_ge i n with h1 | h1
        · exact h1
        · exact absurd hi (tail_waits hs hc hn inv (n - i0) i0 rfl h01 h02 i h1)
      obtain ⟨_, o, ho, _⟩ := mem_ready.1 hi
      have hg := (headB_at hh ho).2 hin
      have hip := (hrd lp listed hl he inv.size i hin).2 hi
      have hA := h.2 i hip o (by rw [hpre i hin]; exact ho)
      have hA' : @aop P own ops.toList o σ ⟨AAny P own pre N f (lp.setIfInBounds i true)⟩ := by
        unfold aop at hA ⊢
        rw [hg] at hA ⊢
        exact hA
      refine wpOp_mono (fun a' w' => ?_) (aop_sound ho hA' hS)
      rintro ⟨σ', h1, h2⟩
      refine ih _ _ σ' a' w' (by simp [hl]) (fun j hj => ?_) (inv.set hi hin) h1 h2
      by_cases hji : j = i
      · subst hji
        simp [hl, hj, inv.size, show j < ops.size by omega]
      · rw [getD_set_ne true (by omega), getD_set_ne true (by omega)]
        exact he j hj
    · have hall : ∀ j, j < n → listed.getD j false = true := fun j hj => by
        cases hjl : listed.getD j false with
        | true => rfl
        | false => exact absurd ⟨j, hj, getD_in (by rw [inv.size]; omega) hjl⟩ hex
      have h0 : Region.ready .any pre lp = [] := by
        rw [List.eq_nil_iff_forall_not_mem]
        intro i hi
        have hip : i < n := by
          obtain ⟨_, o, ho, _⟩ := mem_ready.1 hi
          have := (Array.getElem?_eq_some_iff.1 ho).1
          omega
        obtain ⟨hun, _⟩ := mem_ready.1 ((hrd lp listed hl he inv.size i hip).1 hi)
        have := hall i hip
        rw [getD_both hun] at this
        cases this
      exact any_tail hh hc (ops.size - n) n _ listed a w (by omega) (Nat.le_refl _) (by omega) inv.size hall (fun j h1 h2 => inv.tail j h1 h2) (hN σ a w (h.1 h0) hS)

/-- a region whose order is drawn, its last operations one after another; between the two parts the state may be weakened. -/
theorem swp_split {id : Nat} {σ : St} {N : HN} {E : HE} {Rt : HR} (suf : List Oper) (hap : ops.toList = pre.toList ++ suf) (s : Sch) (tb : List Inf) (hm : P.follows .mixedOrders = true) (hok : s.fits P own pre tb = true) (hsp : (headB ops pre.size && (Region.sinkB .any ops pre.size && (Region.chainB .any ops pre.size && decide (pre.size < ops.size)))) = true)
    (h : @ASch P own pre.toList s σ ⟨fun σ' => ∃ σ'', Le σ' σ'' ∧ @AOps P own ops.toList suf σ'' N⟩) : @SWp P (.region id ops true) σ N E Rt := by
  intro C a w hS
  simp only [Bool.and_eq_true, decide_eq_true_eq] at hsp
  obtain ⟨hh, hs, hc, hn⟩ := hsp
  unfold Sch.fits at hok
  rw [Bool.and_eq_true] at hok
  obtain ⟨h1, h2⟩ := hok
  have htb := tbOk_eq pre.toList tb h1
  subst htb
  rw [show (pre.toList.map (infOf P own pre)).length = pre.size by simp] at h2
  have hf : Fits pre (Array.replicate pre.size false) 0 := ⟨by simp, fun j => by
    simp only [Array.getD_eq_getD_getElem?, Array.getElem?_replicate, Nat.zero_testBit]
    split <;> rfl⟩
  have hA := (asch_any s true pre.size _ 0 σ hf h2 h).1 rfl
  have hsuf : suf.length = ops.size - pre.size := by
    have := congrArg List.length hap
    simp at this
    omega
  refine wp_region_any hm ?_
  have hpre : ∀ j, j < pre.size → pre[j]? = ops[j]? := fun j hj => by
    have : ops.toList[j]? = pre.toList[j]? := by rw [hap, List.getElem?_append_left (by simpa using hj)]
    simpa using this.symm
  have hinv : HeadInv .any ops pre.size (Array.replicate ops.size false) := ⟨by simp, fun j oj hj hl => (by rw [getD_replicate_false] at hl; cases hl), fun t h1 h2 => by simp [h2]⟩
  have := aany_split (P := P) (own := own) (ops := ops) (pre := pre) (n := pre.size) (C := C) (Q := APost C N.k E.k (fun σ => Rt.k σ ())) hpre rfl hn hh hs hc (fun σ' a w hN hS => by
    obtain ⟨σ'', hle, hA⟩ := hN
    have := aops_sound (P := P) (own := own) (ops := ops) (Q := APost C N.k E.k (fun σ => Rt.k σ ())) (C := C) (fun σ a w hN hS => ⟨σ, hN, hS⟩) suf pre.size σ'' a w (by rw [hap]; simp) hA (hle C a w hS)
    rwa [hsuf] at this) pre.size (Array.replicate pre.size false) (Array.replicate ops.size false) σ a { w with drawn := w.drawn + 1 } (by simp) (fun j hj => by simp [hj, show j < ops.size by omega]) hinv hA hS.drawn
  rwa [show pre.size + (ops.size - pre.size) = ops.size by omega] at this
end
end Aw
end Go.Proofs.Ytkmbbbemmohmcaa

namespace Go.Proofs.Ytkmbbbemmohmcaa
namespace Aw
open Go.RowKit

section
variable {P : Program} {ops : Array Oper} {Q Q' : Exit → Act → World → Prop} {l n : Nat}

abbrev Rd (l : Nat) : Fence := Fence.wide.inRound l

/-- what is not written is kept. -/
def Kept (W : List Nat) (a0 a : Act) : Prop := a.tmps.size = a0.tmps.size ∧ ∀ t, t ∉ W → a.tmps[t]? = a0.tmps[t]?

theorem Kept.refl (W : List Nat) (a : Act) : Kept W a a := ⟨rfl, fun _ _ => rfl⟩
theorem Kept.trans {W : List Nat} {a b c : Act} (h : Kept W a b) (k : Kept W b c) : Kept W a c := ⟨k.1.trans h.1, fun t ht => (k.2 t ht).trans (h.2 t ht)⟩
theorem Kept.put {W : List Nat} {a0 a : Act} (h : Kept W a0 a) {d : Option Tmp} (hd : ∀ x, d = some x → x ∈ W) (v : Value) : Kept W a0 (a.put d v) := ⟨(put_size a d v).trans h.1, fun t ht => by
  rw [put_get a d v t (fun e => ht (hd t e))]; exact h.2 t ht⟩

def okO (W : List Nat) (o : Oper) : Bool := (match o.dst with | some d => W.contains d | none => true) && (match o.op with | .defer _ => false | _ => true)

theorem okO_dst {W : List Nat} {o : Oper} (h : okO W o = true) : ∀ x, o.dst = some x → x ∈ W := by
  intro x hx
  unfold okO at h
  rw [hx] at h
  simp only [Bool.and_eq_true] at h
  simpa using h.1
theorem okO_def {W : List Nat} {o : Oper} (h : okO W o = true) : ∀ c, o.op ≠ .defer c := by
  intro c hc
  unfold okO at h
  rw [hc] at h
  simp at h

theorem rowsIn_wide {row : String} {args : Array Value} {w : World} {R : Value → World → Prop} (h : Rows P row args w R) : RowsIn Fence.wide n P row args w R :=
  fun c cs _ => let ⟨v, w', r, s⟩ := h c cs; ⟨v, w', r, stepsIn_wide.2 s⟩

/-- only the normal end. -/
def Nrm (Q : Exit → Act → World → Prop) : Prop := ∀ e a w, Q e a w → e = .normal

/-- what an operation does in a function it does in a round. -/
theorem opIn_of {W : List Nat} {o : Oper} {a0 a : Act} {w : World} {K : Act → World → Prop} (ho : okO W o = true) (hk : Kept W a0 a) (hq : Nrm Q) (h : o.wp P a w K Q) :
    o.wpIn (Rd l) n P a w (fun a' w' => Kept W a0 a' ∧ K a' w') Q' := by
  unfold Oper.wpIn
  refine ⟨fun _ _ => trivial, ?_⟩
  rw [show (Rd l).round = some l from rfl, Oper.semAt_some l a.eval o (okO_def ho)]
  unfold Oper.wp at h
  have hput : ∀ v, Kept W a0 (a.put o.dst v) := fun v => hk.put (okO_dst ho) v
  generalize (execOp a.eval o).run P w = r at h ⊢
  cases r with
  | ok x w' =>
    cases x with
    | value v => exact ⟨hput v, h⟩
    | skip => exact ⟨hput _, h⟩
    | «defer» d => exact ⟨(show Kept W a0 { a with defers := d :: a.defers } from hk).put (okO_dst ho) _, h⟩
    | enter f args =>
      refine ⟨fun hd => (by cases hd), ?_⟩
      have h1 : CallsIn Fence.wide (n - 1) P f args w' _ := callsIn_wide.2 h
      refine CallsIn.mono (F := Rd l) h1 fun e w'' he => ?_
      cases e with
      | returned v => exact ⟨hput v, he⟩
      | panicked ch => have := hq _ _ _ he; cases this
      | outgrown => obtain ⟨a1, w1, he⟩ := he; have := hq _ _ _ he; cases this
    | row rw args =>
      refine ⟨fun hd => (by cases hd), ?_⟩
      exact RowsIn.mono (F := Rd l) (rowsIn_wide h) fun v w'' he => ⟨hput v, he⟩
    | _ => exact h.elim
  | halt x w' =>
    cases x with
    | panic v => have := hq _ _ _ h; cases this
    | _ => exact h.elim

theorem wpOpIn_of {W : List Nat} {i : Nat} {a0 a : Act} {w : World} {K : Act → World → Prop} (ho : ops.all (okO W) = true) (hk : Kept W a0 a) (hq : Nrm Q) (h : wpOp P ops Q i K a w) :
    wpOpIn (Rd l) n P ops Q' i (fun a' w' => Kept W a0 a' ∧ K a' w') a w := by
  unfold wpOp at h
  unfold wpOpIn
  cases hi : ops[i]? with
  | none => rw [hi] at h; exact ⟨hk, h⟩
  | some o =>
    rw [hi] at h
    have hoo : okO W o = true := by
      obtain ⟨hlt, he⟩ := Array.getElem?_eq_some_iff.1 hi
      rw [Array.all_eq_true] at ho
      rw [← he]; exact ho i hlt
    simp only at h ⊢
    split at h
    · rename_i hw
      rw [if_pos hw]
      rcases h with h | ⟨_, a1, w1, h⟩
      · exact opIn_of hoo hk hq h
      · have := hq _ _ _ h; cases this
    · rename_i hw
      rw [if_neg hw]
      exact ⟨fun _ _ => trivial, hk.put (okO_dst hoo) _, h⟩

/-- what holds behind a body, and what it has kept. -/
def KPost (W : List Nat) (a0 : Act) (Q : Exit → Act → World → Prop) : Exit → Act → World → Prop := fun e a w => e = .normal ∧ Kept W a0 a ∧ Q .normal a w

theorem wpOpsIn_of {W : List Nat} {a0 : Act} (ho : ops.all (okO W) = true) (hq : Nrm Q) : ∀ (L : List Nat) (a : Act) (w : World), Kept W a0 a → wpOps P ops Q L a w → wpOpsIn (Rd l) n P ops (KPost W a0 Q) L a w
  | [], a, w, hk, h => ⟨rfl, hk, h⟩
  | i :: L, a, w, hk, h => by
    rw [wpOps_cons] at h
    rw [wpOpsIn_cons]
    refine wpOpIn_mono (fun a' w' h' => ?_) (wpOpIn_of ho hk hq h)
    exact wpOpsIn_of ho hq L a' w' h'.1 h'.2

theorem wpAnyIn_of {W : List Nat} {a0 : Act} {md : Region.Mode} (ho : ops.all (okO W) = true) (hq : Nrm Q) : ∀ (f : Nat) (listed : Array Bool) (a : Act) (w : World), Kept W a0 a → wpAny P md ops Q f listed a w → wpAnyIn (Rd l) n P md ops (KPost W a0 Q) f listed a w
  | 0, listed, a, w, hk, h => ⟨h.1, rfl, hk, h.2⟩
  | f + 1, listed, a, w, hk, h => ⟨fun h0 => ⟨rfl, hk, h.1 h0⟩, fun i hi => wpOpIn_mono (fun a' w' h' => wpAnyIn_of ho hq f _ a' w' h'.1 h'.2) (wpOpIn_of ho hk hq (h.2 i hi))⟩

/-- what a body does in a round; W: the slots that it writes. -/
def SWpR (P : Program) (W : List Nat) (c : Code) (σ : St) [N : HN] : Prop :=
  ∀ (l n : Nat) (C : Ctx) (a : Act) (w : World), StR C σ a w → c.wpIn (Rd l) n P (KPost W a fun _ a' w' => ∃ σ', N.k σ' ∧ StR C σ' a' w') a w

/-- the end of a body. -/
def NQ (C : Ctx) (N : St → Prop) : Exit → Act → World → Prop := fun e a w => e = .normal ∧ ∃ σ, N σ ∧ StR C σ a w
theorem nq_nrm (C : Ctx) (N : St → Prop) : Nrm (NQ C N) := fun _ _ _ h => h.1

theorem kpost_nq {W : List Nat} {a0 : Act} {C : Ctx} {N : St → Prop} {e : Exit} {a : Act} {w : World} (h : KPost W a0 (NQ C N) e a w) : KPost W a0 (fun _ a' w' => ∃ σ', N σ' ∧ StR C σ' a' w') e a w := ⟨h.1, h.2.1, h.2.2.2⟩

theorem swpR_region {own W : List Nat} {id : Nat} {σ : St} {N : HN} (ho : ops.all (okO W) = true) (h : @AOps P own ops.toList ops.toList σ N) : @SWpR P W (.region id ops false) σ N := by
  intro l n C a w hS
  refine wpIn_mono (Q := KPost W a (NQ C N.k)) (wpIn_region ?_) fun _ _ _ => kpost_nq
  have := aops_sound (P := P) (own := own) (ops := ops) (Q := NQ C N.k) (fun σ a w hN hS => ⟨rfl, σ, hN, hS⟩) ops.toList 0 σ a w rfl h hS
  rw [Array.length_toList, ← List.range_eq_range'] at this
  exact wpOpsIn_of ho (nq_nrm C N.k) _ a w (Kept.refl W a) this

theorem swpR_draw {own W : List Nat} {id : Nat} {σ : St} {N : HN} (ho : ops.all (okO W) = true) (s : Sch) (tb : List Inf) (hm : P.follows .mixedOrders = true) (hok : s.fits P own ops tb = true) (h : @ASch P own ops.toList s σ N) :
    @SWpR P W (.region id ops true) σ N := by
  intro l n C a w hS
  unfold Sch.fits at hok
  rw [Bool.and_eq_true] at hok
  obtain ⟨h1, h2⟩ := hok
  have htb := tbOk_eq ops.toList tb h1
  subst htb
  rw [show (ops.toList.map (infOf P own ops)).length = ops.size by simp] at h2
  have hf : Fits ops (Array.replicate ops.size false) 0 := ⟨by simp, fun j => by
    simp only [Array.getD_eq_getD_getElem?, Array.getElem?_replicate, Nat.zero_testBit]
    split <;> rfl⟩
  refine wpIn_mono (Q := KPost W a (NQ C N.k)) (wpIn_region_any hm ?_) fun _ _ _ => kpost_nq
  exact wpAnyIn_of ho (nq_nrm C N.k) _ _ a _ (Kept.refl W a) (aany_sound (own := own) (Q := NQ C N.k) (fun σ a w hN hS => ⟨rfl, σ, hN, hS⟩) _ _ σ _ _ ((asch_any s true _ _ _ σ hf h2 h).1 rfl) hS.drawn)

/-- a region whose order is drawn, its last operations one after another; between the two parts the state may be weakened. -/
theorem swpR_split {own W : List Nat} {pre : Array Oper} {id : Nat} {σ : St} {N : HN} (ho : ops.all (okO W) = true) (suf : List Oper) (hap : ops.toList = pre.toList ++ suf) (s : Sch) (tb : List Inf) (hm : P.follows .mixedOrders = true) (hok : s.fits P own pre tb = true) (hsp : (headB ops pre.size && (Region.sinkB .any ops pre.size && (Region.chainB .any ops pre.size && decide (pre.size < ops.size)))) = true)
    (h : @ASch P own pre.toList s σ ⟨fun σ' => ∃ σ'', Le σ' σ'' ∧ @AOps P own ops.toList suf σ'' N⟩) : @SWpR P W (.region id ops true) σ N := by
  intro l n C a w hS
  simp only [Bool.and_eq_true, decide_eq_true_eq] at hsp
  obtain ⟨hh, hs, hc, hn⟩ := hsp
  unfold Sch.fits at hok
  rw [Bool.and_eq_true] at hok
  obtain ⟨h1, h2⟩ := hok
  have htb := tbOk_eq pre.toList tb h1
  subst htb
  rw [show (pre.toList.map (infOf P own pre)).length = pre.size by simp] at h2
  have hf : Fits pre (Array.replicate pre.size false) 0 := ⟨by simp, fun j => by
    simp only [Array.getD_eq_getD_getElem?, Array.getElem?_replicate, Nat.zero_testBit]
    split <;> rfl⟩
  have hA := (asch_any s true pre.size _ 0 σ hf h2 h).1 rfl
  have hsuf : suf.length = ops.size - pre.size := by
    have := congrArg List.length hap
    simp at this
    omega
  refine wpIn_mono (Q := KPost W a (NQ C N.k)) (wpIn_region_any hm ?_) fun _ _ _ => kpost_nq
  have hpre : ∀ j, j < pre.size → pre[j]? = ops[j]? := fun j hj => by
    have : ops.toList[j]? = pre.toList[j]? := by rw [hap, List.getElem?_append_left (by simpa using hj)]
    simpa using this.symm
  have hinv : HeadInv .any ops pre.size (Array.replicate ops.size false) := ⟨by simp, fun j oj hj hl => (by rw [getD_replicate_false] at hl; cases hl), fun t h1 h2 => by simp [h2]⟩
  have := aany_split (P := P) (own := own) (ops := ops) (pre := pre) (n := pre.size) (C := C) (Q := NQ C N.k) hpre rfl hn hh hs hc (fun σ' a w hN hS => by
    obtain ⟨σ'', hle, hA⟩ := hN
    have := aops_sound (P := P) (own := own) (ops := ops) (Q := NQ C N.k) (C := C) (fun σ a w hN hS => ⟨rfl, σ, hN, hS⟩) suf pre.size σ'' a w (by rw [hap]; simp) hA (hle C a w hS)
    rwa [hsuf] at this) pre.size (Array.replicate pre.size false) (Array.replicate ops.size false) σ a { w with drawn := w.drawn + 1 } (by simp) (fun j hj => by simp [hj, show j < ops.size by omega]) hinv hA hS.drawn
  rw [show pre.size + (ops.size - pre.size) = ops.size by omega] at this
  exact wpAnyIn_of ho (nq_nrm C N.k) _ _ a _ (Kept.refl W a) this

theorem swpR_seq {W : List Nat} {x y : Code} {σ : St} {N : HN} (h : @SWpR P W x σ ⟨fun σ' => @SWpR P W y σ' N⟩) : @SWpR P W (.seq x y) σ N := by
  intro l n C a w hS
  refine wpIn_seq (wpIn_mono (h l n C a w hS) ?_)
  rintro e a' w' ⟨rfl, hk, σ', h1, h2⟩
  refine wpIn_mono (h1 l n C a' w' h2) ?_
  rintro e a'' w'' ⟨rfl, hk', h3⟩
  exact ⟨rfl, hk.trans hk', h3⟩

theorem swpR_block {W : List Nat} {id : Nat} {x : Code} {σ : St} {N : HN} (h : @SWpR P W x σ N) : @SWpR P W (.block id x) σ N := by
  intro l n C a w hS
  refine wpIn_block (wpIn_mono (h l n C a w hS) ?_)
  rintro e a' w' ⟨rfl, hk, h3⟩
  exact ⟨rfl, hk, h3⟩

theorem swpR_le {W : List Nat} {c : Code} {N : HN} {σ σ' : St} (h : Le σ σ') (hs : @SWpR P W c σ' N) : @SWpR P W c σ N := fun l n C a w hS => hs l n C a w (h C a w hS)

theorem swpR_mono {W : List Nat} {c : Code} {N N' : HN} {σ : St} (h : ∀ σ, N.k σ → N'.k σ) (hs : @SWpR P W c σ N) : @SWpR P W c σ N' := fun l n C a w hS => by
  refine wpIn_mono (hs l n C a w hS) ?_
  rintro e a' w' ⟨rfl, hk, σ', h1, h2⟩
  exact ⟨rfl, hk, σ', h σ' h1, h2⟩

end
end Aw
end Go.Proofs.Ytkmbbbemmohmcaa

namespace Go.Proofs.Ytkmbbbemmohmcaa
namespace Aw
open Go.RowKit
set_option linter.unusedSimpArgs false

section
variable {P : Program}

/-- the calls that are put off do not matter to a state. -/
theorem StR.dl {C : Ctx} {σ : St} {a : Act} {w : World} (h : StR C σ a w) (ds : List Deferred) : StR { C with dl := ds } σ { a with defers := ds } w := by
  obtain ⟨hv, hd, hsz, hsl, hM, hF⟩ := h
  exact ⟨hv, rfl, hsz, hsl, hM, ⟨hF.os, hF.tape, hF.output, hF.size, hF.block, hF.own, hF.aold, hF.dis⟩⟩

/-- the context D lies inside C but for the calls that are put off. -/
def SubD (C D : Ctx) : Prop := Sub C { D with dl := C.dl }

theorem SubD.refl (C : Ctx) (ha : ∀ b, C.A b → b < C.w0.heap.size) (hd : ∀ b, C.A b → ¬ C.In b) : SubD C C := ⟨fun _ h => h, rfl, rfl, rfl, Nat.le_refl _, fun _ _ _ => rfl, fun _ h => .inl h, ha, hd, rfl⟩
theorem SubD.trans {C D E : Ctx} (h : SubD C D) (k : SubD D E) : SubD C E := by
  refine ⟨fun b hb => k.a b (h.a b hb), k.os.trans h.os, k.tape.trans h.tape, k.output.trans h.output, Nat.le_trans h.size k.size, fun b hb hn => ?_, fun b hb => ?_, h.aold, h.dis, rfl⟩
  · refine (k.block b (Nat.lt_of_lt_of_le hb h.size) (fun hi => ?_)).trans (h.block b hb hn)
    rcases h.inn b hi with h1 | h1
    · exact hn h1
    · omega
  · rcases k.inn b hb with h1 | h1
    · exact h.inn b h1
    · exact .inr (Nat.le_trans h.size h1)
theorem Sub.subD {C D : Ctx} (h : Sub C D) : SubD C D := ⟨h.a, h.os, h.tape, h.output, h.size, h.block, h.inn, h.aold, h.dis, rfl⟩
theorem SubD.with {C D : Ctx} (h : SubD C D) (ds : List Deferred) : SubD C { D with dl := ds } := h

/-- one block that is not the calls' own is changed by the machine: a new context. -/
theorem rebase {C D : Ctx} (h : SubD C D) {σ : St} {a : Act} {w w2 : World} (hS : StR D σ a w) {r : Nat} (hr : D.A r) (hge : C.w0.heap.size ≤ r) (hsame : ∀ b, b ≠ r → w2.heap[b]? = w.heap[b]?) (hsize : w2.heap.size = w.heap.size)
    (ho : w2.os = w.os ∧ w2.tape = w.tape ∧ w2.output = w.output) : ∃ D' : Ctx, D'.w0 = w2 ∧ D'.A = D.A ∧ D'.dl = D.dl ∧ SubD C D' ∧ StR D' σ a w2 := by
  obtain ⟨hv, hd, hsz, hsl, hM, hF⟩ := hS
  have hnr : ¬ Own hv r := fun h' => hF.sep h' hr
  have hk : Keeps w (OwnA D.A hv) w2 (OwnA D.A hv) := ⟨by rw [hsize]; exact Nat.le_refl _, fun b _ hT => hsame b (by rintro rfl; exact hT (.inl hr)), fun b _ h => h⟩
  refine ⟨⟨w2, Own hv, D.A, D.dl⟩, rfl, rfl, rfl, ⟨h.a, ho.1.trans (hF.os.trans h.os), ho.2.1.trans (hF.tape.trans h.tape), ho.2.2.trans (hF.output.trans h.output), ?_, fun b hb hn => ?_, fun b hb => ?_, h.aold, h.dis, rfl⟩, hv, hd, hsz, fun i x hx => ?_, MemR.keep hM hk (fun b hb => hsame b (by rintro rfl; exact hnr hb)) (by omega), ⟨rfl, rfl, rfl, Nat.le_refl _, fun _ _ _ => rfl, fun b hb => .inl hb, fun b hb => ?_, fun b hA hO => hF.sep hO hA⟩⟩
  · show C.w0.heap.size ≤ w2.heap.size
    rw [hsize]
    exact Nat.le_trans h.size hF.size
  · have hbr : b ≠ r := by rintro rfl; omega
    refine (hsame b hbr).trans ((hF.block b (Nat.lt_of_lt_of_le hb h.size) (fun h' => ?_)).trans (h.block b hb hn))
    rcases h.inn b h' with h' | h'
    · exact hn h'
    · omega
  · rcases hF.own b hb with h' | h'
    · exact h.inn b h'
    · exact .inr (Nat.le_trans h.size h')
  · obtain ⟨v, g1, g2⟩ := hsl i x hx
    have := RV_keep hk x [] hv hv v (fun _ _ _ h => h) g2
    rw [AV.kill_nil] at this
    exact ⟨v, g1, this⟩
  · show b < w2.heap.size
    rw [hsize]
    exact hM.old b hb

theorem rebase_obj {C D : Ctx} (h : SubD C D) {σ : St} {a : Act} {w : World} (hS : StR D σ a w) {r : Nat} (o : Obj) (hr : D.A r) (hge : C.w0.heap.size ≤ r) : ∃ D' : Ctx, D'.w0 = w.putObj r o ∧ D'.A = D.A ∧ D'.dl = D.dl ∧ SubD C D' ∧ StR D' σ a (w.putObj r o) :=
  rebase h hS hr hge (fun _ hb => World.putObj_heap_other hb) World.putObj_size ⟨rfl, rfl, rfl⟩

/-- what is kept away from stays. -/
theorem StR.at {D : Ctx} {σ : St} {a : Act} {w : World} (hS : StR D σ a w) {b : Nat} (hb : D.A b) : w.heap[b]? = D.w0.heap[b]? := by
  obtain ⟨hv, _, _, _, _, hF⟩ := hS
  exact hF.block b (hF.aold b hb) (hF.dis b hb)

def mark (b : Nat) : Deferred := { target := .collected b, args := #[] }

/-- the marks that a range over a function leaves among the calls that are put off. -/
def Good (B : Nat) (D : Ctx) : Prop := ∃ ms : List Nat, ms.Nodup ∧ D.dl = ms.map mark ∧ ∀ b ∈ ms, D.A b ∧ B ≤ b ∧ D.w0.heap[b]? = some (.deferred (some []))

/-- the two blocks of a range over a function are laid. -/
theorem enter_blocks {C : Ctx} {σ : St} {a : Act} {w : World} (hS : StR C σ a w) (o1 o2 : Obj) :
    ∃ D : Ctx, D.w0 = (w.alloc o1).alloc o2 ∧ (∀ b, D.A b ↔ C.A b ∨ b = w.heap.size ∨ b = w.heap.size + 1) ∧ D.dl = C.dl ∧ SubD C D ∧ C.w0.heap.size ≤ w.heap.size ∧ StR D σ a ((w.alloc o1).alloc o2) := by
  obtain ⟨hv, hd, hsz, hsl, hM, hF⟩ := hS
  obtain ⟨w2, hw2⟩ : ∃ w2, w2 = (w.alloc o1).alloc o2 := ⟨_, rfl⟩
  have hsize : w2.heap.size = w.heap.size + 2 := by rw [hw2]; simp
  have hold : ∀ b, b < w.heap.size → w2.heap[b]? = w.heap[b]? := fun b hb => by
    rw [hw2]
    rw [heap_alloc_old _ _ (by simp; omega), heap_alloc_old _ _ hb]
  have ho : w2.os = w.os ∧ w2.tape = w.tape ∧ w2.output = w.output := by rw [hw2]; exact ⟨rfl, rfl, rfl⟩
  rw [← hw2]
  let DA : Nat → Prop := fun b => C.A b ∨ b = w.heap.size ∨ b = w.heap.size + 1
  have hk : Keeps w (OwnA C.A hv) w2 (OwnA DA hv) := ⟨by omega, fun b hb _ => hold b hb, fun b hb hT => by
    rcases hT with (h | h | h) | h
    · exact .inl h
    · omega
    · omega
    · exact .inr h⟩
  have hM2 : MemR DA w2 hv σ.M := by
    refine ⟨fun i ob h => ?_, hM.dom, hM.inj, fun b hb => ?_⟩
    · obtain ⟨v, h1, h2⟩ := hM.live i ob h
      have := ObR_keep (Z := []) hk (fun _ _ _ h => h) (fun b hb => hold b (hM.own_lt ⟨i, v, h1, hb⟩)) h2
      rw [show Ob.kill [] ob = ob by cases ob; simp [Ob.kill, AV.killL_nil]] at this
      exact ⟨v, h1, this⟩
    · rcases hb with h | h | h
      · have := hM.old b h; omega
      · omega
      · omega
  refine ⟨⟨w2, Own hv, DA, C.dl⟩, rfl, fun b => Iff.rfl, rfl, ⟨fun b h => .inl h, ho.1.trans hF.os, ho.2.1.trans hF.tape, ho.2.2.trans hF.output, ?_, fun b hb hn => (hold b (Nat.lt_of_lt_of_le hb hF.size)).trans (hF.block b hb hn), fun b hb => hF.own b hb, hF.aold, hF.dis, rfl⟩, hF.size, hv, hd, hsz, fun i x hx => ?_, hM2, ⟨rfl, rfl, rfl, Nat.le_refl _, fun _ _ _ => rfl, fun b hb => .inl hb, fun b hb => hM2.old b hb, fun b hb hO => ?_⟩⟩
  · show C.w0.heap.size ≤ w2.heap.size
    have := hF.size
    omega
  · obtain ⟨v, g1, g2⟩ := hsl i x hx
    have := RV_keep hk x [] hv hv v (fun _ _ _ h => h) g2
    rw [AV.kill_nil] at this
    exact ⟨v, g1, this⟩
  · have hlt := hM.own_lt hO
    rcases hb with h | h | h
    · exact hF.sep hO h
    · omega
    · omega

/-- slots that are written are forgotten. -/
def mask (W : List Nat) (sl : List AV) : List AV := (List.range sl.length).map fun i => if W.contains i then .bot else sl.getD i .bot

theorem mask_get {W : List Nat} {sl : List AV} {i : Nat} {x : AV} (h : (mask W sl)[i]? = some x) : i < sl.length ∧ (x = .bot ∨ (i ∉ W ∧ sl[i]? = some x)) := by
  unfold mask at h
  rw [List.getElem?_map] at h
  simp only [Option.map_eq_some_iff] at h
  obtain ⟨j, hj, rfl⟩ := h
  obtain ⟨hl, hj'⟩ := List.getElem?_eq_some_iff.1 hj
  simp only [List.length_range] at hl
  simp only [List.getElem_range] at hj'
  subst hj'
  refine ⟨hl, ?_⟩
  split
  · exact .inl rfl
  · rename_i hc
    refine .inr ⟨by simpa using hc, ?_⟩
    rw [List.getD_eq_getElem?_getD, List.getElem?_eq_getElem hl]
    rfl

theorem StR.mask {W : List Nat} {D : Ctx} {σ : St} {a a0 : Act} {w : World} (h : StR D σ a w) (hk : Kept W a0 a) (ds : List Deferred) : StR { D with dl := ds } ⟨Aw.mask W σ.sl, σ.M⟩ { a0 with defers := ds } w := by
  obtain ⟨hv, hd, hs, hsl, hM, hF⟩ := h
  have hsz := hk.1
  refine ⟨hv, rfl, ?_, fun i x hx => ?_, hM, ⟨hF.os, hF.tape, hF.output, hF.size, hF.block, hF.own, hF.aold, hF.dis⟩⟩
  · simp only [Aw.mask, List.length_map, List.length_range]; omega
  · obtain ⟨hl, rfl | ⟨hn, hx⟩⟩ := mask_get hx
    · have hl2 : i < a0.tmps.size := by omega
      exact ⟨a0.tmps[i], Array.getElem?_eq_getElem hl2, by simp [RV]⟩
    · obtain ⟨v, h1, h2⟩ := hsl i x hx
      exact ⟨v, by rw [← hk.2 i hn]; exact h1, h2⟩
end
end Aw
end Go.Proofs.Ytkmbbbemmohmcaa

namespace Go.Proofs.Ytkmbbbemmohmcaa
namespace Aw
open Go.RowKit
set_option linter.unusedSimpArgs false

section
variable {P : Program}

/-- what is asked of an iterator with N rounds: BX: what it reads, from the box. -/
def Iter (P : Program) (g : Nat) (N : Nat) (enc : Nat → Array Value) (BX : World → Nat → Prop) : Prop :=
  (∀ args w, (callFunc g args).run P w = .ok (.enter g args) w) ∧
  ∀ (l Bs : Nat) (J : Nat → World → Prop), (∀ k W, k < N → J k W → YieldAt Fence.wide 3 P l (enc k) W fun e W' => e = .returned (.bool true) ∧ J (k + 1) W') → (∀ k W, J k W → BX W Bs) →
    ∀ W, J 0 W → CallsIn Fence.wide 4 P g #[.func (.yield l) #[] #[], .pointer (some ⟨Bs, 0, none⟩)] W fun e W' => (∃ v, e = .returned v) ∧ J N W'

set_option maxHeartbeats 1000000 in
theorem rf_sound {g : Operand} {gB : Nat} {p1 p2 : Tmp} {assign body : Code} {W : List Nat} {N : Nat} {v1 v2 : Nat → Value} {x1 x2 : Nat → AV} {BX : World → Nat → Prop} (S : Nat → St) {B : Nat} {C0 C : Ctx} {a : Act} {w : World}
    (hit : Iter P gB N (fun k => #[v1 k, v2 k]) BX) (hgd : Good B C) (hB : B ≤ C.w0.heap.size) (hS : StR C (S 0) a w)
    (hbox : ∀ k C a w, StR C (S k) a w → ∃ Bs, a.eval g = .func (.func gB) #[] #[.pointer (some ⟨Bs, 0, none⟩)] ∧ BX w Bs)
    (hp1 : p1 ∈ W) (hp2 : p2 ∈ W) (hx1 : ∀ k w T hv, RV w T hv (x1 k) (v1 k)) (hx2 : ∀ k w T hv, RV w T hv (x2 k) (v2 k))
    (round : ∀ k, k < N → @SWpR P W assign ⟨((S k).sl.set p1 (x1 k)).set p2 (x2 k), (S k).M⟩ ⟨fun σ1 => @SWpR P W body σ1 ⟨fun σ2 => Le ⟨mask W σ2.sl, σ2.M⟩ (S (k + 1))⟩⟩) :
    (Code.rangeFunc g #[p1, p2] assign body).wp P (fun e a' w' => e = .normal ∧ ∃ D, SubD C D ∧ Good B D ∧ StR D (S N) a' w') a w := by
  refine (wpIn_wide (n := 5)).1 (wpIn_rangeFunc ?_)
  intro fn hfn
  obtain ⟨Bs, hg, hbx⟩ := hbox 0 C a w hS
  obtain ⟨rec, hrec⟩ : ∃ rec : LoopState → Loop, rec = fun st => { state := st, pending := none, fn, tmps := a.tmps, params := #[p1, p2], assign, body, defers := w.heap.size } := ⟨_, rfl⟩
  obtain ⟨D1, d1, d2, d3, d4, d5, d6⟩ := enter_blocks hS (.deferred (some [])) (.loop (rec .ready))
  obtain ⟨W1, hW1⟩ : ∃ W1, (w.alloc (.deferred (some []))).alloc (.loop (rec .ready)) = W1 := ⟨_, rfl⟩
  rw [hW1] at d1 d6
  have hL1 : W1.heap[w.heap.size + 1]? = some (.loop (rec .ready)) := by
    rw [← hW1]; have := World.alloc_heap_new (w.alloc (.deferred (some []))) (.loop (rec .ready)); rwa [World.size_alloc] at this
  have hK1 : W1.heap[w.heap.size]? = some (.deferred (some [])) := by
    rw [← hW1]; exact (Below.heap_alloc _ _ _ (by simp)).trans (World.alloc_heap_new w _)
  -- what holds between two rounds
  let J : Nat → World → Prop := fun k W => ∃ D, SubD C D ∧ D.dl = C.dl ∧ (∀ b, D.A b ↔ C.A b ∨ b = w.heap.size ∨ b = w.heap.size + 1) ∧ W.heap[w.heap.size]? = some (.deferred (some [])) ∧ W.heap[w.heap.size + 1]? = some (.loop (rec .ready)) ∧
    StR D (S k) a W
  have hdl : a.defers = C.dl := by obtain ⟨_, h, _⟩ := hS; exact h
  have h0 : J 0 W1 := ⟨D1, d4, d3, d2, hK1, hL1, d6⟩
  have hJB : ∀ k W, J k W → BX W Bs := fun k W hJ => by
    obtain ⟨D, _, _, _, _, _, hs⟩ := hJ
    obtain ⟨Bs', hg', hbx'⟩ := hbox k D a W hs
    rw [hg] at hg'
    injection hg' with _ _ hg'
    simp only [Array.mk.injEq, List.cons.injEq, Value.pointer.injEq, Option.some.injEq, Addr.mk.injEq, and_true] at hg'
    rw [hg']
    exact hbx'
  have hstep : ∀ k W, k < N → J k W → YieldAt Fence.wide 3 P (w.heap.size + 1) #[v1 k, v2 k] W fun e W' => e = .returned (.bool true) ∧ J (k + 1) W' := by
    rintro k V hk ⟨D, e1, e2, e3, e4, e5, e6⟩
    have hy : (Instr.yield (w.heap.size + 1) #[v1 k, v2 k]).run P V = .ok (.round (w.heap.size + 1) fn ((a.tmps.setIfInBounds p1 (v1 k)).setIfInBounds p2 (v2 k)) assign body) V := by
      have hy := run_yield (P := P) (args := #[v1 k, v2 k]) e5 (by rw [hrec]; rfl)
      rw [hrec] at hy
      simpa using hy
    refine ⟨fn, _, assign, body, hy, roundIn_of_wpIn hfn ?_⟩
    have hst : StR { D with dl := [] } ⟨((S k).sl.set p1 (x1 k)).set p2 (x2 k), (S k).M⟩ { tmps := (a.tmps.setIfInBounds p1 (v1 k)).setIfInBounds p2 (v2 k), defers := [] } V :=
      (((e6.dl []).put1 (n := p1) (v := v1 k) fun hv _ _ => hx1 k _ _ _).put1 (n := p2) (v := v2 k) fun hv _ _ => hx2 k _ _ _)
    have hk1 : Kept W a { tmps := (a.tmps.setIfInBounds p1 (v1 k)).setIfInBounds p2 (v2 k), defers := [] } := ⟨by simp, fun t ht => by
      show ((a.tmps.setIfInBounds p1 (v1 k)).setIfInBounds p2 (v2 k))[t]? = a.tmps[t]?
      rw [Array.getElem?_setIfInBounds_ne (by rintro rfl; exact ht hp2), Array.getElem?_setIfInBounds_ne (by rintro rfl; exact ht hp1)]⟩
    refine wpIn_mono (round k hk (w.heap.size + 1) 3 _ _ V hst) ?_
    rintro e a1 V1 ⟨rfl, hka, σ1, hb, hs1⟩
    have hA : D.A (w.heap.size + 1) := (e3 _).2 (.inr (.inr rfl))
    have hA0 : D.A w.heap.size := (e3 _).2 (.inr (.inl rfl))
    have hkeep : ∀ {b}, D.A b → V1.heap[b]? = V.heap[b]? := fun {b} hb' => (StR.at (D := { D with dl := [] }) hs1 hb').trans (e6.at hb').symm
    have hl1 : V1.heap[w.heap.size + 1]? = some (.loop (rec .ready)) := (hkeep hA).trans e5
    refine ⟨_, run_beginRound hl1 (by rw [hrec]), ?_⟩
    obtain ⟨D2, f1, f2, f3, f4, f5⟩ := rebase_obj (C := C) (D := { D with dl := [] }) (e1.with []) hs1 (r := w.heap.size + 1) (.loop { rec .ready with state := .busy }) hA (Nat.le_succ_of_le d5)
    refine wpIn_mono (hb (w.heap.size + 1) 3 D2 a1 _ f5) ?_
    rintro e a3 V3 ⟨rfl, hkb, σ3, hle, hs3⟩
    have hA2 : ∀ {b}, D.A b → D2.A b := fun {b} hb' => by rw [f2]; exact hb'
    have hlt : w.heap.size + 1 < V1.heap.size := (Array.getElem?_eq_some_iff.1 hl1).1
    have hl3 : V3.heap[w.heap.size + 1]? = some (.loop (rec .busy)) := by
      refine (hs3.at (hA2 hA)).trans ?_
      rw [f1, World.putObj_heap_same hlt, hrec]
    refine ⟨_, _, run_endRound (P := P) none hl3, rfl, ?_⟩
    obtain ⟨D3, g1, g2, g3, g4, g5⟩ := rebase_obj (C := C) (D := D2) f4 hs3 (r := w.heap.size + 1) (.loop { rec .busy with state := .ready, pending := none }) (hA2 hA) (Nat.le_succ_of_le d5)
    have hk3 : Kept W a a3 := hk1.trans (hka.trans hkb)
    have hfin := hle _ _ _ (g5.mask hk3 C.dl)
    refine ⟨{ D3 with dl := C.dl }, g4.with _, rfl, fun b => by rw [← e3]; show D3.A b ↔ _; rw [g2, f2], ?_, ?_, ?_⟩
    · show (V3.putObj _ _).heap[_]? = _
      rw [World.putObj_heap_other (by omega), hs3.at (hA2 hA0), f1, World.putObj_heap_other (by omega), hkeep hA0, e4]
    · show (V3.putObj _ _).heap[_]? = _
      have hlt3 : w.heap.size + 1 < V3.heap.size := (Array.getElem?_eq_some_iff.1 hl3).1
      simp only [Option.isNone_none, if_true]
      rw [World.putObj_heap_same hlt3, hrec]
    · rw [← hdl] at hfin ⊢
      exact hfin
  refine ⟨w.heap.size + 1, [mark w.heap.size], W1, { target := .fn (.func gB) #[.pointer (some ⟨Bs, 0, none⟩)], args := #[.func (.yield (w.heap.size + 1)) #[] #[]] }, W1, gB,
    #[.func (.yield (w.heap.size + 1)) #[] #[]] ++ #[.pointer (some ⟨Bs, 0, none⟩)], W1, ?_, ?_, ?_, ?_, fun h => (by cases h), ?_⟩
  · rw [← hW1, hrec]; exact run_enterLoop_outer _ _ _ _ _
  · simp only [resolve, hg]
    simp [go_sem]
  · intro f' _; trivial
  · simp [invoke, go_sem, hit.1]
  · refine (hit.2 (w.heap.size + 1) Bs J hstep hJB W1 h0).mono ?_
    rintro e V ⟨⟨v, rfl⟩, D, e1, e2, e3, e4, e5, e6⟩
    have hA : D.A (w.heap.size + 1) := (e3 _).2 (.inr (.inr rfl))
    have hA0 : D.A w.heap.size := (e3 _).2 (.inr (.inl rfl))
    refine ⟨none, _, (by have := run_endLoop (P := P) e5 (by rw [hrec]; simp); rw [hrec] at this; exact this), rfl, ?_⟩
    obtain ⟨D3, g1, g2, g3, g4, g5⟩ := rebase_obj (C := C) (D := D) e1 e6 (r := w.heap.size + 1) (.loop { rec .ready with state := .exhausted }) hA (Nat.le_succ_of_le d5)
    obtain ⟨ms, m1, m2, m3⟩ := hgd
    have hrec2 : (Obj.loop { state := .exhausted, pending := none, fn, tmps := a.tmps, params := #[p1, p2], assign, body, defers := w.heap.size }) = .loop { rec .ready with state := .exhausted } := by rw [hrec]
    rw [hrec2]
    refine ⟨{ D3 with dl := mark w.heap.size :: C.dl }, g4.with _, ⟨w.heap.size :: ms, List.nodup_cons.2 ⟨fun hm => ?_, m1⟩, by simp [m2], fun b hb => ?_⟩, ?_⟩
    · have := d4.aold _ (m3 _ hm).1
      omega
    · rcases List.mem_cons.1 hb with rfl | hb
      · refine ⟨by show D3.A _; rw [g2]; exact hA0, Nat.le_trans hB d5, ?_⟩
        show D3.w0.heap[_]? = _
        rw [g1, World.putObj_heap_other (by omega), e4]
      · obtain ⟨n1, n2, n3⟩ := m3 b hb
        refine ⟨by show D3.A _; rw [g2]; exact (e3 b).2 (.inl n1), n2, ?_⟩
        show D3.w0.heap[_]? = _
        exact (g4.block b (d4.aold b n1) (d4.dis b n1)).trans n3
    · have := g5.dl (mark w.heap.size :: C.dl)
      rw [hdl]
      exact this
end
end Aw
end Go.Proofs.Ytkmbbbemmohmcaa

namespace Go.Proofs.Ytkmbbbemmohmcaa
namespace Aw
open Go.RowKit
set_option linter.unusedSimpArgs false

/-- what holds at an exit; the context may have grown. -/
def APostD (B : Nat) (C : Ctx) (N : St → Prop) (E : Nat → St → Prop) (Rt : St → Prop) : Exit → Act → World → Prop
  | .normal, a, w => ∃ D σ, SubD C D ∧ Good B D ∧ N σ ∧ StR D σ a w
  | .exit id, a, w => ∃ D σ, SubD C D ∧ Good B D ∧ E id σ ∧ StR D σ a w
  | .ret, a, w => ∃ D σ, SubD C D ∧ Good B D ∧ Rt σ ∧ StR D σ a w
  | _, _, _ => False

/-- what a piece of code with ranges over functions does. -/
def SWpD (P : Program) (c : Code) (σ : St) [N : HN] [E : HE] [Rt : HR] : Prop :=
  ∀ B C a w, B ≤ C.w0.heap.size → Good B C → StR C σ a w → c.wp P (APostD B C N.k E.k (fun σ => Rt.k σ ())) a w

section
variable {P : Program}

theorem SubD.self {C : Ctx} {σ : St} {a : Act} {w : World} (hS : StR C σ a w) : SubD C C := by
  obtain ⟨hv, _, _, _, _, hF⟩ := hS
  exact SubD.refl C hF.aold hF.dis

theorem swpD_of {c : Code} {N : HN} {E : HE} {Rt : HR} {σ : St} (h : @SWp P c σ N E Rt) : @SWpD P c σ N E Rt := fun B C a w hB hg hS => by
  have hs := SubD.self hS
  refine wp_mono (h C a w hS) fun e a' w' hq => ?_
  cases e with
  | normal => obtain ⟨σ', h1, h2⟩ := hq; exact ⟨C, σ', hs, hg, h1, h2⟩
  | exit id => obtain ⟨σ', h1, h2⟩ := hq; exact ⟨C, σ', hs, hg, h1, h2⟩
  | ret => obtain ⟨σ', h1, h2⟩ := hq; exact ⟨C, σ', hs, hg, h1, h2⟩
  | goto l => exact hq.elim
  | panic ch => exact hq.elim
  | outgrown => exact hq.elim

theorem apostD_sub {B : Nat} {C D : Ctx} (h : SubD C D) {N : St → Prop} {E : Nat → St → Prop} {Rt : St → Prop} {e : Exit} {a : Act} {w : World} (hq : APostD B D N E Rt e a w) : APostD B C N E Rt e a w := by
  cases e with
  | normal => obtain ⟨F, σ', h1, h2⟩ := hq; exact ⟨F, σ', h.trans h1, h2⟩
  | exit id => obtain ⟨F, σ', h1, h2⟩ := hq; exact ⟨F, σ', h.trans h1, h2⟩
  | ret => obtain ⟨F, σ', h1, h2⟩ := hq; exact ⟨F, σ', h.trans h1, h2⟩
  | goto l => exact hq.elim
  | panic ch => exact hq.elim
  | outgrown => exact hq.elim

theorem swpD_seq {x y : Code} {N : HN} {E : HE} {Rt : HR} {σ : St} (h : @SWpD P x σ ⟨fun σ' => @SWpD P y σ' N E Rt⟩ E Rt) : @SWpD P (.seq x y) σ N E Rt := fun B C a w hB hg hS => by
  refine wp_seq (wp_mono (h B C a w hB hg hS) fun e a' w' hq => ?_)
  cases e with
  | normal => obtain ⟨D, σ', h1, h2, h3, h4⟩ := hq; exact wp_mono (h3 B D a' w' (Nat.le_trans hB h1.size) h2 h4) fun e a w hq => apostD_sub h1 hq
  | exit id => exact hq
  | ret => exact hq
  | goto l => exact hq.elim
  | panic ch => exact hq.elim
  | outgrown => exact hq.elim

theorem swpD_block {id : Nat} {c : Code} {N : HN} {E : HE} {Rt : HR} {σ : St} (h : @SWpD P c σ N ⟨fun id' σ' => if id' = id then N.k σ' else E.k id' σ'⟩ Rt) : @SWpD P (.block id c) σ N E Rt := fun B C a w hB hg hS => by
  refine wp_block (wp_mono (h B C a w hB hg hS) fun e a' w' hq => ?_)
  cases e with
  | normal => exact hq
  | exit id' =>
    obtain ⟨D, σ', h1, h2, h3, h4⟩ := hq
    simp only at h3
    simp only [Exit.inBlock]
    split
    · rename_i he; rw [if_pos he] at h3; exact ⟨D, σ', h1, h2, h3, h4⟩
    · rename_i he; rw [if_neg he] at h3; exact ⟨D, σ', h1, h2, h3, h4⟩
  | ret => exact hq
  | goto l => exact hq.elim
  | panic ch => exact hq.elim
  | outgrown => exact hq.elim

theorem swpD_le {c : Code} {N : HN} {E : HE} {Rt : HR} {σ σ' : St} (h : Le σ σ') (hs : @SWpD P c σ' N E Rt) : @SWpD P c σ N E Rt := fun B C a w hB hg hS => hs B C a w hB hg (h C a w hS)

/-- A LOOP whose states are told by a number that falls or rises. -/
theorem swpD_loop {c : Code} {N : HN} {E : HE} {Rt : HR} {σ : St} {ι : Type} (S : ι → St) (J : ι → Prop) (μ : ι → Nat) (i0 : ι) (h0 : Le σ (S i0)) (hJ : J i0)
    (round : ∀ i, J i → @SWpD P c (S i) ⟨fun σ' => ∃ i', Le σ' (S i') ∧ J i' ∧ μ i' < μ i⟩ E Rt) : @SWpD P (.loop c) σ N E Rt := by
  intro B C a w hB hg hS
  let X : Nat → Act → World → Prop := fun n a w => ∃ i D, J i ∧ SubD C D ∧ Good B D ∧ StR D (S i) a w ∧ μ i = n
  let m : Act → World → Nat := fun a w => by
    classical exact if h : ∃ n, X n a w then Classical.choose (least (fun n => X n a w) h) else 0
  have hm : ∀ a w n, X n a w → X (m a w) a w ∧ m a w ≤ n := by
    intro a w n hn
    have hex : ∃ n, X n a w := ⟨n, hn⟩
    simp only [m, dif_pos hex]
    exact ⟨(Classical.choose_spec (least _ hex)).1, (Classical.choose_spec (least _ hex)).2 n hn⟩
  refine wp_loop (fun a w => ∃ n, X n a w) m ⟨_, i0, C, hJ, SubD.self hS, hg, h0 C a w hS, rfl⟩ ?_
  rintro a w ⟨n, hn⟩
  obtain ⟨⟨i, D, h1, h2, h3, h4, h5⟩, _⟩ := hm a w n hn
  refine wp_mono (round i h1 B D a w (Nat.le_trans hB h2.size) h3 h4) fun e a' w' hq => ?_
  cases e with
  | normal =>
    obtain ⟨F, σ', k1, k2, ⟨i', hle, hI', hlt⟩, k3⟩ := hq
    have hJ' : X (μ i') a' w' := ⟨i', F, hI', h2.trans k1, k2, hle F a' w' k3, rfl⟩
    exact ⟨⟨_, hJ'⟩, by have := (hm a' w' _ hJ').2; omega⟩
  | exit id => exact apostD_sub h2 hq
  | ret => exact apostD_sub h2 hq
  | goto l => exact hq.elim
  | panic ch => exact hq.elim
  | outgrown => exact hq.elim

/-- A RANGE OVER A FUNCTION. -/
theorem swpD_rf {g : Operand} {gB : Nat} {p1 p2 : Tmp} {assign body : Code} {W : List Nat} {R : Nat} {v1 v2 : Nat → Value} {x1 x2 : Nat → AV} {BX : World → Nat → Prop} {σ : St} {N : HN} {E : HE} {Rt : HR} (S : Nat → St)
    (hit : Iter P gB R (fun k => #[v1 k, v2 k]) BX) (h0 : Le σ (S 0))
    (hbox : ∀ k C a w, StR C (S k) a w → ∃ Bs, a.eval g = .func (.func gB) #[] #[.pointer (some ⟨Bs, 0, none⟩)] ∧ BX w Bs)
    (hp1 : p1 ∈ W) (hp2 : p2 ∈ W) (hx1 : ∀ k w T hv, RV w T hv (x1 k) (v1 k)) (hx2 : ∀ k w T hv, RV w T hv (x2 k) (v2 k))
    (round : ∀ k, k < R → @SWpR P W assign ⟨((S k).sl.set p1 (x1 k)).set p2 (x2 k), (S k).M⟩ ⟨fun σ1 => @SWpR P W body σ1 ⟨fun σ2 => Le ⟨mask W σ2.sl, σ2.M⟩ (S (k + 1))⟩⟩)
    (hN : N.k (S R)) : @SWpD P (.rangeFunc g #[p1, p2] assign body) σ N E Rt := fun B C a w hB hg hS => by
  refine wp_mono (rf_sound (C0 := C) S hit hg hB (h0 C a w hS) hbox hp1 hp2 hx1 hx2 round) fun e a' w' => ?_
  rintro ⟨rfl, D, h1, h2, h3⟩
  exact ⟨D, _, h1, h2, hN, h3⟩

/-- the marks are taken away, and the function returns. -/
theorem leaves_marks {F : Fence} {n : Nat} {fn : Func} {B : Nat} {C : Ctx} (hB : C.w0.heap.size ≤ B) {σ : St} {tmps : Array Value} {R : Ending → World → Prop}
    (hR : ∀ D w, SubD C D → StR { D with dl := [] } σ { tmps := tmps, defers := [] } w → ∃ v, (results fn tmps).run P w = .ok v w ∧ R (.returned v) w) :
    ∀ (ms : List Nat) (D : Ctx) (w : World), ms.Nodup → SubD C D → (∀ b ∈ ms, D.A b ∧ B ≤ b ∧ w.heap[b]? = some (.deferred (some []))) → StR { D with dl := [] } σ { tmps := tmps, defers := [] } w →
      LeavesInM F n P fn tmps R (ms.map mark) .returning w
  | [], D, w, _, hs, _, hS => hR D w hs hS
  | b :: ms, D, w, hnd, hs, hm, hS => by
    obtain ⟨h1, h2, h3⟩ := hm b (by simp)
    obtain ⟨hb, hnd'⟩ := List.nodup_cons.1 hnd
    refine ⟨by simp, .inl ⟨b, _, rfl, run_takeDeferred h3, ?_⟩⟩
    obtain ⟨D', e1, e2, e3, e4, e5⟩ := rebase_obj (C := C) (D := { D with dl := [] }) (hs.with []) hS (r := b) (.deferred none) h1 (Nat.le_trans hB h2)
    refine leaves_marks hB hR ms D' _ hnd' e4 (fun c hc => ?_) (e5.dl [])
    obtain ⟨k1, k2, k3⟩ := hm c (by simp [hc])
    exact ⟨by rw [e2]; exact k1, k2, by rw [World.putObj_heap_other (by rintro rfl; exact hb hc)]; exact k3⟩

/-- A FUNCTION's contract, from its body, with ranges over functions. -/
theorem aspecD_of {f : FuncId} {fn : Func} {c : Code} {as : List AV} {post : AV → List Ob → Prop} (hf : P.funcs[f]? = some fn) (hb : fn.body = some c) (hok : okFn P f = true)
    (h : @SWpD P c ⟨as ++ List.replicate (fn.ntmps - as.length) .bot, []⟩ ⟨AEnd P fn.results.toList post⟩ ⟨fun _ _ => False⟩ ⟨fun σ _ => AEnd P fn.results.toList post σ⟩) : ASpec P f as post := by
  refine ⟨hok, fun w vs A hA hvs => (callsIn_wide (n := 5)).1 (callsIn_of_wp_marks hf hb trivial (wpIn_wide.2 ?_))⟩
  have hown : ∀ b, ¬ Own noHv b := fun b h => by obtain ⟨i, v, h, _⟩ := h; simp [noHv] at h
  obtain ⟨hlen, hget⟩ := rvl_get as vs hvs
  have hk : Keeps w A w (OwnA A noHv) := ⟨Nat.le_refl _, fun _ _ _ => rfl, fun b _ h => h.elim id (fun h => absurd h (hown b))⟩
  have hS : StR ⟨w, fun _ => False, A, []⟩ ⟨as ++ List.replicate (fn.ntmps - as.length) .bot, []⟩ { tmps := vs.toArray ++ Array.replicate (fn.ntmps - vs.toArray.size) undef, defers := [] } w := by
    refine ⟨noHv, rfl, by simp [hlen], fun i x hx => ?_, ⟨fun i ob h => by simp at h, fun i v h => by simp [noHv] at h, fun i j vi vj b h => by simp [noHv] at h, hA⟩, ⟨rfl, rfl, rfl, Nat.le_refl _, fun _ _ _ => rfl, fun b h => absurd h (hown b), hA, fun _ _ h => h⟩⟩
    rcases Nat.lt_or_ge i as.length with hlt | hge
    · simp only [List.getElem?_append_left hlt] at hx
      obtain ⟨v, h1, h2⟩ := hget i x hx
      refine ⟨v, ?_, ?_⟩
      · rw [Array.getElem?_append_left (by simp; omega)]; simpa using h1
      · have := RV_keep hk x [] noHv noHv v (fun _ _ _ h => h) h2
        rwa [AV.kill_nil] at this
    · simp only [List.getElem?_append_right hge, List.getElem?_replicate] at hx
      split at hx
      · rename_i hr
        injection hx with hx
        subst hx
        refine ⟨undef, ?_, by simp [RV]⟩
        rw [Array.getElem?_append_right (by simp; omega)]
        simp [hlen, hr]
      · cases hx
  have fin : ∀ (σ : St) (tmps : Array Value), AEnd P fn.results.toList post σ → ∀ (D : Ctx) (w' : World), SubD ⟨w, fun _ => False, A, []⟩ D → StR { D with dl := [] } σ { tmps := tmps, defers := [] } w' → ∃ v, (results fn tmps).run P w' = .ok v w' ∧
      ∃ r Ms v' hv, Ending.returned v = .returned v' ∧ post r Ms ∧ MemR A w' hv (Ms.map some) ∧ RV w' (OwnA A hv) hv r v' ∧ (∀ b, Own hv b → w.heap.size ≤ b) ∧ Below w.heap.size w w' := by
    rintro σ tmps ⟨x, hx, r, Ms, hret, hp⟩ D w' hsub hSD
    have hSC : StR ⟨w, fun _ => False, A, []⟩ σ { tmps := tmps, defers := [] } w' := Sub.str (C := ⟨w, fun _ => False, A, []⟩) hsub hSD
    obtain ⟨hv, hd, _, hsl, hM, hF⟩ := hSC
    obtain ⟨v, h1, h2⟩ := res_ok (C := ⟨w, fun _ => False, A, []⟩) (a := { tmps := tmps, defers := [] }) hsl hM hx
    have hfr : ∀ b, Own hv b → w.heap.size ≤ b := fun b h => (hF.own b h).elim (fun h => h.elim) id
    obtain ⟨hv', m1, m2, m3⟩ := hret A w' hv v hM (fun b hb hAb => by have := hfr b hb; have := hA b hAb; omega) h2
    exact ⟨v, h1, r, Ms, v, hv', rfl, hp, m1, m2, fun b hb => hfr b (m3 b hb), ⟨hF.os, hF.tape, hF.output, hF.size, fun b hb => hF.block b hb (fun h => h)⟩⟩
  have leave : ∀ (D : Ctx) (σ : St) (a' : Act) (w' : World), SubD ⟨w, fun _ => False, A, []⟩ D → Good w.heap.size D → AEnd P fn.results.toList post σ → StR D σ a' w' →
      LeavesInM Fence.wide 5 P fn a'.tmps (fun e w' => ∃ r Ms v' hv, e = .returned v' ∧ post r Ms ∧ MemR A w' hv (Ms.map some) ∧ RV w' (OwnA A hv) hv r v' ∧ (∀ b, Own hv b → w.heap.size ≤ b) ∧ Below w.heap.size w w') a'.defers .returning w' := by
    intro D σ a' w' hs hg he hSD
    obtain ⟨ms, g1, g2, g3⟩ := hg
    have hd : a'.defers = D.dl := by obtain ⟨_, h, _⟩ := hSD; exact h
    rw [hd, g2]
    exact leaves_marks (C := ⟨w, fun _ => False, A, []⟩) (Nat.le_refl _) (fun D w' h1 h2 => fin σ a'.tmps he D w' h1 h2) ms D w' g1 hs (fun b hb => ⟨(g3 b hb).1, (g3 b hb).2.1, (hSD.at (g3 b hb).1).trans (g3 b hb).2.2⟩) (hSD.dl [])
  refine wp_mono (h w.heap.size _ _ _ (Nat.le_refl _) ⟨[], List.nodup_nil, rfl, by simp⟩ hS) fun e a' w' hq => ?_
  cases e with
  | normal => obtain ⟨D, σ, h1, h2, h3, h4⟩ := hq; exact leave D σ a' w' h1 h2 h3 h4
  | ret => obtain ⟨D, σ, h1, h2, h3, h4⟩ := hq; exact leave D σ a' w' h1 h2 h3 h4
  | exit id => obtain ⟨D, σ, h1, h2, h3, h4⟩ := hq; exact h3.elim
  | goto l => exact hq.elim
  | panic ch => exact hq.elim
  | outgrown => exact hq.elim
end
end Aw
end Go.Proofs.Ytkmbbbemmohmcaa

namespace Go.Proofs.Ytkmbbbemmohmcaa
namespace Aw
open Go.RowKit
set_option linter.unusedSimpArgs false

/-- a function that uses up the objects Z. -/
def ZSpec (P : Program) (f : FuncId) (as : List AV) (M : Mem) (Z : List Nat) (x : AV) (M' : Mem) : Prop :=
  okFn P f = true ∧ ∀ (w : World) (vs : List Value) (A : Nat → Prop) (hv : Nat → Option Value), MemR A w hv M → (∀ b, Own hv b → ¬ A b) → RVL w (OwnA A hv) hv as vs → Calls P f vs.toArray w fun e w' =>
    ∃ v hv', e = .returned v ∧ MemR A w' hv' M' ∧ RV w' (OwnA A hv') hv' x v ∧ StepR A w hv Z w' hv'

section
variable {P : Program} {C : Ctx} {σ : St} {a : Act} {w : World} {Q : Exit → Act → World → Prop}

theorem zop_sound {ops : Array Oper} {i : Nat} {o : Oper} {f : FuncId} {args : Array Operand} {ats : Array TypeId} {Z : List Nat} {x : AV} {M' : Mem} (ho : ops[i]? = some o) (hg : o.guard = none) (hop : o.op = .call ⟨.value (.func f), args, ats⟩)
    (hz : ZSpec P f (args.toList.map σ.ev) σ.M Z x M') (hS : StR C σ a w) : wpOp P ops Q i (fun a' w' => StR C (σ.step o.dst x Z M') a' w') a w := by
  obtain ⟨hv, hd, hsz, hsl, hM, hF⟩ := hS
  unfold wpOp
  simp only [ho]
  rw [if_pos (wanted_none hg _)]
  left
  obtain ⟨hok, hc⟩ := hz
  have hen := ok_enter (w := w) (a := a) (c := .func f) (cs := #[]) hop rfl hok
  have hcall := hc w (args.toList.map a.eval) C.A hv hM (fun b hb => hF.sep hb) (rvl_map (fun x => ev_ok hsl x) args.toList)
  unfold Oper.wp
  rw [show (execOp a.eval o).run P w = .ok (.enter f (args.toList.map a.eval).toArray) w by simpa using hen]
  refine Calls.mono hcall ?_
  rintro e w' ⟨v, hv', rfl, m1, m2, m3⟩
  exact StR.next hd hsz hsl hF m1 m2 m3

/-- a region in the order of the text, with such a call. -/
theorem swp_z {own : List Nat} {id : Nat} {ops : Array Oper} {N : HN} {E : HE} {Rt : HR} {o : Oper} {f : FuncId} {args : Array Operand} {ats : Array TypeId} (pre suf : List Oper) (hops : ops.toList = pre ++ o :: suf) (hg : o.guard = none) (hop : o.op = .call ⟨.value (.func f), args, ats⟩)
    (h : @AOps P own ops.toList pre σ ⟨fun σ' => ∃ Z x M', ZSpec P f (args.toList.map σ'.ev) σ'.M Z x M' ∧ @AOps P own ops.toList suf (σ'.step o.dst x Z M') N⟩) : @SWp P (.region id ops false) σ N E Rt := by
  intro C a w hS
  refine wp_region ?_
  have hl : ops.size = (pre ++ o :: suf).length := by rw [← hops]; simp
  rw [List.range_eq_range', hl]
  refine aops_then (P := P) (own := own) _ pre 0 σ a w (by simpa using hops) h hS ?_
  rintro σ' a w ⟨Z, x, M', hz, hA⟩ hS
  have ho : ops[0 + pre.length]? = some o := by
    have : ops.toList[pre.length]? = some o := by rw [hops]; simp
    rw [Nat.zero_add]; simpa using this
  rw [List.length_cons, List.range'_succ, wpOps_cons]
  refine wpOp_mono (fun a' w' hS' => ?_) (zop_sound ho hg hop hz hS)
  exact aops_sound (P := P) (own := own) (ops := ops) (fun σ a w hN hS => ⟨σ, hN, hS⟩) suf (0 + pre.length + 1) _ a' w' (by rw [hops, Nat.zero_add, ← List.drop_drop]; simp) hA hS'
end
end Aw
end Go.Proofs.Ytkmbbbemmohmcaa

namespace Go.Proofs.Ytkmbbbemmohmcaa
namespace Aw
open Go.RowKit
set_option linter.unusedSimpArgs false

section
variable {A : Nat → Prop} {P : Program} {w : World} {hv : Nat → Option Value} {M : Mem}

/-- an object's row is another one. -/
theorem mem_row {i : Nat} {ob : Ob} {v v' : Value} {w' : World} {ys : List AV} {news : List Value} (hM : MemR A w hv M) (hi : M[i]? = some (some ob)) (hmp : ob.mp = none) (hvb : blk v = v.ownBlock) (hvb' : blk v' = v'.ownBlock) (hvi : hv i = some v)
    (hrow : w'.ownsRow 0 ob.ty ob.k v' ys.length news) (hg : w.grownBy w' v.ownBlock) (hb : v'.ownBlock = v.ownBlock ∨ v'.ownBlock = some w.heap.size)
    (hys : ∀ y ∈ ys, y.size = ob.k) (hnews : StepR A w hv [i] w' (hvSet hv i v') → RL w' (OwnA A (hvSet hv i v')) (hvSet hv i v') ys news) :
    MemR A w' (hvSet hv i v') ((Mem.kill [i] M).set i (some { ob with xs := ys })) ∧ StepR A w hv [i] w' (hvSet hv i v') := by
  have hlt : i < M.length := (List.getElem?_eq_some_iff.1 hi).1
  have hself : hvSet hv i v' i = some v' := by simp [hvSet]
  have hne : ∀ j, j ≠ i → hvSet hv i v' j = hv j := fun j h => by simp [hvSet, h]
  have hs : StepR A w hv [i] w' (hvSet hv i v') := by
    refine ⟨⟨hg.size, fun b hb' hT => hg.block b hb' (fun e => hT ⟨i, v, hvi, by rw [hvb]; exact e.symm⟩), fun b hlt' h => ?_⟩, fun j u hj h => ?_, hg.os, hg.tape, hg.output⟩
    · obtain ⟨j, u, hj, hu⟩ := h
      by_cases hji : j = i
      · subst hji
        rw [hself] at hj
        injection hj with hj
        subst hj
        rw [hvb'] at hu
        rcases hb with hb | hb
        · exact ⟨j, v, hvi, by rw [hvb, ← hb]; exact hu⟩
        · rw [hb] at hu; injection hu with hu; omega
      · rw [hne j hji] at hj
        exact ⟨j, u, hj, hu⟩
    · rw [hne j (by simpa using hj)]; exact h
  refine ⟨⟨fun j o h => ?_, fun j u h => ?_, fun j1 j2 v1 v2 b h1 h2 hb1 hb2 => ?_, fun b h => Nat.lt_of_lt_of_le (hM.old b h) hg.size⟩, hs⟩
  · rw [setOb_get _ _ _ _ (by simpa [Mem.kill] using hlt)] at h
    by_cases hji : j = i
    · subst hji
      rw [if_pos rfl] at h
      simp only [Option.some.injEq] at h
      subst h
      refine ⟨v', hself, ObR.of_row (ob := { ob with xs := ys }) hmp ⟨news, ?_, ?_, hnews hs⟩⟩
      · exact hrow
      · exact hys
    · rw [if_neg hji, Mem.kill_get] at h
      simp only [Option.map_eq_some_iff] at h
      obtain ⟨o', ho', h⟩ := h
      cases o' with
      | none => simp at h
      | some ob' =>
        simp only [Option.some.injEq] at h
        obtain ⟨_, rfl, rfl⟩ := h
        obtain ⟨v1, h9, h10, h11⟩ := live_step hM hs (fun v' b' hi' hb' => hg.block b' (hM.own_lt ⟨j, v', hi', hb'⟩) (fun e => hji (hM.inj j i _ _ b' hi' hvi hb' (by rw [hvb]; exact e.symm)))) (by simpa using hji) ho'
        exact ⟨v1, h10, h11⟩
  · rw [setOb_get _ _ _ _ (by simpa [Mem.kill] using hlt)]
    by_cases hji : j = i
    · exact ⟨_, by rw [if_pos hji]⟩
    · rw [hne j hji] at h
      obtain ⟨o, ho⟩ := hM.dom j u h
      exact ⟨o.kill [i], by rw [if_neg hji, Mem.kill_get, ho]; rfl⟩
  · have key : ∀ j v0 b, j ≠ i → hv j = some v0 → blk v0 = some b → blk v' = some b → False := by
      intro j v0 b hji h hb0 hb'
      rw [hvb'] at hb'
      have hlt' := hM.own_lt ⟨j, v0, h, hb0⟩
      rcases hb with hb | hb
      · exact hji (hM.inj j i _ _ b h hvi hb0 (by rw [hvb, ← hb]; exact hb'))
      · rw [hb] at hb'; injection hb' with hb'; omega
    by_cases e1 : j1 = i <;> by_cases e2 : j2 = i
    · omega
    · subst e1
      rw [hself] at h1
      injection h1 with h1
      subst h1
      rw [hne j2 e2] at h2
      exact (key j2 v2 b e2 h2 hb2 hb1).elim
    · subst e2
      rw [hself] at h2
      injection h2 with h2
      subst h2
      rw [hne j1 e1] at h1
      exact (key j1 v1 b e1 h1 hb1 hb2).elim
    · rw [hne j1 e1] at h1
      rw [hne j2 e2] at h2
      exact hM.inj j1 j2 v1 v2 b h1 h2 hb1 hb2


/-- the block b holds L now; all else is as it was. -/
structure RowTo (w w' : World) (b : Nat) (e : TypeId) (L : List Value) : Prop where
  size : w'.heap.size = w.heap.size
  block : ∀ k, k ≠ b → w'.heap[k]? = w.heap[k]?
  row : w'.heap[b]? = some (.cells L.toArray e (0, 0))
  os : w'.os = w.os
  tape : w'.tape = w.tape
  output : w'.output = w.output

theorem RowTo.trans {w1 w2 : World} {b : Nat} {e : TypeId} {L L2 : List Value} (h : RowTo w w1 b e L) (k : RowTo w1 w2 b e L2) : RowTo w w2 b e L2 :=
  ⟨k.size.trans h.size, fun j hj => (k.block j hj).trans (h.block j hj), k.row, k.os.trans h.os, k.tape.trans h.tape, k.output.trans h.output⟩

theorem setCells_to (b : Nat) (e : TypeId) : ∀ (vs : List Value) (o : Nat) (w : World) (cur : List Value), w.heap[b]? = some (.cells cur.toArray e (0, 0)) → o + vs.length ≤ cur.length → RowTo w (w.setCells b o vs) b e (cur.take o ++ vs ++ cur.drop (o + vs.length))
  | [], o, w, cur, h, _ => ⟨rfl, fun _ _ => rfl, by simpa [World.setCells] using h, rfl, rfl, rfl⟩
  | v :: vs, o, w, cur, h, hl => by
    simp only [List.length_cons] at hl
    have h1 : RowTo w (w.setCell ⟨b, o, none⟩ v) b e (cur.set o v) := by
      refine ⟨by simp [World.setCell], fun k hk => ?_, ?_, rfl, rfl, rfl⟩
      · simp only [World.setCell, Array.getElem?_modify]
        rw [if_neg (Ne.symm hk)]
      · simp only [World.setCell, Array.getElem?_modify, if_pos rfl, h]
        simp
    have h2 := setCells_to b e vs (o + 1) _ (cur.set o v) h1.row (by simp; omega)
    have e1 : (cur.set o v).take (o + 1) ++ vs ++ (cur.set o v).drop (o + 1 + vs.length) = cur.take o ++ v :: vs ++ cur.drop (o + (v :: vs).length) := by
      have hlt : o < cur.length := by omega
      have ht : (cur.take o).length = o := by simp; omega
      rw [List.drop_set_of_lt (by omega), List.set_eq_take_append_cons_drop, if_pos hlt, List.take_append, ht, List.take_of_length_le (by omega), show o + 1 - o = 1 by omega]
      simp only [List.take_succ_cons, List.take_zero, List.append_assoc, List.cons_append, List.nil_append, List.length_cons]
      rw [show o + 1 + vs.length = o + (vs.length + 1) by omega]
    rw [World.setCells, ← e1]
    exact h1.trans h2
end
end Aw
end Go.Proofs.Ytkmbbbemmohmcaa

namespace Go.Proofs.Ytkmbbbemmohmcaa
namespace Aw
open Go.RowKit
set_option linter.unusedSimpArgs false

/-- whether an object is lent. -/
def liveI (M : Mem) (i : Nat) : Bool := match M[i]? with | some (some _) => true | _ => false
theorem liveI_some {M : Mem} {i : Nat} {ob : Ob} (h : M[i]? = some (some ob)) : liveI M i = true := by unfold liveI; rw [h]
theorem liveI_true {M : Mem} {i : Nat} (h : liveI M i = true) : ∃ ob, M[i]? = some (some ob) := by
  unfold liveI at h
  split at h
  · exact ⟨_, by assumption⟩
  · cases h
def keepF (M : Mem) (as : List AV) (i : Nat) : AV := if liveI M i = true then (if as.any (AV.isO i) = true then .o i else .bot) else .o i
def keepG (M : Mem) (as : List AV) (i k j off : Nat) : AV := if liveI M i = true then (if as.any (AV.isQ i k j off) = true then .q i k j off else .bot) else .q i k j off
theorem keepF_single (M : Mem) (as : List AV) (i : Nat) : (keepF M as i).single = true := by unfold keepF; split <;> (try split) <;> rfl
theorem keepG_single (M : Mem) (as : List AV) (i k j off : Nat) : (keepG M as i k j off).single = true := by unfold keepG; split <;> (try split) <;> rfl
/-- the memory behind such a call. -/
def combM (M : Mem) (as : List AV) (Mc M' : Mem) : Mem :=
  (List.range Mc.length).map fun i => if liveI M i = true then (M'[i]?).getD none else ((Mc[i]?).getD none).map fun ob => { ob with xs := AV.subL (keepF M as) (keepG M as) ob.xs }
theorem combM_get {M : Mem} {as : List AV} {Mc M' : Mem} {i : Nat} {ob : Ob} (h : (combM M as Mc M')[i]? = some (some ob)) :
    (liveI M i = true ∧ M'[i]? = some (some ob)) ∨ (liveI M i = false ∧ ∃ ob0, Mc[i]? = some (some ob0) ∧ ob = { ob0 with xs := AV.subL (keepF M as) (keepG M as) ob0.xs }) := by
  unfold combM at h
  rw [List.getElem?_map, Option.map_eq_some_iff] at h
  obtain ⟨i', hi', h⟩ := h
  have : i' = i := by
    have := List.getElem?_eq_some_iff.1 hi'
    obtain ⟨_, e⟩ := this
    simpa using e.symm
  subst this
  cases hl : liveI M i' with
  | true =>
    rw [hl, if_pos rfl] at h
    left
    refine ⟨rfl, ?_⟩
    cases hm : M'[i']? with
    | none => rw [hm] at h; cases h
    | some o => rw [hm] at h; simp at h; rw [h]
  | false =>
    rw [hl, if_neg (by simp)] at h
    right
    refine ⟨rfl, ?_⟩
    cases hm : Mc[i']? with
    | none => rw [hm] at h; cases h
    | some o =>
      rw [hm] at h
      simp only [Option.getD_some, Option.map_eq_some_iff] at h
      obtain ⟨ob0, rfl, h⟩ := h
      exact ⟨ob0, rfl, h.symm⟩
theorem combM_at {M : Mem} {as : List AV} {Mc M' : Mem} {i : Nat} (hi : i < Mc.length) : (combM M as Mc M')[i]? = some (if liveI M i = true then (M'[i]?).getD none else ((Mc[i]?).getD none).map fun ob => { ob with xs := AV.subL (keepF M as) (keepG M as) ob.xs }) := by
  unfold combM
  rw [List.getElem?_map, List.getElem?_range hi]
  rfl

/-- a function that is lent the objects of M out of the memory Mc. -/
def FSpec (P : Program) (f : FuncId) (as : List AV) (M Mc : Mem) (x : AV) (N : Mem) : Prop :=
  okFn P f = true ∧ ∀ (w : World) (vs : List Value) (A : Nat → Prop) (hv : Nat → Option Value), MemR A w hv Mc → (∀ b, Own hv b → ¬ A b) → RVL w (OwnA A hv) hv as vs → Calls P f vs.toArray w fun e w' =>
    ∃ v hv', e = .returned v ∧ MemR A w' hv' N ∧ RV w' (OwnA A hv') hv' x v ∧ RVL w' (OwnA A hv') hv' as vs ∧ Keeps w (Own hv) w' (Own hv') ∧ w'.os = w.os ∧ w'.tape = w.tape ∧ w'.output = w.output ∧ ∀ i, liveI M i = false → hv' i = hv i

theorem MSpec.frame {P : Program} {f : FuncId} {as : List AV} {M M' : Mem} {x : AV} (h : MSpec P f as M (fun r N => r = x ∧ N = M')) (hdead : ∀ i, liveI M i = false → liveI M' i = false)
    {Mc : Mem} (hsub : ∀ (i : Nat) (ob : Ob), M[i]? = some (some ob) → Mc[i]? = some (some ob)) {Z : List Nat} (hZ : ∀ i, i < Mc.length → liveI M i = false → i ∈ Z) (hfa : AV.freeL Z as = true) (hfm : freeM Z M = true) :
    FSpec P f as M Mc x (combM M as Mc M') := by
  refine ⟨h.1, fun w vs A hv hM hsep hvs => ?_⟩
  obtain ⟨hvc, hvcE⟩ : ∃ hvc : Nat → Option Value, hvc = fun i => if liveI M i = true then hv i else none := ⟨_, rfl⟩
  obtain ⟨A', hA'⟩ : ∃ A' : Nat → Prop, A' = fun b => A b ∨ ∃ i v, liveI M i = false ∧ hv i = some v ∧ blk v = some b := ⟨_, rfl⟩
  have hc1 : ∀ i, liveI M i = true → hvc i = hv i := fun i hi => by rw [hvcE]; simp [hi]
  have hc2 : ∀ i u, hvc i = some u → liveI M i = true ∧ hv i = some u := fun i u hu => by
    rw [hvcE] at hu
    simp only at hu
    split at hu
    · exact ⟨by assumption, hu⟩
    · cases hu
  have hO : ∀ b, Own hvc b → Own hv b := by
    rintro b ⟨i, v, hi, hb⟩
    exact ⟨i, v, (hc2 i v hi).2, hb⟩
  have hT : OwnA A' hvc = OwnA A hv := by
    funext b
    apply propext
    constructor
    · rintro (hb | hb)
      · rw [hA'] at hb
        rcases hb with hb | ⟨i, v, _, hi, hb⟩
        · exact .inl hb
        · exact .inr ⟨i, v, hi, hb⟩
      · exact .inr (hO b hb)
    · rintro (hb | ⟨i, v, hi, hb⟩)
      · exact .inl (by rw [hA']; exact .inl hb)
      · cases hl : liveI M i with
        | true => exact .inr ⟨i, v, by rw [hc1 i hl]; exact hi, hb⟩
        | false => exact .inl (by rw [hA']; exact .inr ⟨i, v, hl, hi, hb⟩)
  have hh : ∀ i u, i ∉ Z → hv i = some u → hvc i = some u := fun i u hi hu => by
    obtain ⟨ob, hob⟩ := hM.dom i u hu
    have hlt := (List.getElem?_eq_some_iff.1 hob).1
    cases hl : liveI M i with
    | true => rw [hc1 i hl]; exact hu
    | false => exact absurd (hZ i hlt hl) hi
  have hMc : MemR A' w hvc M := by
    refine ⟨fun i ob hi => ?_, fun i v hi => ?_, fun i j vi vj b hi hj => hM.inj i j vi vj b (hc2 i vi hi).2 (hc2 j vj hj).2, fun b hb => ?_⟩
    · obtain ⟨v, h1, h2⟩ := hM.live i ob (hsub i ob hi)
      refine ⟨v, by rw [hc1 i (liveI_some hi)]; exact h1, ?_⟩
      have hfree : AV.freeL Z ob.xs = true := by
        simp only [freeM, List.all_eq_true] at hfm
        exact hfm _ (List.mem_of_getElem? hi)
      cases hm : ob.mp with
      | some ks =>
        obtain ⟨vals, g1, g3⟩ := h2.map hm
        have := RVL_keep (Keeps.refl w (OwnA A hv)) hh _ _ g3
        rw [killL_free hfree] at this
        exact ObR.of_map hm ⟨vals, g1, hT ▸ this⟩
      | none =>
        obtain ⟨us, g1, g2, g3⟩ := h2.row hm
        have := RL_keep (Keeps.refl w (OwnA A hv)) hh _ _ g3
        rw [killL_free hfree] at this
        exact ObR.of_row hm ⟨us, g1, g2, hT ▸ this⟩
    · exact liveI_true (hc2 i v hi).1
    · rw [hA'] at hb
      rcases hb with hb | ⟨i, v, _, hi, hb⟩
      · exact hM.old b hb
      · exact hM.own_lt ⟨i, v, hi, hb⟩
  have hsep' : ∀ b, Own hvc b → ¬ A' b := by
    rintro b ⟨i, v, hi, hb⟩ hb'
    obtain ⟨hl, hi'⟩ := hc2 i v hi
    rw [hA'] at hb'
    rcases hb' with hb' | ⟨j, u, hlj, hj, hbj⟩
    · exact hsep b ⟨i, v, hi', hb⟩ hb'
    · have := hM.inj i j v u b hi' hj hb hbj
      subst this
      rw [hl] at hlj
      cases hlj
  have hvs' : RVL w (OwnA A' hvc) hvc as vs := by
    have := RVL_keep (Keeps.refl w (OwnA A hv)) hh _ _ hvs
    rw [killL_free hfa] at this
    exact hT ▸ this
  refine (h.2 w vs A' hvc hMc hsep' hvs').mono ?_
  rintro e w' ⟨r, N, v, hvc', rfl, ⟨rfl, rfl⟩, m1, m2, m3, kp, o1, o2, o3⟩
  obtain ⟨hv', hvE⟩ : ∃ hv' : Nat → Option Value, hv' = fun i => if liveI M i = true then hvc' i else hv i := ⟨_, rfl⟩
  have d1 : ∀ i u, hvc' i = some u → liveI M i = true := fun i u hu => by
    obtain ⟨ob, hob⟩ := m1.dom i u hu
    cases hl : liveI M i with
    | true => rfl
    | false => have := hdead i hl; rw [liveI_some hob] at this; cases this
  have e1 : ∀ i, liveI M i = true → hv' i = hvc' i := fun i hi => by rw [hvE]; simp [hi]
  have e2 : ∀ i, liveI M i = false → hv' i = hv i := fun i hi => by rw [hvE]; simp [hi]
  have e3 : ∀ i u, i ∉ ([] : List Nat) → hvc' i = some u → hv' i = some u := fun i u _ hu => by rw [e1 i (d1 i u hu)]; exact hu
  have hT' : OwnA A' hvc' = OwnA A hv' := by
    funext b
    apply propext
    constructor
    · rintro (hb | ⟨i, v, hi, hb⟩)
      · rw [hA'] at hb
        rcases hb with hb | ⟨i, v, hl, hi, hb⟩
        · exact .inl hb
        · exact .inr ⟨i, v, by rw [e2 i hl]; exact hi, hb⟩
      · exact .inr ⟨i, v, e3 i v (by simp) hi, hb⟩
    · rintro (hb | ⟨i, v, hi, hb⟩)
      · exact .inl (by rw [hA']; exact .inl hb)
      · cases hl : liveI M i with
        | true => exact .inr ⟨i, v, by rw [← e1 i hl]; exact hi, hb⟩
        | false => exact .inl (by rw [hA']; exact .inr ⟨i, v, hl, by rw [← e2 i hl]; exact hi, hb⟩)
  have kpO : Keeps w (Own hv) w' (Own hv') := by
    refine ⟨kp.size, fun b hb hn => kp.block b hb fun ho => hn (hO b ho), ?_⟩
    rintro b hb ⟨i, v, hi, hbv⟩
    cases hl : liveI M i with
    | true => exact hO b (kp.own b hb ⟨i, v, by rw [← e1 i hl]; exact hi, hbv⟩)
    | false => exact ⟨i, v, by rw [← e2 i hl]; exact hi, hbv⟩
  have kpA : Keeps w (OwnA A hv) w' (OwnA A hv') := ⟨kpO.size, fun b hb hn => kpO.block b hb (fun ho => hn (.inr ho)), fun b hb ho => ho.elim .inl (fun ho => .inr (kpO.own b hb ho))⟩
  have kpT : Keeps w' (OwnA A' hvc') w' (OwnA A hv') := by rw [hT']; exact Keeps.refl _ _
  have m3' : RVL w' (OwnA A hv') hv' as vs := by
    have := RVL_keep kpT e3 _ _ m3
    rwa [AV.killL_nil] at this
  have hblk : ∀ i v b, liveI M i = false → hv i = some v → blk v = some b → w'.heap[b]? = w.heap[b]? := by
    intro i v b hl hi hb
    refine kp.block b (hM.own_lt ⟨i, v, hi, hb⟩) ?_
    rintro ⟨j, u, hj, hbj⟩
    obtain ⟨hlj, hj'⟩ := hc2 j u hj
    have := hM.inj i j v u b hi hj' hb hbj
    subst this
    rw [hl] at hlj
    cases hlj
  have hFF : ∀ i v, hv i = some v → v.oneCell' = true → R w' (OwnA A hv') hv' (keepF M as i) [v] := by
    intro i v hiv h1c
    unfold keepF
    cases hl : liveI M i with
    | false =>
      rw [if_neg (by simp)]
      simp only [R]
      exact ⟨v, by rw [e2 i hl]; exact hiv, rfl, h1c⟩
    | true =>
      rw [if_pos rfl]
      split
      · rename_i hany
        obtain ⟨z, hz, hzi⟩ := List.any_eq_true.1 hany
        obtain rfl := AV.isO_eq hzi
        obtain ⟨p, u1, q1, q2, q3⟩ := rvl_mem _ _ _ hvs hz
        have q4 := rvl_at _ _ p _ u1 m3' q1 q2
        simp only [RV, R] at q3 q4
        obtain ⟨u2, s1, s2, _⟩ := q3
        obtain ⟨u3, s3, s4, s5⟩ := q4
        injection s2 with s2
        injection s4 with s4
        rw [hiv] at s1
        injection s1 with s1
        simp only [R]
        exact ⟨v, by rw [s3, ← s4, s2, s1], rfl, h1c⟩
      · simp only [R]; exact ⟨v, rfl, h1c⟩
  have hGG : ∀ i k j off us, R w (OwnA A hv) hv (.q i k j off) us → R w' (OwnA A hv') hv' (keepG M as i k j off) us := by
    intro i k j off us hus
    unfold keepG
    cases hl : liveI M i with
    | false =>
      rw [if_neg (by simp)]
      simp only [R] at hus ⊢
      obtain ⟨b, n, c, s1, s2⟩ := hus
      exact ⟨b, n, c, by rw [e2 i hl]; exact s1, s2⟩
    | true =>
      rw [if_pos rfl]
      split
      · rename_i hany
        obtain ⟨z, hz, hzi⟩ := List.any_eq_true.1 hany
        obtain rfl := AV.isQ_eq hzi
        obtain ⟨p, u1, q1, q2, q3⟩ := rvl_mem _ _ _ hvs hz
        have q4 := rvl_at _ _ p _ u1 m3' q1 q2
        simp only [RV, R] at q3 q4 hus ⊢
        obtain ⟨b, n, c, s1, s2⟩ := q3
        obtain ⟨b', n', c', s3, s4⟩ := q4
        obtain ⟨b'', n'', c'', s5, s6⟩ := hus
        rw [s1] at s5
        injection s5 with s5
        injection s5 with s5 _ _
        injection s5 with s5
        injection s5 with s5
        injection s2 with s2
        injection s4 with s4
        rw [s2] at s4
        injection s4 with s4
        injection s4 with s4
        injection s4 with s4
        exact ⟨b', n', c', s3, by rw [s6, ← s5, s4]⟩
      · exact R_botq hus
  refine ⟨v, hv', rfl, ⟨fun i ob hi => ?_, fun i u hi => ?_, ?_, fun b hb => Nat.lt_of_lt_of_le (hM.old b hb) kp.size⟩, ?_, m3', kpO, o1, o2, o3, e2⟩
  · rcases combM_get hi with ⟨hl, hi'⟩ | ⟨hl, ob0, hi', rfl⟩
    · obtain ⟨u, g1, g2⟩ := m1.live i ob hi'
      refine ⟨u, by rw [e1 i hl]; exact g1, ?_⟩
      cases hm : ob.mp with
      | some ks =>
        obtain ⟨vals, k1, k3⟩ := g2.map hm
        have := RVL_keep kpT e3 _ _ k3
        rw [AV.killL_nil] at this
        exact ObR.of_map hm ⟨vals, k1, this⟩
      | none =>
        obtain ⟨us, k1, k2, k3⟩ := g2.row hm
        have := RL_keep kpT e3 _ _ k3
        rw [AV.killL_nil] at this
        exact ObR.of_row hm ⟨us, k1, k2, this⟩
    · obtain ⟨u, g1, g2⟩ := hM.live i ob0 hi'
      refine ⟨u, by rw [e2 i hl]; exact g1, ?_⟩
      cases hm : ob0.mp with
      | some ks =>
        obtain ⟨vals, k1, k3⟩ := g2.map hm
        exact ObR.of_map (ks := ks) rfl ⟨vals, k1.block fun b hb => hblk i _ b hl g1 hb, RVL_subk kpA hFF (keepF_single M as) hGG (keepG_single M as) _ _ k3⟩
      | none =>
        obtain ⟨us, k1, k2, k3⟩ := g2.row hm
        refine ObR.of_row rfl ⟨us, ?_, fun x hx => ?_, RL_subk kpA hFF (keepF_single M as) hGG (keepG_single M as) _ _ k3⟩
        · simp only [AV.subL_map, List.length_map]
          exact ownsRow_of_block k1 fun b hb => hblk i u b hl g1 (by rw [blk_row k1]; exact hb)
        · simp only [AV.subL_map, List.mem_map] at hx
          obtain ⟨y, hy, rfl⟩ := hx
          rw [size_sub (keepF_single M as) (keepG_single M as)]
          exact k2 y hy
  · cases hl : liveI M i with
    | true =>
      rw [e1 i hl] at hi
      obtain ⟨ob, hob⟩ := m1.dom i u hi
      obtain ⟨ob0, hob0⟩ := liveI_true hl
      have hlt := (List.getElem?_eq_some_iff.1 (hsub i ob0 hob0)).1
      exact ⟨ob, by rw [combM_at hlt, if_pos hl, hob]; rfl⟩
    | false =>
      rw [e2 i hl] at hi
      obtain ⟨ob, hob⟩ := hM.dom i u hi
      have hlt := (List.getElem?_eq_some_iff.1 hob).1
      exact ⟨_, by rw [combM_at hlt, if_neg (by simp [hl]), hob]; rfl⟩
  · intro i j vi vj b hi hj hbi hbj
    have cross : ∀ i j vi vj b, liveI M i = true → liveI M j = false → hv' i = some vi → hv' j = some vj → blk vi = some b → blk vj = some b → False := by
      intro i j vi vj b hli hlj hi hj hbi hbj
      rw [e1 i hli] at hi
      rw [e2 j hlj] at hj
      have hlt := hM.own_lt ⟨j, vj, hj, hbj⟩
      have h1 := hO b (kp.own b hlt ⟨i, vi, hi, hbi⟩)
      obtain ⟨i2, v2, hi2, hb2⟩ := kp.own b hlt ⟨i, vi, hi, hbi⟩
      obtain ⟨hl2, hi2'⟩ := hc2 i2 v2 hi2
      have := hM.inj i2 j v2 vj b hi2' hj hb2 hbj
      subst this
      rw [hl2] at hlj
      cases hlj
    cases hli : liveI M i with
    | true =>
      cases hlj : liveI M j with
      | true => exact m1.inj i j vi vj b (by rw [← e1 i hli]; exact hi) (by rw [← e1 j hlj]; exact hj) hbi hbj
      | false => exact (cross i j vi vj b hli hlj hi hj hbi hbj).elim
    | false =>
      cases hlj : liveI M j with
      | true => exact (cross j i vj vi b hlj hli hj hi hbj hbi).elim
      | false => exact hM.inj i j vi vj b (by rw [← e2 i hli]; exact hi) (by rw [← e2 j hlj]; exact hj) hbi hbj
  · have := RV_keep kpT r [] hvc' hv' v e3 m2
    rwa [AV.kill_nil] at this


section
variable {P : Program} {C : Ctx} {σ : St} {a : Act} {w : World} {Q : Exit → Act → World → Prop}

theorem frame_call {o : Oper} {f : FuncId} {args : Array Operand} {ats : Array TypeId} {ops : Array Oper} {i : Nat} {M N : Mem} {x : AV} (ho : ops[i]? = some o) (hg : o.guard = none) (hop : o.op = .call ⟨.value (.func f), args, ats⟩)
    (hz : FSpec P f (args.toList.map σ.ev) M σ.M x N) (hS : StR C σ a w) : wpOp P ops Q i (fun a' w' => StR C ⟨setS (σ.sl.map (AV.sub (keepF M (args.toList.map σ.ev)) (keepG M (args.toList.map σ.ev)))) o.dst x, N⟩ a' w') a w := by
  obtain ⟨hv, hd, hsz, hsl, hM, hF⟩ := hS
  unfold wpOp
  simp only [ho]
  rw [if_pos (wanted_none hg _)]
  left
  obtain ⟨hok, hc⟩ := hz
  have hen := ok_enter (w := w) (a := a) (c := .func f) (cs := #[]) hop rfl hok
  have hvs := rvl_map (fun x => ev_ok hsl x) args.toList
  generalize hasE : args.toList.map σ.ev = as at *
  have hcall := hc w (args.toList.map a.eval) C.A hv hM (fun b hb => hF.sep hb) hvs
  unfold Oper.wp
  rw [show (execOp a.eval o).run P w = .ok (.enter f (args.toList.map a.eval).toArray) w by simpa using hen]
  refine Calls.mono hcall ?_
  rintro e w' ⟨v, hv', rfl, hM', hr, has', hkp, h1, h2, h3, h4⟩
  refine ⟨hv', by cases o.dst <;> exact hd, ?_, fun i x hx => ?_, hM', ?_⟩
  · rw [put_size, hsz]; simp only [setS_len, List.length_map]
  · rcases setS_get _ _ _ _ hx with ⟨e1, rfl, hlt⟩ | ⟨hne, hx⟩
    · refine ⟨v, ?_, hr⟩
      rw [List.length_map] at hlt
      rw [e1]
      simp [Act.put, hsz, hlt]
    · rw [List.getElem?_map] at hx
      simp only [Option.map_eq_some_iff] at hx
      obtain ⟨y, hy, rfl⟩ := hx
      obtain ⟨u, g1, g2⟩ := hsl i y hy
      refine ⟨u, by rw [put_get _ _ _ _ hne]; exact g1, ?_⟩
      have hkA : Keeps w (OwnA C.A hv) w' (OwnA C.A hv') := ⟨hkp.size, fun b hb hn => hkp.block b hb (fun ho => hn (.inr ho)), fun b hb ho => ho.elim .inl (fun ho => .inr (hkp.own b hb ho))⟩
      refine RV_subk hkA (fun i v hiv h1c => ?_) (keepF_single M as) (fun i k j off us hus => ?_) (keepG_single M as) y u g2
      · unfold keepF
        cases hl : liveI M i with
        | false =>
          rw [if_neg (by simp)]
          simp only [R]
          exact ⟨v, by rw [h4 i hl]; exact hiv, rfl, h1c⟩
        | true =>
        rw [if_pos rfl]
        split
        · rename_i hany
          obtain ⟨z, hz, hzi⟩ := List.any_eq_true.1 hany
          obtain rfl := AV.isO_eq hzi
          obtain ⟨p, u1, q1, q2, q3⟩ := rvl_mem _ _ _ hvs hz
          have q4 := rvl_at _ _ p _ u1 has' q1 q2
          simp only [RV, R] at q3 q4
          obtain ⟨u2, s1, s2, _⟩ := q3
          obtain ⟨u3, s3, s4, s5⟩ := q4
          injection s2 with s2
          injection s4 with s4
          rw [hiv] at s1
          injection s1 with s1
          simp only [R]
          exact ⟨v, by rw [s3, ← s4, s2, s1], rfl, h1c⟩
        · simp only [R]; exact ⟨v, rfl, h1c⟩
      · unfold keepG
        cases hl : liveI M i with
        | false =>
          rw [if_neg (by simp)]
          simp only [R] at hus ⊢
          obtain ⟨b, n, c, s1, s2⟩ := hus
          exact ⟨b, n, c, by rw [h4 i hl]; exact s1, s2⟩
        | true =>
        rw [if_pos rfl]
        split
        · rename_i hany
          obtain ⟨z, hz, hzi⟩ := List.any_eq_true.1 hany
          obtain rfl := AV.isQ_eq hzi
          obtain ⟨p, u1, q1, q2, q3⟩ := rvl_mem _ _ _ hvs hz
          have q4 := rvl_at _ _ p _ u1 has' q1 q2
          simp only [RV, R] at q3 q4 hus ⊢
          obtain ⟨b, n, c, s1, s2⟩ := q3
          obtain ⟨b', n', c', s3, s4⟩ := q4
          obtain ⟨b'', n'', c'', s5, s6⟩ := hus
          rw [s1] at s5
          injection s5 with s5
          injection s5 with s5 _ _
          injection s5 with s5
          injection s5 with s5
          injection s2 with s2
          injection s4 with s4
          rw [s2] at s4
          injection s4 with s4
          injection s4 with s4
          injection s4 with s4
          exact ⟨b', n', c', s3, by rw [s6, ← s5, s4]⟩
        · exact R_botq hus
  · refine ⟨h1.trans hF.os, h2.trans hF.tape, h3.trans hF.output, Nat.le_trans hF.size hkp.size, fun b hb hn => ?_, fun b hb => ?_, hF.aold, hF.dis⟩
    · refine (hkp.block b (Nat.lt_of_lt_of_le hb hF.size) (fun ho => ?_)).trans (hF.block b hb hn)
      rcases hF.own b ho with g | g
      · exact hn g
      · omega
    · rcases Nat.lt_or_ge b w.heap.size with hlt | hge
      · exact hF.own b (hkp.own b hlt hb)
      · exact .inr (Nat.le_trans hF.size hge)

/-- such a call, and what comes behind it. -/
def ACallF (P : Program) (f : FuncId) (as : List AV) (Mc : Mem) [K : HK (Mem → AV → Mem → Prop)] : Prop := ∃ M x N, FSpec P f as M Mc x N ∧ K.k M x N
theorem acall_f {f : FuncId} {as : List AV} {Mc : Mem} {K : HK (Mem → AV → Mem → Prop)} {M : Mem} {x : AV} {N : Mem} (spec : FSpec P f as M Mc x N) (h : K.k M x N) : ACallF P f as Mc (K := K) := ⟨M, x, N, spec, h⟩

/-- a region in the order of the text; its operation m is such a call. -/
theorem swp_fm {own : List Nat} {id : Nat} {ops : Array Oper} {N : HN} {E : HE} {Rt : HR} {o : Oper} {f : FuncId} {args : Array Operand} {ats : Array TypeId} (m : Nat) (ho : ops.toList[m]? = some o) (hg : o.guard = none) (hop : o.op = .call ⟨.value (.func f), args, ats⟩)
    (h : @AOps P own ops.toList (ops.toList.take m) σ ⟨fun σ' => @ACallF P f (args.toList.map σ'.ev) σ'.M ⟨fun M x M' => @AOps P own ops.toList (ops.toList.drop (m + 1)) ⟨setS (σ'.sl.map (AV.sub (keepF M (args.toList.map σ'.ev)) (keepG M (args.toList.map σ'.ev)))) o.dst x, M'⟩ N⟩⟩) : @SWp P (.region id ops false) σ N E Rt := by
  intro C a w hS
  refine wp_region ?_
  obtain ⟨hlt, hoe⟩ := List.getElem?_eq_some_iff.1 ho
  have hops : ops.toList = ops.toList.take m ++ o :: ops.toList.drop (m + 1) := by rw [← hoe, ← List.drop_eq_getElem_cons hlt, List.take_append_drop]
  generalize ops.toList.take m = pre at *
  generalize ops.toList.drop (m + 1) = suf at *
  have hl : ops.size = (pre ++ o :: suf).length := by rw [← hops]; simp
  rw [List.range_eq_range', hl]
  refine aops_then (P := P) (own := own) _ pre 0 σ a w (by simpa using hops) h hS ?_
  rintro σ' a w ⟨M, x, M', hz, hA⟩ hS
  have ho : ops[0 + pre.length]? = some o := by
    have : ops.toList[pre.length]? = some o := by rw [hops]; simp
    rw [Nat.zero_add]; simpa using this
  rw [List.length_cons, List.range'_succ, wpOps_cons]
  refine wpOp_mono (fun a' w' hS' => ?_) (frame_call ho hg hop hz hS)
  exact aops_sound (P := P) (own := own) (ops := ops) (fun σ a w hN hS => ⟨σ, hN, hS⟩) suf (0 + pre.length + 1) _ a' w' (by rw [hops, Nat.zero_add, ← List.drop_drop]; simp) hA hS'
end

/-- the indexes from n on. -/
def Zr (n k : Nat) : List Nat := (List.range (k + 1)).map (· + n)
theorem mem_Zr {n k i : Nat} : i ∈ Zr n k ↔ n ≤ i ∧ i ≤ n + k := by
  unfold Zr
  simp only [List.mem_map, List.mem_range]
  constructor
  · rintro ⟨a, h, rfl⟩; omega
  · intro h; exact ⟨i - n, by omega, by omega⟩
/-- where a function ends that was handed objects, and has made others that are forgotten. -/
def MEnd2 (P : Program) (rs : List ResultVar) (as : List AV) (vs : List Value) (post : AV → Mem → Prop) (σ : St) : Prop :=
  ∃ σ' x M' rest, Le σ σ' ∧ resA P rs σ' = some x ∧ σ'.M = M' ++ some (ghost vs as) :: rest ∧ x.free (Zr M'.length rest.length) = true ∧ AV.freeL (Zr M'.length rest.length) as = true ∧ freeM (Zr M'.length rest.length) M' = true ∧ post x M'
theorem mspec_of2 {P : Program} {f : FuncId} {fn : Func} {c : Code} {own : List Nat} {as : List AV} {M : Mem} {post : AV → Mem → Prop} (hf : P.funcs[f]? = some fn) (hb : fn.body = some c) (hok : okFn P f = true)
    (h : ∀ vs : List Value, @awp P own c ⟨as ++ List.replicate (fn.ntmps - as.length) .bot, M ++ [some (ghost vs as)]⟩ ⟨MEnd2 P fn.results.toList as vs post⟩ ⟨fun _ _ => False⟩ ⟨fun σ _ => MEnd2 P fn.results.toList as vs post σ⟩) : MSpec P f as M post := by
  refine ⟨hok, fun w vs A hv hM0 hsep hvs0 => calls_of_wp hf hb ?_⟩
  obtain ⟨hM, hs0⟩ := mem_add hM0 (Below.refl _ w) (ob := ghost vs as) (v := .map none) (fun b hb => by simp [blk] at hb) (fun hs => ObR.of_map (ob := ghost vs as) (ks := vs) rfl ⟨vs, .inr ⟨by simp [ghost], rfl, rfl⟩, by
    have := RVL_keep hs.keeps hs.hv _ _ hvs0
    rwa [AV.killL_nil] at this⟩)
  have hvs : RVL w (OwnA A (hvAdd hv M.length (.map none))) (hvAdd hv M.length (.map none)) as vs := by
    have := RVL_keep hs0.keeps hs0.hv _ _ hvs0
    rwa [AV.killL_nil] at this
  have hoeq : ∀ b, Own (hvAdd hv M.length (.map none)) b → Own hv b := fun b hb => by
    rcases (own_add (mem_none hM0 (Nat.le_refl _))).1 hb with h | h
    · exact h
    · simp [blk] at h
  obtain ⟨hlen, hget⟩ := rvl_get as vs hvs
  have hS : StR ⟨w, Own hv, A, []⟩ ⟨as ++ List.replicate (fn.ntmps - as.length) .bot, M ++ [some (ghost vs as)]⟩ { tmps := vs.toArray ++ Array.replicate (fn.ntmps - vs.toArray.size) undef, defers := [] } w := by
    refine ⟨_, rfl, by simp [hlen], fun i x hx => ?_, hM, ⟨rfl, rfl, rfl, Nat.le_refl _, fun _ _ _ => rfl, fun b h => .inl (hoeq b h), hM0.old, fun b hA ho => hsep b ho hA⟩⟩
    rcases Nat.lt_or_ge i as.length with hlt | hge
    · simp only [List.getElem?_append_left hlt] at hx
      obtain ⟨v, h1, h2⟩ := hget i x hx
      refine ⟨v, ?_, h2⟩
      rw [Array.getElem?_append_left (by simp; omega)]; simpa using h1
    · simp only [List.getElem?_append_right hge, List.getElem?_replicate] at hx
      split at hx
      · rename_i hr
        injection hx with hx
        subst hx
        refine ⟨undef, ?_, by simp [RV]⟩
        rw [Array.getElem?_append_right (by simp; omega)]
        simp [hlen, hr]
      · cases hx
  have fin : ∀ (σ : St) (a' : Act) (w' : World), MEnd2 P fn.results.toList as vs post σ → StR ⟨w, Own hv, A, []⟩ σ a' w' → a'.defers = [] ∧ ∃ v, (results fn a'.tmps).run P w' = .ok v w' ∧
      ∃ r M' v' hv', Ending.returned v = .returned v' ∧ post r M' ∧ MemR A w' hv' M' ∧ RV w' (OwnA A hv') hv' r v' ∧ RVL w' (OwnA A hv') hv' as vs ∧ Keeps w (Own hv) w' (Own hv') ∧ w'.os = w.os ∧ w'.tape = w.tape ∧ w'.output = w.output := by
    rintro σ a' w' ⟨⟨sl', M1⟩, x, M', rest, hle, hx, hM1, f1, f2, f3, hp⟩ hSσ
    obtain ⟨hv2, hd, _, hsl, hM2, hF⟩ := hle _ _ _ hSσ
    simp only at hM1
    subst hM1
    obtain ⟨v, h1, h2⟩ := res_ok (C := ⟨w, Own hv, A, []⟩) hsl hM2 hx
    have hg : (M' ++ some (ghost vs as) :: rest)[M'.length]? = some (some (ghost vs as)) := by simp
    obtain ⟨vg, hvg, hob⟩ := hM2.live _ _ hg
    obtain ⟨vals, ⟨hk0, _⟩ | ⟨_, rfl, rfl⟩, hr⟩ := hob.map (ks := vs) rfl
    · simp [ghost] at hk0
    let hv3 : Nat → Option Value := fun i => if i < M'.length then hv2 i else none
    have hown : ∀ b, Own hv3 b → Own hv2 b := by
      rintro b ⟨i, u, hi, hb⟩
      simp only [hv3] at hi
      split at hi
      · exact ⟨i, u, hi, hb⟩
      · cases hi
    have hs : StepR A w' hv2 (Zr M'.length rest.length) w' hv3 := by
      refine ⟨⟨Nat.le_refl _, fun _ _ _ => rfl, fun b _ hb => hown b hb⟩, fun i u hi h => ?_, rfl, rfl, rfl⟩
      obtain ⟨ob, hob⟩ := hM2.dom i u h
      have := (List.getElem?_eq_some_iff.1 hob).1
      simp only [List.length_append, List.length_cons] at this
      rw [mem_Zr] at hi
      simp only [hv3, if_pos (show i < M'.length by omega)]
      exact h
    refine ⟨hd, v, h1, x, M', v, hv3, rfl, hp, ⟨fun i ob hi => ?_, fun i u hi => ?_, fun i j vi vj b hi hj => ?_, hM2.old⟩, ?_, ?_, ⟨hF.size, fun b hb hn => hF.block b hb hn, fun b hlt hb => ?_⟩, hF.os, hF.tape, hF.output⟩
    · have hlt : i < M'.length := (List.getElem?_eq_some_iff.1 hi).1
      obtain ⟨v, h1, h2, h3⟩ := live_step hM2 hs (fun v b h1 h2 => rfl) (show i ∉ Zr M'.length rest.length by rw [mem_Zr]; omega) (by rw [List.getElem?_append_left hlt]; exact hi)
      have hk : Ob.kill (Zr M'.length rest.length) ob = ob := by
        simp only [freeM, List.all_eq_true] at f3
        have := f3 _ (List.mem_of_getElem? hi)
        simp only at this
        cases ob
        simp only [Ob.kill, Ob.mk.injEq, true_and]
        exact killL_free this
      rw [hk] at h3
      exact ⟨v, h2, h3⟩
    · simp only [hv3] at hi
      split at hi
      · rename_i hlt
        obtain ⟨ob, hob⟩ := hM2.dom i u hi
        rw [List.getElem?_append_left hlt] at hob
        exact ⟨ob, hob⟩
      · cases hi
    · simp only [hv3] at hi hj
      split at hi
      · split at hj
        · exact hM2.inj i j vi vj b hi hj
        · cases hj
      · cases hi
    · have := hs.rv h2
      rwa [AV.kill_free _ _ f1] at this
    · have := RVL_keep hs.keeps hs.hv _ _ hr
      have e : AV.killL (Zr M'.length rest.length) (ghost vals as).xs = as := killL_free f2
      rw [e] at this
      exact this
    · rcases hF.own b (hown b hb) with g | g
      · exact g
      · simp only at g; omega
  refine wp_mono (awp_sound c _ _ _ _ (h vs) _ _ _ hS) fun e a' w' hq => ?_
  cases e with
  | normal => obtain ⟨σ, h1, h2⟩ := hq; exact fin σ a' w' h1 h2
  | ret => obtain ⟨σ, h1, h2⟩ := hq; exact fin σ a' w' h1 h2
  | exit id => obtain ⟨σ, h1, h2⟩ := hq; exact h1.elim
  | goto l => exact hq.elim
  | panic ch => exact hq.elim
  | outgrown => exact hq.elim

/-- such a call, and what comes behind it. -/
def ACallZ (P : Program) (f : FuncId) (as : List AV) (M : Mem) [K : HK (List Nat → AV → Mem → Prop)] : Prop := ∃ Z x M', ZSpec P f as M Z x M' ∧ K.k Z x M'
theorem acall_z {P : Program} {f : FuncId} {as : List AV} {M : Mem} {K : HK (List Nat → AV → Mem → Prop)} {Z : List Nat} {x : AV} {M' : Mem} (spec : ZSpec P f as M Z x M') (h : K.k Z x M') : ACallZ P f as M (K := K) := ⟨Z, x, M', spec, h⟩

/-- a region in the order of the text; its operation m uses up objects. -/
theorem swp_zm {P : Program} {σ : St} {own : List Nat} {id : Nat} {ops : Array Oper} {N : HN} {E : HE} {Rt : HR} {o : Oper} {f : FuncId} {args : Array Operand} {ats : Array TypeId} (m : Nat) (ho : ops.toList[m]? = some o) (hg : o.guard = none) (hop : o.op = .call ⟨.value (.func f), args, ats⟩)
    (h : @AOps P own ops.toList (ops.toList.take m) σ ⟨fun σ' => @ACallZ P f (args.toList.map σ'.ev) σ'.M ⟨fun Z x M' => @AOps P own ops.toList (ops.toList.drop (m + 1)) (σ'.step o.dst x Z M') N⟩⟩) : @SWp P (.region id ops false) σ N E Rt :=
  swp_z _ _ (by
    obtain ⟨hlt, e⟩ := List.getElem?_eq_some_iff.1 ho
    rw [← e, ← List.drop_eq_getElem_cons hlt, List.take_append_drop]) hg hop h
end Aw
end Go.Proofs.Ytkmbbbemmohmcaa

namespace Go.Proofs.Ytkmbbbemmohmcaa
namespace Aw
open Go.RowKit
set_option linter.unusedSimpArgs false

def reF (ix : List Nat) (i : Nat) : AV := match ix.idxOf? i with | some j => .o j | none => .bot
def reG (ix : List Nat) (i k j off : Nat) : AV := match ix.idxOf? i with | some m => .q m k j off | none => .bot
def reM (ix : List Nat) (M : Mem) : Mem := ix.map fun i => ((M[i]?).getD none).map fun ob => { ob with xs := AV.subL (reF ix) (reG ix) ob.xs }

theorem idx_at {ix : List Nat} {i j : Nat} (h : ix.idxOf? i = some j) : ix[j]? = some i := by
  unfold List.idxOf? at h
  rw [List.findIdx?_eq_some_iff_getElem] at h
  obtain ⟨hj, h1, _⟩ := h
  rw [List.getElem?_eq_getElem hj]
  simpa using h1

/-- the objects ix are kept; they are 0, 1 .. now. -/
theorem le_ren {sl : List AV} {M : Mem} (ix : List Nat) (hnd : ix.Nodup) : Le ⟨sl, M⟩ ⟨sl.map (AV.sub (reF ix) (reG ix)), reM ix M⟩ := by
  intro C a w hS
  obtain ⟨hv, hd, hsz, hsl, hM, hF⟩ := hS
  obtain ⟨hv2, hE⟩ : ∃ hv2 : Nat → Option Value, hv2 = fun j => match ix[j]? with | some i => hv i | none => none := ⟨_, rfl⟩
  have h2 : ∀ j i, ix[j]? = some i → hv2 j = hv i := fun j i h => by rw [hE]; simp only [h]
  have h3 : ∀ j v, hv2 j = some v → ∃ i, ix[j]? = some i ∧ hv i = some v := fun j v h => by
    rw [hE] at h
    simp only at h
    cases hi : ix[j]? with
    | none => rw [hi] at h; cases h
    | some i => rw [hi] at h; exact ⟨i, rfl, h⟩
  have hO : ∀ b, Own hv2 b → Own hv b := by
    rintro b ⟨j, v, hj, hb⟩
    obtain ⟨i, _, hi⟩ := h3 j v hj
    exact ⟨i, v, hi, hb⟩
  have hk : Keeps w (OwnA C.A hv) w (OwnA C.A hv2) := ⟨Nat.le_refl _, fun _ _ _ => rfl, fun b _ h => h.elim .inl fun h => .inr (hO b h)⟩
  have sF : ∀ i, (reF ix i).single = true := fun i => by unfold reF; split <;> rfl
  have sG : ∀ i k j off, (reG ix i k j off).single = true := fun i k j off => by unfold reG; split <;> rfl
  have hFF : ∀ i v, hv i = some v → v.oneCell' = true → R w (OwnA C.A hv2) hv2 (reF ix i) [v] := by
    intro i v hi h1
    unfold reF
    split
    · rename_i j hj
      simp only [R]
      exact ⟨v, by rw [h2 j i (idx_at hj)]; exact hi, rfl, h1⟩
    · simp only [R]; exact ⟨v, rfl, h1⟩
  have hGG : ∀ i k j off us, R w (OwnA C.A hv) hv (.q i k j off) us → R w (OwnA C.A hv2) hv2 (reG ix i k j off) us := by
    intro i k j off us h
    unfold reG
    split
    · rename_i m hm
      simp only [R] at h ⊢
      obtain ⟨b, n, c, e1, e2⟩ := h
      exact ⟨b, n, c, by rw [h2 m i (idx_at hm)]; exact e1, e2⟩
    · exact R_botq h
  refine ⟨hv2, hd, by simpa using hsz, fun j x hx => ?_, ⟨fun j ob hj => ?_, fun j v hj => ?_, fun j1 j2 v1 v2 b e1 e2 b1 b2 => ?_, hM.old⟩, ⟨hF.os, hF.tape, hF.output, hF.size, hF.block, fun b hb => hF.own b (hO b hb), hF.aold, hF.dis⟩⟩
  · simp only [List.getElem?_map, Option.map_eq_some_iff] at hx
    obtain ⟨y, hy, rfl⟩ := hx
    obtain ⟨v, e1, e2⟩ := hsl j y hy
    exact ⟨v, e1, RV_subk hk hFF sF hGG sG y v e2⟩
  · unfold reM at hj
    simp only [List.getElem?_map, Option.map_eq_some_iff] at hj
    obtain ⟨i, hi, hj⟩ := hj
    cases ho : M[i]? with
    | none => rw [ho] at hj; simp at hj
    | some o =>
      rw [ho] at hj
      simp only [Option.getD_some, Option.map_eq_some_iff] at hj
      obtain ⟨ob0, rfl, rfl⟩ := hj
      obtain ⟨v, e1, hob⟩ := hM.live i ob0 ho
      refine ⟨v, by rw [h2 j i hi]; exact e1, ?_⟩
      cases hm : ob0.mp with
      | some ks =>
        obtain ⟨vals, g1, g3⟩ := hob.map hm
        exact ObR.of_map (ks := ks) rfl ⟨vals, g1, RVL_subk hk hFF sF hGG sG _ _ g3⟩
      | none =>
        obtain ⟨us, g1, g2, g3⟩ := hob.row hm
        refine ObR.of_row rfl ⟨us, ?_, fun x hx => ?_, RL_subk hk hFF sF hGG sG _ _ g3⟩
        · simp only [AV.subL_map, List.length_map]; exact g1
        · simp only [AV.subL_map, List.mem_map] at hx
          obtain ⟨y, hy, rfl⟩ := hx
          rw [size_sub sF sG]; exact g2 y hy
  · obtain ⟨i, hi, hv0⟩ := h3 j v hj
    obtain ⟨ob, hob⟩ := hM.dom i v hv0
    refine ⟨{ ob with xs := AV.subL (reF ix) (reG ix) ob.xs }, ?_⟩
    unfold reM
    rw [List.getElem?_map, hi, Option.map_some, hob]
    rfl
  · obtain ⟨i1, hi1, hv1⟩ := h3 j1 v1 e1
    obtain ⟨i2, hi2, hv2'⟩ := h3 j2 v2 e2
    have := hM.inj i1 i2 v1 v2 b hv1 hv2' b1 b2
    subst this
    obtain ⟨l1, g1⟩ := List.getElem?_eq_some_iff.1 hi1
    obtain ⟨l2, g2⟩ := List.getElem?_eq_some_iff.1 hi2
    have hp := List.pairwise_iff_getElem.1 hnd
    rcases Nat.lt_trichotomy j1 j2 with h | h | h
    · exact absurd (g1.trans g2.symm) (hp j1 j2 l1 l2 h)
    · exact h
    · exact absurd (g2.trans g1.symm) (hp j2 j1 l2 l1 h)
theorem le_to {sl sl1 sl2 : List AV} {M M2 : Mem} (ix : List Nat) (hnd : ix.Nodup) (h1 : leSl sl sl1) (hs : sl1.map (AV.sub (reF ix) (reG ix)) = sl2) (hM : reM ix M = M2) : Le ⟨sl, M⟩ ⟨sl2, M2⟩ := by
  subst hs
  subst hM
  exact Le.trans (le_sl h1) (le_ren ix hnd)
end Aw
end Go.Proofs.Ytkmbbbemmohmcaa

namespace Go.Proofs.Ytkmbbbemmohmcaa
namespace Aw
open Go.RowKit
set_option linter.unusedSimpArgs false

/-- what is left of such a region. -/
def SOps (P : Program) (ops : Array Oper) (k : Nat) (rest : List Oper) (σ : St) (N : HN) : Prop :=
  ops.toList.drop k = rest → ∀ (C : Ctx) (a : Act) (w : World) (Q : Exit → Act → World → Prop), StR C σ a w → (∀ σ a w, N.k σ → StR C σ a w → Q .normal a w) → wpOps P ops Q (List.range' k rest.length) a w
class HS (P : Program) (ops : Array Oper) (k : Nat) (rest : List Oper) where
  k : St → Prop
/-- an operation by hand: from one state to the other. -/
def HOp (P : Program) (ops : Array Oper) (k : Nat) (σ σ' : St) : Prop := ∀ (C : Ctx) (a : Act) (w : World) (Q : Exit → Act → World → Prop), StR C σ a w → wpOp P ops Q k (fun a' w' => StR C σ' a' w') a w

variable {P : Program} {ops : Array Oper} {k : Nat} {σ σ' : St} {N : HN} {o : Oper} {rest : List Oper}
theorem sops_op (h : HOp P ops k σ σ') (h2 : SOps P ops (k + 1) rest σ' N) : SOps P ops k (o :: rest) σ N := by
  intro hd C a w Q hS hQ
  rw [List.length_cons, List.range'_succ, wpOps_cons]
  refine wpOp_mono (fun a' w' hS' => ?_) (h C a w Q hS)
  exact h2 (by rw [← List.drop_drop, hd]; rfl) C a' w' Q hS' hQ
theorem sops_pre {own : List Nat} (pre : List Oper) {l : List Oper} (hl : l = pre ++ rest) (h : @AOps P own ops.toList pre σ ⟨fun σ' => SOps P ops (k + pre.length) rest σ' N⟩) : SOps P ops k l σ N := by
  subst hl
  intro hd C a w Q hS hQ
  refine aops_then (P := P) (own := own) rest pre k σ a w hd h hS ?_
  intro σ' a' w' h' hS'
  exact h' (by rw [← List.drop_drop, hd]; simp) C a' w' Q hS' hQ
theorem sops_end (h : N.k σ) : SOps P ops k [] σ N := by
  intro _ C a w Q hS hQ
  exact hQ σ a w h hS
theorem swp_s {id : Nat} {E : HE} {Rt : HR} (h : SOps P ops 0 ops.toList σ N) : @SWp P (.region id ops false) σ N E Rt := by
  intro C a w hS
  refine wp_region ?_
  have := h rfl C a w (APost C N.k E.k (fun σ => Rt.k σ ())) hS (fun σ a w h1 h2 => ⟨σ, h1, h2⟩)
  rw [List.range_eq_range']
  simpa using this
theorem hop_f {f : FuncId} {args : Array Operand} {ats : Array TypeId} {M N : Mem} {x : AV} (ho : ops[k]? = some o) (hg : o.guard = none) (hop : o.op = .call ⟨.value (.func f), args, ats⟩)
    (hz : FSpec P f (args.toList.map σ.ev) M σ.M x N) : HOp P ops k σ ⟨setS (σ.sl.map (AV.sub (keepF M (args.toList.map σ.ev)) (keepG M (args.toList.map σ.ev)))) o.dst x, N⟩ := fun _ _ _ _ hS => frame_call ho hg hop hz hS
end Aw
end Go.Proofs.Ytkmbbbemmohmcaa

namespace Go.Proofs.Ytkmbbbemmohmcaa
namespace Aw
open Go.RowKit
set_option linter.unusedSimpArgs false

/-- such a call. -/
def afc (P : Program) (o : Oper) (σ : St) [N : HK (St → Prop)] : Prop :=
  match o.op, o.guard with
  | .call ⟨.value (.func f), args, _⟩, none => ACallF P f (args.toList.map σ.ev) σ.M (K := ⟨fun M x M' => N.k ⟨setS (σ.sl.map (AV.sub (keepF M (args.toList.map σ.ev)) (keepG M (args.toList.map σ.ev)))) o.dst x, M'⟩⟩)
  | _, _ => False

/-- the orders. -/
inductive OTr
  | done
  | nil
  | alt (i : Nat) (t : OTr) (more : OTr)
def OTr.alts : OTr → List Nat
  | .alt i _ more => i :: more.alts
  | _ => []
def OTr.isDone : OTr → Bool
  | .done => true
  | _ => false
def OTr.okAll (ops : Array Oper) : OTr → Nat → Array Bool → Bool
  | .done, _, L => (Region.ready .any ops L).isEmpty
  | .nil, _, _ => true
  | .alt i s more, n, L => (s.isDone || (decide (2 ≤ n) && (Region.ready .any ops (L.setIfInBounds i true)).all (fun j => s.alts.contains j) && !(Region.ready .any ops (L.setIfInBounds i true)).isEmpty)) && s.okAll ops (n - 1) (L.setIfInBounds i true) && more.okAll ops n L
def OTr.ok (ops : Array Oper) (t : OTr) : Bool := (Region.ready .any ops (Array.replicate ops.size false)).all (fun j => t.alts.contains j) && !(Region.ready .any ops (Array.replicate ops.size false)).isEmpty && decide (0 < ops.size) && !t.isDone && t.okAll ops ops.size (Array.replicate ops.size false)

def ADr (P : Program) (own : List Nat) (ops : List Oper) (m : Nat) : OTr → St → [HN] → Prop
  | .done, σ, N => N.k σ
  | .nil, _, _ => True
  | .alt i t more, σ, N => AOpt (ops[i]?) (K := ⟨fun o => @ACond (i == m) ⟨@afc P o σ ⟨fun σ' => @ADr P own ops m t σ' N⟩⟩ ⟨@aop P own ops o σ ⟨fun σ' => @ADr P own ops m t σ' N⟩⟩⟩) ∧ @ADr P own ops m more σ N

variable {P : Program} {own : List Nat} {ops : Array Oper} {m : Nat}

theorem afc_sound {C : Ctx} {σ : St} {a : Act} {w : World} {Q : Exit → Act → World → Prop} {i : Nat} {o : Oper} {N : HK (St → Prop)} (ho : ops[i]? = some o) (h : afc P o σ (N := N)) (hS : StR C σ a w) :
    wpOp P ops Q i (fun a' w' => ∃ σ', N.k σ' ∧ StR C σ' a' w') a w := by
  unfold afc at h
  split at h
  · rename_i f args tys hop hg
    obtain ⟨M, x, M', hz, hK⟩ := h
    exact wpOp_mono (fun a' w' hS' => ⟨_, hK, hS'⟩) (frame_call ho hg hop hz hS)
  · exact h.elim

theorem adr_sound {N : HN} {C : Ctx} {Q : Exit → Act → World → Prop} (hN : ∀ σ a w, N.k σ → StR C σ a w → Q .normal a w) : ∀ (t : OTr) (n : Nat) (L : Array Bool) (σ : St) (a : Act) (w : World), t.okAll ops n L = true → @ADr P own ops.toList m t σ N → StR C σ a w →
    (t.isDone = true → Region.ready .any ops L = [] ∧ Q .normal a w) ∧ (t.isDone = false → ∀ i ∈ t.alts, wpOp P ops Q i (fun a' w' => wpAny P .any ops Q (n - 1) (L.setIfInBounds i true) a' w') a w) := by
  intro t
  induction t with
  | done =>
    intro n L σ a w hok h hS
    exact ⟨fun _ => ⟨by simpa [OTr.okAll] using hok, hN σ a w h hS⟩, fun e => (by cases e)⟩
  | nil =>
    intro n L σ a w hok h hS
    exact ⟨fun e => (by cases e), fun _ i hi => (by simp [OTr.alts] at hi)⟩
  | alt i s more ih1 ih2 =>
    intro n L σ a w hok h hS
    refine ⟨fun e => (by cases e), fun _ j hj => ?_⟩
    simp only [OTr.okAll, Bool.and_eq_true] at hok
    obtain ⟨⟨hr, hs⟩, hm⟩ := hok
    unfold ADr at h
    obtain ⟨hi, hmo⟩ := h
    simp only [OTr.alts, List.mem_cons] at hj
    have key : wpOp P ops Q i (fun a' w' => wpAny P .any ops Q (n - 1) (L.setIfInBounds i true) a' w') a w := by
      obtain ⟨o, ho, hi⟩ := AOpt_elim hi
      have ho : ops[i]? = some o := by simpa using ho
      have hcont : ∀ σ' a' w', @ADr P own ops.toList m s σ' N → StR C σ' a' w' → wpAny P .any ops Q (n - 1) (L.setIfInBounds i true) a' w' := by
        intro σ' a' w' hA hS'
        have := ih1 (n - 1) (L.setIfInBounds i true) σ' a' w' hs hA hS'
        cases hd : s.isDone with
        | true =>
          obtain ⟨h0, hQ⟩ := this.1 hd
          cases hn : n - 1 with
          | zero => exact ⟨h0, hQ⟩
          | succ k => exact ⟨fun _ => hQ, fun q hq => by rw [h0] at hq; cases hq⟩
        | false =>
          rw [hd] at hr
          simp only [Bool.false_or, Bool.and_eq_true, decide_eq_true_eq, List.all_eq_true, Bool.not_eq_true', List.isEmpty_eq_false_iff] at hr
          obtain ⟨⟨h2, h3⟩, h4⟩ := hr
          obtain ⟨k, hn⟩ : ∃ k, n - 1 = k + 1 := ⟨n - 2, by omega⟩
          rw [hn] at this ⊢
          refine ⟨fun h0 => absurd h0 h4, fun q hq => ?_⟩
          have := this.2 hd q (by simpa using h3 q hq)
          simpa using this
      have hi2 : @ACond (i == m) ⟨@afc P o σ ⟨fun σ' => @ADr P own ops.toList m s σ' N⟩⟩ ⟨@aop P own ops.toList o σ ⟨fun σ' => @ADr P own ops.toList m s σ' N⟩⟩ := hi
      cases hc : i == m with
      | true =>
        rw [hc] at hi2
        exact wpOp_mono (fun a' w' ⟨σ', h1, h2⟩ => hcont σ' a' w' h1 h2) (afc_sound (N := ⟨fun σ' => @ADr P own ops.toList m s σ' N⟩) ho (hi2.1 rfl) hS)
      | false =>
        rw [hc] at hi2
        exact wpOp_mono (fun a' w' ⟨σ', h1, h2⟩ => hcont σ' a' w' h1 h2) (aop_sound (N := ⟨fun σ' => @ADr P own ops.toList m s σ' N⟩) ho (hi2.2 rfl) hS)
    rcases hj with rfl | hj
    · exact key
    · cases hd : more.isDone with
      | true => cases more <;> simp [OTr.isDone, OTr.alts] at hd hj
      | false => exact (ih2 n L σ a w hm hmo hS).2 hd j hj

theorem adr_any {N : HN} {C : Ctx} {Q : Exit → Act → World → Prop} (hN : ∀ σ a w, N.k σ → StR C σ a w → Q .normal a w) (t : OTr) (hok : t.ok ops = true) {σ : St} {a : Act} {w : World} (h : @ADr P own ops.toList m t σ N) (hS : StR C σ a w) :
    wpAny P .any ops Q ops.size (Array.replicate ops.size false) a w := by
  unfold OTr.ok at hok
  simp only [Bool.and_eq_true, decide_eq_true_eq, List.all_eq_true, Bool.not_eq_true', List.isEmpty_eq_false_iff] at hok
  obtain ⟨⟨⟨⟨h1, h2⟩, h3⟩, h4⟩, h5⟩ := hok
  have := adr_sound (Q := Q) hN t ops.size _ σ a w h5 h hS
  obtain ⟨k, hn⟩ : ∃ k, ops.size = k + 1 := ⟨ops.size - 1, by omega⟩
  have h6 := this.2 h4
  generalize hL : Array.replicate ops.size false = L at *
  rw [hn] at h6 ⊢
  refine ⟨fun h0 => absurd h0 h2, fun q hq => ?_⟩
  have := h6 q (by simpa using h1 q hq)
  simpa using this

theorem swp_dr {id : Nat} {σ : St} {N : HN} {E : HE} {Rt : HR} (m : Nat) (t : OTr) (hm : P.follows .mixedOrders = true) (hok : t.ok ops = true) (h : @ADr P own ops.toList m t σ N) : @SWp P (.region id ops true) σ N E Rt := by
  intro C a w hS
  exact wp_region_any hm (adr_any (own := own) (fun σ a w hN hS => ⟨σ, hN, hS⟩) t hok h hS.drawn)
theorem swpR_dr {W : List Nat} {id : Nat} {σ : St} {N : HN} (ho : ops.all (okO W) = true) (m : Nat) (t : OTr) (hm : P.follows .mixedOrders = true) (hok : t.ok ops = true) (h : @ADr P own ops.toList m t σ N) :
    @SWpR P W (.region id ops true) σ N := by
  intro l n C a w hS
  refine wpIn_mono (Q := KPost W a (NQ C N.k)) (wpIn_region_any hm ?_) fun _ _ _ => kpost_nq
  exact wpAnyIn_of ho (nq_nrm C N.k) _ _ a _ (Kept.refl W a) (adr_any (own := own) (Q := NQ C N.k) (fun σ a w hN hS => ⟨rfl, σ, hN, hS⟩) t hok h hS.drawn)
end Aw
end Go.Proofs.Ytkmbbbemmohmcaa
