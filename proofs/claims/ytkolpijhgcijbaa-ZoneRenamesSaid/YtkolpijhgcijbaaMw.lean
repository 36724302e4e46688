/-
  Several texts in one: AwV, AwW, AwX, AwY, AwZ.
-/
import Derived.Test.YtkolpijhgcijbaaMb
import Derived.Laws.BitsLemmas
import Derived.Maps.RangeRun
import Derived.StillTail
set_option linter.unusedSimpArgs false
set_option linter.unusedVariables false
namespace Go.Proofs.Ytkolpijhgcijbaa
namespace Aw
open Go.RowKit

section
variable {P : Program} {σ : St}

theorem ev_put_ne {a : Act} {d t : Tmp} {v : Value} (h : d ≠ t) : (a.put (some d) v).eval (.tmp t) = a.eval (.tmp t) := by
  simp [Act.eval, Act.put, Array.getD_eq_getD_getElem?, Array.getElem?_setIfInBounds_ne h]
theorem ev_put_eq {a : Act} {d : Tmp} {v : Value} (h : d < a.tmps.size) : (a.put (some d) v).eval (.tmp d) = v := by
  simp [Act.eval, Act.put, Array.getD_eq_getD_getElem?, h]
theorem size_put {a : Act} {d : Tmp} {v : Value} : (a.put (some d) v).tmps.size = a.tmps.size := by simp [Act.put]
theorem defers_put {a : Act} {d : Tmp} {v : Value} : (a.put (some d) v).defers = a.defers := rfl

theorem grow_slots {a : Act} {w : World} {T : Nat → Prop} {hv : Nat → Option Value} {m : Nat} {v : Value} (hsa : a.tmps.size = 27) (hr : RV w T hv (.o m) v) : ∀ (j : Nat) (x : AV), ((List.replicate 27 AV.bot).set 0 (.o m))[j]? = some x → ∃ u, (a.put (some 0) v).tmps[j]? = some u ∧ RV w T hv x u := by
  intro j x hx
  rw [List.getElem?_set] at hx
  simp only [List.length_replicate, List.getElem?_replicate] at hx
  simp only [Act.put]
  split at hx
  · rename_i hm
    subst hm
    simp only [show (0 : Nat) < 27 by decide, if_true, Option.some.injEq] at hx
    subst hx
    exact ⟨v, by simp [hsa], hr⟩
  · rename_i hm
    split at hx
    · rename_i hlt
      injection hx with hx
      subst hx
      exact ⟨_, Array.getElem?_eq_getElem (by simp only [Array.size_setIfInBounds, hsa]; exact hlt), by simp [RV]⟩
    · cases hx

theorem run_append_zeros (w : World) (t ty e tn : TypeId) (i : TypeInfo) (z : Value) {k : IntKind} (ht : P.underlying t = some (.slice e)) (hn : P.underlying tn = some (.int k)) (hi : P.info? e = some i) (hz : i.zero = some z)
    (n : Nat) (h0 : 0 < n) (h1 : n ≤ 1000000) (hb : i.bytes ≤ 1000) (hs : 0 < i.size) :
    (Builtin.append_ #[t, tn] ty #[.slice none 0 0, .int .i64 n]).run P w =
      .ok (.slice (some ⟨w.heap.size, 0, none⟩) n (grownCap w n 0 e)) (w.drew.alloc (.cells (Builtin.zeroCells z.cells n ++ Builtin.zeroCells z.cells (grownCap w n 0 e - n)) e)) := by
  have hw : IntKind.i64.wrap (n : Int) = n := by rw [IntKind.wrap_i64]; omega
  have hn0 : ¬ ((n : Int) < 0) := by omega
  have hne : n ≠ 0 := by omega
  have hne2 : ¬ (n * i.size = 0) := by
    intro h
    rcases Nat.mul_eq_zero.1 h with h | h <;> omega
  have hby : n * i.bytes ≤ 1000000 * 1000 := Nat.mul_le_mul h1 hb
  have hbyI : ¬ ((281474976710656 : Int) < (n : Int) * (i.bytes : Int)) := by
    have : ((n * i.bytes : Nat) : Int) ≤ 1000000 * 1000 := by omega
    rw [Int.natCast_mul] at this
    omega
  have h63' : ¬ (9223372036854775807 < (n : Int)) := by omega
  have h48' : ¬ (281474976710656 < Builtin.nextslicecap n 0 * i.bytes) := by rw [nextslicecap_zero h0]; omega
  simp [Builtin.append_, run_underlying ht, run_underlying hn, sizeOf, typeInfo, zeroValue, hi, hz, hw, hn0, hne, hne2, hbyI, h63', h48', asInt, asIntOf, Question.forced, run_firstCells_none, Go.newRow, newObj, Sem.run, grownCap]

theorem swp_grow {id : Nat} {ts tn : TypeId} {y0 y1 y2 y3 y4 y5 y6 y7 y8 y9 : TypeId} {p0 p1 p2 p3 p4 p5 p6 p7 p8 p9 : String} {f0 f1 f2 f3 f4 f5 f6 f7 f8 f9 : Array Edge} {N : HN} {E : HE} {Rt : HR} {tis te : TI} {e : TypeId} {n : Nat} {k : IntKind}
    (hts : tiOf P ts = some tis) (htse : tis.elem = some e) (hte : tiOf P e = some te) (hint : P.underlying tn = some (.int k)) (hs : σ.sl[0]? = some (.v (.slice none 0 0))) (hn : σ.sl[1]? = some (I (n : Int)))
    (h0 : 0 < n) (h1 : n ≤ 1000000) (hby : te.bytes ≤ 1000) (hsz : 0 < te.size) (hlen : σ.sl.length = 27)
    (h : N.k ⟨(List.replicate 27 .bot).set 0 (.o σ.M.length), σ.M ++ [some ⟨none, e, te.size, []⟩]⟩) :
    @SWp P (.region id #[⟨some 17, .move (.tmp 0), y0, p0, f0, none⟩, ⟨some 18, .move (.tmp 0), y1, p1, f1, none⟩, ⟨some 19, .call ⟨.builtin .cap, #[.tmp 18], #[ts]⟩, y2, p2, f2, none⟩,
      ⟨some 20, .slice ts (.tmp 17) none (some (.tmp 19)) none, y3, p3, f3, none⟩, ⟨some 21, .move (.tmp 1), y4, p4, f4, none⟩, ⟨some 22, .call ⟨.builtin .append, #[.tmp 20, .tmp 21], #[ts, tn]⟩, y5, p5, f5, none⟩,
      ⟨some 23, .move (.tmp 0), y6, p6, f6, none⟩, ⟨some 24, .call ⟨.builtin .len, #[.tmp 23], #[ts]⟩, y7, p7, f7, none⟩, ⟨some 25, .slice ts (.tmp 22) none (some (.tmp 24)) none, y8, p8, f8, none⟩, ⟨some 0, .assign (.tmp 25), y9, p9, f9, none⟩] false) σ N E Rt := by
  intro C a w hS
  obtain ⟨hv, hd, hsz', hsl, hM, hF⟩ := hS
  have hu := ti_elem hts htse
  obtain ⟨i, d, z, hi, hdd, hz, hz1, hz2, _, hsi, hbi, _⟩ := tiOf_spec hte
  obtain ⟨v0, g0, g0'⟩ := hsl 0 _ hs
  obtain ⟨v1, g1, g1'⟩ := hsl 1 _ hn
  simp only [RV] at g0' g1'
  subst g0'
  subst g1'
  have hsa : a.tmps.size = 27 := by rw [hsz', hlen]
  have e0 : a.eval (.tmp 0) = .slice none 0 0 := by simp [Act.eval, Array.getD_eq_getD_getElem?, g0]
  have e1 : a.eval (.tmp 1) = .int .i64 n := by simp [Act.eval, Array.getD_eq_getD_getElem?, g1]
  have hap := run_append_zeros w ts y5 e tn i z hu hint hi hz n h0 h1 (by omega) (by omega)
  generalize hc : grownCap w n 0 e = c at hap
  have hcn : n ≤ c := by rw [← hc]; exact grownCap_ge w n 0 e
  have hcm : c ≤ maxLen := by rw [← hc]; exact grownCap_le_maxLen w n 0 e (by simp only [maxLen]; omega)
  generalize hrow : Builtin.zeroCells z.cells n ++ Builtin.zeroCells z.cells (c - n) = cs at hap
  have hcs : cs.size = c * te.size := by
    rw [← hrow, Array.size_append, size_zeroCells, size_zeroCells, hz1, hsi, ← Nat.add_mul]
    congr 1; omega
  have sb : ∀ (W : World) (y : Nat) (code : BoundsCode), (Instr.sliceBound (.int .i64 0) y code).run P W = .ok 0 W := by
    intro W y code
    simp only [Instr.sliceBound, Sem.run_bind, asIntOf, Sem.run_pure, Result.andThen_ok]
    rw [if_pos (by omega)]
    simp
  refine wp_region ?_
  show wpOps P _ _ [0, 1, 2, 3, 4, 5, 6, 7, 8, 9] a w
  rw [wpOps_cons]
  refine wpOp_of (o := ⟨some 17, .move (.tmp 0), y0, p0, f0, none⟩) rfl rfl (wp_value (v := .slice none 0 0) (w' := w) ?_ ?_)
  · have q0 : a.eval (.tmp 0) = .slice none 0 0 := by simp only [ev_put_eq, ev_put_ne, size_put, e0, e1, hsa, ne_eq, Nat.reduceLT, Nat.reduceEqDiff, not_false_eq_true, reduceCtorEq]
    simp only [execOp, q0, Sem.run_bind, Sem.run_pure, Result.andThen_ok]
  rw [wpOps_cons]
  refine wpOp_of (o := ⟨some 18, .move (.tmp 0), y1, p1, f1, none⟩) rfl rfl (wp_value (v := .slice none 0 0) (w' := w) ?_ ?_)
  · have q0 : (a.put (some 17) (.slice none 0 0)).eval (.tmp 0) = .slice none 0 0 := by simp only [ev_put_eq, ev_put_ne, size_put, e0, e1, hsa, ne_eq, Nat.reduceLT, Nat.reduceEqDiff, not_false_eq_true, reduceCtorEq]
    simp only [execOp, q0, Sem.run_bind, Sem.run_pure, Result.andThen_ok]
  rw [wpOps_cons]
  refine wpOp_of (o := ⟨some 19, .call ⟨.builtin .cap, #[.tmp 18], #[ts]⟩, y2, p2, f2, none⟩) rfl rfl (wp_value (v := .int .i64 0) (w' := w) ?_ ?_)
  · have q18 : ((a.put (some 17) (.slice none 0 0)).put (some 18) (.slice none 0 0)).eval (.tmp 18) = .slice none 0 0 := by simp only [ev_put_eq, ev_put_ne, size_put, e0, e1, hsa, ne_eq, Nat.reduceLT, Nat.reduceEqDiff, not_false_eq_true, reduceCtorEq]
    simp [execOp, resolve, invoke, builtin, q18, Builtin.cap_, run_underlying hu, goInt]
  rw [wpOps_cons]
  refine wpOp_of (o := ⟨some 20, .slice ts (.tmp 17) none (some (.tmp 19)) none, y3, p3, f3, none⟩) rfl rfl (wp_value (v := .slice none 0 0) (w' := w) ?_ ?_)
  · have q17 : (((a.put (some 17) (.slice none 0 0)).put (some 18) (.slice none 0 0)).put (some 19) (.int .i64 0)).eval (.tmp 17) = .slice none 0 0 := by simp only [ev_put_eq, ev_put_ne, size_put, e0, e1, hsa, ne_eq, Nat.reduceLT, Nat.reduceEqDiff, not_false_eq_true, reduceCtorEq]
    have q19 : (((a.put (some 17) (.slice none 0 0)).put (some 18) (.slice none 0 0)).put (some 19) (.int .i64 0)).eval (.tmp 19) = .int .i64 0 := by simp only [ev_put_eq, ev_put_ne, size_put, e0, e1, hsa, ne_eq, Nat.reduceLT, Nat.reduceEqDiff, not_false_eq_true, reduceCtorEq]
    simp [execOp, q17, q19, Instr.sliceAt, Instr.slice, Instr.sliceBounds, run_underlying hu, sb, ti_size hte]
  rw [wpOps_cons]
  refine wpOp_of (o := ⟨some 21, .move (.tmp 1), y4, p4, f4, none⟩) rfl rfl (wp_value (v := .int .i64 n) (w' := w) ?_ ?_)
  · have q1 : ((((a.put (some 17) (.slice none 0 0)).put (some 18) (.slice none 0 0)).put (some 19) (.int .i64 0)).put (some 20) (.slice none 0 0)).eval (.tmp 1) = .int .i64 n := by simp only [ev_put_eq, ev_put_ne, size_put, e0, e1, hsa, ne_eq, Nat.reduceLT, Nat.reduceEqDiff, not_false_eq_true, reduceCtorEq]
    simp only [execOp, q1, Sem.run_bind, Sem.run_pure, Result.andThen_ok]
  rw [wpOps_cons]
  refine wpOp_of (o := ⟨some 22, .call ⟨.builtin .append, #[.tmp 20, .tmp 21], #[ts, tn]⟩, y5, p5, f5, none⟩) rfl rfl (wp_value (v := .slice (some ⟨w.heap.size, 0, none⟩) n c) (w' := (w.drew.alloc (.cells cs e))) ?_ ?_)
  · have q20 : (((((a.put (some 17) (.slice none 0 0)).put (some 18) (.slice none 0 0)).put (some 19) (.int .i64 0)).put (some 20) (.slice none 0 0)).put (some 21) (.int .i64 n)).eval (.tmp 20) = .slice none 0 0 := by simp only [ev_put_eq, ev_put_ne, size_put, e0, e1, hsa, ne_eq, Nat.reduceLT, Nat.reduceEqDiff, not_false_eq_true, reduceCtorEq]
    have q21 : (((((a.put (some 17) (.slice none 0 0)).put (some 18) (.slice none 0 0)).put (some 19) (.int .i64 0)).put (some 20) (.slice none 0 0)).put (some 21) (.int .i64 n)).eval (.tmp 21) = .int .i64 n := by simp only [ev_put_eq, ev_put_ne, size_put, e0, e1, hsa, ne_eq, Nat.reduceLT, Nat.reduceEqDiff, not_false_eq_true, reduceCtorEq]
    simp only [execOp, resolve, invoke, builtin, Sem.run_bind, Sem.run_pure, Result.andThen_ok, List.map_toArray, List.map_cons, List.map_nil, q20, q21, hap]
  rw [wpOps_cons]
  refine wpOp_of (o := ⟨some 23, .move (.tmp 0), y6, p6, f6, none⟩) rfl rfl (wp_value (v := .slice none 0 0) (w' := (w.drew.alloc (.cells cs e))) ?_ ?_)
  · have q0 : ((((((a.put (some 17) (.slice none 0 0)).put (some 18) (.slice none 0 0)).put (some 19) (.int .i64 0)).put (some 20) (.slice none 0 0)).put (some 21) (.int .i64 n)).put (some 22) (.slice (some ⟨w.heap.size, 0, none⟩) n c)).eval (.tmp 0) = .slice none 0 0 := by simp only [ev_put_eq, ev_put_ne, size_put, e0, e1, hsa, ne_eq, Nat.reduceLT, Nat.reduceEqDiff, not_false_eq_true, reduceCtorEq]
    simp only [execOp, q0, Sem.run_bind, Sem.run_pure, Result.andThen_ok]
  rw [wpOps_cons]
  refine wpOp_of (o := ⟨some 24, .call ⟨.builtin .len, #[.tmp 23], #[ts]⟩, y7, p7, f7, none⟩) rfl rfl (wp_value (v := .int .i64 0) (w' := (w.drew.alloc (.cells cs e))) ?_ ?_)
  · have q23 : (((((((a.put (some 17) (.slice none 0 0)).put (some 18) (.slice none 0 0)).put (some 19) (.int .i64 0)).put (some 20) (.slice none 0 0)).put (some 21) (.int .i64 n)).put (some 22) (.slice (some ⟨w.heap.size, 0, none⟩) n c)).put (some 23) (.slice none 0 0)).eval (.tmp 23) = .slice none 0 0 := by simp only [ev_put_eq, ev_put_ne, size_put, e0, e1, hsa, ne_eq, Nat.reduceLT, Nat.reduceEqDiff, not_false_eq_true, reduceCtorEq]
    simp [execOp, resolve, invoke, builtin, q23, Builtin.len_, run_underlying hu, goInt]
  rw [wpOps_cons]
  refine wpOp_of (o := ⟨some 25, .slice ts (.tmp 22) none (some (.tmp 24)) none, y8, p8, f8, none⟩) rfl rfl (wp_value (v := .slice (some ⟨w.heap.size, 0, none⟩) 0 c) (w' := (w.drew.alloc (.cells cs e))) ?_ ?_)
  · have q22 : ((((((((a.put (some 17) (.slice none 0 0)).put (some 18) (.slice none 0 0)).put (some 19) (.int .i64 0)).put (some 20) (.slice none 0 0)).put (some 21) (.int .i64 n)).put (some 22) (.slice (some ⟨w.heap.size, 0, none⟩) n c)).put (some 23) (.slice none 0 0)).put (some 24) (.int .i64 0)).eval (.tmp 22) = .slice (some ⟨w.heap.size, 0, none⟩) n c := by simp only [ev_put_eq, ev_put_ne, size_put, e0, e1, hsa, ne_eq, Nat.reduceLT, Nat.reduceEqDiff, not_false_eq_true, reduceCtorEq]
    have q24 : ((((((((a.put (some 17) (.slice none 0 0)).put (some 18) (.slice none 0 0)).put (some 19) (.int .i64 0)).put (some 20) (.slice none 0 0)).put (some 21) (.int .i64 n)).put (some 22) (.slice (some ⟨w.heap.size, 0, none⟩) n c)).put (some 23) (.slice none 0 0)).put (some 24) (.int .i64 0)).eval (.tmp 24) = .int .i64 0 := by simp only [ev_put_eq, ev_put_ne, size_put, e0, e1, hsa, ne_eq, Nat.reduceLT, Nat.reduceEqDiff, not_false_eq_true, reduceCtorEq]
    simp [execOp, q22, q24, Instr.sliceAt, Instr.slice, Instr.sliceBounds, run_underlying hu, sb, ti_size hte, Addr.add_lit]
  rw [wpOps_cons]
  refine wpOp_of (o := ⟨some 0, .assign (.tmp 25), y9, p9, f9, none⟩) rfl rfl (wp_value (v := .slice (some ⟨w.heap.size, 0, none⟩) 0 c) (w' := (w.drew.alloc (.cells cs e))) ?_ ?_)
  · have q25 : (((((((((a.put (some 17) (.slice none 0 0)).put (some 18) (.slice none 0 0)).put (some 19) (.int .i64 0)).put (some 20) (.slice none 0 0)).put (some 21) (.int .i64 n)).put (some 22) (.slice (some ⟨w.heap.size, 0, none⟩) n c)).put (some 23) (.slice none 0 0)).put (some 24) (.int .i64 0)).put (some 25) (.slice (some ⟨w.heap.size, 0, none⟩) 0 c)).eval (.tmp 25) = .slice (some ⟨w.heap.size, 0, none⟩) 0 c := by simp only [ev_put_eq, ev_put_ne, size_put, e0, e1, hsa, ne_eq, Nat.reduceLT, Nat.reduceEqDiff, not_false_eq_true, reduceCtorEq]
    simp only [execOp, q25, Sem.run_bind, Sem.run_pure, Result.andThen_ok]
  simp only [wpOps]
  have hb : Bel w.heap.size w (w.drew.alloc (.cells cs e)) := ⟨⟨rfl, rfl, rfl, by simp, fun k hk => heap_alloc_old w.drew _ (by simpa using hk)⟩, Nat.le_succ _⟩
  obtain ⟨m1, m2⟩ := mem_add hM hb (ob := ⟨none, e, te.size, []⟩) (v := .slice (some ⟨w.heap.size, 0, none⟩) 0 c) (fun b hb => by simp [blk, Value.ownBlock] at hb; omega)
    (fun hs => ObR.of_row rfl ⟨[], ⟨by simp, .inr ⟨w.heap.size, c, cs, rfl, Nat.zero_le _, heap_alloc_new w.drew _, Nat.zero_le _, hcm, hcs, by simp⟩⟩, by simp, by simp [RL]⟩)
  refine ⟨_, h, ?_⟩
  refine ⟨_, by simp only [defers_put]; exact hd, by simp only [size_put, hsa]; simp, grow_slots (by simp only [size_put, hsa]) ?_, m1, hF.step m2⟩
  simp only [RV, R]
  exact ⟨_, hvAdd_self _ _, rfl, rfl⟩
end
end Aw
end Go.Proofs.Ytkolpijhgcijbaa

namespace Go.Proofs.Ytkolpijhgcijbaa
namespace Aw
open Go.RowKit
set_option linter.unusedSimpArgs false

section
theorem RL_set_imp {w : World} {T : Nat → Prop} {hv : Nat → Option Value} {y : AV} : ∀ (xs : List AV) (j : Nat) (x : AV) (us : List Value), xs[j]? = some x → (∀ u, R w T hv x u → R w T hv y u) → RL w T hv xs us → RL w T hv (xs.set j y) us
  | [], j, x, us, h, _, _ => by simp at h
  | z :: xs, 0, x, us, h, hxy, hr => by
    simp only [List.getElem?_cons_zero, Option.some.injEq] at h
    subst h
    simp only [List.set_cons_zero, RL] at hr ⊢
    obtain ⟨u1, u2, e, h1, h2⟩ := hr
    exact ⟨u1, u2, e, hxy u1 h1, h2⟩
  | z :: xs, j + 1, x, us, h, hxy, hr => by
    simp only [List.getElem?_cons_succ] at h
    simp only [List.set_cons_succ, RL] at hr ⊢
    obtain ⟨u1, u2, e, h1, h2⟩ := hr
    exact ⟨u1, u2, e, h1, RL_set_imp xs j x u2 h hxy h2⟩
theorem sizeL_set {y : AV} : ∀ (xs : List AV) (j : Nat) (x : AV), xs[j]? = some x → y.size = x.size → AV.sizeL (xs.set j y) = AV.sizeL xs
  | [], j, x, h, _ => by simp at h
  | z :: xs, 0, x, h, e => by
    simp only [List.getElem?_cons_zero, Option.some.injEq] at h
    subst h
    simp [AV.sizeL, e]
  | z :: xs, j + 1, x, h, e => by
    simp only [List.getElem?_cons_succ] at h
    simp [AV.sizeL, sizeL_set xs j x h e]

theorem mem_same {A : Nat → Prop} {w : World} {hv : Nat → Option Value} {M : Mem} (hM : MemR A w hv M) {i : Nat} {ob ob' : Ob} (hi : M[i]? = some (some ob)) (h : ∀ v, ObR w (OwnA A hv) hv ob v → ObR w (OwnA A hv) hv ob' v) : MemR A w hv (M.set i (some ob')) := by
  have hlt := (List.getElem?_eq_some_iff.1 hi).1
  refine ⟨fun j o hj => ?_, fun j v hj => ?_, hM.inj, hM.old⟩
  · rw [List.getElem?_set] at hj
    split at hj
    · rename_i e
      subst e
      try rw [if_pos hlt] at hj
      injection hj with hj
      injection hj with hj
      subst hj
      obtain ⟨v, h1, h2⟩ := hM.live i ob hi
      exact ⟨v, h1, h v h2⟩
    · exact hM.live j o hj
  · obtain ⟨o, ho⟩ := hM.dom j v hj
    by_cases e : i = j
    · subst e
      exact ⟨ob', by simp [hlt]⟩
    · exact ⟨o, by rw [List.getElem?_set_ne e]; exact ho⟩

theorem le_nil {sl : List AV} {M : Mem} (i j c : Nat) (ty : TypeId) (k : Nat) {ob : Ob} {cells : List AV} (hi : M[i]? = some (some ob)) (hm : ob.mp = none) (hj : ob.xs[j]? = some (.g cells)) (hc : cells[c]? = some (.v (.slice none 0 0))) :
    Le ⟨sl, M⟩ ⟨sl, (M.set i (some { ob with xs := ob.xs.set j (.g (cells.set c (.o M.length))) })) ++ [some ⟨none, ty, k, []⟩]⟩ := by
  intro C a w hS
  obtain ⟨hv, hd, hsz, hsl, hM, hF⟩ := hS
  have hlt := (List.getElem?_eq_some_iff.1 hi).1
  obtain ⟨m1, m2⟩ := mem_add hM (w' := w) (Bel.refl _ _) (ob := ⟨none, ty, k, []⟩) (v := .slice none 0 0) (fun b hb => by simp [blk, Value.ownBlock] at hb)
    (fun hs => ObR.of_row rfl ⟨[], World.ownsRow_nil _ _ _ _, by simp, by simp [RL]⟩)
  have m3 := mem_same (ob' := { ob with xs := ob.xs.set j (.g (cells.set c (.o M.length))) }) m1 (i := i) (ob := ob) (by rw [List.getElem?_append_left hlt]; exact hi) (fun v h => by
    obtain ⟨us, h1, h2, h3⟩ := h.row hm
    refine ObR.of_row hm ⟨us, ?_, ?_, ?_⟩
    · simpa using h1
    · intro x hx
      rcases List.mem_or_eq_of_mem_set hx with hx | rfl
      · exact h2 x hx
      · have h4 := h2 (.g cells) (List.mem_of_getElem? hj)
        simp only [AV.size] at h4 ⊢
        rw [sizeL_set (y := .o M.length) cells c _ hc rfl]; exact h4
    · refine RL_set_imp ob.xs j _ us hj (fun u hu => ?_) h3
      simp only [R] at hu ⊢
      refine RL_set_imp cells c _ u hc (fun u hu => ?_) hu
      simp only [R] at hu ⊢
      exact ⟨_, hvAdd_self _ _, hu.1, hu.2⟩)
  rw [List.set_append_left _ _ hlt] at m3
  refine ⟨_, hd, hsz, fun m x hx => ?_, m3, hF.step m2⟩
  obtain ⟨v, h1, h2⟩ := hsl m x hx
  have := m2.rv h2
  rw [AV.kill_nil] at this
  exact ⟨v, h1, this⟩
/-! the room of a nil slice -/
theorem slots2 {a : Act} {w : World} {T : Nat → Prop} {hv : Nat → Option Value} {v0 v1 : Value} (hsa : a.tmps.size = 27) (h0 : a.eval (.tmp 0) = v0) (h1 : a.eval (.tmp 1) = v1) : ∀ (j : Nat) (x : AV), (((List.replicate 27 AV.bot).set 0 (.v v0)).set 1 (.v v1))[j]? = some x → ∃ u, a.tmps[j]? = some u ∧ RV w T hv x u := by
  intro j x hx
  have hat : ∀ t : Nat, t < 27 → a.tmps[t]? = some (a.eval (.tmp t)) := fun t ht => by
    rw [Array.getElem?_eq_getElem (by omega)]
    simp [Act.eval, Array.getD_eq_getD_getElem?, hsa, ht]
  have hj : j < 27 := by
    have := (List.getElem?_eq_some_iff.1 hx).1
    simpa using this
  refine ⟨_, hat j hj, ?_⟩
  rw [List.getElem?_set] at hx
  split at hx
  · rename_i e
    subst e
    simp at hx
    subst hx
    simp [RV, h1]
  · rw [List.getElem?_set] at hx
    split at hx
    · rename_i e
      subst e
      try simp at hx
      subst hx
      simp [RV, h0]
    · simp only [List.getElem?_replicate, hj, if_true, Option.some.injEq] at hx
      rw [← hx]
      simp [RV]

theorem run_sub {P : Program} {w : World} {ty : TypeId} {ox oy : Operand} {a b : Int} (h : lim (a - b)) : (do eqGuard .sub ty ox oy (.int .i64 a) (.int .i64 b); binOp .sub ty (.int .i64 a) (.int .i64 b) : Sem Value).run P w = .ok (.int .i64 (a - b)) w := by
  simp only [lim] at h
  simp [eqGuard_at_int, binOp_sub, Op.intArith, IntWalk.i64_in _ h]

variable {P : Program} {σ : St}
theorem swp_cap {id : Nat} {ts tn tm : TypeId} {y0 y1 y2 y3 y4 y5 y6 y7 : TypeId} {p0 p1 p2 p3 p4 p5 p6 p7 : String} {f0 f1 f2 f3 f4 f5 f6 f7 : Array Edge} {N : HN} {E : HE} {Rt : HR} {tis : TI} {e : TypeId} {n : Int}
    (hts : tiOf P ts = some tis) (htse : tis.elem = some e) (hs : σ.sl[0]? = some (.v (.slice none 0 0))) (hn : σ.sl[1]? = some (I n)) (hl : lim n) (hlen : σ.sl.length = 27)
    (h : N.k ⟨((List.replicate 27 .bot).set 0 (.v (.slice none 0 0))).set 1 (I n), σ.M⟩) :
    @SWp P (.region id #[⟨some 8, .move (.tmp 1), y0, p0, f0, none⟩, ⟨some 9, .move (.tmp 0), y1, p1, f1, none⟩, ⟨some 10, .call ⟨.builtin .cap, #[.tmp 9], #[ts]⟩, y2, p2, f2, none⟩, ⟨some 11, .move (.tmp 0), y3, p3, f3, none⟩, ⟨some 12, .call ⟨.builtin .len, #[.tmp 11], #[ts]⟩, y4, p4, f4, none⟩, ⟨some 13, .binOp .sub tn (.tmp 10) (.tmp 12) tm, y5, p5, f5, none⟩, ⟨some 14, .binOp .sub tn (.tmp 8) (.tmp 13) tm, y6, p6, f6, none⟩, ⟨some 1, .assign (.tmp 14), y7, p7, f7, none⟩] false) σ N E Rt := by
  intro C a w hS
  obtain ⟨hv, hd, hsz', hsl, hM, hF⟩ := hS
  have hu := ti_elem hts htse
  obtain ⟨v0, g0, g0'⟩ := hsl 0 _ hs
  obtain ⟨v1, g1, g1'⟩ := hsl 1 _ hn
  simp only [RV] at g0' g1'
  subst g0'
  subst g1'
  have hsa : a.tmps.size = 27 := by rw [hsz', hlen]
  have e0 : a.eval (.tmp 0) = .slice none 0 0 := by simp [Act.eval, Array.getD_eq_getD_getElem?, g0]
  have e1 : a.eval (.tmp 1) = .int .i64 n := by simp [Act.eval, Array.getD_eq_getD_getElem?, g1]
  have hl1 := hl
  have hl0 : lim 0 := by unfold lim; decide
  refine wp_region ?_
  show wpOps P _ _ [0, 1, 2, 3, 4, 5, 6, 7] a w
  rw [wpOps_cons]
  refine wpOp_of (o := ⟨some 8, .move (.tmp 1), y0, p0, f0, none⟩) rfl rfl (wp_value (v := .int .i64 n) (w' := w) ?_ ?_)
  · simp only [execOp, e1, Sem.run_bind, Sem.run_pure, Result.andThen_ok]
  have y0 : (a.put (some 8) (.int .i64 n)).tmps.size = 27 := by rw [size_put, hsa]
  have x0 : (a.put (some 8) (.int .i64 n)).defers = C.dl := hd
  have u0_8 : (a.put (some 8) (.int .i64 n)).eval (.tmp 8) = .int .i64 n := ev_put_eq (by rw [hsa]; decide)
  have u0_0 : (a.put (some 8) (.int .i64 n)).eval (.tmp 0) = .slice none 0 0 := (ev_put_ne (by decide)).trans e0
  have u0_1 : (a.put (some 8) (.int .i64 n)).eval (.tmp 1) = .int .i64 n := (ev_put_ne (by decide)).trans e1
  generalize a.put (some 8) (.int .i64 n) = b0 at y0 x0 u0_8 u0_0 u0_1 ⊢
  rw [wpOps_cons]
  refine wpOp_of (o := ⟨some 9, .move (.tmp 0), y1, p1, f1, none⟩) rfl rfl (wp_value (v := .slice none 0 0) (w' := w) ?_ ?_)
  · simp only [execOp, u0_0, Sem.run_bind, Sem.run_pure, Result.andThen_ok]
  have y1 : (b0.put (some 9) (.slice none 0 0)).tmps.size = 27 := by rw [size_put, y0]
  have x1 : (b0.put (some 9) (.slice none 0 0)).defers = C.dl := x0
  have u1_9 : (b0.put (some 9) (.slice none 0 0)).eval (.tmp 9) = .slice none 0 0 := ev_put_eq (by rw [y0]; decide)
  have u1_8 : (b0.put (some 9) (.slice none 0 0)).eval (.tmp 8) = .int .i64 n := (ev_put_ne (by decide)).trans u0_8
  have u1_0 : (b0.put (some 9) (.slice none 0 0)).eval (.tmp 0) = .slice none 0 0 := (ev_put_ne (by decide)).trans u0_0
  have u1_1 : (b0.put (some 9) (.slice none 0 0)).eval (.tmp 1) = .int .i64 n := (ev_put_ne (by decide)).trans u0_1
  generalize b0.put (some 9) (.slice none 0 0) = b1 at y1 x1 u1_9 u1_8 u1_0 u1_1 ⊢
  rw [wpOps_cons]
  refine wpOp_of (o := ⟨some 10, .call ⟨.builtin .cap, #[.tmp 9], #[ts]⟩, y2, p2, f2, none⟩) rfl rfl (wp_value (v := .int .i64 0) (w' := w) ?_ ?_)
  · simp [execOp, resolve, invoke, builtin, u1_9, Builtin.cap_, run_underlying hu, goInt]
  have y2 : (b1.put (some 10) (.int .i64 0)).tmps.size = 27 := by rw [size_put, y1]
  have x2 : (b1.put (some 10) (.int .i64 0)).defers = C.dl := x1
  have u2_10 : (b1.put (some 10) (.int .i64 0)).eval (.tmp 10) = .int .i64 0 := ev_put_eq (by rw [y1]; decide)
  have u2_8 : (b1.put (some 10) (.int .i64 0)).eval (.tmp 8) = .int .i64 n := (ev_put_ne (by decide)).trans u1_8
  have u2_0 : (b1.put (some 10) (.int .i64 0)).eval (.tmp 0) = .slice none 0 0 := (ev_put_ne (by decide)).trans u1_0
  have u2_1 : (b1.put (some 10) (.int .i64 0)).eval (.tmp 1) = .int .i64 n := (ev_put_ne (by decide)).trans u1_1
  generalize b1.put (some 10) (.int .i64 0) = b2 at y2 x2 u2_10 u2_8 u2_0 u2_1 ⊢
  rw [wpOps_cons]
  refine wpOp_of (o := ⟨some 11, .move (.tmp 0), y3, p3, f3, none⟩) rfl rfl (wp_value (v := .slice none 0 0) (w' := w) ?_ ?_)
  · simp only [execOp, u2_0, Sem.run_bind, Sem.run_pure, Result.andThen_ok]
  have y3 : (b2.put (some 11) (.slice none 0 0)).tmps.size = 27 := by rw [size_put, y2]
  have x3 : (b2.put (some 11) (.slice none 0 0)).defers = C.dl := x2
  have u3_11 : (b2.put (some 11) (.slice none 0 0)).eval (.tmp 11) = .slice none 0 0 := ev_put_eq (by rw [y2]; decide)
  have u3_10 : (b2.put (some 11) (.slice none 0 0)).eval (.tmp 10) = .int .i64 0 := (ev_put_ne (by decide)).trans u2_10
  have u3_8 : (b2.put (some 11) (.slice none 0 0)).eval (.tmp 8) = .int .i64 n := (ev_put_ne (by decide)).trans u2_8
  have u3_0 : (b2.put (some 11) (.slice none 0 0)).eval (.tmp 0) = .slice none 0 0 := (ev_put_ne (by decide)).trans u2_0
  have u3_1 : (b2.put (some 11) (.slice none 0 0)).eval (.tmp 1) = .int .i64 n := (ev_put_ne (by decide)).trans u2_1
  generalize b2.put (some 11) (.slice none 0 0) = b3 at y3 x3 u3_11 u3_10 u3_8 u3_0 u3_1 ⊢
  rw [wpOps_cons]
  refine wpOp_of (o := ⟨some 12, .call ⟨.builtin .len, #[.tmp 11], #[ts]⟩, y4, p4, f4, none⟩) rfl rfl (wp_value (v := .int .i64 0) (w' := w) ?_ ?_)
  · simp [execOp, resolve, invoke, builtin, u3_11, Builtin.len_, run_underlying hu, goInt]
  have y4 : (b3.put (some 12) (.int .i64 0)).tmps.size = 27 := by rw [size_put, y3]
  have x4 : (b3.put (some 12) (.int .i64 0)).defers = C.dl := x3
  have u4_12 : (b3.put (some 12) (.int .i64 0)).eval (.tmp 12) = .int .i64 0 := ev_put_eq (by rw [y3]; decide)
  have u4_10 : (b3.put (some 12) (.int .i64 0)).eval (.tmp 10) = .int .i64 0 := (ev_put_ne (by decide)).trans u3_10
  have u4_8 : (b3.put (some 12) (.int .i64 0)).eval (.tmp 8) = .int .i64 n := (ev_put_ne (by decide)).trans u3_8
  have u4_0 : (b3.put (some 12) (.int .i64 0)).eval (.tmp 0) = .slice none 0 0 := (ev_put_ne (by decide)).trans u3_0
  have u4_1 : (b3.put (some 12) (.int .i64 0)).eval (.tmp 1) = .int .i64 n := (ev_put_ne (by decide)).trans u3_1
  generalize b3.put (some 12) (.int .i64 0) = b4 at y4 x4 u4_12 u4_10 u4_8 u4_0 u4_1 ⊢
  rw [wpOps_cons]
  refine wpOp_of (o := ⟨some 13, .binOp .sub tn (.tmp 10) (.tmp 12) tm, y5, p5, f5, none⟩) rfl rfl (wp_value (v := .int .i64 0) (w' := w) ?_ ?_)
  · have r0 := run_sub (P := P) (w := w) (ty := tn) (ox := .tmp 10) (oy := .tmp 12) (a := 0) (b := 0) (by simpa using hl0)
    rw [Int.sub_zero] at r0
    simp only [execOp, u4_10, u4_12, Sem.run_bind, Sem.run_pure] at r0 ⊢
    rw [r0]
    rfl
  have y5 : (b4.put (some 13) (.int .i64 0)).tmps.size = 27 := by rw [size_put, y4]
  have x5 : (b4.put (some 13) (.int .i64 0)).defers = C.dl := x4
  have u5_13 : (b4.put (some 13) (.int .i64 0)).eval (.tmp 13) = .int .i64 0 := ev_put_eq (by rw [y4]; decide)
  have u5_8 : (b4.put (some 13) (.int .i64 0)).eval (.tmp 8) = .int .i64 n := (ev_put_ne (by decide)).trans u4_8
  have u5_0 : (b4.put (some 13) (.int .i64 0)).eval (.tmp 0) = .slice none 0 0 := (ev_put_ne (by decide)).trans u4_0
  have u5_1 : (b4.put (some 13) (.int .i64 0)).eval (.tmp 1) = .int .i64 n := (ev_put_ne (by decide)).trans u4_1
  generalize b4.put (some 13) (.int .i64 0) = b5 at y5 x5 u5_13 u5_8 u5_0 u5_1 ⊢
  rw [wpOps_cons]
  refine wpOp_of (o := ⟨some 14, .binOp .sub tn (.tmp 8) (.tmp 13) tm, y6, p6, f6, none⟩) rfl rfl (wp_value (v := .int .i64 n) (w' := w) ?_ ?_)
  · have r0 := run_sub (P := P) (w := w) (ty := tn) (ox := .tmp 8) (oy := .tmp 13) (a := n) (b := 0) (by simpa using hl1)
    rw [Int.sub_zero] at r0
    simp only [execOp, u5_8, u5_13, Sem.run_bind, Sem.run_pure] at r0 ⊢
    rw [r0]
    rfl
  have y6 : (b5.put (some 14) (.int .i64 n)).tmps.size = 27 := by rw [size_put, y5]
  have x6 : (b5.put (some 14) (.int .i64 n)).defers = C.dl := x5
  have u6_14 : (b5.put (some 14) (.int .i64 n)).eval (.tmp 14) = .int .i64 n := ev_put_eq (by rw [y5]; decide)
  have u6_0 : (b5.put (some 14) (.int .i64 n)).eval (.tmp 0) = .slice none 0 0 := (ev_put_ne (by decide)).trans u5_0
  have u6_1 : (b5.put (some 14) (.int .i64 n)).eval (.tmp 1) = .int .i64 n := (ev_put_ne (by decide)).trans u5_1
  generalize b5.put (some 14) (.int .i64 n) = b6 at y6 x6 u6_14 u6_0 u6_1 ⊢
  rw [wpOps_cons]
  refine wpOp_of (o := ⟨some 1, .assign (.tmp 14), y7, p7, f7, none⟩) rfl rfl (wp_value (v := .int .i64 n) (w' := w) ?_ ?_)
  · simp only [execOp, u6_14, Sem.run_bind, Sem.run_pure, Result.andThen_ok]
  have y7 : (b6.put (some 1) (.int .i64 n)).tmps.size = 27 := by rw [size_put, y6]
  have x7 : (b6.put (some 1) (.int .i64 n)).defers = C.dl := x6
  have u7_1 : (b6.put (some 1) (.int .i64 n)).eval (.tmp 1) = .int .i64 n := ev_put_eq (by rw [y6]; decide)
  have u7_0 : (b6.put (some 1) (.int .i64 n)).eval (.tmp 0) = .slice none 0 0 := (ev_put_ne (by decide)).trans u6_0
  generalize b6.put (some 1) (.int .i64 n) = b7 at y7 x7 u7_1 u7_0 ⊢
  simp only [wpOps]
  exact ⟨_, h, ⟨hv, x7, by simp [y7], slots2 y7 u7_0 u7_1, hM, hF⟩⟩
end
end Aw
end Go.Proofs.Ytkolpijhgcijbaa

namespace Go.Proofs.Ytkolpijhgcijbaa
namespace Aw
open Go.RowKit
open Go.ChangeMaps (setBlock)
set_option linter.unusedSimpArgs false

section
theorem ObR_anti {w : World} {T T' : Nat → Prop} (h : ∀ b, T' b → T b) {hv : Nat → Option Value} {ob : Ob} {v : Value} (ho : ObR w T hv ob v) : ObR w T' hv ob v := by
  have hk : Keeps w T w T' := ⟨Nat.le_refl _, fun _ _ _ => rfl, fun b _ h' => h b h'⟩
  cases hm : ob.mp with
  | none =>
    obtain ⟨us, h1, h2, h3⟩ := ho.row hm
    have := RL_keep hk (Z := []) (hv := hv) (hv' := hv) (fun _ _ _ h => h) _ _ h3
    rw [AV.killL_nil] at this
    exact ObR.of_row hm ⟨us, h1, h2, this⟩
  | some ks =>
    obtain ⟨vals, h1, h3⟩ := ho.map hm
    have := RVL_keep hk (Z := []) (hv := hv) (hv' := hv) (fun _ _ _ h => h) _ _ h3
    rw [AV.killL_nil] at this
    exact ObR.of_map hm ⟨vals, h1, this⟩

/-- the context D lies inside the context C: its blocks to be kept away from are more, and its world is one that C can come to. -/
structure Sub (C D : Ctx) : Prop where
  a : ∀ b, C.A b → D.A b
  os : D.w0.os = C.w0.os
  tape : D.w0.tape = C.w0.tape
  output : D.w0.output = C.w0.output
  drawn : C.w0.drawn ≤ D.w0.drawn
  size : C.w0.heap.size ≤ D.w0.heap.size
  block : ∀ b, b < C.w0.heap.size → ¬ C.In b → D.w0.heap[b]? = C.w0.heap[b]?
  inn : ∀ b, D.In b → C.In b ∨ C.w0.heap.size ≤ b
  aold : ∀ b, C.A b → b < C.w0.heap.size
  dis : ∀ b, C.A b → ¬ C.In b
  dl : D.dl = C.dl

theorem Sub.str {C D : Ctx} (s : Sub C D) {σ : St} {a : Act} {w : World} (h : StR D σ a w) : StR C σ a w := by
  obtain ⟨hv, hd, hsz, hsl, hM, hF⟩ := h
  have hT : ∀ b, OwnA C.A hv b → OwnA D.A hv b := fun b h => h.elim (fun h => .inl (s.a b h)) .inr
  have hk : Keeps w (OwnA D.A hv) w (OwnA C.A hv) := ⟨Nat.le_refl _, fun _ _ _ => rfl, fun b _ h => hT b h⟩
  refine ⟨hv, hd.trans s.dl, hsz, fun i x hx => ?_, ⟨fun i ob h => ?_, hM.dom, hM.inj, fun b h => hM.old b (s.a b h)⟩, ⟨hF.os.trans s.os, hF.tape.trans s.tape, hF.output.trans s.output, Nat.le_trans s.drawn hF.drawn, Nat.le_trans s.size hF.size, fun b hb hn => ?_, fun b hb => ?_, s.aold, s.dis⟩⟩
  · obtain ⟨v, h1, h2⟩ := hsl i x hx
    have := RV_keep hk x [] hv hv v (fun _ _ _ h => h) h2
    rw [AV.kill_nil] at this
    exact ⟨v, h1, this⟩
  · obtain ⟨v, h1, h2⟩ := hM.live i ob h
    exact ⟨v, h1, ObR_anti hT h2⟩
  · refine (hF.block b (Nat.lt_of_lt_of_le hb s.size) (fun h => ?_)).trans (s.block b hb hn)
    rcases s.inn b h with h | h
    · exact hn h
    · omega
  · rcases hF.own b hb with h | h
    · exact s.inn b h
    · exact .inr (Nat.le_trans s.size h)

theorem MemR.keep {A : Nat → Prop} {w w2 : World} {hv : Nat → Option Value} {M : Mem} (hM : MemR A w hv M) (hk : Keeps w (OwnA A hv) w2 (OwnA A hv)) (hb : ∀ b, Own hv b → w2.heap[b]? = w.heap[b]?) (hsz : w.heap.size ≤ w2.heap.size) : MemR A w2 hv M := by
  refine ⟨fun i ob h => ?_, hM.dom, hM.inj, fun b h => Nat.lt_of_lt_of_le (hM.old b h) hsz⟩
  obtain ⟨v, hv1, hob⟩ := hM.live i ob h
  refine ⟨v, hv1, ?_⟩
  cases hm : ob.mp with
  | some ks =>
    obtain ⟨vals, h1, h3⟩ := hob.map hm
    have := RVL_keep hk (Z := []) (hv := hv) (hv' := hv) (fun _ _ _ h => h) _ _ h3
    rw [AV.killL_nil] at this
    exact ObR.of_map hm ⟨vals, h1.block fun b hb' => hb b ⟨i, v, hv1, hb'⟩, this⟩
  | none =>
    obtain ⟨us, h1, h2, h3⟩ := hob.row hm
    have := RL_keep hk (Z := []) (hv := hv) (hv' := hv) (fun _ _ _ h => h) _ _ h3
    rw [AV.killL_nil] at this
    exact ObR.of_row hm ⟨us, ownsRow_of_block h1 fun b hb' => hb b ⟨i, v, hv1, by rw [blk_row h1]; exact hb'⟩, h2, this⟩

/-- an iterator at the block r, over the map at the block bm; 'seen' are the entries that it has handed out. -/
structure It (xs : List AV) (C D : Ctx) (r bm : Nat) (es : Array MapEntry) (clock : Nat) (seen : Array Nat) : Prop where
  sub : Sub C D
  ar : D.A r
  am : D.A bm
  ge : C.w0.heap.size ≤ r
  ne : bm ≠ r
  hr : D.w0.heap[r]? = some (.mapIter (some bm) clock seen clock)
  hm : D.w0.heap[bm]? = some (.map es clock)
  st : Stamps es clock
  pu : AV.pureL xs = true
  vals : RVL D.w0 (fun b => D.A b ∨ D.In b) noHv xs (es.toList.map (·.val))

theorem It.at_r {xs : List AV} {C D : Ctx} {r bm : Nat} {es : Array MapEntry} {clock : Nat} {seen : Array Nat} (h : It xs C D r bm es clock seen) {σ : St} {a : Act} {w : World} (hS : StR D σ a w) : w.heap[r]? = some (.mapIter (some bm) clock seen clock) := by
  obtain ⟨hv, _, _, _, _, hF⟩ := hS
  exact (hF.block r (hF.aold r h.ar) (hF.dis r h.ar)).trans h.hr
theorem It.at_m {xs : List AV} {C D : Ctx} {r bm : Nat} {es : Array MapEntry} {clock : Nat} {seen : Array Nat} (h : It xs C D r bm es clock seen) {σ : St} {a : Act} {w : World} (hS : StR D σ a w) : w.heap[bm]? = some (.map es clock) := by
  obtain ⟨hv, _, _, _, _, hF⟩ := hS
  exact (hF.block bm (hF.aold bm h.am) (hF.dis bm h.am)).trans h.hm

theorem setBlock_size (w : World) (r : Nat) (o : Obj) : (setBlock w r o).heap.size = w.heap.size := by simp [setBlock]
theorem setBlock_ne (w : World) {r b : Nat} (o : Obj) (h : b ≠ r) : (setBlock w r o).heap[b]? = w.heap[b]? := Array.getElem?_setIfInBounds_ne (Ne.symm h)

/-- the iterator goes on: a new context. -/
theorem It.step {xs : List AV} {C D : Ctx} {r bm : Nat} {es : Array MapEntry} {clock : Nat} {seen : Array Nat} (h : It xs C D r bm es clock seen) {σ : St} {a : Act} {w w1 : World} (hS : StR D σ a w) (h1 : w1 = w ∨ w1 = w.drew) (s : Nat) :
    ∃ D', It xs C D' r bm es clock (seen.push s) ∧ StR D' σ a (setBlock w1 r (.mapIter (some bm) clock (seen.push s) clock)) := by
  have hr := h.at_r hS
  have hm := h.at_m hS
  obtain ⟨hv, hd, hsz, hsl, hM, hF⟩ := hS
  have hlt : r < w.heap.size := (Array.getElem?_eq_some_iff.1 hr).1
  have hw : w1.heap = w.heap ∧ w1.os = w.os ∧ w1.tape = w.tape ∧ w1.output = w.output := by rcases h1 with rfl | rfl <;> exact ⟨rfl, rfl, rfl, rfl⟩
  obtain ⟨w2, hw2⟩ : ∃ w2, w2 = setBlock w1 r (.mapIter (some bm) clock (seen.push s) clock) := ⟨_, rfl⟩
  have hsame : ∀ b, b ≠ r → w2.heap[b]? = w.heap[b]? := fun b hb => by rw [hw2, setBlock_ne _ _ hb, hw.1]
  have hsize : w2.heap.size = w.heap.size := by rw [hw2, setBlock_size, hw.1]
  have hself : w2.heap[r]? = some (.mapIter (some bm) clock (seen.push s) clock) := by
    rw [hw2]; simp [setBlock, hw.1, hlt]
  have ho : w2.os = w.os ∧ w2.tape = w.tape ∧ w2.output = w.output := by rw [hw2]; exact hw.2
  have hdr : w.drawn ≤ w2.drawn := by rw [hw2]; rcases h1 with rfl | rfl; exact Nat.le_refl _; exact Nat.le_succ _
  rw [← hw2]
  have hnr : ¬ Own hv r := fun h' => hF.sep h' h.ar
  have hk : Keeps w (OwnA D.A hv) w2 (OwnA D.A hv) := ⟨by rw [hsize]; exact Nat.le_refl _, fun b _ hT => hsame b (by rintro rfl; exact hT (.inl h.ar)), fun b _ h => h⟩
  refine ⟨⟨w2, Own hv, D.A, D.dl⟩, ⟨⟨h.sub.a, ho.1.trans (hF.os.trans h.sub.os), ho.2.1.trans (hF.tape.trans h.sub.tape), ho.2.2.trans (hF.output.trans h.sub.output), Nat.le_trans h.sub.drawn (Nat.le_trans hF.drawn hdr), ?_, fun b hb hn => ?_, fun b hb => ?_, h.sub.aold, h.sub.dis, h.sub.dl⟩, h.ar, h.am, h.ge, h.ne, hself, (hsame bm h.ne).trans hm, h.st, h.pu, ?_⟩, hv, hd, hsz, fun i x hx => ?_, MemR.keep hM hk (fun b hb => hsame b (by rintro rfl; exact hnr hb)) (by omega), ⟨rfl, rfl, rfl, Nat.le_refl _, Nat.le_refl _, fun _ _ _ => rfl, fun b hb => .inl hb, fun b hb => ?_, fun b hA hO => hF.sep hO hA⟩⟩
  · show C.w0.heap.size ≤ w2.heap.size
    rw [hsize]
    exact Nat.le_trans h.sub.size hF.size
  · have hbr : b ≠ r := by rintro rfl; have := h.ge; omega
    refine (hsame b hbr).trans ((hF.block b (Nat.lt_of_lt_of_le hb h.sub.size) (fun h' => ?_)).trans (h.sub.block b hb hn))
    rcases h.sub.inn b h' with h' | h'
    · exact hn h'
    · omega
  · rcases hF.own b hb with h' | h'
    · exact h.sub.inn b h'
    · exact .inr (Nat.le_trans h.sub.size h')
  · have k1 : Keeps D.w0 (fun b => D.A b ∨ D.In b) w2 (fun b => D.A b ∨ Own hv b) := ⟨by rw [hsize]; exact hF.size, fun b hb hn => (hsame b (by rintro rfl; exact hn (.inl h.ar))).trans (hF.block b hb (fun h' => hn (.inr h'))), fun b hb hT => hT.elim .inl (fun h' => by
      rcases hF.own b h' with h' | h'
      · exact .inr h'
      · omega)⟩
    have := RVL_keep k1 (Z := []) (hv := noHv) (hv' := noHv) (fun _ _ _ h => h) _ _ h.vals
    rwa [AV.killL_nil] at this
  · obtain ⟨v, g1, g2⟩ := hsl i x hx
    have := RV_keep hk x [] hv hv v (fun _ _ _ h => h) g2
    rw [AV.kill_nil] at this
    exact ⟨v, g1, this⟩
  · show b < w2.heap.size
    rw [hsize]
    exact hM.old b hb

theorem It.at_val {xs : List AV} {C D : Ctx} {r bm : Nat} {es : Array MapEntry} {clock : Nat} {seen : Array Nat} (h : It xs C D r bm es clock seen) {w : World} {hv : Nat → Option Value} (hF : Frm D w hv) {j : Nat} {x : AV} {e : MapEntry} (hx : xs[j]? = some x) (he : es[j]? = some e) :
    RV w (OwnA D.A hv) hv x e.val := by
  have k1 : Keeps D.w0 (fun b => D.A b ∨ D.In b) w (OwnA D.A hv) := ⟨hF.size, fun b hb hn => hF.block b hb (fun h' => hn (.inr h')), fun b hb hT => hT.elim .inl (fun h' => by
      rcases hF.own b h' with h' | h'
      · exact .inr h'
      · omega)⟩
  have := RVL_keep k1 (Z := []) (hv := noHv) (hv' := noHv) (fun _ _ _ h => h) _ _ h.vals
  rw [AV.killL_nil] at this
  have := RVL_pure xs noHv hv _ h.pu this
  exact rvl_at xs _ j x e.val this hx (by simp [he])

theorem ObR_keep {w w' : World} {T T' : Nat → Prop} {hv hv' : Nat → Option Value} {Z : List Nat} (hk : Keeps w T w' T') (hh : ∀ i u, i ∉ Z → hv i = some u → hv' i = some u) {ob : Ob} {v : Value} (hb : ∀ b, blk v = some b → w'.heap[b]? = w.heap[b]?) (h : ObR w T hv ob v) : ObR w' T' hv' (ob.kill Z) v := by
  cases hm : ob.mp with
  | some ks =>
    obtain ⟨vals, h1, h3⟩ := h.map hm
    exact ObR.of_map (ob := ob.kill Z) hm ⟨vals, h1.block hb, RVL_keep hk hh _ _ h3⟩
  | none =>
    obtain ⟨us, h1, h2, h3⟩ := h.row hm
    refine ObR.of_row (ob := ob.kill Z) hm ⟨us, ?_, fun x hx => ?_, RL_keep hk hh _ _ h3⟩
    · simp only [Ob.kill, AV.killL_map, List.length_map]
      exact ownsRow_of_block h1 fun b hb' => hb b (by rw [blk_row h1]; exact hb')
    · simp only [Ob.kill, AV.killL_map, List.mem_map] at hx
      obtain ⟨y, hy, rfl⟩ := hx
      rw [AV.size_kill]
      exact h2 y hy

theorem It.init {C : Ctx} {σ : St} {a : Act} {w : World} {d : Tmp} {id : Nat} {ks : List Value} {ty : TypeId} {xs : List AV} (hS : StR C σ a w) {m : Operand} (hm : σ.ev m = .o id) (hi : σ.M[id]? = some (some ⟨some ks, ty, 0, xs⟩)) (hp : AV.pureL xs = true) :
    ∃ (D : Ctx) (bm : Nat) (es : Array MapEntry) (clock : Nat), a.eval m = .map (some bm) ∧ w.heap[bm]? = some (.map es clock) ∧ es.size = xs.length ∧
      It xs C D w.heap.size bm es clock #[] ∧ StR D ⟨setS (killS [id] σ.sl) (some d) (.v (.pointer (some ⟨w.heap.size, 0, none⟩))), (Mem.kill [id] σ.M).set id none⟩ (a.put (some d) (.pointer (some ⟨w.heap.size, 0, none⟩))) (w.alloc (.mapIter (some bm) clock #[] clock)) := by
  obtain ⟨hv, hd, hsz, hsl, hM, hF⟩ := hS
  have hmv := ev_ok hsl m
  rw [hm] at hmv
  simp only [RV, R] at hmv
  obtain ⟨v, hv1, e1, _⟩ := hmv
  injection e1 with e1
  obtain ⟨vals, ⟨_, bm, es, clock, rfl, h1, h2, rfl, hst⟩ | ⟨hk1, _⟩, h3⟩ := (hM_ob hM hi hv1).map rfl
  case inr => exact absurd rfl hk1
  have hlt : bm < w.heap.size := (Array.getElem?_eq_some_iff.1 h1).1
  have hown : Own hv bm := ⟨id, _, hv1, rfl⟩
  obtain ⟨hv', hhv'⟩ : ∃ hv' : Nat → Option Value, hv' = fun i => if i = id then none else hv i := ⟨_, rfl⟩
  have hne : ∀ i u, hv' i = some u → i ≠ id ∧ hv i = some u := fun i u h => by
    rw [hhv'] at h
    simp only at h
    split at h
    · cases h
    · exact ⟨by assumption, h⟩
  have hsub : ∀ b, Own hv' b → Own hv b := by
    rintro b ⟨i, u, h, hb⟩
    exact ⟨i, u, (hne i u h).2, hb⟩
  obtain ⟨w', hw'⟩ : ∃ w', w' = w.alloc (.mapIter (some bm) clock #[] clock) := ⟨_, rfl⟩
  have hnew : w'.heap[w.heap.size]? = some (.mapIter (some bm) clock #[] clock) := by rw [hw']; exact heap_alloc_new w _
  have hold : ∀ b, b < w.heap.size → w'.heap[b]? = w.heap[b]? := fun b hb => by rw [hw']; exact heap_alloc_old w _ hb
  have hsize : w'.heap.size = w.heap.size + 1 := by rw [hw']; show (w.heap.push _).size = _; simp
  have ho : w'.os = w.os ∧ w'.tape = w.tape ∧ w'.output = w.output := by rw [hw']; exact ⟨rfl, rfl, rfl⟩
  let DA : Nat → Prop := fun b => C.A b ∨ b = w.heap.size ∨ b = bm
  have hk : Keeps w (OwnA C.A hv) w' (OwnA DA hv') := ⟨by omega, fun b hb _ => hold b hb, fun b hb hT => by
    rcases hT with (h | h | h) | h
    · exact .inl h
    · omega
    · subst h; exact .inr hown
    · exact .inr (hsub b h)⟩
  have hkeep : ∀ i u, i ∉ [id] → hv i = some u → hv' i = some u := fun i u hi h => by
    rw [hhv']; simp only; rw [if_neg (by simpa using hi)]; exact h
  refine ⟨⟨w', Own hv', DA, C.dl⟩, bm, es, clock, e1, h1, by have := rvl_len _ _ h3; simp at this; omega, ⟨⟨fun b h => .inl h, ho.1.trans hF.os, ho.2.1.trans hF.tape, ho.2.2.trans hF.output, Nat.le_trans hF.drawn (by rw [hw']; exact Nat.le_refl _), by show _ ≤ w'.heap.size; have := hF.size; omega, fun b hb hn => (hold b (Nat.lt_of_lt_of_le hb hF.size)).trans (hF.block b hb hn), fun b hb => hF.own b (hsub b hb), hF.aold, hF.dis, rfl⟩, .inr (.inl rfl), .inr (.inr rfl), hF.size, by omega, hnew, (hold bm hlt).trans h1, hst, hp, ?_⟩, hw' ▸ ⟨hv', by exact hd, ?_, fun i x hx => ?_, ⟨fun i ob h => ?_, fun i u h => ?_, fun i j vi vj b hi hj => hM.inj i j vi vj b (hne i vi hi).2 (hne j vj hj).2, fun b hb => ?_⟩, ⟨rfl, rfl, rfl, Nat.le_refl _, Nat.le_refl _, fun _ _ _ => rfl, fun b hb => .inl hb, fun b hb => ?_, fun b hb hO => ?_⟩⟩⟩
  · have := RVL_pure xs hv noHv _ hp h3
    have := RVL_keep hk (Z := []) (hv := noHv) (hv' := noHv) (fun _ _ _ h => h) _ _ this
    rw [AV.killL_nil] at this
    exact this
  · rw [put_size, hsz]; simp only [setS_len, killS_len]
  · simp only at hx
    rcases setS_get _ _ _ _ hx with ⟨hdi, rfl, hl⟩ | ⟨hdn, hx⟩
    · injection hdi with hdi
      subst hdi
      refine ⟨.pointer (some ⟨w.heap.size, 0, none⟩), ?_, by simp [RV]⟩
      rw [killS_len] at hl
      simp [Act.put, hsz, hl]
    · rw [killS_get] at hx
      simp only [Option.map_eq_some_iff] at hx
      obtain ⟨y, hy, rfl⟩ := hx
      obtain ⟨u, g1, g2⟩ := hsl i y hy
      exact ⟨u, by rw [put_get _ _ _ _ hdn]; exact g1, RV_keep hk y [id] hv hv' u hkeep g2⟩
  · rw [List.getElem?_set] at h
    split at h
    · split at h
      · injection h with h; cases h
      · cases h
    · rename_i hid
      rw [Mem.kill_get] at h
      simp only [Option.map_eq_some_iff] at h
      obtain ⟨o, h5, h6⟩ := h
      match o, h5, h6 with
      | some ob0, h5, h6 =>
        obtain ⟨ob0', h7, rfl⟩ := h6
        injection h7 with h7
        subst h7
        obtain ⟨v0, g1, g2⟩ := hM.live i ob0 h5
        exact ⟨v0, hkeep i v0 (by simpa using Ne.symm hid) g1, ObR_keep hk hkeep (fun b hb => hold b (hM.own_lt ⟨i, v0, g1, hb⟩)) g2⟩
  · obtain ⟨hin, h⟩ := hne i u h
    obtain ⟨o, ho⟩ := hM.dom i u h
    exact ⟨o.kill [id], by rw [List.getElem?_set_ne (Ne.symm hin), Mem.kill_get, ho]; rfl⟩
  · rcases hb with h | h | h
    · have := hM.old b h; omega
    · omega
    · omega
  · show b < w'.heap.size
    rcases hb with h | h | h
    · have := hM.old b h; omega
    · omega
    · omega
  · have hO' := hsub b hO
    rcases hb with h | h | h
    · exact hF.sep hO' h
    · have := hM.own_lt hO'; omega
    · subst h
      obtain ⟨i, u, g1, g2⟩ := hO
      obtain ⟨g3, g4⟩ := hne i u g1
      exact g3 (hM.inj i id u _ b g4 hv1 g2 rfl)

variable {P : Program}

/-- A FUNCTION's contract, from what its body does. -/
theorem aspec_of_swp {f : FuncId} {fn : Func} {c : Code} {as : List AV} {post : AV → List Ob → Prop} (hf : P.funcs[f]? = some fn) (hb : fn.body = some c) (hok : okFn P f = true)
    (h : @SWp P c ⟨as ++ List.replicate (fn.ntmps - as.length) .bot, []⟩ ⟨AEnd P fn.results.toList post⟩ ⟨fun _ _ => False⟩ ⟨fun σ _ => AEnd P fn.results.toList post σ⟩) : ASpec P f as post := by
  refine ⟨hok, fun w vs A hA hvs => calls_of_wp hf hb ?_⟩
  have hown : ∀ b, ¬ Own noHv b := fun b h => by obtain ⟨i, v, h, _⟩ := h; simp [noHv] at h
  obtain ⟨hlen, hget⟩ := rvl_get as vs hvs
  have hk : Keeps w A w (OwnA A noHv) := ⟨Nat.le_refl _, fun _ _ _ => rfl, fun b _ h => h.elim id (fun h => absurd h (hown b))⟩
  have hS : StR ⟨w, fun _ => False, A, []⟩ ⟨as ++ List.replicate (fn.ntmps - as.length) .bot, []⟩ { tmps := vs.toArray ++ Array.replicate (fn.ntmps - vs.toArray.size) undef, defers := [] } w := by
    refine ⟨noHv, rfl, by simp [hlen], fun i x hx => ?_, ⟨fun i ob h => by simp at h, fun i v h => by simp [noHv] at h, fun i j vi vj b h => by simp [noHv] at h, hA⟩, ⟨rfl, rfl, rfl, Nat.le_refl _, Nat.le_refl _, fun _ _ _ => rfl, fun b h => absurd h (hown b), hA, fun _ _ h => h⟩⟩
    rcases Nat.lt_or_ge i as.length with hlt | hge
    · simp only [List.getElem?_append_left hlt] at hx
      obtain ⟨v, h1, h2⟩ := hget i x hx
      refine ⟨v, ?_, ?_⟩
      · rw [Array.getElem?_append_left (by simp; omega)]; simpa using h1
      · have := RV_keep hk x [] noHv noHv v (fun _ _ _ h => h) h2
        rwa [AV.kill_nil] at this
    · simp only [List.getElem?_append_right hge, List.getElem?_replicate] at hx
      split at hx
      · rename_i hr
        injection hx with hx
        subst hx
        refine ⟨undef, ?_, by simp [RV]⟩
        rw [Array.getElem?_append_right (by simp; omega)]
        simp [hlen, hr]
      · cases hx
  have fin : ∀ (σ : St) (a' : Act) (w' : World), AEnd P fn.results.toList post σ → StR ⟨w, fun _ => False, A, []⟩ σ a' w' → a'.defers = [] ∧ ∃ v, (results fn a'.tmps).run P w' = .ok v w' ∧
      ∃ r Ms v' hv, Ending.returned v = .returned v' ∧ post r Ms ∧ MemR A w' hv (Ms.map some) ∧ RV w' (OwnA A hv) hv r v' ∧ (∀ b, Own hv b → w.heap.size ≤ b) ∧ Bel w.heap.size w w' := by
    rintro σ a' w' ⟨x, hx, r, Ms, hret, hp⟩ ⟨hv, hd, _, hsl, hM, hF⟩
    obtain ⟨v, h1, h2⟩ := res_ok (C := ⟨w, fun _ => False, A, []⟩) hsl hM hx
    have hfr : ∀ b, Own hv b → w.heap.size ≤ b := fun b h => (hF.own b h).elim (fun h => h.elim) id
    obtain ⟨hv', m1, m2, m3⟩ := hret A w' hv v hM (fun b hb hAb => by have := hfr b hb; have := hA b hAb; omega) h2
    exact ⟨hd, v, h1, r, Ms, v, hv', rfl, hp, m1, m2, fun b hb => hfr b (m3 b hb), ⟨⟨hF.os, hF.tape, hF.output, hF.size, fun b hb => hF.block b hb (fun h => h)⟩, hF.drawn⟩⟩
  refine wp_mono (h _ _ _ hS) fun e a' w' hq => ?_
  cases e with
  | normal => obtain ⟨σ, h1, h2⟩ := hq; exact fin σ a' w' h1 h2
  | ret => obtain ⟨σ, h1, h2⟩ := hq; exact fin σ a' w' h1 h2
  | exit id => obtain ⟨σ, h1, h2⟩ := hq; exact h1.elim
  | goto l => exact hq.elim
  | panic ch => exact hq.elim
  | outgrown => exact hq.elim

theorem swp_seq {x y : Code} {N : HN} {E : HE} {Rt : HR} {σ : St} (h : @SWp P x σ ⟨fun σ' => @SWp P y σ' N E Rt⟩ E Rt) : @SWp P (.seq x y) σ N E Rt := fun C a w hS => by
  refine wp_seq (wp_mono (h C a w hS) fun e a' w' hq => ?_)
  cases e with
  | normal => obtain ⟨σ', h1, h2⟩ := hq; exact h1 C a' w' h2
  | exit id => exact hq
  | ret => exact hq
  | goto l => exact hq.elim
  | panic ch => exact hq.elim
  | outgrown => exact hq.elim

theorem aops_then {own : List Nat} {ops : Array Oper} {N : HK (St → Prop)} {C : Ctx} {Q : Exit → Act → World → Prop} (l' : List Oper) : ∀ (l : List Oper) (k : Nat) (σ : St) (a : Act) (w : World), ops.toList.drop k = l ++ l' → @AOps P own ops.toList l σ N → StR C σ a w →
    (∀ σ a w, N.k σ → StR C σ a w → wpOps P ops Q (List.range' (k + l.length) l'.length) a w) → wpOps P ops Q (List.range' k (l ++ l').length) a w
  | [], k, σ, a, w, hk, h, hS, hN => by simpa using hN σ a w h hS
  | o :: l, k, σ, a, w, hk, h, hS, hN => by
    have ho : ops[k]? = some o := by
      have : (ops.toList.drop k)[0]? = some o := by rw [hk]; rfl
      rw [List.getElem?_drop] at this
      simpa using this
    have hk' : ops.toList.drop (k + 1) = l ++ l' := by rw [← List.drop_drop, hk]; rfl
    rw [List.cons_append, List.length_cons, List.range'_succ, wpOps_cons]
    refine wpOp_mono (fun a' w' => ?_) (aop_sound ho h hS)
    rintro ⟨σ', h1, h2⟩
    refine aops_then l' l (k + 1) σ' a' w' hk' h1 h2 (fun σ a w hn hs => ?_)
    have := hN σ a w hn hs
    rw [List.length_cons] at this
    rwa [show k + (l.length + 1) = k + 1 + l.length by omega] at this

theorem nodup_lt' : ∀ (N : Nat) (l : List Nat), l.Nodup → (∀ x ∈ l, x < N) → l.length ≤ N
  | 0, l, _, h => by
    cases l with
    | nil => simp
    | cons x l => exact absurd (h x (by simp)) (by omega)
  | N + 1, l, hnd, h => by
    have h1 := nodup_lt' N (l.erase N) (hnd.erase N) (fun x hx => by
      have h2 := h x (List.mem_of_mem_erase hx)
      have h3 : x ≠ N := by rintro rfl; exact (List.Nodup.not_mem_erase hnd) hx
      omega)
    have h4 := List.length_erase (a := N) (l := l)
    split at h4 <;> omega

/-- how many rounds are left. -/
def leftN (n r : Nat) (w : World) : Nat := match w.heap[r]? with | some (.mapIter _ _ seen _) => n - seen.size | _ => 0

theorem StR.put1 {C : Ctx} {σ : St} {a : Act} {w : World} (hS : StR C σ a w) {n : Tmp} {x : AV} {v : Value} (hr : ∀ hv, MemR C.A w hv σ.M → Frm C w hv → RV w (OwnA C.A hv) hv x v) : StR C ⟨σ.sl.set n x, σ.M⟩ (a.put (some n) v) w := by
  obtain ⟨hv, hd, hsz, hsl, hM, hF⟩ := hS
  have h := StR.next (C := C) (σ := σ) (a := a) (w := w) (w' := w) (hv := hv) (hv' := hv) (Z := []) (M' := σ.M) (r := x) (v := v) (d := some n) hd hsz hsl hF hM (hr hv hM hF) (StepR.refl C.A w hv)
  simpa [St.step, setS, killS] using h

set_option maxHeartbeats 1000000 in
theorem swp_maprange {ι : Type} {own : List Nat} {id5 id6 id7 b0 b1 : Nat} {pre ops7 : List Oper} {d m n n1 e : Tmp} {tm : TypeId} {y0 y1 y2 y3 : TypeId} {p0 p1 p2 p3 : String} {f0 f1 f2 f3 : Array Edge} {ops5 opsE : Array Oper} {body : Code} {N : HN} {E : HE} {Rt : HR} {σ : St} {xs : List AV} (S : Nat → ι → St) (J : List Nat → ι → Prop) (i0 : ι)
    (hmap : (mapOf P tm).isSome = true) (h5 : ops5.toList = pre ++ [⟨some d, .range tm (.tmp m), y0, p0, f0, none⟩]) (h7 : opsE.toList = ⟨some e, .entry (.tmp d), y3, p3, f3, none⟩ :: ops7)
    (hd : ∀ r i, (S r i).sl[d]? = some (.v (.pointer (some ⟨r, 0, none⟩)))) (hdn : d ≠ n) (hdn1 : d ≠ n1) (hnn : n1 ≠ n) (hn : ∀ r i, n < (S r i).sl.length) (hn1 : ∀ r i, n1 < (S r i).sl.length)
    (hstart : @AOps P own ops5.toList pre σ ⟨fun σ' => ∃ (id : Nat) (ks : List Value) (ty : TypeId), σ'.ev (.tmp m) = .o id ∧ σ'.M[id]? = some (some ⟨some ks, ty, 0, xs⟩) ∧ AV.pureL xs = true ∧
      ∀ r, Le ⟨setS (killS [id] σ'.sl) (some d) (.v (.pointer (some ⟨r, 0, none⟩))), (Mem.kill [id] σ'.M).set id none⟩ (S r i0)⟩)
    (hJ : J [] i0) (hend : ∀ r i sn, J sn i → (∀ j, j < xs.length → j ∈ sn) → N.k ⟨((S r i).sl.set n (.t [B false])).set n1 (B false), (S r i).M⟩)
    (hstep : ∀ r i sn j x, J sn i → xs[j]? = some x → j ∉ sn → @AOps P own opsE.toList ops7 ⟨(((S r i).sl.set n (.t [B true, .bot, x])).set n1 (B true)).set e (.t [.bot, x]), (S r i).M⟩
      ⟨fun σ' => @SWp P body σ' ⟨fun σ'' => ∃ i', Le σ'' (S r i') ∧ J (j :: sn) i'⟩ ⟨fun _ _ => False⟩ ⟨fun _ _ => False⟩⟩) :
    @SWp P (.seq (.region id5 ops5 false) (.block b0 (.loop (.seq (.region id6 #[⟨some n, .next (.tmp d) false, y1, p1, f1, none⟩, ⟨some n1, .extract (.tmp n) 0, y2, p2, f2, none⟩] false) (.seq (.cond (.tmp n1) .skip (.exit b0)) (.block b1 (.seq (.region id7 opsE false) body))))))) σ N E Rt := by
  intro C a w hS
  refine wp_seq (wp_region ?_)
  have hl5 : ops5.size = (pre ++ [(⟨some d, .range tm (.tmp m), y0, p0, f0, none⟩ : Oper)]).length := by rw [← h5]; simp
  rw [List.range_eq_range', hl5]
  refine aops_then (P := P) (own := own) _ pre 0 σ a w (by simpa using h5) hstart hS ?_
  rintro σ' a w ⟨id, ks, ty, hm, hi, hp, hle⟩ hS
  obtain ⟨D, bm, es, clock, e1, hbm, hes, hit, hS'⟩ := It.init (d := d) hS hm hi hp
  have ho : ops5[0 + pre.length]? = some ⟨some d, .range tm (.tmp m), y0, p0, f0, none⟩ := by
    have : ops5.toList[pre.length]? = some ⟨some d, .range tm (.tmp m), y0, p0, f0, none⟩ := by rw [h5]; simp
    rw [Nat.zero_add]; simpa using this
  obtain ⟨ke, hke⟩ := Option.isSome_iff_exists.1 hmap
  rw [List.length_singleton, show List.range' (0 + pre.length) 1 = [0 + pre.length] from rfl, wpOps_cons]
  refine wpOp_of ho rfl (wp_value (v := .pointer (some ⟨w.heap.size, 0, none⟩)) (w' := w.alloc (.mapIter (some bm) clock #[] clock)) ?_ ?_)
  · have := run_range_map (P := P) w tm ke.1 ke.2 bm es clock (mapOf_eq hke) hbm
    simp only [execOp, e1, Sem.run_bind, this, Result.andThen_ok, Sem.run_pure]
  simp only [wpOps, Exit.then]
  have hS0 := hle _ _ _ _ hS'
  clear hS hS' hle hm hi hstart
  generalize w.heap.size = r at hit hS0 ⊢
  generalize a.put (some d) (.pointer (some ⟨r, 0, none⟩)) = a0 at hS0 ⊢
  generalize w.alloc (.mapIter (some bm) clock #[] clock) = w0 at hS0 ⊢
  refine wp_block (wp_loop (fun a w => ∃ D i sn seen, It xs C D r bm es clock seen ∧ StR D (S r i) a w ∧ J sn i ∧ seen.size = sn.length ∧ sn.Nodup ∧ (∀ j ∈ sn, j < xs.length) ∧ ∀ (j : Nat) (x : MapEntry), es[j]? = some x → (seen.contains x.born = true ↔ j ∈ sn)) (fun _ w => leftN xs.length r w)
    ⟨D, i0, [], #[], hit, hS0, hJ, rfl, List.nodup_nil, by simp, by simp⟩ ?_)
  clear hS0 hit hbm
  rintro a w ⟨D, i, sn, seen, hit, hS, hJi, hsz, hnd, hlt, hsn⟩
  have hr := hit.at_r hS
  have hm := hit.at_m hS
  have hslot : ∀ a' : Act, a'.tmps[d]? = a.tmps[d]? → a'.eval (.tmp d) = .pointer (some ⟨r, 0, none⟩) := fun a' ha' => by
    obtain ⟨hv, _, _, hsl, _⟩ := hS
    obtain ⟨v, g1, g2⟩ := hsl d _ (hd r i)
    simp only [RV] at g2
    simp [Act.eval, Array.getD_eq_getD_getElem?, ha', g1, g2]
  have hasz : a.tmps.size = (S r i).sl.length := by obtain ⟨hv, _, h, _⟩ := hS; exact h
  refine wp_seq (wp_region ?_)
  show wpOps P _ _ [0, 1] a w
  rw [wpOps_cons]
  rcases run_next_at (P := P) w y1 r bm clock clock seen es clock hr hm (fun x hx => hit.st.1 x hx) (Nat.le_refl _) with ⟨h0, hrun⟩ | ⟨x, hx, w1, hw1, hrun⟩
  · refine wpOp_of (o := ⟨some n, .next (.tmp d) false, y1, p1, f1, none⟩) rfl rfl (wp_value (v := .tuple #[.bool false]) (w' := w) ?_ ?_)
    · simp only [execOp, hslot a rfl, Sem.run_bind, hrun, Result.andThen_ok, Sem.run_pure]
    rw [wpOps_cons]
    refine wpOp_of (o := ⟨some n1, .extract (.tmp n) 0, y2, p2, f2, none⟩) rfl rfl (wp_value (v := .bool false) (w' := w) ?_ ?_)
    · have : (a.put (some n) (.tuple #[.bool false])).eval (.tmp n) = .tuple #[.bool false] := ev_put_eq (by rw [hasz]; exact hn r i)
      simp [execOp, Instr.extract, this]
    simp only [wpOps, Exit.then]
    have hS2 := (hS.put1 (n := n) (x := .t [B false]) (v := .tuple #[.bool false]) (fun hv _ _ => by simp [RV, RVL])).put1 (n := n1) (x := B false) (v := .bool false) (fun hv _ _ => by simp [RV])
    refine wp_seq (wp_cond (t := false) (ev_put_eq (by rw [size_put, hasz]; exact hn1 r i)) ?_)
    simp only [Bool.false_eq_true, if_false]
    refine wp_exit ?_
    simp only [Exit.then, Exit.inBlock, if_true]
    refine ⟨_, hend r i sn hJi (fun j hj => ?_), hit.sub.str hS2⟩
    have hj' : j < es.size := by omega
    rw [← hsn j es[j] (Array.getElem?_eq_getElem hj')]
    have : leftOf es seen = #[] := Array.eq_empty_of_size_eq_zero h0
    unfold leftOf at this
    rw [Array.filter_eq_empty_iff] at this
    have := this es[j] (Array.getElem_mem hj')
    simpa using this
  · have hx' : x ∈ es.toList ∧ seen.contains x.born = false := by
      unfold leftOf at hx
      simp at hx
      exact ⟨by simpa using hx.1, by simpa using hx.2⟩
    obtain ⟨j, hj⟩ := List.mem_iff_getElem?.1 hx'.1
    have hje : es[j]? = some x := by simpa using hj
    have hjl : j < xs.length := by have := (Array.getElem?_eq_some_iff.1 hje).1; omega
    have hjn : j ∉ sn := fun h => by have := (hsn j x hje).2 h; rw [hx'.2] at this; cases this
    obtain ⟨D', hit', hS'⟩ := hit.step hS hw1 x.born
    refine wpOp_of (o := ⟨some n, .next (.tmp d) false, y1, p1, f1, none⟩) rfl rfl (wp_value (v := .tuple #[.bool true, x.key, x.val]) (w' := setBlock w1 r (.mapIter (some bm) clock (seen.push x.born) clock)) ?_ ?_)
    · simp only [execOp, hslot a rfl, Sem.run_bind, hrun, Result.andThen_ok, Sem.run_pure]
    rw [wpOps_cons]
    generalize setBlock w1 r (.mapIter (some bm) clock (seen.push x.born) clock) = w2 at hS' ⊢
    refine wpOp_of (o := ⟨some n1, .extract (.tmp n) 0, y2, p2, f2, none⟩) rfl rfl (wp_value (v := .bool true) (w' := w2) ?_ ?_)
    · have : (a.put (some n) (.tuple #[.bool true, x.key, x.val])).eval (.tmp n) = .tuple #[.bool true, x.key, x.val] := ev_put_eq (by rw [hasz]; exact hn r i)
      simp [execOp, Instr.extract, this]
    simp only [wpOps, Exit.then]
    have hxv : xs[j]? = some xs[j] := List.getElem?_eq_getElem hjl
    have hS2 := (hS'.put1 (n := n) (x := .t [B true, .bot, xs[j]]) (v := .tuple #[.bool true, x.key, x.val]) (fun hv _ hF => by simp only [RV, RVL]; exact ⟨_, rfl, _, _, rfl, rfl, _, _, rfl, trivial, _, _, rfl, hit'.at_val hF hxv hje, rfl⟩)).put1 (n := n1) (x := B true) (v := .bool true) (fun hv _ _ => by simp [RV])
    refine wp_seq (wp_cond (t := true) (ev_put_eq (by rw [size_put, hasz]; exact hn1 r i)) ?_)
    simp only [if_true]
    refine wp_skip ?_
    simp only [Exit.then]
    refine wp_block (wp_seq (wp_region ?_))
    have hlE : opsE.size = (⟨some e, .entry (.tmp d), y3, p3, f3, none⟩ :: ops7 : List Oper).length := by rw [← h7]; simp
    rw [List.range_eq_range', hlE, List.length_cons, List.range'_succ, wpOps_cons]
    have hoE : opsE[0]? = some ⟨some e, .entry (.tmp d), y3, p3, f3, none⟩ := by
      have : opsE.toList[0]? = some ⟨some e, .entry (.tmp d), y3, p3, f3, none⟩ := by rw [h7]; rfl
      simpa using this
    refine wpOp_of hoE rfl (wp_value (v := .tuple #[x.key, x.val]) (w' := w2) ?_ ?_)
    · have hrE := run_entry_at (P := P) w2 r bm clock seen es clock x (hit'.at_r hS') (hit'.at_m hS') hx'.1 hit'.st.2
      have hev : ((a.put (some n) (.tuple #[.bool true, x.key, x.val])).put (some n1) (.bool true)).eval (.tmp d) = .pointer (some ⟨r, 0, none⟩) := by
        rw [ev_put_ne (Ne.symm hdn1), ev_put_ne (Ne.symm hdn)]; exact hslot a rfl
      simp only [execOp, hev, Sem.run_bind, hrE, Result.andThen_ok, Sem.run_pure]
    have hS3 := hS2.put1 (n := e) (x := .t [.bot, xs[j]]) (v := .tuple #[x.key, x.val]) (fun hv _ hF => by simp only [RV, RVL]; exact ⟨_, rfl, _, _, rfl, trivial, _, _, rfl, hit'.at_val hF hxv hje, rfl⟩)
    refine aops_sound (P := P) (own := own) (ops := opsE) (Q := _) (fun σ a w hN hS => ?_) ops7 1 _ _ _ (by rw [h7]; rfl) (hstep r i sn j xs[j] hJi hxv hjn) hS3
    simp only [Exit.then]
    refine wp_mono (hN D' a w hS) fun ex a' w' hq => ?_
    cases ex with
    | normal =>
      obtain ⟨σ2, ⟨i', hle, hJ'⟩, hS4⟩ := hq
      have hS5 := hle _ _ _ hS4
      have hlen : (seen.push x.born).size = (j :: sn).length := by simp [hsz]
      have hnd' : (j :: sn).Nodup := List.nodup_cons.2 ⟨hjn, hnd⟩
      refine ⟨⟨D', i', j :: sn, seen.push x.born, hit', hS5, hJ', hlen, hnd', fun q hq => ?_, fun q y hq => ?_⟩, ?_⟩
      · rcases List.mem_cons.1 hq with rfl | hq
        · exact hjl
        · exact hlt q hq
      · simp only [Array.contains_push, Bool.or_eq_true, List.mem_cons, hsn q y hq, beq_iff_eq]
        constructor
        · rintro (h | h)
          · exact .inr h
          · left
            have h2 := hit'.st.2
            rw [List.Nodup, List.pairwise_iff_getElem] at h2
            have hq' := Array.getElem?_eq_some_iff.1 hq
            have hj' := Array.getElem?_eq_some_iff.1 hje
            obtain ⟨q1, q2⟩ := hq'
            obtain ⟨j1, j2⟩ := hj'
            rcases Nat.lt_trichotomy q j with h3 | h3 | h3
            · exact (h2 q j (by simpa using q1) (by simpa using j1) h3 (by simp only [List.getElem_map, Array.getElem_toList]; rw [q2, j2, h])).elim
            · exact h3
            · exact (h2 j q (by simpa using j1) (by simpa using q1) h3 (by simp only [List.getElem_map, Array.getElem_toList]; rw [q2, j2, h])).elim
        · rintro (h | h)
          · right
            subst h
            rw [hje] at hq
            injection hq with hq
            rw [hq]
          · exact .inl h
      · have hr2 := hit'.at_r hS5
        have hle' := nodup_lt' xs.length (j :: sn) hnd' (fun q hq => by
          rcases List.mem_cons.1 hq with rfl | hq
          · exact hjl
          · exact hlt q hq)
        simp only [leftN, hr2, hr, Array.size_push, hsz]
        simp only [List.length_cons] at hle'
        omega
    | exit id => obtain ⟨_, h, _⟩ := hq; exact h.elim
    | ret => obtain ⟨_, h, _⟩ := hq; exact h.elim
    | goto l => exact hq.elim
    | panic ch => exact hq.elim
    | outgrown => exact hq.elim
end
end Aw
end Go.Proofs.Ytkolpijhgcijbaa

namespace Go.Proofs.Ytkolpijhgcijbaa
namespace Aw
open Go.RowKit

/-- the objects are read; a pointer into one reads as its element does. -/
def frz2 (M : Mem) : AV → AV := AV.sub (fun i => match M[i]? with | some (some ob) => if (ob.mp.isNone && AV.pureL ob.xs) = true then .s ob.k ob.xs else .bot | _ => .bot)
  (fun i k j off => match M[i]? with | some (some ob) => if (ob.mp.isNone && ob.k == k && decide (j < ob.xs.length)) = true then .p (frz M (ob.xs.getD j .bot)) off else .bot | _ => .bot)

section
variable {P : Program} {own : List Nat}

theorem frz_oR {A : Nat → Prop} {M : Mem} {w : World} {hv : Nat → Option Value} (hM : MemR A w hv M) {i : Nat} {v : Value} (h : hv i = some v) :
    R w (fun _ => False) noHv (match M[i]? with | some (some ob) => if (ob.mp.isNone && AV.pureL ob.xs) = true then .s ob.k ob.xs else .bot | _ => .bot) [v] := by
  obtain ⟨ob, hob⟩ := hM.dom i v h
  have := coe_frz M (.o i) A w hv v hM (by simp only [RV, R]; exact ⟨v, h, rfl, (hM_ob hM hob h).one⟩)
  simp only [if_true, frz, AV.sub, hob] at this ⊢
  by_cases hp : (ob.mp.isNone && AV.pureL ob.xs) = true
  · rw [if_pos hp] at this ⊢
    simpa only [RV] using this
  · rw [if_neg hp]
    simp only [R]; exact ⟨v, rfl, (hM_ob hM hob h).one⟩

theorem frz_o1 (M : Mem) (i : Nat) : AV.single (match M[i]? with | some (some ob) => if (ob.mp.isNone && AV.pureL ob.xs) = true then .s ob.k ob.xs else .bot | _ => .bot) = true := by
  split
  · split <;> rfl
  · rfl

theorem frz_R {A : Nat → Prop} {M : Mem} {w : World} {hv : Nat → Option Value} (hM : MemR A w hv M) {x : AV} {us : List Value} (hx : R w (OwnA A hv) hv x us) : R w (fun _ => False) noHv (frz M x) us :=
  R_sub (T := OwnA A hv) (T' := fun _ => False) (hv := hv) (hv' := noHv) (fun b h => h.elim) (fun i v h => frz_oR hM h) (fun i => frz_o1 M i) (fun i k j off us h => R_botq h) (fun _ _ _ _ => rfl) x us hx

theorem coe_frz2 (M : Mem) (x : AV) : Coe true M x (frz2 M x) := by
  intro A w hv v hM hx
  refine RV_sub (T := OwnA A hv) (T' := fun _ => False) (hv := hv) (hv' := noHv) (fun b h => h.elim) (fun i v h => frz_oR hM h) (fun i => frz_o1 M i) (fun i k j off us h => ?_) (fun i k j off => ?_) x v hx
  · have h0 := h
    simp only [R] at h
    obtain ⟨b, n, c, hb, rfl⟩ := h
    obtain ⟨ob, hob⟩ := hM.dom i _ hb
    simp only [hob]
    by_cases hp : (ob.mp.isNone && ob.k == k && decide (j < ob.xs.length)) = true
    · rw [if_pos hp]
      simp only [Bool.and_eq_true, Option.isNone_iff_eq_none, beq_iff_eq, decide_eq_true_eq] at hp
      obtain ⟨⟨hm, rfl⟩, hj⟩ := hp
      obtain ⟨g, cap, ws, e, h1, h2⟩ := ob_cells (hM_ob hM hob hb) hm hj
      injection e with e
      injection e with e
      injection e with e
      subst e
      simp only [R]
      refine ⟨b, j * ob.k, ws, rfl, frz_R hM h1, b, j * ob.k, rfl, hM.own_lt ⟨i, _, hb, rfl⟩, fun h => h, h2⟩
    · rw [if_neg hp]
      exact R_botq h0
  · split
    · split <;> rfl
    · rfl

theorem coel_frz2 (M : Mem) : ∀ (as : List AV), CoeL true M as (as.map (frz2 M))
  | [] => trivial
  | a :: as => ⟨coe_frz2 M a, coel_frz2 M as⟩

/-- a call whose result is a value; objects, and pointers to objects, are lent. -/
theorem acall_l2 {f : FuncId} {as bs : List AV} {M : Mem} {K : HK (AV → Mem → Prop)} {x : AV} (spec : ASpec P f bs (fun r Ms => r = x ∧ Ms = [])) (hb : as.map (frz2 M) = bs) (hx : x.pure = true) (ht : x.tfree = true) (h : K.k x M) : ACall P f as M (K := K) := by
  refine ⟨true, bs, _, hb ▸ coel_frz2 M as, spec, ?_⟩
  rintro r Ms ⟨rfl, rfl⟩
  refine ⟨fun e => ⟨ht, by simp⟩, ?_⟩
  rw [AV.up, AV.sub_pure _ _ _ hx]
  simpa using h
end
end Aw
end Go.Proofs.Ytkolpijhgcijbaa

namespace Go.Proofs.Ytkolpijhgcijbaa
namespace Aw
open Go.RowKit

/-- each operation comes behind earlier ones alone; the first n have no guard. -/
def headB (ops : Array Oper) (n : Nat) : Bool :=
  (List.range ops.size).all fun i => match ops[i]? with | some o => o.after.all (fun e => decide (e.on < i)) && (decide (n ≤ i) || o.guard.isNone) | none => true

theorem headB_at {ops : Array Oper} {n : Nat} (h : headB ops n = true) {i : Nat} {o : Oper} (ho : ops[i]? = some o) : (∀ e ∈ o.after, e.on < i) ∧ (i < n → o.guard = none) := by
  have hi := (Array.getElem?_eq_some_iff.1 ho).1
  have := List.all_eq_true.1 h i (List.mem_range.2 hi)
  simp only [ho, Bool.and_eq_true, Bool.or_eq_true, decide_eq_true_eq, Option.isNone_iff_eq_none] at this
  refine ⟨fun e he => ?_, fun hin => by
    rcases this.2 with h2 | h2
    · omega
    · exact h2⟩
  have h1 := Array.all_eq_true'.1 this.1 e he
  simpa using h1

section
variable {P : Program} {own : List Nat} {ops pre : Array Oper} {n : Nat}

/-- the tail. -/
theorem any_tail {Q : Exit → Act → World → Prop} (hh : headB ops n = true) (hc : Region.chainB .any ops n = true) : ∀ (g t fuel : Nat) (listed : Array Bool) (a : Act) (w : World), t + g = ops.size → n ≤ t → g ≤ fuel → listed.size = ops.size →
    (∀ j, j < t → listed.getD j false = true) → (∀ j, t ≤ j → j < ops.size → listed.getD j true = false) → wpOps P ops Q (List.range' t g) a w → wpAny P .any ops Q fuel listed a w := by
  intro g
  induction g with
  | zero =>
    intro t fuel listed a w htg hnt hf hls hlo hhi h
    have h0 : Region.ready .any ops listed = [] := by
      rw [List.eq_nil_iff_forall_not_mem]
      intro i hi
      obtain ⟨hun, o, ho, _⟩ := mem_ready.1 hi
      have hil := (Array.getElem?_eq_some_iff.1 ho).1
      have := hlo i (by omega)
      rw [getD_both hun] at this
      cases this
    simp only [List.range'_zero, wpOps] at h
    cases fuel with
    | zero => exact ⟨h0, h⟩
    | succ f => exact ⟨fun _ => h, fun i hi => by rw [h0] at hi; cases hi⟩
  | succ g ih =>
    intro t fuel listed a w htg hnt hf hls hlo hhi h
    cases fuel with
    | zero => omega
    | succ f =>
      have htl : t < ops.size := by omega
      have hot : ops[t]? = some ops[t] := Array.getElem?_eq_getElem htl
      have hrt : t ∈ Region.ready .any ops listed := by
        rw [mem_ready]
        refine ⟨hhi t (Nat.le_refl _) htl, ops[t], hot, fun e he _ => hlo e.on ((headB_at hh hot).1 e he)⟩
      refine ⟨fun h0 => (by rw [h0] at hrt; cases hrt), fun i hi => ?_⟩
      obtain ⟨hun, o, ho, hall⟩ := mem_ready.1 hi
      have hil := (Array.getElem?_eq_some_iff.1 ho).1
      have hit : i = t := by
        rcases Nat.lt_trichotomy i t with h1 | h1 | h1
        · have := hlo i h1
          rw [getD_both hun] at this
          cases this
        · exact h1
        · have h2 := List.all_eq_true.1 hc i (List.mem_range.2 hil)
          simp only [Bool.or_eq_true, decide_eq_true_eq] at h2
          rcases h2 with h2 | h2
          · omega
          · obtain ⟨o', ho', e, he, hb, hon⟩ := Region.waitsFor_spec h2
            have : o' = o := Option.some.inj (ho'.symm.trans ho)
            subst this
            have h3 := hall e he hb
            rw [hon, getD_both (hhi (i - 1) (by omega) (by omega))] at h3
            cases h3
      subst hit
      rw [List.range'_succ, wpOps_cons] at h
      refine wpOp_mono (fun a' w' h' => ?_) h
      refine ih (i + 1) f _ a' w' (by omega) (by omega) (by omega) (by simp [hls]) (fun j hj => ?_) (fun j hj hjs => ?_) h'
      · by_cases hji : j = i
        · subst hji
          simp [hls, htl]
        · exact getD_set_true (hlo j (by omega))
      · rw [getD_set_ne true (by omega)]
        exact hhi j (by omega) hjs

theorem aany_split {C : Ctx} {Q : Exit → Act → World → Prop} {N : St → Prop} (hpre : ∀ j, j < n → pre[j]? = ops[j]?) (hps : pre.size = n) (hn : n < ops.size) (hh : headB ops n = true) (hs : Region.sinkB .any ops n = true) (hc : Region.chainB .any ops n = true)
    (hN : ∀ σ a w, N σ → StR C σ a w → wpOps P ops Q (List.range' n (ops.size - n)) a w) :
    ∀ (f : Nat) (lp listed : Array Bool) (σ : St) (a : Act) (w : World), lp.size = n → (∀ j, j < n → lp.getD j true = listed.getD j true) → HeadInv .any ops n listed → AAny P own pre N f lp σ → StR C σ a w →
      wpAny P .any ops Q (f + (ops.size - n)) listed a w := by
  have hrd : ∀ (lp listed : Array Bool), lp.size = n → (∀ j, j < n → lp.getD j true = listed.getD j true) → listed.size = ops.size → ∀ i, i < n → (i ∈ Region.ready .any pre lp ↔ i ∈ Region.ready .any ops listed) := by
    intro lp listed hl he hls i hi
    have hgd : ∀ j, j < n → lp.getD j false = listed.getD j false := fun j hj => by
      have := he j hj
      simp only [Array.getD_eq_getD_getElem?] at this ⊢
      rw [Array.getElem?_eq_getElem (by omega), Array.getElem?_eq_getElem (by omega)] at this ⊢
      simpa using this
    rw [mem_ready, mem_ready, hpre i hi, he i hi]
    constructor
    · rintro ⟨h1, o, ho, h2⟩
      exact ⟨h1, o, ho, fun e hem hb => by rw [← hgd e.on (Nat.lt_trans ((headB_at hh ho).1 e hem) hi)]; exact h2 e hem hb⟩
    · rintro ⟨h1, o, ho, h2⟩
      exact ⟨h1, o, ho, fun e hem hb => by rw [hgd e.on (Nat.lt_trans ((headB_at hh ho).1 e hem) hi)]; exact h2 e hem hb⟩
  have hmin : ∀ (listed : Array Bool), listed.size = ops.size → (∃ i, i < n ∧ listed.getD i true = false) → ∃ i, i < n ∧ i ∈ Region.ready .any ops listed := by
    intro listed hls hex
    obtain ⟨i, ⟨hin, hun⟩, hle⟩ := least (fun i => i < n ∧ listed.getD i true = false) hex
    have hoi : ops[i]? = some ops[i] := Array.getElem?_eq_getElem (by omega)
    refine ⟨i, hin, mem_ready.2 ⟨hun, ops[i], hoi, fun e he _ => ?_⟩⟩
    have h1 := (headB_at hh hoi).1 e he
    cases hl : listed.getD e.on false with
    | true => rfl
    | false =>
      have := hle e.on ⟨by omega, getD_in (by omega) hl⟩
      omega
  intro f
  induction f with
  | zero =>
    intro lp listed σ a w hl he inv h hS
    have hall : ∀ j, j < n → listed.getD j false = true := fun j hj => by
      cases hjl : listed.getD j false with
      | true => rfl
      | false =>
        obtain ⟨i, hin, hir⟩ := hmin listed inv.size ⟨j, hj, getD_in (by rw [inv.size]; omega) hjl⟩
        have := (hrd lp listed hl he inv.size i hin).2 hir
        rw [h.1] at this
        cases this
    rw [Nat.zero_add]
    exact any_tail hh hc (ops.size - n) n _ listed a w (by omega) (Nat.le_refl _) (Nat.le_refl _) inv.size hall (fun j h1 h2 => inv.tail j h1 h2) (hN σ a w h.2 hS)
  | succ f ih =>
    intro lp listed σ a w hl he inv h hS
    by_cases hex : ∃ i, i < n ∧ listed.getD i true = false
    · obtain ⟨i0, h01, h02⟩ := hex
      obtain ⟨i1, h11, h12⟩ := hmin listed inv.size ⟨i0, h01, h02⟩
      rw [show f + 1 + (ops.size - n) = (f + (ops.size - n)) + 1 by omega]
      refine ⟨fun h0 => (by rw [h0] at h12; cases h12), fun i hi => ?_⟩
      have hin : i < n := by
        rcases Nat.lt_or_ge i n with h1 | h1
        · exact h1
        · exact absurd hi (tail_waits hs hc hn inv (n - i0) i0 rfl h01 h02 i h1)
      obtain ⟨_, o, ho, _⟩ := mem_ready.1 hi
      have hg := (headB_at hh ho).2 hin
      have hip := (hrd lp listed hl he inv.size i hin).2 hi
      have hA := h.2 i hip o (by rw [hpre i hin]; exact ho)
      have hA' : @aop P own ops.toList o σ ⟨AAny P own pre N f (lp.setIfInBounds i true)⟩ := by
        unfold aop at hA ⊢
        rw [hg] at hA ⊢
        exact hA
      refine wpOp_mono (fun a' w' => ?_) (aop_sound ho hA' hS)
      rintro ⟨σ', h1, h2⟩
      refine ih _ _ σ' a' w' (by simp [hl]) (fun j hj => ?_) (inv.set hi hin) h1 h2
      by_cases hji : j = i
      · subst hji
        simp [hl, hj, inv.size, show j < ops.size by omega]
      · rw [getD_set_ne true (by omega), getD_set_ne true (by omega)]
        exact he j hj
    · have hall : ∀ j, j < n → listed.getD j false = true := fun j hj => by
        cases hjl : listed.getD j false with
        | true => rfl
        | false => exact absurd ⟨j, hj, getD_in (by rw [inv.size]; omega) hjl⟩ hex
      have h0 : Region.ready .any pre lp = [] := by
        rw [List.eq_nil_iff_forall_not_mem]
        intro i hi
        have hip : i < n := by
          obtain ⟨_, o, ho, _⟩ := mem_ready.1 hi
          have := (Array.getElem?_eq_some_iff.1 ho).1
          omega
        obtain ⟨hun, _⟩ := mem_ready.1 ((hrd lp listed hl he inv.size i hip).1 hi)
        have := hall i hip
        rw [getD_both hun] at this
        cases this
      exact any_tail hh hc (ops.size - n) n _ listed a w (by omega) (Nat.le_refl _) (by omega) inv.size hall (fun j h1 h2 => inv.tail j h1 h2) (hN σ a w (h.1 h0) hS)

/-- a region whose order is drawn, its last operations one after another; between the two parts the state may be weakened. -/
theorem swp_split {id : Nat} {σ : St} {N : HN} {E : HE} {Rt : HR} (suf : List Oper) (hap : ops.toList = pre.toList ++ suf) (s : Sch) (tb : List Inf) (hm : P.follows .mixedOrders = true) (hok : s.fits P own pre tb = true) (hsp : (headB ops pre.size && (Region.sinkB .any ops pre.size && (Region.chainB .any ops pre.size && decide (pre.size < ops.size)))) = true)
    (h : @ASch P own pre.toList s σ ⟨fun σ' => ∃ σ'', Le σ' σ'' ∧ @AOps P own ops.toList suf σ'' N⟩) : @SWp P (.region id ops true) σ N E Rt := by
  intro C a w hS
  simp only [Bool.and_eq_true, decide_eq_true_eq] at hsp
  obtain ⟨hh, hs, hc, hn⟩ := hsp
  unfold Sch.fits at hok
  rw [Bool.and_eq_true] at hok
  obtain ⟨h1, h2⟩ := hok
  have htb := tbOk_eq pre.toList tb h1
  subst htb
  rw [show (pre.toList.map (infOf P own pre)).length = pre.size by simp] at h2
  have hf : Fits pre (Array.replicate pre.size false) 0 := ⟨by simp, fun j => by
    simp only [Array.getD_eq_getD_getElem?, Array.getElem?_replicate, Nat.zero_testBit]
    split <;> rfl⟩
  have hA := (asch_any s true pre.size _ 0 σ hf h2 h).1 rfl
  have hsuf : suf.length = ops.size - pre.size := by
    have := congrArg List.length hap
    simp at this
    omega
  refine wp_region_any hm ?_
  have hpre : ∀ j, j < pre.size → pre[j]? = ops[j]? := fun j hj => by
    have : ops.toList[j]? = pre.toList[j]? := by rw [hap, List.getElem?_append_left (by simpa using hj)]
    simpa using this.symm
  have hinv : HeadInv .any ops pre.size (Array.replicate ops.size false) := ⟨by simp, fun j oj hj hl => (by rw [getD_replicate_false] at hl; cases hl), fun t h1 h2 => by simp [h2]⟩
  have := aany_split (P := P) (own := own) (ops := ops) (pre := pre) (n := pre.size) (C := C) (Q := APost C N.k E.k (fun σ => Rt.k σ ())) hpre rfl hn hh hs hc (fun σ' a w hN hS => by
    obtain ⟨σ'', hle, hA⟩ := hN
    have := aops_sound (P := P) (own := own) (ops := ops) (Q := APost C N.k E.k (fun σ => Rt.k σ ())) (C := C) (fun σ a w hN hS => ⟨σ, hN, hS⟩) suf pre.size σ'' a w (by rw [hap]; simp) hA (hle C a w hS)
    rwa [hsuf] at this) pre.size (Array.replicate pre.size false) (Array.replicate ops.size false) σ a { w with drawn := w.drawn + 1 } (by simp) (fun j hj => by simp [hj, show j < ops.size by omega]) hinv hA hS.drawn
  rwa [show pre.size + (ops.size - pre.size) = ops.size by omega] at this
end
end Aw
end Go.Proofs.Ytkolpijhgcijbaa
