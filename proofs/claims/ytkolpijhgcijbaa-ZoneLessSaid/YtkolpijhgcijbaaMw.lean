/-
  Several texts in one: AwV, AwW.
-/
import Derived.Test.YtkolpijhgcijbaaMb
import Derived.Laws.BitsLemmas
set_option linter.unusedSimpArgs false
set_option linter.unusedVariables false
namespace Go.Proofs.Ytkolpijhgcijbaa
namespace Aw
open Go.RowKit

section
variable {P : Program} {σ : St}

theorem ev_put_ne {a : Act} {d t : Tmp} {v : Value} (h : d ≠ t) : (a.put (some d) v).eval (.tmp t) = a.eval (.tmp t) := by
  simp [Act.eval, Act.put, Array.getD_eq_getD_getElem?, Array.getElem?_setIfInBounds_ne h]
theorem ev_put_eq {a : Act} {d : Tmp} {v : Value} (h : d < a.tmps.size) : (a.put (some d) v).eval (.tmp d) = v := by
  simp [Act.eval, Act.put, Array.getD_eq_getD_getElem?, h]
theorem size_put {a : Act} {d : Tmp} {v : Value} : (a.put (some d) v).tmps.size = a.tmps.size := by simp [Act.put]
theorem defers_put {a : Act} {d : Tmp} {v : Value} : (a.put (some d) v).defers = a.defers := rfl

theorem grow_slots {a : Act} {w : World} {T : Nat → Prop} {hv : Nat → Option Value} {m : Nat} {v : Value} (hsa : a.tmps.size = 27) (hr : RV w T hv (.o m) v) : ∀ (j : Nat) (x : AV), ((List.replicate 27 AV.bot).set 0 (.o m))[j]? = some x → ∃ u, (a.put (some 0) v).tmps[j]? = some u ∧ RV w T hv x u := by
  intro j x hx
  rw [List.getElem?_set] at hx
  simp only [List.length_replicate, List.getElem?_replicate] at hx
  simp only [Act.put]
  split at hx
  · rename_i hm
    subst hm
    simp only [show (0 : Nat) < 27 by decide, if_true, Option.some.injEq] at hx
    subst hx
    exact ⟨v, by simp [hsa], hr⟩
  · rename_i hm
    split at hx
    · rename_i hlt
      injection hx with hx
      subst hx
      exact ⟨_, Array.getElem?_eq_getElem (by simp only [Array.size_setIfInBounds, hsa]; exact hlt), by simp [RV]⟩
    · cases hx

theorem run_append_zeros (w : World) (t ty e tn : TypeId) (i : TypeInfo) (z : Value) {k : IntKind} (ht : P.underlying t = some (.slice e)) (hn : P.underlying tn = some (.int k)) (hi : P.info? e = some i) (hz : i.zero = some z)
    (n : Nat) (h0 : 0 < n) (h1 : n ≤ 1000000) (hb : i.bytes ≤ 1000) (hs : 0 < i.size) :
    (Builtin.append_ #[t, tn] ty #[.slice none 0 0, .int .i64 n]).run P w =
      .ok (.slice (some ⟨w.heap.size, 0, none⟩) n (grownCap w n 0 e)) (w.drew.alloc (.cells (Builtin.zeroCells z.cells n ++ Builtin.zeroCells z.cells (grownCap w n 0 e - n)) e)) := by
  have hw : IntKind.i64.wrap (n : Int) = n := by rw [IntKind.wrap_i64]; omega
  have hn0 : ¬ ((n : Int) < 0) := by omega
  have hne : n ≠ 0 := by omega
  have hne2 : ¬ (n * i.size = 0) := by
    intro h
    rcases Nat.mul_eq_zero.1 h with h | h <;> omega
  have hby : n * i.bytes ≤ 1000000 * 1000 := Nat.mul_le_mul h1 hb
  have hbyI : ¬ ((281474976710656 : Int) < (n : Int) * (i.bytes : Int)) := by
    have : ((n * i.bytes : Nat) : Int) ≤ 1000000 * 1000 := by omega
    rw [Int.natCast_mul] at this
    omega
  have h63' : ¬ (9223372036854775807 < (n : Int)) := by omega
  have h48' : ¬ (281474976710656 < Builtin.nextslicecap n 0 * i.bytes) := by rw [nextslicecap_zero h0]; omega
  simp [Builtin.append_, run_underlying ht, run_underlying hn, sizeOf, typeInfo, zeroValue, hi, hz, hw, hn0, hne, hne2, hbyI, h63', h48', asInt, asIntOf, Question.forced, run_firstCells_none, Go.newRow, newObj, Sem.run, grownCap]

theorem swp_grow {id : Nat} {ts tn : TypeId} {y0 y1 y2 y3 y4 y5 y6 y7 y8 y9 : TypeId} {p0 p1 p2 p3 p4 p5 p6 p7 p8 p9 : String} {f0 f1 f2 f3 f4 f5 f6 f7 f8 f9 : Array Edge} {N : HN} {E : HE} {Rt : HR} {tis te : TI} {e : TypeId} {n : Nat} {k : IntKind}
    (hts : tiOf P ts = some tis) (htse : tis.elem = some e) (hte : tiOf P e = some te) (hint : P.underlying tn = some (.int k)) (hs : σ.sl[0]? = some (.v (.slice none 0 0))) (hn : σ.sl[1]? = some (I (n : Int)))
    (h0 : 0 < n) (h1 : n ≤ 1000000) (hby : te.bytes ≤ 1000) (hsz : 0 < te.size) (hlen : σ.sl.length = 27)
    (h : N.k ⟨(List.replicate 27 .bot).set 0 (.o σ.M.length), σ.M ++ [some ⟨none, e, te.size, []⟩]⟩) :
    @SWp P (.region id #[⟨some 17, .move (.tmp 0), y0, p0, f0, none⟩, ⟨some 18, .move (.tmp 0), y1, p1, f1, none⟩, ⟨some 19, .call ⟨.builtin .cap, #[.tmp 18], #[ts]⟩, y2, p2, f2, none⟩,
      ⟨some 20, .slice ts (.tmp 17) none (some (.tmp 19)) none, y3, p3, f3, none⟩, ⟨some 21, .move (.tmp 1), y4, p4, f4, none⟩, ⟨some 22, .call ⟨.builtin .append, #[.tmp 20, .tmp 21], #[ts, tn]⟩, y5, p5, f5, none⟩,
      ⟨some 23, .move (.tmp 0), y6, p6, f6, none⟩, ⟨some 24, .call ⟨.builtin .len, #[.tmp 23], #[ts]⟩, y7, p7, f7, none⟩, ⟨some 25, .slice ts (.tmp 22) none (some (.tmp 24)) none, y8, p8, f8, none⟩, ⟨some 0, .assign (.tmp 25), y9, p9, f9, none⟩] false) σ N E Rt := by
  intro C a w hS
  obtain ⟨hv, hd, hsz', hsl, hM, hF⟩ := hS
  have hu := ti_elem hts htse
  obtain ⟨i, d, z, hi, hdd, hz, hz1, hz2, _, hsi, hbi, _⟩ := tiOf_spec hte
  obtain ⟨v0, g0, g0'⟩ := hsl 0 _ hs
  obtain ⟨v1, g1, g1'⟩ := hsl 1 _ hn
  simp only [RV] at g0' g1'
  subst g0'
  subst g1'
  have hsa : a.tmps.size = 27 := by rw [hsz', hlen]
  have e0 : a.eval (.tmp 0) = .slice none 0 0 := by simp [Act.eval, Array.getD_eq_getD_getElem?, g0]
  have e1 : a.eval (.tmp 1) = .int .i64 n := by simp [Act.eval, Array.getD_eq_getD_getElem?, g1]
  have hap := run_append_zeros w ts y5 e tn i z hu hint hi hz n h0 h1 (by omega) (by omega)
  generalize hc : grownCap w n 0 e = c at hap
  have hcn : n ≤ c := by rw [← hc]; exact grownCap_ge w n 0 e
  have hcm : c ≤ maxLen := by rw [← hc]; exact grownCap_le_maxLen w n 0 e (by simp only [maxLen]; omega)
  generalize hrow : Builtin.zeroCells z.cells n ++ Builtin.zeroCells z.cells (c - n) = cs at hap
  have hcs : cs.size = c * te.size := by
    rw [← hrow, Array.size_append, size_zeroCells, size_zeroCells, hz1, hsi, ← Nat.add_mul]
    congr 1; omega
  have sb : ∀ (W : World) (y : Nat) (code : BoundsCode), (Instr.sliceBound (.int .i64 0) y code).run P W = .ok 0 W := by
    intro W y code
    simp only [Instr.sliceBound, Sem.run_bind, asIntOf, Sem.run_pure, Result.andThen_ok]
    rw [if_pos (by omega)]
    simp
  refine wp_region ?_
  show wpOps P _ _ [0, 1, 2, 3, 4, 5, 6, 7, 8, 9] a w
  rw [wpOps_cons]
  refine wpOp_of (o := ⟨some 17, .move (.tmp 0), y0, p0, f0, none⟩) rfl rfl (wp_value (v := .slice none 0 0) (w' := w) ?_ ?_)
  · have q0 : a.eval (.tmp 0) = .slice none 0 0 := by simp only [ev_put_eq, ev_put_ne, size_put, e0, e1, hsa, ne_eq, Nat.reduceLT, Nat.reduceEqDiff, not_false_eq_true, reduceCtorEq]
    simp only [execOp, q0, Sem.run_bind, Sem.run_pure, Result.andThen_ok]
  rw [wpOps_cons]
  refine wpOp_of (o := ⟨some 18, .move (.tmp 0), y1, p1, f1, none⟩) rfl rfl (wp_value (v := .slice none 0 0) (w' := w) ?_ ?_)
  · have q0 : (a.put (some 17) (.slice none 0 0)).eval (.tmp 0) = .slice none 0 0 := by simp only [ev_put_eq, ev_put_ne, size_put, e0, e1, hsa, ne_eq, Nat.reduceLT, Nat.reduceEqDiff, not_false_eq_true, reduceCtorEq]
    simp only [execOp, q0, Sem.run_bind, Sem.run_pure, Result.andThen_ok]
  rw [wpOps_cons]
  refine wpOp_of (o := ⟨some 19, .call ⟨.builtin .cap, #[.tmp 18], #[ts]⟩, y2, p2, f2, none⟩) rfl rfl (wp_value (v := .int .i64 0) (w' := w) ?_ ?_)
  · have q18 : ((a.put (some 17) (.slice none 0 0)).put (some 18) (.slice none 0 0)).eval (.tmp 18) = .slice none 0 0 := by simp only [ev_put_eq, ev_put_ne, size_put, e0, e1, hsa, ne_eq, Nat.reduceLT, Nat.reduceEqDiff, not_false_eq_true, reduceCtorEq]
    simp [execOp, resolve, invoke, builtin, q18, Builtin.cap_, run_underlying hu, goInt]
  rw [wpOps_cons]
  refine wpOp_of (o := ⟨some 20, .slice ts (.tmp 17) none (some (.tmp 19)) none, y3, p3, f3, none⟩) rfl rfl (wp_value (v := .slice none 0 0) (w' := w) ?_ ?_)
  · have q17 : (((a.put (some 17) (.slice none 0 0)).put (some 18) (.slice none 0 0)).put (some 19) (.int .i64 0)).eval (.tmp 17) = .slice none 0 0 := by simp only [ev_put_eq, ev_put_ne, size_put, e0, e1, hsa, ne_eq, Nat.reduceLT, Nat.reduceEqDiff, not_false_eq_true, reduceCtorEq]
    have q19 : (((a.put (some 17) (.slice none 0 0)).put (some 18) (.slice none 0 0)).put (some 19) (.int .i64 0)).eval (.tmp 19) = .int .i64 0 := by simp only [ev_put_eq, ev_put_ne, size_put, e0, e1, hsa, ne_eq, Nat.reduceLT, Nat.reduceEqDiff, not_false_eq_true, reduceCtorEq]
    simp [execOp, q17, q19, Instr.sliceAt, Instr.slice, Instr.sliceBounds, run_underlying hu, sb, ti_size hte]
  rw [wpOps_cons]
  refine wpOp_of (o := ⟨some 21, .move (.tmp 1), y4, p4, f4, none⟩) rfl rfl (wp_value (v := .int .i64 n) (w' := w) ?_ ?_)
  · have q1 : ((((a.put (some 17) (.slice none 0 0)).put (some 18) (.slice none 0 0)).put (some 19) (.int .i64 0)).put (some 20) (.slice none 0 0)).eval (.tmp 1) = .int .i64 n := by simp only [ev_put_eq, ev_put_ne, size_put, e0, e1, hsa, ne_eq, Nat.reduceLT, Nat.reduceEqDiff, not_false_eq_true, reduceCtorEq]
    simp only [execOp, q1, Sem.run_bind, Sem.run_pure, Result.andThen_ok]
  rw [wpOps_cons]
  refine wpOp_of (o := ⟨some 22, .call ⟨.builtin .append, #[.tmp 20, .tmp 21], #[ts, tn]⟩, y5, p5, f5, none⟩) rfl rfl (wp_value (v := .slice (some ⟨w.heap.size, 0, none⟩) n c) (w' := (w.drew.alloc (.cells cs e))) ?_ ?_)
  · have q20 : (((((a.put (some 17) (.slice none 0 0)).put (some 18) (.slice none 0 0)).put (some 19) (.int .i64 0)).put (some 20) (.slice none 0 0)).put (some 21) (.int .i64 n)).eval (.tmp 20) = .slice none 0 0 := by simp only [ev_put_eq, ev_put_ne, size_put, e0, e1, hsa, ne_eq, Nat.reduceLT, Nat.reduceEqDiff, not_false_eq_true, reduceCtorEq]
    have q21 : (((((a.put (some 17) (.slice none 0 0)).put (some 18) (.slice none 0 0)).put (some 19) (.int .i64 0)).put (some 20) (.slice none 0 0)).put (some 21) (.int .i64 n)).eval (.tmp 21) = .int .i64 n := by simp only [ev_put_eq, ev_put_ne, size_put, e0, e1, hsa, ne_eq, Nat.reduceLT, Nat.reduceEqDiff, not_false_eq_true, reduceCtorEq]
    simp only [execOp, resolve, invoke, builtin, Sem.run_bind, Sem.run_pure, Result.andThen_ok, List.map_toArray, List.map_cons, List.map_nil, q20, q21, hap]
  rw [wpOps_cons]
  refine wpOp_of (o := ⟨some 23, .move (.tmp 0), y6, p6, f6, none⟩) rfl rfl (wp_value (v := .slice none 0 0) (w' := (w.drew.alloc (.cells cs e))) ?_ ?_)
  · have q0 : ((((((a.put (some 17) (.slice none 0 0)).put (some 18) (.slice none 0 0)).put (some 19) (.int .i64 0)).put (some 20) (.slice none 0 0)).put (some 21) (.int .i64 n)).put (some 22) (.slice (some ⟨w.heap.size, 0, none⟩) n c)).eval (.tmp 0) = .slice none 0 0 := by simp only [ev_put_eq, ev_put_ne, size_put, e0, e1, hsa, ne_eq, Nat.reduceLT, Nat.reduceEqDiff, not_false_eq_true, reduceCtorEq]
    simp only [execOp, q0, Sem.run_bind, Sem.run_pure, Result.andThen_ok]
  rw [wpOps_cons]
  refine wpOp_of (o := ⟨some 24, .call ⟨.builtin .len, #[.tmp 23], #[ts]⟩, y7, p7, f7, none⟩) rfl rfl (wp_value (v := .int .i64 0) (w' := (w.drew.alloc (.cells cs e))) ?_ ?_)
  · have q23 : (((((((a.put (some 17) (.slice none 0 0)).put (some 18) (.slice none 0 0)).put (some 19) (.int .i64 0)).put (some 20) (.slice none 0 0)).put (some 21) (.int .i64 n)).put (some 22) (.slice (some ⟨w.heap.size, 0, none⟩) n c)).put (some 23) (.slice none 0 0)).eval (.tmp 23) = .slice none 0 0 := by simp only [ev_put_eq, ev_put_ne, size_put, e0, e1, hsa, ne_eq, Nat.reduceLT, Nat.reduceEqDiff, not_false_eq_true, reduceCtorEq]
    simp [execOp, resolve, invoke, builtin, q23, Builtin.len_, run_underlying hu, goInt]
  rw [wpOps_cons]
  refine wpOp_of (o := ⟨some 25, .slice ts (.tmp 22) none (some (.tmp 24)) none, y8, p8, f8, none⟩) rfl rfl (wp_value (v := .slice (some ⟨w.heap.size, 0, none⟩) 0 c) (w' := (w.drew.alloc (.cells cs e))) ?_ ?_)
  · have q22 : ((((((((a.put (some 17) (.slice none 0 0)).put (some 18) (.slice none 0 0)).put (some 19) (.int .i64 0)).put (some 20) (.slice none 0 0)).put (some 21) (.int .i64 n)).put (some 22) (.slice (some ⟨w.heap.size, 0, none⟩) n c)).put (some 23) (.slice none 0 0)).put (some 24) (.int .i64 0)).eval (.tmp 22) = .slice (some ⟨w.heap.size, 0, none⟩) n c := by simp only [ev_put_eq, ev_put_ne, size_put, e0, e1, hsa, ne_eq, Nat.reduceLT, Nat.reduceEqDiff, not_false_eq_true, reduceCtorEq]
    have q24 : ((((((((a.put (some 17) (.slice none 0 0)).put (some 18) (.slice none 0 0)).put (some 19) (.int .i64 0)).put (some 20) (.slice none 0 0)).put (some 21) (.int .i64 n)).put (some 22) (.slice (some ⟨w.heap.size, 0, none⟩) n c)).put (some 23) (.slice none 0 0)).put (some 24) (.int .i64 0)).eval (.tmp 24) = .int .i64 0 := by simp only [ev_put_eq, ev_put_ne, size_put, e0, e1, hsa, ne_eq, Nat.reduceLT, Nat.reduceEqDiff, not_false_eq_true, reduceCtorEq]
    simp [execOp, q22, q24, Instr.sliceAt, Instr.slice, Instr.sliceBounds, run_underlying hu, sb, ti_size hte, Addr.add_lit]
  rw [wpOps_cons]
  refine wpOp_of (o := ⟨some 0, .assign (.tmp 25), y9, p9, f9, none⟩) rfl rfl (wp_value (v := .slice (some ⟨w.heap.size, 0, none⟩) 0 c) (w' := (w.drew.alloc (.cells cs e))) ?_ ?_)
  · have q25 : (((((((((a.put (some 17) (.slice none 0 0)).put (some 18) (.slice none 0 0)).put (some 19) (.int .i64 0)).put (some 20) (.slice none 0 0)).put (some 21) (.int .i64 n)).put (some 22) (.slice (some ⟨w.heap.size, 0, none⟩) n c)).put (some 23) (.slice none 0 0)).put (some 24) (.int .i64 0)).put (some 25) (.slice (some ⟨w.heap.size, 0, none⟩) 0 c)).eval (.tmp 25) = .slice (some ⟨w.heap.size, 0, none⟩) 0 c := by simp only [ev_put_eq, ev_put_ne, size_put, e0, e1, hsa, ne_eq, Nat.reduceLT, Nat.reduceEqDiff, not_false_eq_true, reduceCtorEq]
    simp only [execOp, q25, Sem.run_bind, Sem.run_pure, Result.andThen_ok]
  simp only [wpOps]
  have hb : Below w.heap.size w (w.drew.alloc (.cells cs e)) := ⟨rfl, rfl, rfl, by simp, fun k hk => heap_alloc_old w.drew _ (by simpa using hk)⟩
  obtain ⟨m1, m2⟩ := mem_add hM hb (ob := ⟨none, e, te.size, []⟩) (v := .slice (some ⟨w.heap.size, 0, none⟩) 0 c) (fun b hb => by simp [blk, Value.ownBlock] at hb; omega)
    (fun hs => ObR.of_row rfl ⟨[], ⟨by simp, .inr ⟨w.heap.size, c, cs, rfl, Nat.zero_le _, heap_alloc_new w.drew _, Nat.zero_le _, hcm, hcs, by simp⟩⟩, by simp, by simp [RL]⟩)
  refine ⟨_, h, ?_⟩
  refine ⟨_, by simp only [defers_put]; exact hd, by simp only [size_put, hsa]; simp, grow_slots (by simp only [size_put, hsa]) ?_, m1, hF.step m2⟩
  simp only [RV, R]
  exact ⟨_, hvAdd_self _ _, rfl, rfl⟩
end
end Aw
end Go.Proofs.Ytkolpijhgcijbaa

namespace Go.Proofs.Ytkolpijhgcijbaa
namespace Aw
open Go.RowKit
set_option linter.unusedSimpArgs false

section
theorem RL_set_imp {w : World} {T : Nat → Prop} {hv : Nat → Option Value} {y : AV} : ∀ (xs : List AV) (j : Nat) (x : AV) (us : List Value), xs[j]? = some x → (∀ u, R w T hv x u → R w T hv y u) → RL w T hv xs us → RL w T hv (xs.set j y) us
  | [], j, x, us, h, _, _ => by simp at h
  | z :: xs, 0, x, us, h, hxy, hr => by
    simp only [List.getElem?_cons_zero, Option.some.injEq] at h
    subst h
    simp only [List.set_cons_zero, RL] at hr ⊢
    obtain ⟨u1, u2, e, h1, h2⟩ := hr
    exact ⟨u1, u2, e, hxy u1 h1, h2⟩
  | z :: xs, j + 1, x, us, h, hxy, hr => by
    simp only [List.getElem?_cons_succ] at h
    simp only [List.set_cons_succ, RL] at hr ⊢
    obtain ⟨u1, u2, e, h1, h2⟩ := hr
    exact ⟨u1, u2, e, h1, RL_set_imp xs j x u2 h hxy h2⟩
theorem sizeL_set {y : AV} : ∀ (xs : List AV) (j : Nat) (x : AV), xs[j]? = some x → y.size = x.size → AV.sizeL (xs.set j y) = AV.sizeL xs
  | [], j, x, h, _ => by simp at h
  | z :: xs, 0, x, h, e => by
    simp only [List.getElem?_cons_zero, Option.some.injEq] at h
    subst h
    simp [AV.sizeL, e]
  | z :: xs, j + 1, x, h, e => by
    simp only [List.getElem?_cons_succ] at h
    simp [AV.sizeL, sizeL_set xs j x h e]

theorem mem_same {A : Nat → Prop} {w : World} {hv : Nat → Option Value} {M : Mem} (hM : MemR A w hv M) {i : Nat} {ob ob' : Ob} (hi : M[i]? = some (some ob)) (h : ∀ v, ObR w (OwnA A hv) hv ob v → ObR w (OwnA A hv) hv ob' v) : MemR A w hv (M.set i (some ob')) := by
  have hlt := (List.getElem?_eq_some_iff.1 hi).1
  refine ⟨fun j o hj => ?_, fun j v hj => ?_, hM.inj, hM.old⟩
  · rw [List.getElem?_set] at hj
    split at hj
    · rename_i e
      subst e
      try rw [if_pos hlt] at hj
      injection hj with hj
      injection hj with hj
      subst hj
      obtain ⟨v, h1, h2⟩ := hM.live i ob hi
      exact ⟨v, h1, h v h2⟩
    · exact hM.live j o hj
  · obtain ⟨o, ho⟩ := hM.dom j v hj
    by_cases e : i = j
    · subst e
      exact ⟨ob', by simp [hlt]⟩
    · exact ⟨o, by rw [List.getElem?_set_ne e]; exact ho⟩

theorem le_nil {sl : List AV} {M : Mem} (i j c : Nat) (ty : TypeId) (k : Nat) {ob : Ob} {cells : List AV} (hi : M[i]? = some (some ob)) (hm : ob.mp = none) (hj : ob.xs[j]? = some (.g cells)) (hc : cells[c]? = some (.v (.slice none 0 0))) :
    Le ⟨sl, M⟩ ⟨sl, (M.set i (some { ob with xs := ob.xs.set j (.g (cells.set c (.o M.length))) })) ++ [some ⟨none, ty, k, []⟩]⟩ := by
  intro C a w hS
  obtain ⟨hv, hd, hsz, hsl, hM, hF⟩ := hS
  have hlt := (List.getElem?_eq_some_iff.1 hi).1
  obtain ⟨m1, m2⟩ := mem_add hM (w' := w) ⟨rfl, rfl, rfl, Nat.le_refl _, fun _ _ => rfl⟩ (ob := ⟨none, ty, k, []⟩) (v := .slice none 0 0) (fun b hb => by simp [blk, Value.ownBlock] at hb)
    (fun hs => ObR.of_row rfl ⟨[], World.ownsRow_nil _ _ _ _, by simp, by simp [RL]⟩)
  have m3 := mem_same (ob' := { ob with xs := ob.xs.set j (.g (cells.set c (.o M.length))) }) m1 (i := i) (ob := ob) (by rw [List.getElem?_append_left hlt]; exact hi) (fun v h => by
    obtain ⟨us, h1, h2, h3⟩ := h.row hm
    refine ObR.of_row hm ⟨us, ?_, ?_, ?_⟩
    · simpa using h1
    · intro x hx
      rcases List.mem_or_eq_of_mem_set hx with hx | rfl
      · exact h2 x hx
      · have h4 := h2 (.g cells) (List.mem_of_getElem? hj)
        simp only [AV.size] at h4 ⊢
        rw [sizeL_set (y := .o M.length) cells c _ hc rfl]; exact h4
    · refine RL_set_imp ob.xs j _ us hj (fun u hu => ?_) h3
      simp only [R] at hu ⊢
      refine RL_set_imp cells c _ u hc (fun u hu => ?_) hu
      simp only [R] at hu ⊢
      exact ⟨_, hvAdd_self _ _, hu.1, hu.2⟩)
  rw [List.set_append_left _ _ hlt] at m3
  refine ⟨_, hd, hsz, fun m x hx => ?_, m3, hF.step m2⟩
  obtain ⟨v, h1, h2⟩ := hsl m x hx
  have := m2.rv h2
  rw [AV.kill_nil] at this
  exact ⟨v, h1, this⟩
/-! the room of a nil slice -/
theorem slots2 {a : Act} {w : World} {T : Nat → Prop} {hv : Nat → Option Value} {v0 v1 : Value} (hsa : a.tmps.size = 27) (h0 : a.eval (.tmp 0) = v0) (h1 : a.eval (.tmp 1) = v1) : ∀ (j : Nat) (x : AV), (((List.replicate 27 AV.bot).set 0 (.v v0)).set 1 (.v v1))[j]? = some x → ∃ u, a.tmps[j]? = some u ∧ RV w T hv x u := by
  intro j x hx
  have hat : ∀ t : Nat, t < 27 → a.tmps[t]? = some (a.eval (.tmp t)) := fun t ht => by
    rw [Array.getElem?_eq_getElem (by omega)]
    simp [Act.eval, Array.getD_eq_getD_getElem?, hsa, ht]
  have hj : j < 27 := by
    have := (List.getElem?_eq_some_iff.1 hx).1
    simpa using this
  refine ⟨_, hat j hj, ?_⟩
  rw [List.getElem?_set] at hx
  split at hx
  · rename_i e
    subst e
    simp at hx
    subst hx
    simp [RV, h1]
  · rw [List.getElem?_set] at hx
    split at hx
    · rename_i e
      subst e
      try simp at hx
      subst hx
      simp [RV, h0]
    · simp only [List.getElem?_replicate, hj, if_true, Option.some.injEq] at hx
      rw [← hx]
      simp [RV]

theorem run_sub {P : Program} {w : World} {ty : TypeId} {ox oy : Operand} {a b : Int} (h : lim (a - b)) : (do eqGuard .sub ty ox oy (.int .i64 a) (.int .i64 b); binOp .sub ty (.int .i64 a) (.int .i64 b) : Sem Value).run P w = .ok (.int .i64 (a - b)) w := by
  simp only [lim] at h
  simp [eqGuard_at_int, binOp_sub, Op.intArith, IntWalk.i64_in _ h]

variable {P : Program} {σ : St}
theorem swp_cap {id : Nat} {ts tn tm : TypeId} {y0 y1 y2 y3 y4 y5 y6 y7 : TypeId} {p0 p1 p2 p3 p4 p5 p6 p7 : String} {f0 f1 f2 f3 f4 f5 f6 f7 : Array Edge} {N : HN} {E : HE} {Rt : HR} {tis : TI} {e : TypeId} {n : Int}
    (hts : tiOf P ts = some tis) (htse : tis.elem = some e) (hs : σ.sl[0]? = some (.v (.slice none 0 0))) (hn : σ.sl[1]? = some (I n)) (hl : lim n) (hlen : σ.sl.length = 27)
    (h : N.k ⟨((List.replicate 27 .bot).set 0 (.v (.slice none 0 0))).set 1 (I n), σ.M⟩) :
    @SWp P (.region id #[⟨some 8, .move (.tmp 1), y0, p0, f0, none⟩, ⟨some 9, .move (.tmp 0), y1, p1, f1, none⟩, ⟨some 10, .call ⟨.builtin .cap, #[.tmp 9], #[ts]⟩, y2, p2, f2, none⟩, ⟨some 11, .move (.tmp 0), y3, p3, f3, none⟩, ⟨some 12, .call ⟨.builtin .len, #[.tmp 11], #[ts]⟩, y4, p4, f4, none⟩, ⟨some 13, .binOp .sub tn (.tmp 10) (.tmp 12) tm, y5, p5, f5, none⟩, ⟨some 14, .binOp .sub tn (.tmp 8) (.tmp 13) tm, y6, p6, f6, none⟩, ⟨some 1, .assign (.tmp 14), y7, p7, f7, none⟩] false) σ N E Rt := by
  intro C a w hS
  obtain ⟨hv, hd, hsz', hsl, hM, hF⟩ := hS
  have hu := ti_elem hts htse
  obtain ⟨v0, g0, g0'⟩ := hsl 0 _ hs
  obtain ⟨v1, g1, g1'⟩ := hsl 1 _ hn
  simp only [RV] at g0' g1'
  subst g0'
  subst g1'
  have hsa : a.tmps.size = 27 := by rw [hsz', hlen]
  have e0 : a.eval (.tmp 0) = .slice none 0 0 := by simp [Act.eval, Array.getD_eq_getD_getElem?, g0]
  have e1 : a.eval (.tmp 1) = .int .i64 n := by simp [Act.eval, Array.getD_eq_getD_getElem?, g1]
  have hl1 := hl
  have hl0 : lim 0 := by unfold lim; decide
  refine wp_region ?_
  show wpOps P _ _ [0, 1, 2, 3, 4, 5, 6, 7] a w
  rw [wpOps_cons]
  refine wpOp_of (o := ⟨some 8, .move (.tmp 1), y0, p0, f0, none⟩) rfl rfl (wp_value (v := .int .i64 n) (w' := w) ?_ ?_)
  · simp only [execOp, e1, Sem.run_bind, Sem.run_pure, Result.andThen_ok]
  have y0 : (a.put (some 8) (.int .i64 n)).tmps.size = 27 := by rw [size_put, hsa]
  have x0 : (a.put (some 8) (.int .i64 n)).defers = [] := hd
  have u0_8 : (a.put (some 8) (.int .i64 n)).eval (.tmp 8) = .int .i64 n := ev_put_eq (by rw [hsa]; decide)
  have u0_0 : (a.put (some 8) (.int .i64 n)).eval (.tmp 0) = .slice none 0 0 := (ev_put_ne (by decide)).trans e0
  have u0_1 : (a.put (some 8) (.int .i64 n)).eval (.tmp 1) = .int .i64 n := (ev_put_ne (by decide)).trans e1
  generalize a.put (some 8) (.int .i64 n) = b0 at y0 x0 u0_8 u0_0 u0_1 ⊢
  rw [wpOps_cons]
  refine wpOp_of (o := ⟨some 9, .move (.tmp 0), y1, p1, f1, none⟩) rfl rfl (wp_value (v := .slice none 0 0) (w' := w) ?_ ?_)
  · simp only [execOp, u0_0, Sem.run_bind, Sem.run_pure, Result.andThen_ok]
  have y1 : (b0.put (some 9) (.slice none 0 0)).tmps.size = 27 := by rw [size_put, y0]
  have x1 : (b0.put (some 9) (.slice none 0 0)).defers = [] := x0
  have u1_9 : (b0.put (some 9) (.slice none 0 0)).eval (.tmp 9) = .slice none 0 0 := ev_put_eq (by rw [y0]; decide)
  have u1_8 : (b0.put (some 9) (.slice none 0 0)).eval (.tmp 8) = .int .i64 n := (ev_put_ne (by decide)).trans u0_8
  have u1_0 : (b0.put (some 9) (.slice none 0 0)).eval (.tmp 0) = .slice none 0 0 := (ev_put_ne (by decide)).trans u0_0
  have u1_1 : (b0.put (some 9) (.slice none 0 0)).eval (.tmp 1) = .int .i64 n := (ev_put_ne (by decide)).trans u0_1
  generalize b0.put (some 9) (.slice none 0 0) = b1 at y1 x1 u1_9 u1_8 u1_0 u1_1 ⊢
  rw [wpOps_cons]
  refine wpOp_of (o := ⟨some 10, .call ⟨.builtin .cap, #[.tmp 9], #[ts]⟩, y2, p2, f2, none⟩) rfl rfl (wp_value (v := .int .i64 0) (w' := w) ?_ ?_)
  · simp [execOp, resolve, invoke, builtin, u1_9, Builtin.cap_, run_underlying hu, goInt]
  have y2 : (b1.put (some 10) (.int .i64 0)).tmps.size = 27 := by rw [size_put, y1]
  have x2 : (b1.put (some 10) (.int .i64 0)).defers = [] := x1
  have u2_10 : (b1.put (some 10) (.int .i64 0)).eval (.tmp 10) = .int .i64 0 := ev_put_eq (by rw [y1]; decide)
  have u2_8 : (b1.put (some 10) (.int .i64 0)).eval (.tmp 8) = .int .i64 n := (ev_put_ne (by decide)).trans u1_8
  have u2_0 : (b1.put (some 10) (.int .i64 0)).eval (.tmp 0) = .slice none 0 0 := (ev_put_ne (by decide)).trans u1_0
  have u2_1 : (b1.put (some 10) (.int .i64 0)).eval (.tmp 1) = .int .i64 n := (ev_put_ne (by decide)).trans u1_1
  generalize b1.put (some 10) (.int .i64 0) = b2 at y2 x2 u2_10 u2_8 u2_0 u2_1 ⊢
  rw [wpOps_cons]
  refine wpOp_of (o := ⟨some 11, .move (.tmp 0), y3, p3, f3, none⟩) rfl rfl (wp_value (v := .slice none 0 0) (w' := w) ?_ ?_)
  · simp only [execOp, u2_0, Sem.run_bind, Sem.run_pure, Result.andThen_ok]
  have y3 : (b2.put (some 11) (.slice none 0 0)).tmps.size = 27 := by rw [size_put, y2]
  have x3 : (b2.put (some 11) (.slice none 0 0)).defers = [] := x2
  have u3_11 : (b2.put (some 11) (.slice none 0 0)).eval (.tmp 11) = .slice none 0 0 := ev_put_eq (by rw [y2]; decide)
  have u3_10 : (b2.put (some 11) (.slice none 0 0)).eval (.tmp 10) = .int .i64 0 := (ev_put_ne (by decide)).trans u2_10
  have u3_8 : (b2.put (some 11) (.slice none 0 0)).eval (.tmp 8) = .int .i64 n := (ev_put_ne (by decide)).trans u2_8
  have u3_0 : (b2.put (some 11) (.slice none 0 0)).eval (.tmp 0) = .slice none 0 0 := (ev_put_ne (by decide)).trans u2_0
  have u3_1 : (b2.put (some 11) (.slice none 0 0)).eval (.tmp 1) = .int .i64 n := (ev_put_ne (by decide)).trans u2_1
  generalize b2.put (some 11) (.slice none 0 0) = b3 at y3 x3 u3_11 u3_10 u3_8 u3_0 u3_1 ⊢
  rw [wpOps_cons]
  refine wpOp_of (o := ⟨some 12, .call ⟨.builtin .len, #[.tmp 11], #[ts]⟩, y4, p4, f4, none⟩) rfl rfl (wp_value (v := .int .i64 0) (w' := w) ?_ ?_)
  · simp [execOp, resolve, invoke, builtin, u3_11, Builtin.len_, run_underlying hu, goInt]
  have y4 : (b3.put (some 12) (.int .i64 0)).tmps.size = 27 := by rw [size_put, y3]
  have x4 : (b3.put (some 12) (.int .i64 0)).defers = [] := x3
  have u4_12 : (b3.put (some 12) (.int .i64 0)).eval (.tmp 12) = .int .i64 0 := ev_put_eq (by rw [y3]; decide)
  have u4_10 : (b3.put (some 12) (.int .i64 0)).eval (.tmp 10) = .int .i64 0 := (ev_put_ne (by decide)).trans u3_10
  have u4_8 : (b3.put (some 12) (.int .i64 0)).eval (.tmp 8) = .int .i64 n := (ev_put_ne (by decide)).trans u3_8
  have u4_0 : (b3.put (some 12) (.int .i64 0)).eval (.tmp 0) = .slice none 0 0 := (ev_put_ne (by decide)).trans u3_0
  have u4_1 : (b3.put (some 12) (.int .i64 0)).eval (.tmp 1) = .int .i64 n := (ev_put_ne (by decide)).trans u3_1
  generalize b3.put (some 12) (.int .i64 0) = b4 at y4 x4 u4_12 u4_10 u4_8 u4_0 u4_1 ⊢
  rw [wpOps_cons]
  refine wpOp_of (o := ⟨some 13, .binOp .sub tn (.tmp 10) (.tmp 12) tm, y5, p5, f5, none⟩) rfl rfl (wp_value (v := .int .i64 0) (w' := w) ?_ ?_)
  · have r0 := run_sub (P := P) (w := w) (ty := tn) (ox := .tmp 10) (oy := .tmp 12) (a := 0) (b := 0) (by simpa using hl0)
    rw [Int.sub_zero] at r0
    simp only [execOp, u4_10, u4_12, Sem.run_bind, Sem.run_pure] at r0 ⊢
    rw [r0]
    rfl
  have y5 : (b4.put (some 13) (.int .i64 0)).tmps.size = 27 := by rw [size_put, y4]
  have x5 : (b4.put (some 13) (.int .i64 0)).defers = [] := x4
  have u5_13 : (b4.put (some 13) (.int .i64 0)).eval (.tmp 13) = .int .i64 0 := ev_put_eq (by rw [y4]; decide)
  have u5_8 : (b4.put (some 13) (.int .i64 0)).eval (.tmp 8) = .int .i64 n := (ev_put_ne (by decide)).trans u4_8
  have u5_0 : (b4.put (some 13) (.int .i64 0)).eval (.tmp 0) = .slice none 0 0 := (ev_put_ne (by decide)).trans u4_0
  have u5_1 : (b4.put (some 13) (.int .i64 0)).eval (.tmp 1) = .int .i64 n := (ev_put_ne (by decide)).trans u4_1
  generalize b4.put (some 13) (.int .i64 0) = b5 at y5 x5 u5_13 u5_8 u5_0 u5_1 ⊢
  rw [wpOps_cons]
  refine wpOp_of (o := ⟨some 14, .binOp .sub tn (.tmp 8) (.tmp 13) tm, y6, p6, f6, none⟩) rfl rfl (wp_value (v := .int .i64 n) (w' := w) ?_ ?_)
  · have r0 := run_sub (P := P) (w := w) (ty := tn) (ox := .tmp 8) (oy := .tmp 13) (a := n) (b := 0) (by simpa using hl1)
    rw [Int.sub_zero] at r0
    simp only [execOp, u5_8, u5_13, Sem.run_bind, Sem.run_pure] at r0 ⊢
    rw [r0]
    rfl
  have y6 : (b5.put (some 14) (.int .i64 n)).tmps.size = 27 := by rw [size_put, y5]
  have x6 : (b5.put (some 14) (.int .i64 n)).defers = [] := x5
  have u6_14 : (b5.put (some 14) (.int .i64 n)).eval (.tmp 14) = .int .i64 n := ev_put_eq (by rw [y5]; decide)
  have u6_0 : (b5.put (some 14) (.int .i64 n)).eval (.tmp 0) = .slice none 0 0 := (ev_put_ne (by decide)).trans u5_0
  have u6_1 : (b5.put (some 14) (.int .i64 n)).eval (.tmp 1) = .int .i64 n := (ev_put_ne (by decide)).trans u5_1
  generalize b5.put (some 14) (.int .i64 n) = b6 at y6 x6 u6_14 u6_0 u6_1 ⊢
  rw [wpOps_cons]
  refine wpOp_of (o := ⟨some 1, .assign (.tmp 14), y7, p7, f7, none⟩) rfl rfl (wp_value (v := .int .i64 n) (w' := w) ?_ ?_)
  · simp only [execOp, u6_14, Sem.run_bind, Sem.run_pure, Result.andThen_ok]
  have y7 : (b6.put (some 1) (.int .i64 n)).tmps.size = 27 := by rw [size_put, y6]
  have x7 : (b6.put (some 1) (.int .i64 n)).defers = [] := x6
  have u7_1 : (b6.put (some 1) (.int .i64 n)).eval (.tmp 1) = .int .i64 n := ev_put_eq (by rw [y6]; decide)
  have u7_0 : (b6.put (some 1) (.int .i64 n)).eval (.tmp 0) = .slice none 0 0 := (ev_put_ne (by decide)).trans u6_0
  generalize b6.put (some 1) (.int .i64 n) = b7 at y7 x7 u7_1 u7_0 ⊢
  simp only [wpOps]
  exact ⟨_, h, ⟨hv, x7, by simp [y7], slots2 y7 u7_0 u7_1, hM, hF⟩⟩
end
end Aw
end Go.Proofs.Ytkolpijhgcijbaa
