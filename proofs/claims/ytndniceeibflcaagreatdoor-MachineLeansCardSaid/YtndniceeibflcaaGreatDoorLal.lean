/-
  Parts of several texts in one: MwA, MwB, MwC, MwD, MwE, MwF, MwG, MwH, MwI, MwJ, MwK, MwL, MwM, MwN, MwO.
-/
import Derived.Test.YtndniceeibflcaaGreatDoorProg
import Derived.WalkKit
import Derived.Lib.ConvBytes
import Derived.LaidEql
import Derived.Lib.ItoaNum
import Derived.Lib.LaidTab
import Derived.KernelRfl
import GoSem.Claims
import GoSem.ClaimJoined
import Derived.Orders
import Derived.Laws.StructEq
import Derived.Maps.Keyed
import Derived.Lib.Strings
import Derived.Maps.AppendAt
import Derived.Laws.Concat
import Derived.MapKept
import Derived.Laws.MakeOwn
import Derived.Scope
import Derived.Laws.BitsLemmas
import Derived.Maps.RangeRun
import Derived.StillTail
import Derived.OrdersIn
import Derived.TacticsIn
import Derived.RangeFuncRecord
import Derived.RangeFuncCalls
import Derived.RangeFuncSeq
import Derived.Lib.Split
import Derived.Lib.AtoiAll
import Derived.Shelf.LaysM
import Derived.Shelf.LaysC
import Derived.Shelf.Strconv.Itoa3
import Derived.Shelf.Strconv.AtoiAll
import Derived.Shelf.Strings.Search3
import Derived.Shelf.Strings.Cut
import Derived.Shelf.Strings.Prefix
import Derived.Shelf.Strings.Split
import Derived.Lib.AppendIntMem
import Derived.Stop.Asserts
import Derived.RowKitTokens
import Derived.Conc.MuLone
import Derived.Test.YtndniceeibflcaaGreatDoorLaa
import Derived.Test.YtndniceeibflcaaGreatDoorLac
import Derived.Test.YtndniceeibflcaaGreatDoorLad
import Derived.Test.YtndniceeibflcaaGreatDoorLae
import Derived.Test.YtndniceeibflcaaGreatDoorLag
import Derived.Test.YtndniceeibflcaaGreatDoorLah
import Derived.Test.YtndniceeibflcaaGreatDoorLai
import Derived.Test.YtndniceeibflcaaGreatDoorLaj
import Derived.Test.YtndniceeibflcaaGreatDoorLak
set_option linter.unusedSimpArgs false
set_option linter.unusedVariables false
namespace Go.Proofs.YtndniceeibflcaaGreatDoor
namespace Aw
end Aw
namespace Mp
end Mp
end Go.Proofs.YtndniceeibflcaaGreatDoor
namespace Go.Proofs.YtndniceeibflcaaGreatDoor
open Go.RowKit Go.Extern.Stop Go.Stop Go.Extern
set_option linter.unusedSimpArgs false

theorem aw_load139 (b : Addr) (n : Int) (W : World) (hb : W.cell? b = some (.int .i64 n)) : (loadVar 139 b).run Tryz.prog W = .ok (.agg #[.int .i64 n]) W := by
  simp [loadVar, isAgg, underlying, Tryz.underlying139, aw_size25, loadCells, loadCellsFrom, Addr.add, hb, Result.andThen]
theorem aw_store139 (ta : Addr) (n : Int) (old : Value) (W : World) (ht : W.cell? ta = some old) (hf : W.frozen? ta = false) : (storeVar 139 ta (.agg #[.int .i64 n])).run Tryz.prog W = .ok () (W.setCell ta (.int .i64 n)) := by
  simp [storeVar, aw_size25, Value.cells, storeCells, Addr.add, Result.andThen]
  rw [run_store Tryz.prog W ta _ _ (by rfl)]
  simp [ht, hf]
theorem aw_set25 (ta b : Addr) (n : Int) (old : Value) (W : World) (hb : W.cell? b = some (.int .i64 n)) (ht : W.cell? ta = some old) (hf : W.frozen? ta = false) :
    (ReflectliteValue.set #[.agg #[.pointer (some ⟨9, 139, none⟩), .pointer (some ta), .int .u64 409], .agg #[.pointer (some ⟨9, 139, none⟩), .pointer (some b), .int .u64 153]]).run Tryz.prog W
      = .ok (.tuple #[]) (W.setCell ta (.int .i64 n)) := by
  rw [rls]
  simp only [Sem.run_bind, aw_parts25a, aw_parts25, Result.andThen]
  simp [ReflectliteValue.flagAddr, aw_load139 b n W hb, aw_store139 ta n old W ht hf, Result.andThen, aw_direct25]

end Go.Proofs.YtndniceeibflcaaGreatDoor

namespace Go.Proofs.YtndniceeibflcaaGreatDoor
open Go.RowKit Go.Extern.Stop Go.Stop Go.Extern
set_option linter.unusedSimpArgs false

set_option maxHeartbeats 4000000 in
theorem as_hit (n : Int) (t : Addr) (old : Value) (w : World) (hg : w.cell? ⟨0, 0, none⟩ = some (.iface 226 (.agg #[.pointer (some ⟨9, 114, none⟩)]))) (ht0 : w.cell? t = some old) (hf0 : w.frozen? t = false) :
    Calls Tryz.prog 98 #[.iface 139 (.agg #[.int .i64 n]), .iface 147 (.pointer (some t))] w fun ev w' => ev = .returned (.bool true) ∧ w' = ((((w.alloc (.cells #[.pointer (some t)] 147)).alloc (.cells #[.pointer (some ⟨9, 147, none⟩), .pointer (some ⟨w.heap.size, 0, none⟩), .int .u64 150] 184)).alloc (.cells #[.pointer (some ⟨9, 147, none⟩), .pointer (some ⟨w.heap.size, 0, none⟩), .int .u64 150] 184)).alloc (.cells #[.int .i64 n] 139)).setCell t (.int .i64 n) := by
  have h6 := @run_callFunc_extern Tryz.prog 139 _ (fun args => ReflectliteValue.unpack (args.getD 0 (.tuple #[]))) Tryz.func139 (by kernel_rfl) (by kernel_rfl) (by kernel_rfl) (by kernel_rfl)
  have h7 := @run_callFunc_extern Tryz.prog 140 _ (ReflectliteValue.methodAny (ReflectliteValue.valueError "reflectlite.Value.Type" 0) (fun t _ _ _ => ReflectliteType.toType t)) Tryz.func140 (by kernel_rfl) (by kernel_rfl) (by kernel_rfl) (by kernel_rfl)
  have h8 := @run_callFunc_extern Tryz.prog 141 _ (ReflectliteValue.method (ReflectliteValue.valueError "reflectlite.Value.IsNil" 0) ReflectliteValue.isNil) Tryz.func141 (by kernel_rfl) (by kernel_rfl) (by kernel_rfl) (by kernel_rfl)
  have h27 := @run_callFunc_extern Tryz.prog 226 _ (ReflectliteType.abiMethod fun t => do pure (.int .u8 (← Rtype.kind t))) Tryz.func226 (by kernel_rfl) (by kernel_rfl) (by kernel_rfl) (by kernel_rfl)
  have h37 := @run_callFunc_extern Tryz.prog 239 _ (ReflectliteType.method ReflectliteType.elem) Tryz.func239 (by kernel_rfl) (by kernel_rfl) (by kernel_rfl) (by kernel_rfl)
  have h38 := @run_callFunc_extern Tryz.prog 240 _ (ReflectliteType.relation "Implements" ReflectliteType.implements_) Tryz.func240 (by kernel_rfl) (by kernel_rfl) (by kernel_rfl) (by kernel_rfl)
  have h10 := @run_callFunc_extern Tryz.prog 181 _ ReflectliteType.typeOf Tryz.func181 (by kernel_rfl) (by kernel_rfl) (by kernel_rfl) (by kernel_rfl)
  have h35 := @run_callFunc_extern Tryz.prog 237 _ (ReflectliteType.relation "AssignableTo" ReflectliteType.assignableTo) Tryz.func237 (by kernel_rfl) (by kernel_rfl) (by kernel_rfl) (by kernel_rfl)
  have h11 := @run_callFunc_extern Tryz.prog 182 _ (ReflectliteValue.method (ReflectliteValue.valueError "reflectlite.Value.Elem" 0) ReflectliteValue.elem) Tryz.func182 (by kernel_rfl) (by kernel_rfl) (by kernel_rfl) (by kernel_rfl)
  have h12 := @run_callFunc_extern Tryz.prog 183 _ ReflectliteValue.set Tryz.func183 (by kernel_rfl) (by kernel_rfl) (by kernel_rfl) (by kernel_rfl)
  have tO := aw_typeOf25
  have mA := aw_methodAssignableTo
  have a25 := aw_assignable25
  have v25 := aw_valueOf25
  have f6 := aw_valueOf27
  have f7 := aw_type27
  have mK := aw_methodKind
  have mE := aw_methodElem
  have mI := aw_methodImplements
  have k27 := aw_kind27
  have k25 := aw_kind25
  have e27 := aw_elem27
  have i25 := aw_implements25
  have n8 := aw_isNil27 ⟨w.heap.size, 0, none⟩ t ((w.alloc (.cells #[.pointer (some t)] 147)).alloc (.cells #[.pointer (some ⟨9, 147, none⟩), .pointer (some ⟨w.heap.size, 0, none⟩), .int .u64 150] 184)) (by simp)
  have hlt : 0 < w.heap.size := by
    rcases Nat.eq_zero_or_pos w.heap.size with h0 | h
    · simp [World.cell?, h0] at hg
    · exact h
  have hg2 : ((w.alloc (.cells #[.pointer (some t)] 147)).alloc (.cells #[.pointer (some ⟨9, 147, none⟩), .pointer (some ⟨w.heap.size, 0, none⟩), .int .u64 150] 184)).cell? ⟨0, 0, none⟩ = some (.iface 226 (.agg #[.pointer (some ⟨9, 114, none⟩)])) := by
    rw [World.cell?_alloc_lt _ _ ⟨0, 0, none⟩ (by simp), World.cell?_alloc_lt _ _ ⟨0, 0, none⟩ hlt]; exact hg
  have htl : t.block < w.heap.size := by
    rcases Nat.lt_or_ge t.block w.heap.size with h | h
    · exact h
    · simp [World.cell?, Array.getElem?_eq_none h] at ht0
  have el := aw_elemV27 ⟨w.heap.size, 0, none⟩ t (((w.alloc (.cells #[.pointer (some t)] 147)).alloc (.cells #[.pointer (some ⟨9, 147, none⟩), .pointer (some ⟨w.heap.size, 0, none⟩), .int .u64 150] 184)).alloc (.cells #[.pointer (some ⟨9, 147, none⟩), .pointer (some ⟨w.heap.size, 0, none⟩), .int .u64 150] 184)) (by rw [World.cell?_alloc_lt _ _ ⟨w.heap.size, 0, none⟩ (by simp; omega)]; simp)
  have st := aw_set25 t ⟨w.heap.size + 1 + 1 + 1, 0, none⟩ n old ((((w.alloc (.cells #[.pointer (some t)] 147)).alloc (.cells #[.pointer (some ⟨9, 147, none⟩), .pointer (some ⟨w.heap.size, 0, none⟩), .int .u64 150] 184)).alloc (.cells #[.pointer (some ⟨9, 147, none⟩), .pointer (some ⟨w.heap.size, 0, none⟩), .int .u64 150] 184)).alloc (.cells #[.int .i64 n] 139))
    (by rw [World.cell?_alloc_at _ _ _ _ (by simp)]; rfl)
    (by rw [World.cell?_alloc_lt _ _ t (by simp; omega), World.cell?_alloc_lt _ _ t (by simp; omega), World.cell?_alloc_lt _ _ t (by simp; omega), World.cell?_alloc_lt _ _ t htl]; exact ht0)
    (by rw [World.frozen?_alloc_old _ _ t (by simp; omega), World.frozen?_alloc_old _ _ t (by simp; omega), World.frozen?_alloc_old _ _ t (by simp; omega), World.frozen?_alloc_old _ _ t (Nat.ne_of_lt htl)]; exact hf0)
  go_enter Tryz.func98, Tryz.ntmps98
  go_wp2
  refine wp_loop_rounds 1 ?_
  rw [rounds_succ]
  go_wp2
  go_ret
  exact ⟨rfl, rfl⟩
end Go.Proofs.YtndniceeibflcaaGreatDoor

namespace Go.Proofs.YtndniceeibflcaaGreatDoor
open Go.RowKit Go.Extern.Stop Go.Stop Go.Extern
set_option linter.unusedSimpArgs false

set_option maxHeartbeats 4000000 in
theorem code_raw (n : Int) (w : World) (hg : w.cell? ⟨0, 0, none⟩ = some (.iface 226 (.agg #[.pointer (some ⟨9, 114, none⟩)]))) :
    Calls Tryz.prog 71 #[.iface 139 (.agg #[.int .i64 n])] w fun e w' => e = .returned (.int .i64 n) ∧ Below w.heap.size w w' := by
  have hlt : 0 < w.heap.size := by
    rcases Nat.eq_zero_or_pos w.heap.size with h0 | h
    · simp [World.cell?, h0] at hg
    · exact h
  have hgA : (w.alloc (.cells #[.int .i64 0] 139)).cell? ⟨0, 0, none⟩ = some (.iface 226 (.agg #[.pointer (some ⟨9, 114, none⟩)])) := by
    rw [World.cell?_alloc_lt _ _ ⟨0, 0, none⟩ hlt]; exact hg
  have htA : (w.alloc (.cells #[.int .i64 0] 139)).cell? ⟨w.heap.size, 0, none⟩ = some (.int .i64 0) := by simp
  have hfA : (w.alloc (.cells #[.int .i64 0] 139)).frozen? ⟨w.heap.size, 0, none⟩ = false := by simp
  go_enter Tryz.func71, Tryz.ntmps71
  go_wp2_with (go_at_call 98; refine (as_hit n _ (.int .i64 0) _ hgA htA hfA).mono ?_; rintro e w' ⟨rfl, rfl⟩)
  go_ret
  refine ⟨rfl, ?_⟩
  have b0 := (Below.refl w.heap.size w).alloc (Nat.le_refl _) (.cells #[Value.int IntKind.i64 n] 139)
  have b1 := b0.alloc b0.size (.cells #[Value.pointer (some { block := w.heap.size, off := 0 })] 147)
  have b2 := b1.alloc b1.size (.cells #[Value.pointer (some { block := 9, off := 147 }), Value.pointer (some { block := w.heap.size + 1, off := 0 }), Value.int IntKind.u64 150] 184)
  have b3 := b2.alloc b2.size (.cells #[Value.pointer (some { block := 9, off := 147 }), Value.pointer (some { block := w.heap.size + 1, off := 0 }), Value.int IntKind.u64 150] 184)
  exact b3.alloc b3.size _

theorem ok71 : Aw.okFn Tryz.prog 71 = true := by kernel_rfl
/-- the code of a refusal. -/
theorem s71 (n : Int) : Aw.ASpec Tryz.prog 71 [errV n] (fun r Ms => r = Aw.I n ∧ Ms = []) := by
  refine aspec_cl ok71 ?_
  intro w vs A hG hA hv
  unfold errV at hv
  obtain ⟨v1, vs1, rfl, h1, h2⟩ := hv
  obtain rfl := h1
  obtain rfl := h2
  refine (code_raw n w hG.et).mono ?_
  rintro e w' ⟨rfl, hb⟩
  exact ⟨_, Aw.I n, rfl, ⟨rfl, rfl⟩, hb, fun T _ => by simp [Aw.RV]⟩
end Go.Proofs.YtndniceeibflcaaGreatDoor

namespace Go.Proofs.YtndniceeibflcaaGreatDoor
set_option linter.unusedSimpArgs false

abbrev muLinkZ : Go.Conc.Locks.MuLink := { lock := 68, unlock := 69, ilock := 93, iunlock := 94, lockSlow := 132, unlockSlow := 135, disable := 128, enable := 130, acquire := 131, relMerge := 133, cas32 := 129, add32 := 134, tMutex := 103, tIMutex := 101, tPMutex := 137, tPIMutex := 173, tPI32 := 175, tUP := 177, tNoCopy := 98, tU32 := 99 }
theorem muLibZ : Go.Conc.Locks.MuLib Tryz.prog muLinkZ :=
  ⟨Tryz.func68, Tryz.func69, Tryz.func93, Tryz.func94, Tryz.func128, Tryz.func130, Tryz.func131, Tryz.func133, Tryz.func129, Tryz.func134, Tryz.underlying101, Tryz.runUnderlying101, Tryz.sizeOf101, Tryz.isAgg101, Tryz.zeroValue101, Tryz.underlying103, Tryz.runUnderlying103, Tryz.sizeOf103, Tryz.isAgg103, Tryz.zeroValue103, Tryz.underlying137, Tryz.runUnderlying137, Tryz.sizeOf137, Tryz.isAgg137, Tryz.zeroValue137, Tryz.underlying173, Tryz.runUnderlying173, Tryz.sizeOf173, Tryz.isAgg173, Tryz.zeroValue173, Tryz.underlying175, Tryz.runUnderlying175, Tryz.sizeOf175, Tryz.isAgg175, Tryz.zeroValue175, Tryz.underlying177, Tryz.runUnderlying177, Tryz.sizeOf177, Tryz.isAgg177, Tryz.zeroValue177, Tryz.underlying98, Tryz.runUnderlying98, Tryz.sizeOf98, Tryz.isAgg98, Tryz.zeroValue98, Tryz.underlying21, Tryz.runUnderlying21, Tryz.sizeOf21, Tryz.isAgg21, Tryz.zeroValue21, (by kernel_rfl)⟩
theorem lockZ (a : Addr) (w : World) (hc : w.cell? a = some (.int .i32 0)) (hz : w.frozen? a = false) :
    Calls Tryz.prog 68 #[.pointer (some a)] w fun e w' => e = .returned (.tuple #[]) ∧ w' = w.setCell a (.int .i32 1) := Go.MuLone.lock_free muLibZ a w hc hz
theorem unlockZ (a : Addr) (u : FrameMode) (w : World) (hc : w.cell? a = some (.int .i32 1)) (hz : w.frozen? a = false) :
    CallsD Tryz.prog 69 #[.pointer (some a)] u w fun e u' w' => u' = u ∧ (e = .returned (.tuple #[]) ∧ w' = w.setCell a (.int .i32 0)) := Go.MuLone.unlock_deferred muLibZ a u w hc hz
end Go.Proofs.YtndniceeibflcaaGreatDoor

namespace Go.Proofs.YtndniceeibflcaaGreatDoor
namespace Aw
open Go.RowKit
set_option linter.unusedSimpArgs false

/-- what is held where a function ends. -/
theorem mend_fin {P : Program} {fn : Func} {aS : List AV} {vs : List Value} {post : AV → Mem → Prop} {w : World} {In A : Nat → Prop} {dl : List Deferred} {σ : St} {a' : Act} {w' : World} (h : MEnd2 P fn.results.toList aS vs post σ) (hSσ : StR ⟨w, In, A, dl⟩ σ a' w') :
    ∃ v r M' hv', (results fn a'.tmps).run P w' = .ok v w' ∧ post r M' ∧ MemR A w' hv' M' ∧ RV w' (OwnA A hv') hv' r v ∧ RVL w' (OwnA A hv') hv' aS vs ∧ Keeps w In w' (Own hv') ∧ w'.os = w.os ∧ w'.tape = w.tape ∧ w'.output = w.output ∧ dr w ≤ dr w' := by
  obtain ⟨⟨sl', M1⟩, x, M', rest, hle, hx, hM1, f1, f2, f3, hp⟩ := h
  obtain ⟨hv2, hd, _, hsl, hM2, hF⟩ := hle _ _ _ hSσ
  simp only at hM1
  subst hM1
  obtain ⟨v, h1, h2⟩ := res_ok (C := ⟨w, In, A, dl⟩) hsl hM2 hx
  have hg : (M' ++ some (ghost vs aS) :: rest)[M'.length]? = some (some (ghost vs aS)) := by simp
  obtain ⟨vg, hvg, hob⟩ := hM2.live _ _ hg
  obtain ⟨vals, ⟨hk0, _⟩ | ⟨_, rfl, rfl⟩, hr⟩ := hob.map (ks := vs) rfl
  · simp [ghost] at hk0
  let hv3 : Nat → Option Value := fun i => if i < M'.length then hv2 i else none
  have hown : ∀ b, Own hv3 b → Own hv2 b := by
    rintro b ⟨i, u, hi, hb⟩
    simp only [hv3] at hi
    split at hi
    · exact ⟨i, u, hi, hb⟩
    · cases hi
  have hs : StepR A w' hv2 (Zr M'.length rest.length) w' hv3 := by
    refine ⟨⟨Nat.le_refl _, fun _ _ _ => rfl, fun b _ hb => hown b hb⟩, fun i u hi h => ?_, rfl, rfl, rfl, Nat.le_refl _⟩
    obtain ⟨ob, hob⟩ := hM2.dom i u h
    have := (List.getElem?_eq_some_iff.1 hob).1
    simp only [List.length_append, List.length_cons] at this
    rw [mem_Zr] at hi
    simp only [hv3, if_pos (show i < M'.length by omega)]
    exact h
  refine ⟨v, x, M', hv3, h1, hp, ⟨fun i ob hi => ?_, fun i u hi => ?_, fun i j vi vj b hi hj => ?_, hM2.old, hs.gl hM2.gl⟩, ?_, ?_, ⟨hF.size, fun b hb hn => hF.block b hb hn, fun b hlt hb => ?_⟩, hF.os, hF.tape, hF.output, hF.drawn⟩
  · have hlt : i < M'.length := (List.getElem?_eq_some_iff.1 hi).1
    obtain ⟨v, h1, h2, h3⟩ := live_step hM2 hs (fun v b h1 h2 => rfl) (show i ∉ Zr M'.length rest.length by rw [mem_Zr]; omega) (by rw [List.getElem?_append_left hlt]; exact hi)
    have hk : Ob.kill (Zr M'.length rest.length) ob = ob := by
      simp only [freeM, List.all_eq_true] at f3
      have := f3 _ (List.mem_of_getElem? hi)
      simp only at this
      cases ob
      simp only [Ob.kill, Ob.mk.injEq, true_and]
      exact killL_free this
    rw [hk] at h3
    exact ⟨v, h2, h3⟩
  · simp only [hv3] at hi
    split at hi
    · rename_i hlt
      obtain ⟨ob, hob⟩ := hM2.dom i u hi
      rw [List.getElem?_append_left hlt] at hob
      exact ⟨ob, hob⟩
    · cases hi
  · simp only [hv3] at hi hj
    split at hi
    · split at hj
      · exact hM2.inj i j vi vj b hi hj
      · cases hj
    · cases hi
  · have := hs.rv h2
    rwa [AV.kill_free _ _ f1] at this
  · have := RVL_keep hs.keeps hs.hv _ _ hr
    have e : AV.killL (Zr M'.length rest.length) (ghost vals aS).xs = aS := killL_free f2
    rw [e] at this
    exact this
  · rcases hF.own b (hown b hb) with g | g
    · exact g
    · simp only at g; omega

/-- the first cell of an own object. -/
theorem mem_cell {P : Program} {A : Nat → Prop} {w : World} {hv : Nat → Option Value} {M : Mem} {i : Nat} {ob : Ob} {x : Value} {cs : List AV} (hM : MemR A w hv M) (hi : M[i]? = some (some ob)) (hm : ob.mp = none) (hx : ob.xs = [.g (.v x :: cs)]) :
    ∃ b n c, hv i = some (.slice (some ⟨b, 0, none⟩) n c) ∧ w.cell? ⟨b, 0, none⟩ = some x ∧ w.frozen? ⟨b, 0, none⟩ = false ∧
      ∀ x' : Value, x'.oneCell' = true → MemR A (w.setCell ⟨b, 0, none⟩ x') hv (M.set i (some { ob with xs := [.g (.v x' :: cs)] })) ∧ StepR A w hv [] (w.setCell ⟨b, 0, none⟩ x') hv := by
  obtain ⟨v0, hv0, hob⟩ := hM.live i ob hi
  have hj : 0 < ob.xs.length := by rw [hx]; simp
  have hg0 : ob.xs.getD 0 .bot = .g (.v x :: cs) := by rw [hx]; rfl
  obtain ⟨g, cap, cur, us, e0, h1, h2, h3, h4, h5, h6, h7, h8⟩ := obR_row hob hm (by rw [hx]; simp)
  obtain ⟨g', cap', ws, e1, e2, e3⟩ := ob_cells hob hm hj
  rw [e0] at e1
  injection e1 with e1
  injection e1 with e1
  injection e1 with e1
  subst e1
  subst e0
  rw [hg0] at e2
  simp only [R, RL] at e2
  obtain ⟨u1, u2, rfl, ⟨rfl, ho⟩, hcs⟩ := e2
  have hc : w.cell? ⟨g, 0, none⟩ = some x := by simpa using e3 0 x rfl
  have hf : w.frozen? ⟨g, 0, none⟩ = false := by simp [World.frozen?, h1]
  refine ⟨g, _, cap, hv0, hc, hf, fun x' hx' => ?_⟩
  obtain ⟨w', c1, c2, c3⟩ := cells_ok (P := P) (off := 0) (r := .g (.v x' :: cs)) (cs := [x']) hM hi hj hv0 (by simpa using hx') (fun us hus => by
    rw [hg0] at hus
    simp only [R, RL] at hus
    obtain ⟨a1, a2, rfl, ⟨rfl, _⟩, hcs2⟩ := hus
    refine ⟨by simp, ?_, by rw [hg0]; simp [AV.size, AV.sizeL]⟩
    simp only [R, RL]
    exact ⟨[x'], a2, by simp, ⟨rfl, hx'⟩, hcs2⟩)
  have hw : w' = w.setCell ⟨g, 0, none⟩ x' := by
    simp only [Nat.zero_mul, Nat.add_zero, storeCells, Addr.add, Sem.run_bind, if_true, beq_self_eq_true, eq_self] at c1
    rw [run_store P w ⟨g, 0, none⟩ x' _ hx'] at c1
    simp [hc, hf] at c1
    exact c1.symm
  subst hw
  rw [show ob.xs.set 0 (.g (.v x' :: cs)) = [.g (.v x' :: cs)] by rw [hx]; rfl] at c2
  exact ⟨c2, c3⟩
end Aw
end Go.Proofs.YtndniceeibflcaaGreatDoor

namespace Go.Proofs.YtndniceeibflcaaGreatDoor
open Aw Mp Go.RowKit
set_option linter.unusedSimpArgs false

theorem ok68 : okFn Tryz.prog 68 = true := by kernel_rfl
theorem m68 {M : Mem} {ob : Ob} {cs : List AV} {k : Nat} (hi : M[0]? = some (some ob)) (hm : ob.mp = none) (hx : ob.xs = [.g (.v (.int .i32 0) :: cs)]) :
    MSpec Tryz.prog 68 [.q 0 k 0 0] M (fun r N => r = .t [] ∧ N = M.set 0 (some { ob with xs := [.g (.v (.int .i32 1) :: cs)] })) := by
  refine ⟨ok68, fun w vs A hv hM hsep hvs => ?_⟩
  have hvs0 := hvs
  obtain ⟨b, n, c, h1, h2, h3, h4⟩ := mem_cell (P := Tryz.prog) hM hi hm hx
  simp only [RVL, RV, R] at hvs
  obtain ⟨v, vs', rfl, ⟨b', n', c', h5, h6⟩, rfl⟩ := hvs
  rw [h1] at h5
  injection h5 with h5
  injection h5 with h5 _ _
  injection h5 with h5
  injection h5 with h5 _ _
  subst h5
  injection h6 with h6 _
  subst h6
  obtain ⟨h7, h8⟩ := h4 (.int .i32 1) rfl
  have key := lockZ ⟨b, 0, none⟩ w h2 h3
  rw [show (0 * k + 0 : Nat) = 0 by omega]
  refine key.mono ?_
  rintro e w' ⟨rfl, rfl⟩
  have hk := RVL_keep h8.keeps h8.hv _ _ hvs0
  rw [AV.killL_nil] at hk
  exact ⟨.t [], _, .tuple #[], hv, rfl, ⟨rfl, rfl⟩, h7, by simp [RV, RVL], by simpa using hk, h8.kp, h8.os, h8.tape, h8.output, h8.drawn⟩
end Go.Proofs.YtndniceeibflcaaGreatDoor

namespace Go.Proofs.YtndniceeibflcaaGreatDoor
open Aw Mp Go.RowKit
set_option linter.unusedSimpArgs false

/-- where a function ends that holds the lock, and has put the unlocking off. -/
def LEnd (P : Program) (rs : List ResultVar) (aS : List AV) (vs : List Value) (post : AV → Mem → Prop) (σ : St) : Prop :=
  ∃ (σ' : St) (ob : Ob) (cs : List AV) (g : Nat), Le σ σ' ∧ σ'.M[0]? = some (some ob) ∧ ob.mp = none ∧ ob.xs = [.g (.v (.int .i32 1) :: cs)] ∧ σ'.M[g]? = some (some (ghost vs aS)) ∧
    MEnd2 P rs aS vs post ⟨σ'.sl, σ'.M.set 0 (some { ob with xs := [.g (.v (.int .i32 0) :: cs)] })⟩

theorem ghost_ptr {C : Ctx} {σ : St} {a : Act} {w : World} {vs : List Value} {k : Nat} {aS : List AV} {g : Nat} {hv : Nat → Option Value} (hM : MemR C.A w hv σ.M) (hg : σ.M[g]? = some (some (ghost vs (.q 0 k 0 0 :: aS)))) : ∃ vs' b n c, vs = .pointer (some ⟨b, 0, none⟩) :: vs' ∧ hv 0 = some (.slice (some ⟨b, 0, none⟩) n c) := by
  obtain ⟨vg, hvg, hob⟩ := hM.live _ _ hg
  obtain ⟨vals, ⟨hk0, _⟩ | ⟨_, rfl, rfl⟩, hr⟩ := hob.map (ks := vs) rfl
  · simp [ghost] at hk0
  simp only [ghost, RVL, RV, R] at hr
  obtain ⟨u, us, h1, ⟨b, n, c, h2, h3⟩, _⟩ := hr
  injection h3 with h3 _
  subst h3
  exact ⟨us, b, n, c, by rw [h1]; simp, h2⟩

theorem mspec_locked {f : FuncId} {fn : Func} {r0 nc r3 rest : Code} {i4 : Nat} {ops4 : Array Oper} {pre : List Oper} {df : Oper} {t k : Nat} {own : List Nat} {aS : List AV} {M : Mem} {post : AV → Mem → Prop}
    (hf : Tryz.prog.funcs[f]? = some fn) (hb : fn.body = some (.seq r0 (.seq nc (.seq r3 (.seq (.region i4 ops4 false) rest))))) (hok : okFn Tryz.prog f = true)
    (hops : ops4.toList = pre ++ [df]) (hg : df.guard = none) (hdst : df.dst = none) (hdf : ∀ (a : Act) (w : World), (execOp a.eval df).run Tryz.prog w = .ok (.defer { target := .fn (.func 69) #[], args := #[a.eval (.tmp t)] }) w)
    (h : ∀ vs : List Value, @SWp Tryz.prog r0 ⟨(.q 0 k 0 0 :: aS) ++ List.replicate (fn.ntmps - (aS.length + 1)) .bot, M ++ [some (ghost vs (.q 0 k 0 0 :: aS))]⟩ ⟨fun s1 => @SWp Tryz.prog nc s1 ⟨fun s2 => @SWp Tryz.prog r3 s2 ⟨fun s3 => @AOps Tryz.prog own ops4.toList pre s3 ⟨fun s4 => ∃ (σ2 : St) (g : Nat), Le s4 σ2 ∧ σ2.sl[t]? = some (.q 0 k 0 0) ∧ σ2.M[g]? = some (some (ghost vs (.q 0 k 0 0 :: aS))) ∧
        @SWp Tryz.prog rest σ2 ⟨LEnd Tryz.prog fn.results.toList (.q 0 k 0 0 :: aS) vs post⟩ ⟨fun _ _ => False⟩ ⟨fun σ _ => LEnd Tryz.prog fn.results.toList (.q 0 k 0 0 :: aS) vs post σ⟩⟩⟩ ⟨fun _ _ => False⟩ ⟨fun _ _ => False⟩⟩ ⟨fun _ _ => False⟩ ⟨fun _ _ => False⟩⟩ ⟨fun _ _ => False⟩ ⟨fun _ _ => False⟩) : MSpec Tryz.prog f (.q 0 k 0 0 :: aS) M post := by
  refine ⟨hok, fun w vs A hv hM0 hsep hvs0 => Go.calls_of_wp_defers hf hb ?_⟩
  obtain ⟨hM, hs0⟩ := mem_add hM0 (Bel.refl _ w) (ob := ghost vs (.q 0 k 0 0 :: aS)) (v := .map none) (fun b hb => by simp [blk] at hb) (fun hs => ObR.of_map (ob := ghost vs (.q 0 k 0 0 :: aS)) (ks := vs) rfl ⟨vs, .inr ⟨by simp [ghost], rfl, rfl⟩, by
    have := RVL_keep hs.keeps hs.hv _ _ hvs0
    rwa [AV.killL_nil] at this⟩)
  have hvs : RVL w (OwnA A (hvAdd hv M.length (.map none))) (hvAdd hv M.length (.map none)) (.q 0 k 0 0 :: aS) vs := by
    have := RVL_keep hs0.keeps hs0.hv _ _ hvs0
    rwa [AV.killL_nil] at this
  have hoeq : ∀ b, Aw.Own (hvAdd hv M.length (.map none)) b → Aw.Own hv b := fun b hb => by
    rcases (own_add (mem_none hM0 (Nat.le_refl _))).1 hb with h | h
    · exact h
    · simp [blk] at h
  obtain ⟨hlen, hget⟩ := rvl_get (.q 0 k 0 0 :: aS) vs hvs
  have hS : StR ⟨w, Aw.Own hv, A, []⟩ ⟨(.q 0 k 0 0 :: aS) ++ List.replicate (fn.ntmps - (aS.length + 1)) .bot, M ++ [some (ghost vs (.q 0 k 0 0 :: aS))]⟩ { tmps := vs.toArray ++ Array.replicate (fn.ntmps - vs.toArray.size) undef, defers := [] } w := by
    refine ⟨_, rfl, by simp [hlen]; omega, fun i x hx => ?_, hM, ⟨rfl, rfl, rfl, Nat.le_refl _, Nat.le_refl _, fun _ _ _ => rfl, fun b h => .inl (hoeq b h), hM0.old, fun b hA ho => hsep b ho hA⟩⟩
    rcases Nat.lt_or_ge i (AV.q 0 k 0 0 :: aS).length with hlt | hge
    · simp only [List.getElem?_append_left hlt] at hx
      obtain ⟨v, h1, h2⟩ := hget i x hx
      refine ⟨v, ?_, h2⟩
      rw [Array.getElem?_append_left (by simp; omega)]; simpa using h1
    · simp only [List.getElem?_append_right hge, List.getElem?_replicate] at hx
      split at hx
      · rename_i hr
        injection hx with hx
        subst hx
        refine ⟨undef, ?_, by simp [RV]⟩
        rw [Array.getElem?_append_right (by simp; omega)]
        simp only [List.length_cons] at hr
        simp [hlen, hr]
      · cases hx
  refine wp_seq (wp_mono (h vs _ _ _ hS) fun e a1 w1 hq => ?_)
  cases e with
  | exit id => exact hq.elim fun _ h => h.1.elim
  | ret => exact hq.elim fun _ h => h.1.elim
  | goto l => exact hq.elim
  | panic ch => exact hq.elim
  | outgrown => exact hq.elim
  | normal =>
  obtain ⟨s1, h1, hS1⟩ := hq
  refine wp_seq (wp_mono (h1 _ _ _ hS1) fun e a2 w2 hq => ?_)
  cases e with
  | exit id => exact hq.elim fun _ h => h.1.elim
  | ret => exact hq.elim fun _ h => h.1.elim
  | goto l => exact hq.elim
  | panic ch => exact hq.elim
  | outgrown => exact hq.elim
  | normal =>
  obtain ⟨s2, h2, hS2⟩ := hq
  refine wp_seq (wp_mono (h2 _ _ _ hS2) fun e a3 w3 hq => ?_)
  cases e with
  | exit id => exact hq.elim fun _ h => h.1.elim
  | ret => exact hq.elim fun _ h => h.1.elim
  | goto l => exact hq.elim
  | panic ch => exact hq.elim
  | outgrown => exact hq.elim
  | normal =>
  obtain ⟨s3, h3, hS3⟩ := hq
  refine wp_seq (wp_region ?_)
  have hl : ops4.size = (pre ++ [df]).length := by rw [← hops]; simp
  rw [List.range_eq_range', hl]
  refine aops_then (P := Tryz.prog) (own := own) [df] pre 0 s3 a3 w3 (by simpa using hops) h3 hS3 ?_
  rintro s4 a4 w4 ⟨σ2, g, hle, hsl2, hgg, hrest⟩ hS4
  have ho : ops4[0 + pre.length]? = some df := by
    have : ops4.toList[pre.length]? = some df := by rw [hops]; simp
    rw [Nat.zero_add]; simpa using this
  obtain ⟨hv4, hd4, hsz4, hslv4, hM4, hF4⟩ := hle _ _ _ hS4
  obtain ⟨vs', b, n, c, hvs1, hb1⟩ := ghost_ptr (C := ⟨w, Aw.Own hv, A, []⟩) (a := a4) hM4 hgg
  obtain ⟨v4, ht4, hr4⟩ := hslv4 t _ hsl2
  simp only [RV, R] at hr4
  obtain ⟨b', n', c', hb2, hv4'⟩ := hr4
  rw [hb1] at hb2
  injection hb2 with hb2
  injection hb2 with hb2 _ _
  injection hb2 with hb2
  injection hb2 with hb2 _ _
  subst hb2
  injection hv4' with hv4' _
  subst hv4'
  have hev : a4.eval (.tmp t) = .pointer (some ⟨b, 0, none⟩) := by
    simp only [Act.eval, Array.getD_eq_getD_getElem?, ht4]
    simp
  rw [show (List.range' (0 + pre.length) [df].length) = [0 + pre.length] from rfl, wpOps_cons]
  simp only [wpOp, ho]
  have hw : Region.wanted df (yielded ops4 a4.tmps) = true := by simp [Region.wanted, hg]
  rw [if_pos hw]
  left
  unfold Oper.wp
  rw [hdf a4 w4, Oper.upon_defer, hdst, hev]
  -- behind the deferral
  obtain ⟨d, hd⟩ : ∃ d : Deferred, d = { target := .fn (.func 69) #[], args := #[.pointer (some ⟨b, 0, none⟩)] } := ⟨_, rfl⟩
  rw [← hd]
  have hS5 : StR ⟨w, Aw.Own hv, A, [d]⟩ σ2 ({ a4 with defers := d :: a4.defers }.put none undef) w4 := by
    refine ⟨hv4, by simp [Act.put, hd4], by simpa [Act.put] using hsz4, fun i x hx => by simpa [Act.put] using hslv4 i x hx, hM4, ⟨hF4.os, hF4.tape, hF4.output, hF4.drawn, hF4.size, hF4.block, hF4.own, hF4.aold, hF4.dis⟩⟩
  show rest.wp Tryz.prog _ _ w4
  refine wp_mono (hrest _ _ _ hS5) fun e a6 w6 hq => ?_
  have fin : (∃ σ, LEnd Tryz.prog fn.results.toList (.q 0 k 0 0 :: aS) vs post σ ∧ StR ⟨w, Aw.Own hv, A, [d]⟩ σ a6 w6) → Leaves Tryz.prog fn a6.tmps (fun e w' => ∃ r M' v hv', e = .returned v ∧ post r M' ∧ MemR A w' hv' M' ∧ RV w' (OwnA A hv') hv' r v ∧ RVL w' (OwnA A hv') hv' (.q 0 k 0 0 :: aS) vs ∧ Keeps w (Aw.Own hv) w' (Aw.Own hv') ∧ w'.os = w.os ∧ w'.tape = w.tape ∧ w'.output = w.output ∧ dr w ≤ dr w') a6.defers .returning w6 := by
    rintro ⟨σ, ⟨σ', ob, cs, g', hle', hob, hmp, hxs, hgg', hend⟩, hS6⟩
    obtain ⟨hv6, hd6, hsz6, hslv6, hM6, hF6⟩ := hle' _ _ _ hS6
    obtain ⟨vs2, b2, n2, c2, hvs2, hb6⟩ := ghost_ptr (C := ⟨w, Aw.Own hv, A, [d]⟩) (a := a6) hM6 hgg'
    rw [hvs1] at hvs2
    injection hvs2 with hbb _
    injection hbb with hbb
    injection hbb with hbb
    injection hbb with hbb _ _
    subst hbb
    obtain ⟨b3, n3, c3, hb3, hc3, hf3, hset⟩ := mem_cell (P := Tryz.prog) hM6 hob hmp hxs
    rw [hb6] at hb3
    injection hb3 with hb3
    injection hb3 with hb3 _ _
    injection hb3 with hb3
    injection hb3 with hb3 _ _
    subst hb3
    obtain ⟨m7, s7⟩ := hset (.int .i32 0) rfl
    rw [hd6]
    show Leaves Tryz.prog fn a6.tmps _ [d] .returning w6
    rw [hd]
    refine Go.leaves_cons (f := 69) (args := #[.pointer (some ⟨b, 0, none⟩)]) (by simp) (by simp [go_sem]) ?_
    refine (unlockZ ⟨b, 0, none⟩ .returning w6 hc3 hf3).mono ?_
    rintro e u' w7 ⟨rfl, rfl, rfl⟩
    have hS7 : StR ⟨w, Aw.Own hv, A, [d]⟩ ⟨σ'.sl, σ'.M.set 0 (some { ob with xs := [.g (.v (.int .i32 0) :: cs)] })⟩ a6 (w6.setCell ⟨b, 0, none⟩ (.int .i32 0)) := by
      refine ⟨hv6, hd6, hsz6, fun i x hx => ?_, m7, ⟨s7.os.trans hF6.os, s7.tape.trans hF6.tape, s7.output.trans hF6.output, Nat.le_trans hF6.drawn s7.drawn, Nat.le_trans hF6.size s7.kp.size, fun b hb hn => ?_, hF6.own, hF6.aold, hF6.dis⟩⟩
      · obtain ⟨v, e1, e2⟩ := hslv6 i x hx
        have := s7.rv e2
        rw [AV.kill_nil] at this
        exact ⟨v, e1, this⟩
      · rw [s7.kp.block b (Nat.lt_of_lt_of_le hb hF6.size) (fun ho => (hF6.own b ho).elim hn (fun h => Nat.lt_irrefl _ (Nat.lt_of_lt_of_le hb h)))]
        exact hF6.block b hb hn
    obtain ⟨v, r, M', hv', q1, q2, q3, q4, q5, q6, q7, q8, q9, q10⟩ := mend_fin hend hS7
    exact ⟨v, q1, r, M', v, hv', rfl, q2, q3, q4, q5, q6, q7, q8, q9, q10⟩
  cases e with
  | exit id => exact hq.elim fun _ h => h.1.elim
  | goto l => exact hq.elim
  | panic ch => exact hq.elim
  | outgrown => exact hq.elim
  | ret => exact fin hq
  | normal => exact fin hq
end Go.Proofs.YtndniceeibflcaaGreatDoor

namespace Go.Proofs.YtndniceeibflcaaGreatDoor
open Aw Mp Go.RowKit
set_option linter.unusedSimpArgs false
set_option maxRecDepth 8000

theorem ok24 : okFn Tryz.prog 24 = true := by kernel_rfl
/-- a machine that has done orders. -/
def mkM (n lim : Int) (ls : List (Int × Int)) (l : List By) : Mch := ⟨0, n, lim, ls, stO l, lg 0 l, l⟩
def memD (m : Mch) : Mem := [some m.ob, none, some m.od]
theorem m24 (n lim : Int) (ls : List (Int × Int)) (l : List By) (hA : Acc n lim ls l) (hT : vT n ls = 0) (hls : ls.length ≤ 1000000) (o : By) (ho : o.length ≤ 9223372036854775807) :
    MSpec Tryz.prog 24 [.q 0 13 0 0, S o] (memD (mkM n lim ls l)) (fun r N => r = I (erO n lim ls l o) ∧ N = memD (mkM n lim ls (doO n lim ls l o))) := by
  refine mspec_locked (k := 13) (aS := [S o]) (t := 18) (own := []) (pre := [_, _, _]) (df := _) Tryz.func24 rfl ok24 rfl rfl rfl (fun a w => by simp [execOp, go_sem]) ?_
  intro vs
  obtain ⟨m, hm⟩ : ∃ m, m = mkM n lim ls l := ⟨_, rfl⟩
  have hmu : m.mu = 0 := by rw [hm]; rfl
  rw [← hm]
  obtain ⟨gh, hgh⟩ : ∃ gh, gh = some (ghost vs [AV.q 0 13 0 0, S o]) := ⟨_, rfl⟩
  refine awp_sound (own := []) _ _ _ _ _ ?_
  simp only [wB, awp, asN, St.ev, St.step, setS, killS, AV.kill, AV.killL, Mem.kill, Nat.reduceAdd, Nat.reduceSub, Int.reduceAdd, Int.reduceSub, Tryz.ntmps24, ← hgh, memD]
  refine awp_sound (own := []) _ _ _ _ _ ?_
  simp only [wB, awp, binC, eqC, asG, asB, asI, St.ev, St.step, setS, killS, AV.kill, AV.killL, Mem.kill, Nat.reduceAdd, Int.reduceAdd, isNP, ptrN, asStr, nt32]
  refine swp_fm (own := []) 3 rfl rfl rfl ?_
  simp only [wB, asP, asQ, St.ev, St.step, setS, killS, AV.kill, AV.killL, Mem.kill, AV.cells, Nat.reduceEqDiff, Mch.ob, Mch.od, Mch.cells, List.take_succ_cons, List.take_zero, hmu]
  have hfree : ∀ Z : List Nat, Z = [1] → AV.freeL Z (ghost vs [AV.q 0 13 0 0, S o]).xs = true := fun Z hZ => by subst hZ; rfl
  refine acall_f (fspec_of (m68 (M := [some ⟨none, 107, 13, [.g (.v (.int .i32 0) :: [.v (.int .u32 0), I m.n, .s 2 (prsA m.ls), I m.lim, .s 1 (intsA m.st.place), .s 1 (intsA m.st.heats), .s 4 (gtsA m.st.circ), I m.st.moves, I m.st.cools, I m.st.done, .o 2, S m.log])]⟩, none, some ⟨none, 9, 1, strsA m.ords⟩, gh]) (cs := [.v (.int .u32 0), I m.n, .s 2 (prsA m.ls), I m.lim, .s 1 (intsA m.st.place), .s 1 (intsA m.st.heats), .s 4 (gtsA m.st.circ), I m.st.moves, I m.st.cools, I m.st.done, .o 2, S m.log]) rfl rfl rfl) (M' := [some ⟨none, 107, 13, [.g (.v (.int .i32 1) :: [.v (.int .u32 0), I m.n, .s 2 (prsA m.ls), I m.lim, .s 1 (intsA m.st.place), .s 1 (intsA m.st.heats), .s 4 (gtsA m.st.circ), I m.st.moves, I m.st.cools, I m.st.done, .o 2, S m.log])]⟩, none, some ⟨none, 9, 1, strsA m.ords⟩, gh]) [1] (by rw [hgh]; rfl) (by rw [hgh]; exact ⟨rfl, rfl, rfl, trivial⟩) (by rw [hgh]; rfl) rfl (by rw [hgh]; simp [freeM, AV.freeL, AV.free, strsA_free, ghost]) (N := [some ⟨none, 107, 13, [.g (.v (.int .i32 1) :: [.v (.int .u32 0), I m.n, .s 2 (prsA m.ls), I m.lim, .s 1 (intsA m.st.place), .s 1 (intsA m.st.heats), .s 4 (gtsA m.st.circ), I m.st.moves, I m.st.cools, I m.st.done, .o 2, S m.log])]⟩, none, some ⟨none, 9, 1, strsA m.ords⟩, gh]) (by rw [hgh]; rfl)) ?_
  simp only [wB, asP, asQ, St.ev, St.step, setS, killS, AV.kill, AV.killL, Mem.kill, Nat.reduceAdd, Nat.reduceEqDiff, Int.reduceAdd, List.drop_succ_cons, AV.sub, keepG, liveI, AV.isQ, List.any_cons, List.any_nil, ghost, List.drop_nil]
  refine ⟨⟨[.q 0 13 0 0, S o, .bot, .bot, I 0, .bot, .bot, .bot, .bot, .bot, .bot, .bot, .bot, .bot, .bot, .bot, .bot, .bot, .q 0 13 0 0, .bot, .bot, .bot, .bot, .bot, .bot, .bot, .bot, .bot, .bot, .bot, .bot, .bot, .bot, .bot, .bot, .bot, .bot, .bot, .bot, .bot, .bot, .bot, .bot, .bot, .bot, .bot, .bot, .bot, .bot, .bot, .bot, .bot, .bot, .bot, .bot, .bot, .bot, .bot, .bot, .bot, .bot, .bot, .bot, .bot, .bot, .bot, .bot, .bot, .bot, .bot, .bot], [some { m with mu := 1 }.ob, none, some m.od, gh]⟩, 3, le_sl' ?_ (by simp [leSl]), rfl, by rw [hgh]; rfl, ?_⟩
  · simp only [memG, memS, Mch.ob, Mch.od, Mch.cells, rowP, rowC, rowS, stO', combR, List.cons_append, List.nil_append, Option.map_some, Option.map_none, List.drop_succ_cons, List.drop_zero, prsA_sub, strsA_sub, intsA_sub, gtsA_sub, AV.sub, AV.subL, keepF, keepG, liveI, List.getElem?_cons_succ, List.getElem?_cons_zero, List.getElem?_nil, AV.isO, AV.isQ, List.any_cons, List.any_nil, ghost, gA, List.take_succ_cons, List.take_zero, List.drop_nil]
  have hlim := hA.inv
  have hst : m.st = stO l := by rw [hm]; rfl
  have hord : m.ords = l := by rw [hm]; rfl
  have hI := hlim.2
  rw [← hst] at hI
  have hend : ∀ {σ : St} {e : Int}, e = erO n lim ls l o → e ≠ 0 → Le σ ⟨[.q 0 13 0 0, S o, .bot, .bot, I e, .bot, .bot, .bot, .bot, .bot, .bot, .bot, .bot, .bot, .bot, .bot, .bot, .bot, .q 0 13 0 0, .bot, .bot, .bot, .bot, .bot, .bot, .bot, .bot, .bot, .bot, .bot, .bot, .bot, .bot, .bot, .bot, .bot, .bot, .bot, .bot, .bot, .bot, .bot, .bot, .bot, .bot, .bot, .bot, .bot, .bot, .bot, .bot, .bot, .bot, .bot, .bot, .bot, .bot, .bot, .bot, .bot, .bot, .bot, .bot, .bot, .bot, .bot, .bot, .bot, .bot, .bot, .bot], [some { m with mu := 1 }.ob, none, some m.od, gh]⟩ → LEnd Tryz.prog Tryz.f24.results.toList [AV.q 0 13 0 0, S o] vs (fun r N => r = I (erO n lim ls l o) ∧ N = memD (mkM n lim ls (doO n lim ls l o))) σ := fun {σ e} he hne hle => by
    refine ⟨_, { m with mu := 1 }.ob, _, 3, hle, rfl, rfl, rfl, by rw [hgh]; rfl, ?_⟩
    refine ⟨_, I e, memD m, [], Le.refl _, rfl, ?_, rfl, rfl, ?_, he ▸ rfl, ?_⟩
    · rw [hgh]
      simp only [memD, Mch.ob, Mch.od, Mch.cells, hmu, List.set_cons_zero, List.cons_append, List.nil_append]
    · simp [freeM, memD, Mch.ob, Mch.od, Mch.cells, AV.freeL, AV.free, strsA_free, Zr]
    · have : doO n lim ls l o = l := by unfold doO; rw [if_neg (by omega)]
      rw [this, hm]
  refine awp_sound (own := [5, 8, 1011]) _ _ _ _ _ ?_
  simp only [wB, awp, St.ev, St.step, setS, killS, AV.kill, AV.killL, Mem.kill, Nat.reduceAdd, Nat.reduceEqDiff, Int.reduceAdd]
  have s70o := s70 o ho
  cases hp : prs o with
  | none =>
    have e : psA o = .t [frmA (0, 0, 0, 0), .s 1 [], errV 2] := by unfold psA; rw [hp]
    rw [e] at s70o
    refine acall_v s70o rfl rfl ?_
    simp only [wB, awp, binC, eqC, asQ, asT, asG, asB, asI, asN, obA, storeA, putsA, mkA, Aw.newRow, St.ev, St.step, setS, killS, AV.kill, AV.killL, Mem.kill, AV.cells, AV.flat, AV.single, AV.cellular, Nat.reduceAdd, Nat.reduceEqDiff, Nat.reduceLeDiff, Int.reduceAdd, isNI, ptrN, ifcN, asStr, nt114, Mch.ob, Mch.od, Mch.cells, frmA, errV]
    refine acall_v (s71 2) rfl rfl ?_
    simp only [wB, awp, asN, St.ev, St.step, setS, killS, AV.kill, AV.killL, Mem.kill, Nat.reduceEqDiff]
    refine hend (e := 2) (by unfold erO; rw [hp]) (by decide) (le_cut (Mx := [some ⟨none, 112, 4, [.g [I 0, I 0, I 0, I 0]]⟩]) (by simp [leSl]) ?_ rfl ?_)
    · simp only [memG, memS, Mch.ob, Mch.od, Mch.cells, rowP, rowC, rowS, stO', combR, List.cons_append, List.nil_append, Option.map_some, Option.map_none, List.drop_succ_cons, List.drop_zero, prsA_sub, strsA_sub, intsA_sub, gtsA_sub, AV.sub, AV.subL, keepF, keepG, liveI, List.getElem?_cons_succ, List.getElem?_cons_zero, List.getElem?_nil, AV.isO, AV.isQ, List.any_cons, List.any_nil, ghost, gA, List.take_succ_cons, List.take_zero, List.drop_nil]
    · rw [hgh]; simp [freeM, Mch.ob, Mch.od, Mch.cells, AV.freeL, AV.free, strsA_free, ghost]
  | some ka =>
  obtain ⟨k, a⟩ := ka
  have e : psA o = .t [frmA (frmL.getD k (0, 0, 0, 0)), .s 1 (intsA a), .v .nilIface] := by unfold psA; rw [hp]
  rw [e] at s70o
  refine acall_v s70o rfl (by simp [AV.pure, AV.pureL, intsA_pure, frmA]) ?_
  generalize hF : frmL.getD k (0, 0, 0, 0) = F
  obtain ⟨f0, f1, f2, f3⟩ := F
  simp only [wB, awp, binC, cmpC, eqC, asP, asQ, asT, asG, asB, asI, asN, obA, lenA, loadA, storeA, putsA, mkA, Aw.newRow, St.ev, St.step, setS, killS, AV.kill, AV.killL, Mem.kill, AV.cells, AV.flat, AV.single, AV.cellular, Nat.reduceAdd, Nat.reduceEqDiff, Nat.reduceLeDiff, Int.reduceAdd, isNI, ptrN, ifcN, asStr, lenK, nt114, strsA_len, Mch.ob, Mch.od, Mch.cells, List.drop_succ_cons, List.drop_zero, List.take_succ_cons, List.take_zero, frmA, strsA_len, hord]
  by_cases h100 : (l.length : Int) = 100
  · simp only [wB, awp, asN, St.ev, St.step, setS, killS, AV.kill, AV.killL, Mem.kill, Nat.reduceAdd, Nat.reduceEqDiff, Int.reduceAdd, decide_eq_true h100]
    have he : erO n lim ls l o = 3 := by unfold erO; rw [hp]; simp only; rw [if_pos (by omega)]
    refine hend (e := 3) he.symm (by decide) (le_cut (Mx := [some ⟨none, 112, 4, [.g [I f0, I f1, I f2, I f3]]⟩]) (by simp [leSl]) ?_ rfl ?_)
    · simp only [memG, memS, Mch.ob, Mch.od, Mch.cells, rowP, rowC, rowS, stO', combR, List.cons_append, List.nil_append, Option.map_some, Option.map_none, List.drop_succ_cons, List.drop_zero, prsA_sub, strsA_sub, intsA_sub, gtsA_sub, AV.sub, AV.subL, keepF, keepG, liveI, List.getElem?_cons_succ, List.getElem?_cons_zero, List.getElem?_nil, AV.isO, AV.isQ, List.any_cons, List.any_nil, ghost, gA, List.take_succ_cons, List.take_zero, List.drop_nil, hord]
    · rw [hgh]; simp [freeM, Mch.ob, Mch.od, Mch.cells, AV.freeL, AV.free, strsA_free, ghost]
  simp only [wB, awp, asP, asQ, obA, loadA, St.ev, St.step, setS, killS, AV.kill, AV.killL, Mem.kill, AV.cells, AV.flat, AV.single, Nat.reduceAdd, Nat.reduceEqDiff, Nat.reduceLeDiff, Int.reduceAdd, Mch.cells, List.drop_succ_cons, List.drop_zero, List.take_succ_cons, List.take_zero, decide_eq_false h100]
  have hp4 := hI.p4
  have hhl := hI.hl
  have hc10 := hI.c10
  refine acall_os (s72 m.st (by omega) (by omega) (by omega)) (by simp [AV.pureL, AV.pure, intsA_pure, gtsA_pure]) ?_
  simp only [wB, awp, asQ, obA, storeA, putsA, mkA, Aw.newRow, St.ev, St.step, setS, killS, AV.kill, AV.killL, Mem.kill, AV.cells, AV.flat, AV.single, AV.cellular, Nat.reduceAdd, Nat.reduceEqDiff, Nat.reduceLeDiff, Int.reduceAdd, Mch.cells, rowP, rowC, stO', AV.sub, AV.subL, AV.up, Ob.up, intsA_smap, gtsA_smap]
  have hm1n : ({ m with mu := 1 } : Mch).n = n := by rw [hm]; rfl
  have hm1l : ({ m with mu := 1 } : Mch).ls = ls := by rw [hm]; rfl
  have hm1m : ({ m with mu := 1 } : Mch).lim = lim := by rw [hm]; rfl
  have hI1 : InvS ({ m with mu := 1 } : Mch).n l.length m.st := by rw [hm1n]; exact hI
  refine swp_le (σ' := ⟨[.q 0 13 0 0, S o, .bot, .bot, I 0, .q 8 4 0 0, .s 1 (intsA a), .bot, .q 7 6 0 0, .bot, .bot, .bot, .bot, .bot, .bot, .bot, .bot, .bot, .q 0 13 0 0, .bot, .bot, .bot, .bot, .bot, .bot, .bot, .bot, .bot, .bot, .bot, .bot, .bot, .bot, .bot, .bot, .bot, .bot, .bot, .bot, .bot, .bot, .bot, .bot, .bot, .bot, .bot, .bot, .bot, .bot, .bot, .bot, .bot, .bot, .bot, .bot, .bot, .bot, .bot, .bot, .bot, .bot, .bot, .bot, .bot, .bot, .bot, .bot, .bot, .bot, .bot, .bot], [some { m with mu := 1 }.ob, none, some m.od, gh, some (rowP m.st.place), some (rowP m.st.heats), some (rowC m.st.circ), some (rowS 4 5 6 m.st), some ⟨none, 112, 4, [frmA (f0, f1, f2, f3)]⟩]⟩) (le_rn [0, 1, 2, 3, 5, 6, 7, 8, 4] (by decide) ?_ (by simp [leSl, AV.sub, reF, reG, List.idxOf?, List.findIdx?, List.findIdx?.go])) ?_
  · rw [hgh]
    simp [reM, reF, reG, Mch.ob, Mch.od, Mch.cells, rowP, rowC, rowS, stO', AV.sub, AV.subL, intsA_sub, gtsA_sub, prsA_sub, strsA_sub, frmA, List.idxOf?, List.findIdx?, List.findIdx?.go, ghost, hord]
  refine swp_fm (own := []) 3 rfl rfl rfl ?_
  simp only [wB, asP, asQ, obA, loadA, St.ev, St.step, setS, killS, AV.kill, AV.killL, Mem.kill, AV.cells, AV.flat, AV.single, Nat.reduceAdd, Nat.reduceLeDiff, Int.reduceAdd, Mch.ob, Mch.od, Mch.cells, rowP, rowC, rowS, stO', List.drop_zero, List.take_succ_cons, List.take_zero, frmA]
  have hmn : m.n = n := hm1n
  have hml : m.ls = ls := hm1l
  have hmm : m.lim = lim := hm1m
  have hm73 := m73 { m with mu := 1 } m.st hI1 (by omega) (by rw [hm1n, hm1l]; exact hT) (by rw [hm1l]; exact hls) hp
  rw [hF] at hm73
  dsimp only at hm73
  obtain ⟨e, he⟩ : ∃ e, e = erS m.n m.lim m.ls m.st k (nth a 0) (nth a 1) (nth a 2) := ⟨_, rfl⟩
  have heo : e = erO n lim ls l o := by
    unfold erO
    rw [hp, he, hmn, hmm, hml, hst]
    simp only
    rw [if_neg (by omega)]
  rw [← he] at hm73
  obtain ⟨t, ht⟩ : ∃ t, t = (if e = 0 then nxS m.st k (nth a 0) (nth a 1) (nth a 2) else m.st) := ⟨_, rfl⟩
  rw [← ht] at hm73
  refine acall_f (fspec_of hm73 [1, 3, 8] rfl (by exact ⟨rfl, rfl, rfl, rfl, rfl, rfl, trivial⟩) rfl rfl (free_GZ _ _ _ (by decide)) (N := [some { m with mu := 1 }.ob, none, some m.od, gh, some (rowP t.place), some (rowP t.heats), some (rowC t.circ), some (rowS 4 5 6 t), some ⟨none, 112, 4, [frmA (f0, f1, f2, f3)]⟩]) ?_) ?_
  · rw [hgh]
    simp only [memG, memS, Mch.ob, Mch.od, Mch.cells, rowP, rowC, rowS, stO', combR, List.cons_append, List.nil_append, Option.map_some, Option.map_none, List.drop_succ_cons, List.drop_zero, prsA_sub, strsA_sub, intsA_sub, gtsA_sub, AV.sub, AV.subL, keepF, keepG, liveI, List.getElem?_cons_succ, List.getElem?_cons_zero, List.getElem?_nil, AV.isO, AV.isQ, List.any_cons, List.any_nil, ghost, gA, List.take_succ_cons, List.take_zero, List.drop_nil, frmA]
    rfl
  by_cases h0 : e = 0
  case neg =>
    simp only [wB, awp, binC, eqC, asG, asB, asI, asN, St.ev, St.step, setS, killS, AV.kill, AV.killL, Mem.kill, AV.cells, Nat.reduceAdd, Nat.reduceEqDiff, Int.reduceAdd, isNI, ptrN, ifcN, asStr, nt114, memG, Mch.ob, Mch.od, Mch.cells, rowP, rowC, rowS, stO', List.drop_succ_cons, List.drop_zero, AV.sub, AV.subL, keepG, liveI, AV.isQ, List.any_cons, List.any_nil, frmA, erV, if_neg h0, errV]
    refine acall_v (s71 e) rfl rfl ?_
    simp only [wB, awp, asN, St.ev, St.step, setS, killS, AV.kill, AV.killL, Mem.kill, Nat.reduceEqDiff]
    refine hend (e := e) heo h0 (le_cut (Mx := [some (rowP t.place), some (rowP t.heats), some (rowC t.circ), some (rowS 4 5 6 t), some ⟨none, 112, 4, [frmA (f0, f1, f2, f3)]⟩]) (by simp [leSl]) ?_ rfl ?_)
    · simp only [memG, memS, Mch.ob, Mch.od, Mch.cells, rowP, rowC, rowS, stO', combR, List.cons_append, List.nil_append, Option.map_some, Option.map_none, List.drop_succ_cons, List.drop_zero, prsA_sub, strsA_sub, intsA_sub, gtsA_sub, AV.sub, AV.subL, keepF, keepG, liveI, List.getElem?_cons_succ, List.getElem?_cons_zero, List.getElem?_nil, AV.isO, AV.isQ, List.any_cons, List.any_nil, ghost, gA, List.take_succ_cons, List.take_zero, List.drop_nil, hord, frmA]
    · rw [hgh]; simp [freeM, Mch.ob, Mch.od, Mch.cells, AV.freeL, AV.free, strsA_free, ghost]
  simp only [wB, awp, binC, eqC, asP, asQ, asO, asS, asG, asB, asI, asN, obA, loadA, storeA, putsA, St.ev, St.step, setS, killS, AV.kill, AV.killL, Mem.kill, AV.cells, AV.flat, AV.single, AV.cellular, AV.size, AV.pure, AV.pureL, Value.oneCell', Nat.reduceAdd, Nat.reduceEqDiff, Nat.reduceMul, Nat.reduceLeDiff, Int.reduceAdd, Int.reduceMul, isNI, ptrN, ifcN, asStr, nt114, strsA_len, memG, Mch.ob, Mch.od, Mch.cells, rowP, rowC, rowS, stO', List.drop_succ_cons, List.drop_zero, AV.sub, AV.subL, keepG, liveI, AV.isQ, List.any_cons, List.any_nil, List.take_succ_cons, List.take_zero, frmA, erV, if_pos h0, strsA_len]
  have hords := hA.ords
  have hord' : ordB o = true := prs_ord hp
  have ho30 := ((ordB_iff o).1 hord').2.1
  have hlog : m.log = lg 0 l := by rw [hm]; rfl
  rw [hlog]
  refine ⟨⟨by decide, rfl⟩, ⟨by decide, by rw [hord]; omega⟩, acall_v (s74 l o (by omega) hords ho30) rfl rfl ?_⟩
  simp only [wB, awp, asP, asQ, asN, obA, storeA, putsA, St.ev, St.step, setS, killS, AV.kill, AV.killL, Mem.kill, AV.cells, AV.flat, AV.single, AV.cellular, Value.oneCell', Nat.reduceAdd, Nat.reduceEqDiff, Nat.reduceLeDiff, Int.reduceAdd, Mch.cells, strsA_kill, strsA_app, intsA_kill, gtsA_kill, hord]
  obtain ⟨m2, hm2⟩ : ∃ m2 : Mch, m2 = ⟨1, n, lim, ls, t, lg 0 (l ++ [o]), l ++ [o]⟩ := ⟨_, rfl⟩
  have hdo : doO n lim ls l o = l ++ [o] := by unfold doO; rw [← heo, if_pos h0]
  have hnew : mkM n lim ls (doO n lim ls l o) = { m2 with mu := 0 } := by
    have : stO (l ++ [o]) = t := by
      rw [stO_snoc]
      unfold exO
      rw [hp, ht, if_pos h0, hst]
    rw [hdo, hm2]
    simp only [mkM, this]
  refine ⟨⟨[.q 0 13 0 0, S o, .bot, .bot, I 0, .bot, .bot, .bot, .bot, .bot, .bot, .bot, .bot, .bot, .bot, .bot, .bot, .bot, .q 0 13 0 0, .bot, .bot, .bot, .bot, .bot, .bot, .bot, .bot, .bot, .bot, .bot, .bot, .bot, .bot, .bot, .bot, .bot, .bot, .bot, .bot, .bot, .bot, .bot, .bot, .bot, .bot, .bot, .bot, .bot, .bot, .bot, .bot, .bot, .bot, .bot, .bot, .bot, .bot, .bot, .bot, .bot, .bot, .bot, .bot, .bot, .bot, .bot, .bot, .bot, .bot, .bot, .bot], [some m2.ob, none, some m2.od, gh]⟩, m2.ob, _, 3, Le.trans (le_frz 4 rfl (intsA_pure _)) (Le.trans (le_frz 5 rfl (by simp only [intsA_sub]; exact intsA_pure _)) (Le.trans (le_frz 6 rfl (by simp only [gtsA_sub]; exact gtsA_pure _)) (le_cut (Mx := [none, none, none, some ⟨none, 105, 6, [stA t]⟩, some ⟨none, 112, 4, [.g [I f0, I f1, I f2, I f3]]⟩]) ?_ ?_ rfl ?_))), rfl, rfl, by rw [hm2]; rfl, by rw [hgh]; rfl, ?_⟩
  · simp [leSl, frz1, AV.sub, AV.subL]
  · rw [hgh, hm2]
    simp [frzM, Mch.ob, Mch.od, Mch.cells, AV.sub, AV.subL, intsA_sub, gtsA_sub, prsA_sub, strsA_sub, stA, ghost, hmn, hml, hmm, AV.killL, AV.kill]
  · rw [hgh]; simp [freeM, Mch.ob, Mch.od, Mch.cells, AV.freeL, AV.free, strsA_free, ghost]
  refine ⟨_, I 0, memD { m2 with mu := 0 }, [], Le.refl _, rfl, ?_, rfl, rfl, ?_, by rw [← heo, h0], by rw [hnew]⟩
  · rw [hgh]
    simp only [memD, Mch.ob, Mch.od, Mch.cells, List.set_cons_zero, List.cons_append, List.nil_append, hm2]
  · simp [freeM, memD, Mch.ob, Mch.od, Mch.cells, AV.freeL, AV.free, strsA_free, Zr]
end Go.Proofs.YtndniceeibflcaaGreatDoor

namespace Go.Proofs.YtndniceeibflcaaGreatDoor
open Aw Mp Go.RowKit
set_option linter.unusedSimpArgs false
set_option maxRecDepth 8000

theorem ok67 : okFn Tryz.prog 67 = true := by kernel_rfl
/-- a machine, and copies of its state's rows. -/
def memL' (m : Mch) : Mem := [some m.ob, none, some m.od, some (rowP m.st.place), some (rowP m.st.heats), some (rowC m.st.circ)]
theorem m67 (m : Mch) (hmu : m.mu = 0) (h1 : m.st.place.length ≤ 1000) (h2 : m.st.heats.length ≤ 1000) (h3 : m.st.circ.length ≤ 1000) :
    MSpec Tryz.prog 67 [.q 0 13 0 0] (memD m) (fun r N => r = .t [stO' 3 4 5 m.st, S m.log] ∧ N = memL' m) := by
  refine mspec_locked (k := 13) (aS := []) (t := 13) (own := []) (pre := [_, _, _]) (df := _) Tryz.func67 rfl ok67 rfl rfl rfl (fun a w => by simp [execOp, go_sem]) ?_
  intro vs
  obtain ⟨gh, hgh⟩ : ∃ gh, gh = some (ghost vs [AV.q 0 13 0 0]) := ⟨_, rfl⟩
  refine awp_sound (own := [2]) _ _ _ _ _ ?_
  simp only [wB, awp, asN, mkA, Aw.newRow, St.ev, St.step, setS, killS, AV.kill, AV.killL, Mem.kill, Nat.reduceAdd, Nat.reduceEqDiff, Nat.reduceSub, Int.reduceAdd, Int.reduceSub, Tryz.ntmps67, ← hgh, memD]
  refine awp_sound (own := []) _ _ _ _ _ ?_
  simp only [wB, awp, binC, eqC, asG, asB, asI, St.ev, St.step, setS, killS, AV.kill, AV.killL, Mem.kill, Nat.reduceAdd, Int.reduceAdd, isNP, ptrN, asStr, nt32]
  refine swp_fm (own := []) 3 rfl rfl rfl ?_
  simp only [wB, asP, asQ, St.ev, St.step, setS, killS, AV.kill, AV.killL, Mem.kill, AV.cells, Nat.reduceEqDiff, Mch.ob, Mch.od, Mch.cells, List.take_succ_cons, List.take_zero, hmu]
  refine acall_f (fspec_of (m68 (M := [some ⟨none, 107, 13, [.g (.v (.int .i32 0) :: [.v (.int .u32 0), I m.n, .s 2 (prsA m.ls), I m.lim, .s 1 (intsA m.st.place), .s 1 (intsA m.st.heats), .s 4 (gtsA m.st.circ), I m.st.moves, I m.st.cools, I m.st.done, .o 2, S m.log])]⟩, none, some ⟨none, 9, 1, strsA m.ords⟩, gh]) (cs := [.v (.int .u32 0), I m.n, .s 2 (prsA m.ls), I m.lim, .s 1 (intsA m.st.place), .s 1 (intsA m.st.heats), .s 4 (gtsA m.st.circ), I m.st.moves, I m.st.cools, I m.st.done, .o 2, S m.log]) rfl rfl rfl) (M' := [some ⟨none, 107, 13, [.g (.v (.int .i32 1) :: [.v (.int .u32 0), I m.n, .s 2 (prsA m.ls), I m.lim, .s 1 (intsA m.st.place), .s 1 (intsA m.st.heats), .s 4 (gtsA m.st.circ), I m.st.moves, I m.st.cools, I m.st.done, .o 2, S m.log])]⟩, none, some ⟨none, 9, 1, strsA m.ords⟩, gh]) [1, 4] (by rw [hgh]; rfl) (by rw [hgh]; exact ⟨rfl, rfl, rfl, trivial⟩) (by rw [hgh]; rfl) rfl (by rw [hgh]; simp [freeM, AV.freeL, AV.free, strsA_free, ghost]) (N := [some ⟨none, 107, 13, [.g (.v (.int .i32 1) :: [.v (.int .u32 0), I m.n, .s 2 (prsA m.ls), I m.lim, .s 1 (intsA m.st.place), .s 1 (intsA m.st.heats), .s 4 (gtsA m.st.circ), I m.st.moves, I m.st.cools, I m.st.done, .o 2, S m.log])]⟩, none, some ⟨none, 9, 1, strsA m.ords⟩, gh, some ⟨none, 105, 6, [.g [.v (.slice none 0 0), .v (.slice none 0 0), .v (.slice none 0 0), I 0, I 0, I 0]]⟩]) (by rw [hgh]; rfl)) ?_
  simp only [wB, asP, asQ, St.ev, St.step, setS, killS, AV.kill, AV.killL, Mem.kill, Nat.reduceAdd, Nat.reduceEqDiff, Int.reduceAdd, List.drop_succ_cons, AV.sub, keepG, liveI, AV.isQ, List.any_cons, List.any_nil, ghost, List.drop_nil]
  refine ⟨⟨[.q 0 13 0 0, .bot, .q 4 6 0 0, .bot, .bot, .bot, .bot, .bot, .bot, .bot, .bot, .bot, .bot, .q 0 13 0 0, .bot, .bot, .bot, .bot, .bot, .bot, .bot, .bot, .bot], [some { m with mu := 1 }.ob, none, some m.od, gh, some ⟨none, 105, 6, [.g [.v (.slice none 0 0), .v (.slice none 0 0), .v (.slice none 0 0), I 0, I 0, I 0]]⟩]⟩, 3, le_sl' ?_ (by simp [leSl]), rfl, by rw [hgh]; rfl, ?_⟩
  · simp only [memG, memS, Mch.ob, Mch.od, Mch.cells, rowP, rowC, rowS, stO', combR, List.cons_append, List.nil_append, Option.map_some, Option.map_none, List.drop_succ_cons, List.drop_zero, prsA_sub, strsA_sub, intsA_sub, gtsA_sub, AV.sub, AV.subL, keepF, keepG, liveI, List.getElem?_cons_succ, List.getElem?_cons_zero, List.getElem?_nil, AV.isO, AV.isQ, List.any_cons, List.any_nil, ghost, gA, List.take_succ_cons, List.take_zero, List.drop_nil]
  refine awp_sound (own := [2]) _ _ _ _ _ ?_
  simp only [awp, AV.cells, Mch.ob, Mch.od, Mch.cells]
  have hlook : LEnd Tryz.prog Tryz.f67.results.toList [AV.q 0 13 0 0] vs (fun r N => r = .t [stO' 3 4 5 m.st, S m.log] ∧ N = memL' m) ⟨[.q 0 13 0 0, .bot, .q 4 6 0 0, S m.log, .bot, .bot, .bot, .bot, .bot, .bot, .bot, .bot, .bot, .bot, .bot, .bot, .bot, .bot, .bot, .bot, .bot, .bot, .bot], [some { m with mu := 1 }.ob, none, some m.od, gh, some (rowS 5 6 7 m.st), some (rowP m.st.place), some (rowP m.st.heats), some (rowC m.st.circ)]⟩ := by
    refine ⟨⟨[.q 0 13 0 0, .bot, .q 7 6 0 0, S m.log, .bot, .bot, .bot, .bot, .bot, .bot, .bot, .bot, .bot, .bot, .bot, .bot, .bot, .bot, .bot, .bot, .bot, .bot, .bot], [some { m with mu := 1 }.ob, none, some m.od, some (rowP m.st.place), some (rowP m.st.heats), some (rowC m.st.circ), gh, some (rowS 3 4 5 m.st)]⟩, { m with mu := 1 }.ob, _, 6, le_rn [0, 1, 2, 5, 6, 7, 3, 4] (by decide) ?_ (by simp [leSl, AV.sub, reF, reG, List.idxOf?, List.findIdx?, List.findIdx?.go]), rfl, rfl, rfl, by rw [hgh]; rfl, ?_⟩
    · rw [hgh]
      simp [reM, reF, reG, Mch.ob, Mch.od, Mch.cells, rowP, rowC, rowS, stO', AV.sub, AV.subL, intsA_sub, gtsA_sub, prsA_sub, strsA_sub, List.idxOf?, List.findIdx?, List.findIdx?.go, ghost]
    refine ⟨_, .t [stO' 3 4 5 m.st, S m.log], memL' m, [some (rowS 3 4 5 m.st)], Le.refl _, rfl, ?_, ?_, rfl, ?_, rfl, rfl⟩
    · rw [hgh]
      simp only [memL', Mch.ob, Mch.od, Mch.cells, hmu, List.set_cons_zero, List.cons_append, List.nil_append]
    · rfl
    · simp [freeM, memL', Mch.ob, Mch.od, Mch.cells, rowP, rowC, AV.freeL, AV.free, strsA_free, intsA_free, gtsA_free, Zr, List.range_succ]
  refine swp_to ⟨[.q 0 13 0 0, .bot, .q 4 6 0 0, S m.log, .bot, .bot, .bot, .bot, .bot, .bot, .bot, .bot, .bot, .bot, .bot, .bot, .bot, .bot, .bot, .bot, .bot, .bot, .bot], [some { m with mu := 1 }.ob, none, some m.od, gh, some (rowS 5 6 7 m.st), some (rowP m.st.place), some (rowP m.st.heats), some (rowC m.st.circ)]⟩ (swp_draw (own := [2]) (.take 0 .plain [] (.take 1 .plain [] (.take 2 .plain [] (.take 3 .reads [] (.take 5 .plain [] (.take 6 .plain [] (.take 7 .plain [] (.alt 4 (.alt 8 (.alt 9 (.take 10 .plain [] (.done)) (.nil)) (.alt 9 (.take 8 .reads [] (.take 10 .plain [] (.done))) (.nil))) (.alt 8 (.alt 4 (.alt 9 (.take 10 .plain [] (.done)) (.nil)) (.nil)) (.nil)))))))))) [⟨15, 1, 0, 0, true⟩, ⟨16, 16384, 1, 0, true⟩, ⟨17, 32768, 2, 0, true⟩, ⟨18, 65536, 4, 0, true⟩, ⟨19, 131072, 8, 0, false⟩, ⟨20, 1, 0, 0, true⟩, ⟨21, 524288, 32, 0, true⟩, ⟨22, 1048576, 64, 0, true⟩, ⟨23, 2097152, 128, 0, true⟩, ⟨0, 262148, 31, 1, false⟩, ⟨4, 4194304, 1023, 0, true⟩] mo (by kernel_rfl) ?_) ?_
  · simp only [wB, asP, asQ, obA, loadA, St.ev, St.step, setS, killS, AV.kill, AV.killL, Mem.kill, AV.cells, AV.flat, AV.single, Nat.reduceAdd, Nat.reduceEqDiff, Nat.reduceLeDiff, Int.reduceAdd, ASch, St.put, Md.mem, Md.need, Mch.cells, List.drop_succ_cons, List.drop_zero, List.take_succ_cons, List.take_zero]
    refine ⟨acall_os (s72 m.st h1 h2 h3) (by simp [stA, AV.pureL, AV.pure, intsA_pure, gtsA_pure]) ?_, acall_os (s72 m.st h1 h2 h3) (by simp [stA, AV.pureL, AV.pure, intsA_pure, gtsA_pure]) ?_⟩ <;>
    · simp only [wB, asP, asQ, asN, obA, loadA, storeA, putsA, St.ev, St.step, setS, killS, AV.kill, AV.killL, Mem.kill, AV.cells, AV.flat, AV.single, AV.cellular, Nat.reduceAdd, Nat.reduceEqDiff, Nat.reduceLeDiff, Int.reduceAdd, ASch, St.put, Md.mem, Md.need, Mch.ob, Mch.od, Mch.cells, rowP, rowC, rowS, stO', List.drop_succ_cons, List.drop_zero, AV.sub, AV.subL, List.take_succ_cons, List.take_zero, AV.up, Ob.up, intsA_smap, gtsA_smap]
      (try refine And.intro ?_ ?_) <;> exact le_sl (by simp [leSl])
  simp only [awp]
  exact hlook
/-- look, its answer frozen. -/
theorem m67f (m : Mch) (hmu : m.mu = 0) (h1 : m.st.place.length ≤ 1000) (h2 : m.st.heats.length ≤ 1000) (h3 : m.st.circ.length ≤ 1000) :
    MSpec Tryz.prog 67 [.q 0 13 0 0] (memD m) (fun r N => r = .t [stA m.st, S m.log] ∧ N = memD m) := by
  refine mspec_locked (k := 13) (aS := []) (t := 13) (own := []) (pre := [_, _, _]) (df := _) Tryz.func67 rfl ok67 rfl rfl rfl (fun a w => by simp [execOp, go_sem]) ?_
  intro vs
  obtain ⟨gh, hgh⟩ : ∃ gh, gh = some (ghost vs [AV.q 0 13 0 0]) := ⟨_, rfl⟩
  refine awp_sound (own := [2]) _ _ _ _ _ ?_
  simp only [wB, awp, asN, mkA, Aw.newRow, St.ev, St.step, setS, killS, AV.kill, AV.killL, Mem.kill, Nat.reduceAdd, Nat.reduceEqDiff, Nat.reduceSub, Int.reduceAdd, Int.reduceSub, Tryz.ntmps67, ← hgh, memD]
  refine awp_sound (own := []) _ _ _ _ _ ?_
  simp only [wB, awp, binC, eqC, asG, asB, asI, St.ev, St.step, setS, killS, AV.kill, AV.killL, Mem.kill, Nat.reduceAdd, Int.reduceAdd, isNP, ptrN, asStr, nt32]
  refine swp_fm (own := []) 3 rfl rfl rfl ?_
  simp only [wB, asP, asQ, St.ev, St.step, setS, killS, AV.kill, AV.killL, Mem.kill, AV.cells, Nat.reduceEqDiff, Mch.ob, Mch.od, Mch.cells, List.take_succ_cons, List.take_zero, hmu]
  refine acall_f (fspec_of (m68 (M := [some ⟨none, 107, 13, [.g (.v (.int .i32 0) :: [.v (.int .u32 0), I m.n, .s 2 (prsA m.ls), I m.lim, .s 1 (intsA m.st.place), .s 1 (intsA m.st.heats), .s 4 (gtsA m.st.circ), I m.st.moves, I m.st.cools, I m.st.done, .o 2, S m.log])]⟩, none, some ⟨none, 9, 1, strsA m.ords⟩, gh]) (cs := [.v (.int .u32 0), I m.n, .s 2 (prsA m.ls), I m.lim, .s 1 (intsA m.st.place), .s 1 (intsA m.st.heats), .s 4 (gtsA m.st.circ), I m.st.moves, I m.st.cools, I m.st.done, .o 2, S m.log]) rfl rfl rfl) (M' := [some ⟨none, 107, 13, [.g (.v (.int .i32 1) :: [.v (.int .u32 0), I m.n, .s 2 (prsA m.ls), I m.lim, .s 1 (intsA m.st.place), .s 1 (intsA m.st.heats), .s 4 (gtsA m.st.circ), I m.st.moves, I m.st.cools, I m.st.done, .o 2, S m.log])]⟩, none, some ⟨none, 9, 1, strsA m.ords⟩, gh]) [1, 4] (by rw [hgh]; rfl) (by rw [hgh]; exact ⟨rfl, rfl, rfl, trivial⟩) (by rw [hgh]; rfl) rfl (by rw [hgh]; simp [freeM, AV.freeL, AV.free, strsA_free, ghost]) (N := [some ⟨none, 107, 13, [.g (.v (.int .i32 1) :: [.v (.int .u32 0), I m.n, .s 2 (prsA m.ls), I m.lim, .s 1 (intsA m.st.place), .s 1 (intsA m.st.heats), .s 4 (gtsA m.st.circ), I m.st.moves, I m.st.cools, I m.st.done, .o 2, S m.log])]⟩, none, some ⟨none, 9, 1, strsA m.ords⟩, gh, some ⟨none, 105, 6, [.g [.v (.slice none 0 0), .v (.slice none 0 0), .v (.slice none 0 0), I 0, I 0, I 0]]⟩]) (by rw [hgh]; rfl)) ?_
  simp only [wB, asP, asQ, St.ev, St.step, setS, killS, AV.kill, AV.killL, Mem.kill, Nat.reduceAdd, Nat.reduceEqDiff, Int.reduceAdd, List.drop_succ_cons, AV.sub, keepG, liveI, AV.isQ, List.any_cons, List.any_nil, ghost, List.drop_nil]
  refine ⟨⟨[.q 0 13 0 0, .bot, .q 4 6 0 0, .bot, .bot, .bot, .bot, .bot, .bot, .bot, .bot, .bot, .bot, .q 0 13 0 0, .bot, .bot, .bot, .bot, .bot, .bot, .bot, .bot, .bot], [some { m with mu := 1 }.ob, none, some m.od, gh, some ⟨none, 105, 6, [.g [.v (.slice none 0 0), .v (.slice none 0 0), .v (.slice none 0 0), I 0, I 0, I 0]]⟩]⟩, 3, le_sl' ?_ (by simp [leSl]), rfl, by rw [hgh]; rfl, ?_⟩
  · simp only [memG, memS, Mch.ob, Mch.od, Mch.cells, rowP, rowC, rowS, stO', combR, List.cons_append, List.nil_append, Option.map_some, Option.map_none, List.drop_succ_cons, List.drop_zero, prsA_sub, strsA_sub, intsA_sub, gtsA_sub, AV.sub, AV.subL, keepF, keepG, liveI, List.getElem?_cons_succ, List.getElem?_cons_zero, List.getElem?_nil, AV.isO, AV.isQ, List.any_cons, List.any_nil, ghost, gA, List.take_succ_cons, List.take_zero, List.drop_nil]
  refine awp_sound (own := [2]) _ _ _ _ _ ?_
  simp only [awp, AV.cells, Mch.ob, Mch.od, Mch.cells]
  have hlook : LEnd Tryz.prog Tryz.f67.results.toList [AV.q 0 13 0 0] vs (fun r N => r = .t [stA m.st, S m.log] ∧ N = memD m) ⟨[.q 0 13 0 0, .bot, .q 4 6 0 0, S m.log, .bot, .bot, .bot, .bot, .bot, .bot, .bot, .bot, .bot, .bot, .bot, .bot, .bot, .bot, .bot, .bot, .bot, .bot, .bot], [some { m with mu := 1 }.ob, none, some m.od, gh, some (rowS 5 6 7 m.st), some (rowP m.st.place), some (rowP m.st.heats), some (rowC m.st.circ)]⟩ := by
    refine ⟨⟨[.q 0 13 0 0, .bot, .q 4 6 0 0, S m.log, .bot, .bot, .bot, .bot, .bot, .bot, .bot, .bot, .bot, .bot, .bot, .bot, .bot, .bot, .bot, .bot, .bot, .bot, .bot], [some { m with mu := 1 }.ob, none, some m.od, gh, some ⟨none, 105, 6, [stA m.st]⟩]⟩, { m with mu := 1 }.ob, _, 3, Le.trans (le_frz 5 rfl (intsA_pure _)) (Le.trans (le_frz 6 rfl (by simp only [rowP, intsA_sub]; exact intsA_pure _)) (Le.trans (le_frz 7 rfl (by simp only [rowC, gtsA_sub]; exact gtsA_pure _)) (le_cut (Mx := [none, none, none]) ?_ ?_ rfl ?_))), rfl, rfl, rfl, by rw [hgh]; rfl, ?_⟩
    · simp [leSl, frz1, AV.sub, AV.subL]
    · rw [hgh]
      simp [frzM, Mch.ob, Mch.od, Mch.cells, rowP, rowC, rowS, stO', AV.sub, AV.subL, intsA_sub, gtsA_sub, prsA_sub, strsA_sub, stA, ghost]
    · rw [hgh]; simp [freeM, Mch.ob, Mch.od, Mch.cells, AV.freeL, AV.free, strsA_free, ghost, stA]
    refine ⟨_, .t [stA m.st, S m.log], memD m, [some ⟨none, 105, 6, [stA m.st]⟩], Le.refl _, rfl, ?_, ?_, rfl, ?_, rfl, rfl⟩
    · rw [hgh]
      simp only [memD, Mch.ob, Mch.od, Mch.cells, hmu, List.set_cons_zero, List.cons_append, List.nil_append]
    · rfl
    · simp [freeM, memD, Mch.ob, Mch.od, Mch.cells, AV.freeL, AV.free, strsA_free, Zr, List.range_succ]
  refine swp_to ⟨[.q 0 13 0 0, .bot, .q 4 6 0 0, S m.log, .bot, .bot, .bot, .bot, .bot, .bot, .bot, .bot, .bot, .bot, .bot, .bot, .bot, .bot, .bot, .bot, .bot, .bot, .bot], [some { m with mu := 1 }.ob, none, some m.od, gh, some (rowS 5 6 7 m.st), some (rowP m.st.place), some (rowP m.st.heats), some (rowC m.st.circ)]⟩ (swp_draw (own := [2]) (.take 0 .plain [] (.take 1 .plain [] (.take 2 .plain [] (.take 3 .reads [] (.take 5 .plain [] (.take 6 .plain [] (.take 7 .plain [] (.alt 4 (.alt 8 (.alt 9 (.take 10 .plain [] (.done)) (.nil)) (.alt 9 (.take 8 .reads [] (.take 10 .plain [] (.done))) (.nil))) (.alt 8 (.alt 4 (.alt 9 (.take 10 .plain [] (.done)) (.nil)) (.nil)) (.nil)))))))))) [⟨15, 1, 0, 0, true⟩, ⟨16, 16384, 1, 0, true⟩, ⟨17, 32768, 2, 0, true⟩, ⟨18, 65536, 4, 0, true⟩, ⟨19, 131072, 8, 0, false⟩, ⟨20, 1, 0, 0, true⟩, ⟨21, 524288, 32, 0, true⟩, ⟨22, 1048576, 64, 0, true⟩, ⟨23, 2097152, 128, 0, true⟩, ⟨0, 262148, 31, 1, false⟩, ⟨4, 4194304, 1023, 0, true⟩] mo (by kernel_rfl) ?_) ?_
  · simp only [wB, asP, asQ, obA, loadA, St.ev, St.step, setS, killS, AV.kill, AV.killL, Mem.kill, AV.cells, AV.flat, AV.single, Nat.reduceAdd, Nat.reduceEqDiff, Nat.reduceLeDiff, Int.reduceAdd, ASch, St.put, Md.mem, Md.need, Mch.cells, List.drop_succ_cons, List.drop_zero, List.take_succ_cons, List.take_zero]
    refine ⟨acall_os (s72 m.st h1 h2 h3) (by simp [stA, AV.pureL, AV.pure, intsA_pure, gtsA_pure]) ?_, acall_os (s72 m.st h1 h2 h3) (by simp [stA, AV.pureL, AV.pure, intsA_pure, gtsA_pure]) ?_⟩ <;>
    · simp only [wB, asP, asQ, asN, obA, loadA, storeA, putsA, St.ev, St.step, setS, killS, AV.kill, AV.killL, Mem.kill, AV.cells, AV.flat, AV.single, AV.cellular, Nat.reduceAdd, Nat.reduceEqDiff, Nat.reduceLeDiff, Int.reduceAdd, ASch, St.put, Md.mem, Md.need, Mch.ob, Mch.od, Mch.cells, rowP, rowC, rowS, stO', List.drop_succ_cons, List.drop_zero, AV.sub, AV.subL, List.take_succ_cons, List.take_zero, AV.up, Ob.up, intsA_smap, gtsA_smap]
      (try refine And.intro ?_ ?_) <;> exact le_sl (by simp [leSl])
  simp only [awp]
  exact hlook
end Go.Proofs.YtndniceeibflcaaGreatDoor

namespace Go.Proofs.YtndniceeibflcaaGreatDoor
open Aw Mp Go.RowKit
set_option linter.unusedSimpArgs false
set_option maxRecDepth 8000

/-- bounds of a machine's rows. -/
structure Sml (m : Mch) : Prop where
  mu : m.mu = 0
  p : m.st.place.length ≤ 1000
  h : m.st.heats.length ≤ 1000
  c : m.st.circ.length ≤ 1000
theorem free_D (k : Nat) (m : Mch) : freeM (Zr 3 k) (memD m) = true := by
  have h : (Zr 3 k).contains 2 = false := by
    cases hc : (Zr 3 k).contains 2 with
    | false => rfl
    | true => have := mem_Zr.1 (List.contains_iff_mem.1 hc); omega
  simp [freeM, memD, Mch.ob, Mch.od, Mch.cells, AV.freeL, AV.free, strsA_free, -List.contains_eq_mem, h]

theorem ok44 : okFn Tryz.prog 44 = true := by kernel_rfl
theorem m44 (m : Mch) (hs : Sml m) : MSpec Tryz.prog 44 [.q 0 13 0 0] (memD m) (fun r N => r = .s 1 (intsA m.st.place) ∧ N = memD m) := by
  refine mspec_of2 (own := [3, 1001]) Tryz.func44 rfl ok44 ?_
  intro vs
  obtain ⟨gh, hgh⟩ : ∃ gh, gh = some (ghost vs [AV.q 0 13 0 0]) := ⟨_, rfl⟩
  simp only [wB, awp, asN, St.ev, St.step, setS, killS, AV.kill, AV.killL, Mem.kill, Nat.reduceAdd, Nat.reduceEqDiff, Nat.reduceSub, Int.reduceAdd, Int.reduceSub, Tryz.ntmps44, ← hgh, memD]
  refine swp_fm (own := [3]) 1 rfl rfl rfl ?_
  simp only [wB, St.ev, St.step, setS, killS, AV.kill, AV.killL, Mem.kill, AV.cells, Mch.ob, Mch.od, Mch.cells, List.take_succ_cons, List.take_zero]
  refine acall_f (fspec_of (m67f m hs.mu hs.p hs.h hs.c) [1, 3] rfl (by exact ⟨rfl, rfl, trivial⟩) rfl rfl (by simp [freeM, memD, Mch.ob, Mch.od, Mch.cells, AV.freeL, AV.free, strsA_free]) (N := [some m.ob, none, some m.od, gh]) (by rw [hgh]; rfl)) ?_
  simp only [wB, awp, asP, asQ, asT, asN, obA, loadA, storeA, putsA, mkA, Aw.newRow, St.ev, St.step, setS, killS, AV.kill, AV.killL, Mem.kill, AV.cells, AV.flat, AV.single, AV.cellular, Nat.reduceAdd, Nat.reduceEqDiff, Nat.reduceLeDiff, Int.reduceAdd, Mch.ob, Mch.od, Mch.cells, List.drop_succ_cons, List.drop_zero, AV.sub, keepG, liveI, AV.isQ, List.any_cons, List.any_nil, List.take_succ_cons, List.take_zero, stA]
  exact ⟨_, _, memD m, _, Le.refl _, rfl, by rw [hgh]; rfl, rfl, rfl, free_D _ m, rfl, rfl⟩

theorem ok45 : okFn Tryz.prog 45 = true := by kernel_rfl
theorem m45 (m : Mch) (hs : Sml m) : MSpec Tryz.prog 45 [.q 0 13 0 0] (memD m) (fun r N => r = .s 1 (intsA m.st.heats) ∧ N = memD m) := by
  refine mspec_of2 (own := [3, 1001]) Tryz.func45 rfl ok45 ?_
  intro vs
  obtain ⟨gh, hgh⟩ : ∃ gh, gh = some (ghost vs [AV.q 0 13 0 0]) := ⟨_, rfl⟩
  simp only [wB, awp, asN, St.ev, St.step, setS, killS, AV.kill, AV.killL, Mem.kill, Nat.reduceAdd, Nat.reduceEqDiff, Nat.reduceSub, Int.reduceAdd, Int.reduceSub, Tryz.ntmps45, ← hgh, memD]
  refine swp_fm (own := [3]) 1 rfl rfl rfl ?_
  simp only [wB, St.ev, St.step, setS, killS, AV.kill, AV.killL, Mem.kill, AV.cells, Mch.ob, Mch.od, Mch.cells, List.take_succ_cons, List.take_zero]
  refine acall_f (fspec_of (m67f m hs.mu hs.p hs.h hs.c) [1, 3] rfl (by exact ⟨rfl, rfl, trivial⟩) rfl rfl (by simp [freeM, memD, Mch.ob, Mch.od, Mch.cells, AV.freeL, AV.free, strsA_free]) (N := [some m.ob, none, some m.od, gh]) (by rw [hgh]; rfl)) ?_
  simp only [wB, awp, asP, asQ, asT, asN, obA, loadA, storeA, putsA, mkA, Aw.newRow, St.ev, St.step, setS, killS, AV.kill, AV.killL, Mem.kill, AV.cells, AV.flat, AV.single, AV.cellular, Nat.reduceAdd, Nat.reduceEqDiff, Nat.reduceLeDiff, Int.reduceAdd, Mch.ob, Mch.od, Mch.cells, List.drop_succ_cons, List.drop_zero, AV.sub, keepG, liveI, AV.isQ, List.any_cons, List.any_nil, List.take_succ_cons, List.take_zero, stA]
  exact ⟨_, _, memD m, _, Le.refl _, rfl, by rw [hgh]; rfl, rfl, rfl, free_D _ m, rfl, rfl⟩

theorem ok47 : okFn Tryz.prog 47 = true := by kernel_rfl
theorem m47 (m : Mch) (hs : Sml m) : MSpec Tryz.prog 47 [.q 0 13 0 0] (memD m) (fun r N => r = .s 4 (gtsA m.st.circ) ∧ N = memD m) := by
  refine mspec_of2 (own := [3, 1001]) Tryz.func47 rfl ok47 ?_
  intro vs
  obtain ⟨gh, hgh⟩ : ∃ gh, gh = some (ghost vs [AV.q 0 13 0 0]) := ⟨_, rfl⟩
  simp only [wB, awp, asN, St.ev, St.step, setS, killS, AV.kill, AV.killL, Mem.kill, Nat.reduceAdd, Nat.reduceEqDiff, Nat.reduceSub, Int.reduceAdd, Int.reduceSub, Tryz.ntmps47, ← hgh, memD]
  refine swp_fm (own := [3]) 1 rfl rfl rfl ?_
  simp only [wB, St.ev, St.step, setS, killS, AV.kill, AV.killL, Mem.kill, AV.cells, Mch.ob, Mch.od, Mch.cells, List.take_succ_cons, List.take_zero]
  refine acall_f (fspec_of (m67f m hs.mu hs.p hs.h hs.c) [1, 3] rfl (by exact ⟨rfl, rfl, trivial⟩) rfl rfl (by simp [freeM, memD, Mch.ob, Mch.od, Mch.cells, AV.freeL, AV.free, strsA_free]) (N := [some m.ob, none, some m.od, gh]) (by rw [hgh]; rfl)) ?_
  simp only [wB, awp, asP, asQ, asT, asN, obA, loadA, storeA, putsA, mkA, Aw.newRow, St.ev, St.step, setS, killS, AV.kill, AV.killL, Mem.kill, AV.cells, AV.flat, AV.single, AV.cellular, Nat.reduceAdd, Nat.reduceEqDiff, Nat.reduceLeDiff, Int.reduceAdd, Mch.ob, Mch.od, Mch.cells, List.drop_succ_cons, List.drop_zero, AV.sub, keepG, liveI, AV.isQ, List.any_cons, List.any_nil, List.take_succ_cons, List.take_zero, stA]
  exact ⟨_, _, memD m, _, Le.refl _, rfl, by rw [hgh]; rfl, rfl, rfl, free_D _ m, rfl, rfl⟩

theorem ok23 : okFn Tryz.prog 23 = true := by kernel_rfl
theorem m23 (m : Mch) (hs : Sml m) : MSpec Tryz.prog 23 [.q 0 13 0 0] (memD m) (fun r N => r = S m.log ∧ N = memD m) := by
  refine mspec_of2 (own := [3, 1001]) Tryz.func23 rfl ok23 ?_
  intro vs
  obtain ⟨gh, hgh⟩ : ∃ gh, gh = some (ghost vs [AV.q 0 13 0 0]) := ⟨_, rfl⟩
  simp only [wB, awp, asN, St.ev, St.step, setS, killS, AV.kill, AV.killL, Mem.kill, Nat.reduceAdd, Nat.reduceEqDiff, Nat.reduceSub, Int.reduceAdd, Int.reduceSub, Tryz.ntmps23, ← hgh, memD]
  refine swp_fm (own := [3]) 1 rfl rfl rfl ?_
  simp only [wB, St.ev, St.step, setS, killS, AV.kill, AV.killL, Mem.kill, AV.cells, Mch.ob, Mch.od, Mch.cells, List.take_succ_cons, List.take_zero]
  refine acall_f (fspec_of (m67f m hs.mu hs.p hs.h hs.c) [1, 3] rfl (by exact ⟨rfl, rfl, trivial⟩) rfl rfl (by simp [freeM, memD, Mch.ob, Mch.od, Mch.cells, AV.freeL, AV.free, strsA_free]) (N := [some m.ob, none, some m.od, gh]) (by rw [hgh]; rfl)) ?_
  simp only [wB, awp, asQ, asT, asN, obA, storeA, putsA, mkA, Aw.newRow, St.ev, St.step, setS, killS, AV.kill, AV.killL, Mem.kill, AV.cells, AV.flat, AV.single, AV.cellular, Nat.reduceAdd, Nat.reduceEqDiff, Nat.reduceLeDiff, Int.reduceAdd, Mch.ob, Mch.od, Mch.cells, List.drop_succ_cons, List.drop_zero, AV.sub, keepG, liveI, AV.isQ, List.any_cons, List.any_nil, stA]
  exact ⟨_, _, memD m, _, Le.refl _, rfl, by rw [hgh]; rfl, rfl, rfl, free_D _ m, rfl, rfl⟩

/-- the ions that are warm. -/
def wrmL (lim : Int) (l : List Int) : List Int := upL l.length fun i => decide (lim < l.getD i.toNat 0)
end Go.Proofs.YtndniceeibflcaaGreatDoor

namespace Go.Proofs.YtndniceeibflcaaGreatDoor
open Aw Mp Go.RowKit
set_option linter.unusedSimpArgs false
set_option maxRecDepth 8000

/-- a nil cell of an object reads as an empty slice. -/
theorem le_nils {sl : List AV} {M : Mem} (i c : Nat) (k : Nat) {ob : Ob} {cells : List AV} (hi : M[i]? = some (some ob)) (hm : ob.mp = none) (hx : ob.xs = [.g cells]) (hc : cells[c]? = some (.v (.slice none 0 0))) :
    Le ⟨sl, M⟩ ⟨sl, M.set i (some { ob with xs := [.g (cells.set c (.s k []))] })⟩ := by
  intro C a w hS
  obtain ⟨hv, hd, hsz, hsl, hM, hF⟩ := hS
  have key : ∀ (l : List AV) (c : Nat) (us : List Value), l[c]? = some (.v (.slice none 0 0)) → RL w (OwnA C.A hv) hv l us → RL w (OwnA C.A hv) hv (l.set c (.s k [])) us := by
    intro l
    induction l with
    | nil => intro c us h; simp at h
    | cons x l ih =>
      intro c us h hr
      simp only [RL] at hr
      obtain ⟨u1, u2, rfl, h1, h2⟩ := hr
      cases c with
      | zero =>
        simp only [List.getElem?_cons_zero, Option.some.injEq] at h
        subst h
        simp only [R] at h1
        simp only [List.set_cons_zero, RL]
        refine ⟨u1, u2, rfl, ?_, h2⟩
        rw [h1.1]
        simp only [R]
        exact ⟨none, 0, [], rfl, Nat.le_refl _, Nat.zero_le _, by simp, by simp [RL], fun h => absurd rfl h⟩
      | succ c =>
        simp only [List.set_cons_succ, RL]
        exact ⟨u1, u2, rfl, h1, ih c u2 (by simpa using h) h2⟩
  have hsize : ∀ (l : List AV) (c : Nat), l[c]? = some (.v (.slice none 0 0)) → AV.sizeL (l.set c (.s k [])) = AV.sizeL l := by
    intro l
    induction l with
    | nil => intro c h; simp at h
    | cons x l ih =>
      intro c h
      cases c with
      | zero =>
        simp only [List.getElem?_cons_zero, Option.some.injEq] at h
        subst h
        rfl
      | succ c => simp only [List.set_cons_succ, AV.sizeL, ih c (by simpa using h)]
  refine ⟨hv, hd, hsz, hsl, mem_same hM hi (fun v h => ?_), hF⟩
  obtain ⟨us, h1, h2, h3⟩ := h.row hm
  rw [hx] at h1 h2 h3
  refine ObR.of_row hm ⟨us, by simpa using h1, ?_, ?_⟩
  · intro y hy
    simp only [List.mem_singleton] at hy
    subst hy
    have := h2 (.g cells) (by simp)
    simp only [AV.size] at this ⊢
    rw [hsize cells c hc]
    exact this
  · simp only [RL] at h3 ⊢
    obtain ⟨u1, u2, e, q1, q2⟩ := h3
    simp only [R] at q1 ⊢
    exact ⟨u1, u2, e, key cells c u1 hc q1, q2⟩
end Go.Proofs.YtndniceeibflcaaGreatDoor

namespace Go.Proofs.YtndniceeibflcaaGreatDoor
open Aw Mp Go.RowKit
set_option linter.unusedSimpArgs false
set_option maxRecDepth 8000

/-- the error of a machine that is made. -/
def vN (n lim : Int) (ls : List (Int × Int)) : Int := if vT n ls ≠ 0 then vT n ls else if lim < 0 ∨ 100 < lim then 1 else 0
theorem ok22 : okFn Tryz.prog 22 = true := by kernel_rfl
theorem s22e (n lim : Int) (ls : List (Int × Int)) (hls : ls.length ≤ 100000) (he : vN n lim ls ≠ 0) : ASpec Tryz.prog 22 [trapA n ls, I lim] (fun r Ms => r = .t [.v (.pointer none), I (vN n lim ls)] ∧ Ms = []) := by
  refine aspec_of (own := [2, 25]) Tryz.func22 rfl ok22 ?_
  simp only [wB, awp, asP, asQ, asN, obA, loadA, Aw.newRow, St.ev, St.step, setS, killS, AV.kill, AV.killL, Mem.kill, AV.cells, AV.flat, AV.single, AV.cellular, AV.size, AV.sizeL, Nat.reduceAdd, Nat.reduceEqDiff, Nat.reduceSub, Nat.reduceLeDiff, Int.reduceAdd, Int.reduceSub, Tryz.ntmps22, trapA]
  refine acall_v (s65 n ls (by omega)) (by simp [trapA, AV.pureL, AV.pure, prsA_pure]) rfl ?_
  by_cases h0 : vT n ls = 0
  · simp only [wB, awp, binC, cmpC, asB, asI, asN, St.ev, St.step, setS, killS, AV.kill, AV.killL, Mem.kill, Nat.reduceAdd, Nat.reduceEqDiff, Int.reduceAdd, decide_eq_true h0]
    by_cases h1 : lim < 0
    · simp only [wB, awp, asB, asN, St.ev, St.step, setS, killS, AV.kill, AV.killL, Mem.kill, Nat.reduceAdd, Nat.reduceEqDiff, Int.reduceAdd, decide_eq_true h1]
      exact aend_frz rfl ⟨by rw [vN, if_neg (by rw [h0]; simp), if_pos (.inl h1)]; rfl, rfl⟩
    simp only [wB, awp, binC, cmpC, asB, asI, St.ev, St.step, setS, killS, AV.kill, AV.killL, Mem.kill, decide_eq_false h1]
    by_cases h2 : 100 < lim
    · simp only [wB, awp, asN, St.ev, St.step, setS, killS, AV.kill, AV.killL, Mem.kill, Nat.reduceAdd, Nat.reduceEqDiff, Int.reduceAdd, decide_eq_true h2]
      exact aend_frz rfl ⟨by rw [vN, if_neg (by rw [h0]; simp), if_pos (.inr h2)]; rfl, rfl⟩
    · exact absurd (by rw [vN, if_neg (by rw [h0]; simp), if_neg (by omega)]) he
  · simp only [wB, awp, binC, cmpC, asB, asI, asN, St.ev, St.step, setS, killS, AV.kill, AV.killL, Mem.kill, Nat.reduceAdd, Nat.reduceEqDiff, Int.reduceAdd, decide_eq_false h0]
    exact aend_frz rfl ⟨by rw [vN, if_pos h0]; rfl, rfl⟩
theorem s22o (n lim : Int) (ls : List (Int × Int)) (hls : ls.length ≤ 100000) (he : vN n lim ls = 0) : ASpec Tryz.prog 22 [trapA n ls, I lim] (fun r Ms => r = .t [.q 0 13 0 0, I 0] ∧ Ms = [⟨none, 107, 13, [(mkM n lim ls []).cells (.o 1) (.o 2)]⟩, ⟨none, 79, 2, prsA ls⟩, ⟨none, 9, 1, []⟩]) := by
  have h0 : vT n ls = 0 := by
    by_cases h : vT n ls = 0
    · exact h
    · rw [vN, if_pos h] at he; exact he
  have h12 : ¬ (lim < 0 ∨ 100 < lim) := fun h => by rw [vN, if_neg (by rw [h0]; simp), if_pos h] at he; cases he
  refine aspec_of (own := [2, 25, 1007]) Tryz.func22 rfl ok22 ?_
  simp only [wB, awp, asP, asQ, asN, obA, loadA, Aw.newRow, St.ev, St.step, setS, killS, AV.kill, AV.killL, Mem.kill, AV.cells, AV.flat, AV.single, AV.cellular, AV.size, AV.sizeL, Nat.reduceAdd, Nat.reduceEqDiff, Nat.reduceSub, Nat.reduceLeDiff, Int.reduceAdd, Int.reduceSub, Tryz.ntmps22, trapA]
  refine acall_v (s65 n ls (by omega)) (by simp [trapA, AV.pureL, AV.pure, prsA_pure]) rfl ?_
  simp only [wB, awp, binC, cmpC, asP, asQ, asB, asI, asN, obA, loadA, St.ev, St.step, setS, killS, AV.kill, AV.killL, Mem.kill, AV.cells, AV.flat, AV.single, Nat.reduceAdd, Nat.reduceEqDiff, Nat.reduceLeDiff, Int.reduceAdd, decide_eq_true h0, decide_eq_false (show ¬ lim < 0 by omega), decide_eq_false (show ¬ 100 < lim by omega)]
  refine acall_o (s66 ls hls) (by simp [AV.pureL, AV.pure, prsA_pure]) (prsA_pure ls) ?_
  simp only [wB, awp, asP, asQ, obA, storeA, putsA, St.ev, St.step, setS, killS, AV.kill, AV.killL, Mem.kill, AV.cells, AV.flat, AV.single, AV.cellular, Nat.reduceAdd, Nat.reduceEqDiff, Nat.reduceLeDiff, Int.reduceAdd, AV.up, AV.sub]
  refine swp_to ⟨[.bot, .bot, .bot, .bot, .q 0 13 0 0, I 0, .bot, .bot, .bot, .bot, .bot, .bot, .bot, .bot, .bot, .bot, .bot, .bot, .bot, .bot, .bot, .bot, .bot, .bot, .bot, .bot], [some ⟨none, 107, 13, [(mkM n lim ls []).cells (.o 1) (.o 2)]⟩, some ⟨none, 79, 2, prsA ls⟩, some ⟨none, 9, 1, []⟩]⟩ (awp_sound (own := [2, 25]) _ _ _ _ _ ?_) ?_
  · simp only [wB, awp, asP, asQ, asN, obA, loadA, fillA, putsA, Aw.newRow, St.ev, St.step, setS, killS, AV.kill, AV.killL, Mem.kill, AV.cells, AV.flat, AV.single, AV.cellular, AV.size, AV.sizeL, Value.oneCell', Nat.reduceAdd, Nat.reduceEqDiff, Nat.reduceLeDiff, Int.reduceAdd]
    refine Le.trans (le_nils 2 5 1 rfl rfl rfl rfl) (Le.trans (le_nils 2 6 1 rfl rfl rfl rfl) (Le.trans (le_nils 2 7 4 rfl rfl rfl rfl) (Le.trans (le_nil 2 0 11 9 1 rfl rfl rfl rfl) (le_rn [2, 1, 3] (by decide) ?_ (by simp [leSl, AV.sub, reF, reG, List.idxOf?, List.findIdx?, List.findIdx?.go])))))
    simp [reM, reF, reG, mkM, Mch.cells, AV.sub, AV.subL, prsA_sub, List.idxOf?, List.findIdx?, List.findIdx?.go, stO, MS.zero, intsA, gtsA, lg]
  · simp only [awp]
    exact aend_ren [0, 1, 2] (by decide) [⟨none, 107, 13, [(mkM n lim ls []).cells (.o 1) (.o 2)]⟩, ⟨none, 79, 2, prsA ls⟩, ⟨none, 9, 1, []⟩] rfl (by simp [reM, reF, reG, mkM, Mch.cells, AV.sub, AV.subL, prsA_sub, List.idxOf?, List.findIdx?, List.findIdx?.go]) ⟨rfl, rfl⟩
end Go.Proofs.YtndniceeibflcaaGreatDoor

namespace Go.Proofs.YtndniceeibflcaaGreatDoor
open Aw Mp Go.RowKit
set_option linter.unusedSimpArgs false
set_option maxRecDepth 8000

theorem ok114 : okFn Tryz.prog 114 = true := by kernel_rfl
theorem s114 (l : List Int) (i : Int) (hi : 0 ≤ i ∧ i < l.length) (hl : l.length ≤ 1000) (n : Int) (hn : -1000 ≤ n ∧ n ≤ 1000) (hh : ∀ h ∈ l, 0 ≤ h ∧ h ≤ 1000) : ASpec Tryz.prog 114 [.s 1 (intsA l), I i, I n] (fun r Ms => r = .s 1 (intsA (bump l i.toNat n)) ∧ Ms = []) := by
  refine aspec_of (own := [8]) Tryz.func114 rfl ok114 ?_
  have hil : i.toNat < l.length := by omega
  have hb := hh _ (List.getElem_mem hil)
  have hg : l.getD i.toNat 0 = l[i.toNat] := by rw [List.getD_eq_getElem?_getD, List.getElem?_eq_getElem hil]; rfl
  simp only [wB, awp, binC, idxC, arithC, cmpC, asP, asQ, asO, asS, asI, asN, obA, minmaxA, loadA, storeA, putsA, Aw.newRow, St.ev, St.step, setS, killS, AV.kill, AV.killL, Mem.kill, AV.cells, AV.flat, AV.single, AV.cellular, Value.oneCell', Nat.reduceAdd, Nat.reduceEqDiff, Nat.reduceMul, Nat.reduceSub, Nat.reduceLeDiff, Int.reduceAdd, Int.reduceSub, Int.reduceMul, isU, Tryz.ntmps114, aget_ints hil, intsA_set']
  refine ⟨⟨by decide, rfl⟩, ⟨by decide, by omega⟩, hi, by unfold lim; omega, hi, aend_frz rfl ⟨?_, rfl⟩⟩
  unfold bump
  rw [hg, Int.min_comm]
  simp [frz, AV.sub, AV.subL, intsA_pure]

/-- the document's machine. -/
def rfA (n lim : Int) (ls : List (Int × Int)) (l : List By) : AV := .g [I n, .s 2 (prsA ls), I lim, .s 1 (strsA l)]
theorem ok112 : okFn Tryz.prog 112 = true := by kernel_rfl
theorem s112 (n lim : Int) (ls : List (Int × Int)) (l : List By) (t : MS) {c : Nat} (hI : InvS n c t) (x : Int) : ASpec Tryz.prog 112 [rfA n lim ls l, stA t, I x] (fun r Ms => r = .t [stA (if erS n lim ls t 0 x 0 0 = 0 then nxS t 0 x 0 0 else t), I (erS n lim ls t 0 x 0 0)] ∧ Ms = []) := by
  refine aspec_of (own := [3, 4, 6, 24, 32]) Tryz.func112 rfl ok112 ?_
  have hp4 := hI.p4
  have hhl := hI.hl
  simp only [wB, awp, binC, cmpC, asP, asQ, asB, asI, asN, obA, loadA, mkA, Aw.newRow, St.ev, St.step, setS, killS, AV.kill, AV.killL, Mem.kill, AV.cells, AV.flat, AV.single, AV.cellular, AV.size, AV.sizeL, Nat.reduceAdd, Nat.reduceEqDiff, Nat.reduceSub, Nat.reduceLeDiff, Int.reduceAdd, Int.reduceSub, Tryz.ntmps112, rfA, stA]
  by_cases c1 : n ≤ x
  · simp only [wB, awp, asP, asQ, asN, obA, loadA, storeA, putsA, St.ev, St.step, setS, killS, AV.kill, AV.killL, Mem.kill, AV.cells, AV.flat, AV.single, AV.cellular, Nat.reduceAdd, Nat.reduceEqDiff, Nat.reduceLeDiff, Int.reduceAdd, decide_eq_true c1]
    have he : erS n lim ls t 0 x 0 0 = 4 := by simp only [erS]; rw [if_pos c1]
    refine aend_frz rfl ⟨?_, rfl⟩
    rw [he]
    rfl
  simp only [wB, awp, binC, cmpC, asP, asQ, asB, asI, obA, lenA, loadA, St.ev, St.step, setS, killS, AV.kill, AV.killL, Mem.kill, AV.cells, AV.flat, AV.single, Nat.reduceAdd, Nat.reduceEqDiff, Nat.reduceLeDiff, Int.reduceAdd, lenK, decide_eq_false c1]
  by_cases c2 : (4 : Int) ≤ t.place.length
  · simp only [wB, awp, asP, asQ, asN, obA, loadA, storeA, putsA, St.ev, St.step, setS, killS, AV.kill, AV.killL, Mem.kill, AV.cells, AV.flat, AV.single, AV.cellular, Nat.reduceAdd, Nat.reduceEqDiff, Nat.reduceLeDiff, Int.reduceAdd, decide_eq_true c2]
    have he : erS n lim ls t 0 x 0 0 = 3 := by simp only [erS]; rw [if_neg c1, if_pos (by omega)]
    refine aend_frz rfl ⟨?_, rfl⟩
    rw [he]
    rfl
  simp only [wB, awp, asP, asQ, obA, loadA, St.ev, St.step, setS, killS, AV.kill, AV.killL, Mem.kill, AV.cells, AV.flat, AV.single, Nat.reduceAdd, Nat.reduceEqDiff, Nat.reduceLeDiff, Int.reduceAdd, decide_eq_false c2]
  refine acall_v (s50 t.place x (by omega)) (by simp [AV.pureL, AV.pure, intsA_pure]) rfl ?_
  have he : erS n lim ls t 0 x 0 0 = if memL t.place x = true then 6 else 0 := by
    simp only [erS, memL_eq]; rw [if_neg c1, if_neg (by omega)]
  cases c3 : memL t.place x with
  | true =>
    simp only [wB, awp, asP, asQ, asB, asN, obA, loadA, storeA, putsA, St.ev, St.step, setS, killS, AV.kill, AV.killL, Mem.kill, AV.cells, AV.flat, AV.single, AV.cellular, Nat.reduceAdd, Nat.reduceEqDiff, Nat.reduceLeDiff, Int.reduceAdd]
    refine aend_frz rfl ⟨?_, rfl⟩
    rw [he, c3]
    rfl
  | false =>
    simp only [wB, awp, asP, asQ, asO, asS, asB, asN, obA, loadA, storeA, putsA, Aw.newRow, St.ev, St.step, setS, killS, AV.kill, AV.killL, Mem.kill, AV.cells, AV.flat, AV.single, AV.cellular, AV.size, AV.pure, AV.pureL, Value.oneCell', Nat.reduceAdd, Nat.reduceEqDiff, Nat.reduceMul, Nat.reduceLeDiff, Int.reduceAdd, Int.reduceMul]
    refine ⟨⟨by decide, rfl⟩, ⟨by decide, by omega⟩, ⟨by decide, rfl⟩, ⟨by decide, by omega⟩, ⟨by decide, rfl⟩, ⟨by decide, by omega⟩, ⟨by decide, rfl⟩, ⟨by decide, by omega⟩, ?_⟩
    simp only [intsA_kill, intsA_app]
    refine aend_frz rfl ⟨?_, rfl⟩
    rw [he, c3]
    simp [frz, AV.sub, AV.subL, intsA_pure, stA, nxS]
end Go.Proofs.YtndniceeibflcaaGreatDoor

namespace Go.Proofs.YtndniceeibflcaaGreatDoor
open Aw Mp Go.RowKit
set_option linter.unusedSimpArgs false
set_option maxRecDepth 8000

theorem ok113 : okFn Tryz.prog 113 = true := by kernel_rfl
theorem s113 (n lim : Int) (ls : List (Int × Int)) (l : List By) (t : MS) {c : Nat} (hI : InvS n c t) (hc : c ≤ 1000) (hls : ls.length ≤ 1000000) (x y : Int) (hx : 0 ≤ x) : ASpec Tryz.prog 113 [rfA n lim ls l, stA t, I x, I y] (fun r Ms => r = .t [stA (if erS n lim ls t 1 x y 0 = 0 then nxS t 1 x y 0 else t), I (erS n lim ls t 1 x y 0)] ∧ Ms = []) := by
  refine aspec_of (own := [4, 5, 8, 40]) Tryz.func113 rfl ok113 ?_
  have hp4 := hI.p4
  have hhl := hI.hl
  have hmv := hI.mv
  simp only [wB, awp, binC, cmpC, asP, asQ, asI, asN, obA, lenA, loadA, mkA, Aw.newRow, St.ev, St.step, setS, killS, AV.kill, AV.killL, Mem.kill, AV.cells, AV.flat, AV.single, AV.cellular, AV.size, AV.sizeL, Nat.reduceAdd, Nat.reduceEqDiff, Nat.reduceSub, Nat.reduceLeDiff, Int.reduceAdd, Int.reduceSub, lenK, Tryz.ntmps113, rfA, stA]
  by_cases c1 : (t.place.length : Int) ≤ x
  · simp only [wB, awp, asP, asQ, asB, asN, obA, loadA, storeA, putsA, St.ev, St.step, setS, killS, AV.kill, AV.killL, Mem.kill, AV.cells, AV.flat, AV.single, AV.cellular, Nat.reduceAdd, Nat.reduceEqDiff, Nat.reduceLeDiff, Int.reduceAdd, decide_eq_true c1]
    have he : erS n lim ls t 1 x y 0 = 4 := by simp only [erS]; rw [if_pos c1]
    refine aend_frz rfl ⟨?_, rfl⟩
    rw [he]
    rfl
  simp only [wB, awp, binC, cmpC, asP, asQ, asB, asI, obA, loadA, St.ev, St.step, setS, killS, AV.kill, AV.killL, Mem.kill, AV.cells, AV.flat, AV.single, Nat.reduceAdd, Nat.reduceEqDiff, Nat.reduceLeDiff, Int.reduceAdd, decide_eq_false c1]
  by_cases c2 : n ≤ y
  · simp only [wB, awp, asP, asQ, asN, obA, loadA, storeA, putsA, St.ev, St.step, setS, killS, AV.kill, AV.killL, Mem.kill, AV.cells, AV.flat, AV.single, AV.cellular, Nat.reduceAdd, Nat.reduceEqDiff, Nat.reduceLeDiff, Int.reduceAdd, decide_eq_true c2]
    have he : erS n lim ls t 1 x y 0 = 4 := by simp only [erS]; rw [if_neg c1, if_pos c2]
    refine aend_frz rfl ⟨?_, rfl⟩
    rw [he]
    rfl
  simp only [awp, ACond_false, decide_eq_false c2]
  have hxp : x.toNat < t.place.length := by omega
  have hxl : x.toNat < t.heats.length := by omega
  refine swp_draw (own := [4, 5, 8, 40]) (.take 0 .plain [] (.take 1 .reads [] (.take 2 .plain [] (.take 3 .reads [] (.take 4 .plain [] (.take 5 .reads [] (.take 6 .reads [] (.take 7 .plain [] (.alt 8 (.take 9 .plain [] (.done)) (.nil)))))))))) [⟨25, 16, 0, 0, true⟩, ⟨26, 16777216, 1, 0, true⟩, ⟨27, 32, 0, 0, true⟩, ⟨28, 67108864, 4, 0, true⟩, ⟨29, 4, 0, 0, true⟩, ⟨30, 402653184, 24, 0, true⟩, ⟨31, 536870912, 32, 0, true⟩, ⟨32, 8, 0, 0, true⟩, ⟨33, 3254779904, 194, 0, false⟩, ⟨34, 4294967296, 256, 0, true⟩] mo (by kernel_rfl) ?_
  simp only [wB, idxC, asP, asQ, asS, asI, obA, loadA, St.ev, setS, AV.cells, AV.flat, AV.single, Nat.reduceAdd, Nat.reduceEqDiff, Nat.reduceLeDiff, Int.reduceAdd, ASch, St.put, Md.mem, Md.need, aget_ints hxp]
  refine ⟨by omega, acall_v (s149 n ls t.place[x.toNat] y hls) (by simp [AV.pureL, AV.pure, prsA_pure]) rfl ?_⟩
  have he : erS n lim ls t 1 x y 0 = if lnk ls t.place[x.toNat] y = false then 8 else if memL t.place y = true then 6 else 0 := by
    simp only [erS, memL_eq]; rw [if_neg c1, if_neg c2, getD_eq hxp]
  cases c3 : lnk ls t.place[x.toNat] y with
  | false =>
    simp only [wB, awp, asP, asQ, asB, asN, obA, loadA, storeA, putsA, St.ev, St.step, setS, killS, AV.kill, AV.killL, Mem.kill, AV.cells, AV.flat, AV.single, AV.cellular, Nat.reduceAdd, Nat.reduceEqDiff, Nat.reduceLeDiff, Int.reduceAdd, ASch, St.put, Md.mem, Md.need]
    refine aend_frz rfl ⟨?_, rfl⟩
    rw [he, c3]
    rfl
  | true =>
  simp only [wB, awp, asP, asQ, asB, obA, loadA, St.ev, St.step, setS, killS, AV.kill, AV.killL, Mem.kill, AV.cells, AV.flat, AV.single, Nat.reduceAdd, Nat.reduceEqDiff, Nat.reduceLeDiff, Int.reduceAdd, ASch, St.put, Md.mem, Md.need]
  refine acall_v (s50 t.place y (by omega)) (by simp [AV.pureL, AV.pure, intsA_pure]) rfl ?_
  cases c4 : memL t.place y with
  | true =>
    simp only [wB, awp, asP, asQ, asB, asN, obA, loadA, storeA, putsA, St.ev, St.step, setS, killS, AV.kill, AV.killL, Mem.kill, AV.cells, AV.flat, AV.single, AV.cellular, Nat.reduceAdd, Nat.reduceEqDiff, Nat.reduceLeDiff, Int.reduceAdd]
    refine aend_frz rfl ⟨?_, rfl⟩
    rw [he, c3, c4]
    rfl
  | false =>
  have hst : (intsA t.place)[x.toNat]? = some (I t.place[x.toNat]) := by simp [intsA, hxp]
  simp only [wB, awp, idxC, asP, asQ, asO, asS, asB, asI, asN, obA, loadA, storeA, putsA, Aw.newRow, St.ev, St.step, setS, killS, AV.kill, AV.killL, Mem.kill, AV.cells, AV.flat, AV.single, AV.cellular, Value.oneCell', Nat.reduceAdd, Nat.reduceEqDiff, Nat.reduceMul, Nat.reduceLeDiff, Int.reduceAdd, Int.reduceMul, intsA_set', aget_ints hxp]
  refine ⟨⟨by decide, rfl⟩, ⟨by decide, by omega⟩, by omega, acall_v (s114 t.heats x ⟨hx, by omega⟩ (by omega) 3 (by omega) hI.hin) (by simp [AV.pureL, AV.pure, intsA_pure]) (by simp [AV.pure, intsA_pure]) ?_⟩
  simp only [wB, awp, binC, arithC, cmpC, asP, asQ, asI, asN, obA, loadA, storeA, putsA, St.ev, St.step, setS, killS, AV.kill, AV.killL, Mem.kill, AV.cells, AV.flat, AV.single, AV.cellular, Value.oneCell', Nat.reduceAdd, Nat.reduceEqDiff, Nat.reduceLeDiff, Int.reduceAdd, isU]
  refine ⟨by unfold Aw.lim; omega, aend_frz rfl ⟨?_, rfl⟩⟩
  rw [he, c3, c4]
  simp [frz, AV.sub, AV.subL, intsA_pure, stA, nxS]
end Go.Proofs.YtndniceeibflcaaGreatDoor

namespace Go.Proofs.YtndniceeibflcaaGreatDoor
open Aw Mp Go.RowKit
set_option linter.unusedSimpArgs false
set_option maxRecDepth 8000

theorem ok115 : okFn Tryz.prog 115 = true := by kernel_rfl
end Go.Proofs.YtndniceeibflcaaGreatDoor
