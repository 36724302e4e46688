/-
  Parts of several texts in one: AwT, AwF, AwK, AwL, AwG, AwH, AwI.
-/
import Derived.Test.YtndniceeibflcaaGreatDoorProg
import Derived.WalkKit
import Derived.Lib.ConvBytes
import Derived.LaidEql
import Derived.Lib.ItoaNum
import Derived.Lib.LaidTab
import Derived.KernelRfl
import GoSem.Claims
import GoSem.ClaimJoined
import Derived.Orders
import Derived.Laws.StructEq
import Derived.Maps.Keyed
import Derived.Lib.Strings
import Derived.Maps.AppendAt
import Derived.Laws.Concat
import Derived.MapKept
import Derived.Laws.MakeOwn
import Derived.Scope
import Derived.Test.YtndniceeibflcaaGreatDoorLaa
import Derived.Test.YtndniceeibflcaaGreatDoorLab
set_option linter.unusedSimpArgs false
set_option linter.unusedVariables false
namespace Go.Proofs.YtndniceeibflcaaGreatDoor
namespace Aw
end Aw
namespace Mp
end Mp
end Go.Proofs.YtndniceeibflcaaGreatDoor
namespace Go.Proofs.YtndniceeibflcaaGreatDoor
namespace Aw
open Go.RowKit

set_option maxHeartbeats 1000000
section
variable {A : Nat → Prop} {P : Program} {w : World} {hv : Nat → Option Value} {M : Mem} {a : Act} {K : Kont} {Q : Exit → Act → World → Prop} {ρ : Operand → AV}

/-- a map's block is written. -/
theorem mem_map {id b : Nat} {ob : Ob} {es es' : Array MapEntry} {clock clock' : Nat} {ks' : List Value} {xs' : List AV} (hM : MemR A w hv M) (hid : M[id]? = some (some ob)) (hb : hv id = some (.map (some b))) (hh : w.heap[b]? = some (.map es clock))
    (hk0 : ob.k = 0) (hk : es'.toList.map (·.key) = ks') (hx : RVL w (OwnA A hv) hv xs' (es'.toList.map (·.val))) (hst : Stamps es' clock') :
    MemR A { w with heap := w.heap.setIfInBounds b (.map es' clock') } hv (M.set id (some { ob with mp := some ks', xs := xs' })) ∧ StepR A w hv [] { w with heap := w.heap.setIfInBounds b (.map es' clock') } hv := by
  have hlt : b < w.heap.size := (Array.getElem?_eq_some_iff.1 hh).1
  have hoth : ∀ c, c ≠ b → ({ w with heap := w.heap.setIfInBounds b (.map es' clock') } : World).heap[c]? = w.heap[c]? := fun c hc => Array.getElem?_setIfInBounds_ne (Ne.symm hc)
  have hs : StepR A w hv [] { w with heap := w.heap.setIfInBounds b (.map es' clock') } hv :=
    ⟨⟨by simp, fun c _ hT => hoth c (by rintro rfl; exact hT ⟨id, _, hb, rfl⟩), fun _ _ h => h⟩, fun _ _ _ h => h, rfl, rfl, rfl, Nat.le_refl _⟩
  refine ⟨⟨fun i ob' h => ?_, fun i u h => ?_, hM.inj, fun b h => by have := hM.old b h; simpa using this, hs.gl hM.gl⟩, hs⟩
  · rw [setOb_get _ _ _ _ (List.getElem?_eq_some_iff.1 hid).1] at h
    by_cases hi : i = id
    · subst hi
      rw [if_pos rfl] at h
      simp only [Option.some.injEq] at h
      subst h
      refine ⟨_, hb, ObR.of_map (ob := { ob with mp := some ks', xs := xs' }) (ks := ks') rfl ⟨_, .inl ⟨hk0, b, es', clock', rfl, by simp [hlt], hk, rfl, hst⟩, ?_⟩⟩
      have := RVL_keep hs.keeps hs.hv _ _ hx
      rwa [AV.killL_nil] at this
    · rw [if_neg hi] at h
      obtain ⟨v1, h9, h10, h11⟩ := live_step hM hs (fun v' b' hi' hb' => hoth b' (by rintro rfl; exact hi (hM.inj i id _ _ _ hi' hb hb' rfl))) (by simp) h
      rw [Ob.kill_nil] at h11
      exact ⟨v1, h9, h11⟩
  · obtain ⟨o, ho⟩ := hM.dom i u h
    rw [setOb_get _ _ _ _ (List.getElem?_eq_some_iff.1 hid).1]
    by_cases hi : i = id
    · exact ⟨_, by rw [if_pos hi]⟩
    · exact ⟨o, by rw [if_neg hi]; exact ho⟩

theorem mapPut_ok {K : HK Kont} {o : Oper} {t : TypeId} {m x y : Operand} (hrun : ∀ u w', (Instr.mapUpdate t (a.eval m) (a.eval x) (a.eval y)).run P w = .ok u w' → (execOp a.eval o).run P w = .ok .skip w')
    (hρ : ∀ x, RV w (OwnA A hv) hv (ρ x) (a.eval x)) (hM : MemR A w hv M) (h : mapPut P t (ρ m) (ρ x) (ρ y) M (K := K)) : o.wp P a w (After A o a w hv K.k) Q := by
  obtain ⟨⟨kt, et⟩, id, kv, ob, ks, hmp, hm, hx, hid, hks, hk0, hf⟩ := h
  have hu := mapOf_eq hmp
  have hmv := hρ m
  rw [hm] at hmv
  simp only [RV, R] at hmv
  obtain ⟨v, hv1, e1, _⟩ := hmv
  injection e1 with e1
  obtain ⟨vals, ⟨_, b, es, clock, rfl, h1, rfl, rfl, hst0⟩ | ⟨hk1, _⟩, h3⟩ := (hM_ob hM hid hv1).map hks
  case inr => exact absurd hk0 hk1
  have hkv := valOf_eq hx (hρ x)
  obtain ⟨⟨l, hl⟩, hk, hfr⟩ := afind_run (w := w) hf
  have hck := hk.check w false hl
  have hlen := rvl_len _ _ h3
  rcases hfr with ⟨j, e, g1, g2, g3, hK⟩ | ⟨g1, hL⟩
  · have hst := hk.stays w hl
    have hr : (Instr.mapUpdate t (a.eval m) (a.eval x) (a.eval y)).run P w = .ok () { w with heap := w.heap.setIfInBounds b (.map (es.modify j fun e => { e with key := kv, val := a.eval y }) clock) } := by
      have g3' : ((es[j]?).map (·.key)).getD kv = kv := by rw [g2]; simp [g3]
      simp only [Instr.mapUpdate, Sem.run_bind, run_underlying hu, Result.andThen_ok, e1, MapKept.run_getObj_map h1, hkv, hck, g1, g3', hst, MapKept.run_setObj_map _ h1]
    obtain ⟨m1, m2⟩ := mem_map (es' := es.modify j fun e => { e with key := kv, val := a.eval y }) (clock' := clock) (ks' := es.toList.map (·.key)) (xs' := ob.xs.set j (ρ y)) hM hid hv1 h1 hk0 (by
      apply List.ext_getElem?
      intro i
      simp only [Array.toList_modify, List.getElem?_map, List.getElem?_modify]
      by_cases hij : j = i
      · subst hij
        have : es.toList[j]? = some e := by simpa using g2
        simp [this, g3]
      · simp [hij]) (by
      have := rvl_set ob.xs _ j (ρ y) (a.eval y) h3 (hρ y)
      have e : (es.modify j fun e => { e with key := kv, val := a.eval y }).toList.map (·.val) = (es.toList.map (·.val)).set j (a.eval y) := by
        apply List.ext_getElem?
        intro i
        simp only [Array.toList_modify, List.getElem?_map, List.getElem?_modify, List.getElem?_set, List.length_map]
        have hjl : j < es.toList.length := by simpa using (Array.getElem?_eq_some_iff.1 g2).1
        by_cases hij : j = i
        · subst hij
          have hjs : j < es.size := by simpa using hjl
          simp [hjs]
        · simp [hij]
      rw [e]
      exact this) (by
      have eb : (es.modify j fun e => { e with key := kv, val := a.eval y }).toList.map (·.born) = es.toList.map (·.born) := by
        apply List.ext_getElem?
        intro i
        simp only [Array.toList_modify, List.getElem?_map, List.getElem?_modify]
        cases es.toList[i]? with
        | none => rfl
        | some x => by_cases hij : j = i <;> simp [hij]
      refine ⟨fun x hx => ?_, by rw [eb]; exact hst0.2⟩
      have hm : x.born ∈ (es.modify j fun e => { e with key := kv, val := a.eval y }).toList.map (·.born) := List.mem_map.2 ⟨x, hx, rfl⟩
      rw [eb] at hm
      obtain ⟨y', hy', e'⟩ := List.mem_map.1 hm
      have := hst0.1 y' hy'
      omega)
    have hks' : ({ ob with mp := some (es.toList.map (·.key)), xs := ob.xs.set j (ρ y) } : Ob) = { ob with xs := ob.xs.set j (ρ y) } := by rw [← hks]
    rw [hks'] at m1
    exact wp_skip' (hrun _ _ hr) ⟨_, [], _, _, _, hK, rfl, m1, by simp [RV], m2⟩
  · have hr : (Instr.mapUpdate t (a.eval m) (a.eval x) (a.eval y)).run P w = .ok () { w with heap := w.heap.setIfInBounds b (.map (es.push { key := kv, val := a.eval y, born := clock }) (clock + 1)) } := by
      simp only [Instr.mapUpdate, Sem.run_bind, run_underlying hu, Result.andThen_ok, e1, MapKept.run_getObj_map h1, hkv, hck, g1, MapKept.run_setObj_map _ h1]
    obtain ⟨m1, m2⟩ := mem_map (es' := es.push { key := kv, val := a.eval y, born := clock }) (clock' := clock + 1) (ks' := es.toList.map (·.key) ++ [kv]) (xs' := ob.xs ++ [ρ y]) hM hid hv1 h1 hk0 (by simp) (by
      have := rvl_app _ _ _ _ h3 (show RVL w (OwnA A hv) hv [ρ y] [a.eval y] by simp only [RVL]; exact ⟨_, _, rfl, hρ y, rfl⟩)
      simpa using this) (by
      refine ⟨fun x hx => ?_, ?_⟩
      · simp only [Array.toList_push, List.mem_append, List.mem_singleton] at hx
        rcases hx with hx | rfl
        · have := hst0.1 x hx; omega
        · exact Nat.lt_succ_self _
      · simp only [Array.toList_push, List.map_append, List.map_cons, List.map_nil]
        rw [List.nodup_append]
        refine ⟨hst0.2, by simp, fun b hb c hc => ?_⟩
        simp only [List.mem_singleton] at hc
        subst hc
        obtain ⟨y', hy', e'⟩ := List.mem_map.1 hb
        have := hst0.1 y' hy'
        omega)
    exact wp_skip' (hrun _ _ hr) ⟨_, [], _, _, _, hL, rfl, m1, by simp [RV], m2⟩

theorem lookup_ok {K : HK Kont} {o : Oper} {t : TypeId} {m x : Operand} {ok : Bool} (ho : o.op = .lookup t m x ok) (hρ : ∀ x, RV w (OwnA A hv) hv (ρ x) (a.eval x)) (hM : MemR A w hv M)
    (h : ∃ ke id kv ob ks z, mapOf P t = some ke ∧ ρ m = .o id ∧ valOf (ρ x) = some kv ∧ M[id]? = some (some ob) ∧ ob.mp = some ks ∧ zeroA P ke.2 = some z ∧
      ob.k = 0 ∧ AFind P ke.1 ks kv (K := ⟨fun j => AGet ob.xs j (K := ⟨fun y => K.k (if ok then .t [y, B true] else y) [] M⟩)⟩) (L := ⟨K.k (if ok then .t [z, B false] else z) [] M⟩)) : o.wp P a w (After A o a w hv K.k) Q := by
  obtain ⟨⟨kt, et⟩, id, kv, ob, ks, z, hmp, hm, hx, hid, hks, hz, hk0, hf⟩ := h
  have hu := mapOf_eq hmp
  have hmv := hρ m
  rw [hm] at hmv
  simp only [RV, R] at hmv
  obtain ⟨v, hv1, e1, _⟩ := hmv
  injection e1 with e1
  obtain ⟨vals, ⟨_, b, es, clock, rfl, h1, rfl, rfl, hst0⟩ | ⟨hk1, _⟩, h3⟩ := (hM_ob hM hid hv1).map hks
  case inr => exact absurd hk0 hk1
  have hkv := valOf_eq hx (hρ x)
  obtain ⟨⟨l, hl⟩, hk, hfr⟩ := afind_run (w := w) hf
  have hck := hk.check w es.isEmpty hl
  rcases hfr with ⟨j, e, g1, g2, g3, y, hy, hK⟩ | ⟨g1, hL⟩
  · have hye : RV w (OwnA A hv) hv y e.val := rvl_at ob.xs _ j y e.val h3 hy (by simp [g2])
    refine after_same (v := if ok then .tuple #[e.val, .bool true] else e.val) ?_ hM ?_ hK
    · simp only [execOp, ho, Instr.lookup, Sem.run_bind, run_underlying hu, Result.andThen_ok, e1, MapKept.run_getObj_map h1, Sem.run_pure, hkv, hck, g1]
    · cases ok with
      | true => simp only [if_true, RV, RVL]; exact ⟨_, rfl, e.val, _, rfl, hye, _, _, rfl, rfl, rfl⟩
      | false => simpa using hye
  · obtain ⟨zv, hz1, hz2⟩ := zeroA_ok (w := w) (hv := hv) (T := OwnA A hv) hz
    refine after_same (v := if ok then .tuple #[zv, .bool false] else zv) ?_ hM ?_ hL
    · simp only [execOp, ho, Instr.lookup, Sem.run_bind, run_underlying hu, Result.andThen_ok, e1, MapKept.run_getObj_map h1, Sem.run_pure, hkv, hck, g1, hz1]
    · cases ok with
      | true => simp only [if_true, RV, RVL]; exact ⟨_, rfl, zv, _, rfl, hz2, _, _, rfl, rfl, rfl⟩
      | false => simpa using hz2

end

end Aw
end Go.Proofs.YtndniceeibflcaaGreatDoor

namespace Go.Proofs.YtndniceeibflcaaGreatDoor
namespace Aw
open Go.RowKit

set_option maxHeartbeats 1000000
section
variable {A : Nat → Prop} {P : Program} {w : World} {hv : Nat → Option Value} {M : Mem} {a : Act} {K : Kont} {Q : Exit → Act → World → Prop} {ρ : Operand → AV}

theorem core_sound {K : HK Kont} {own : List Nat} {o : Oper} (hρ : ∀ x, RV w (OwnA A hv) hv (ρ x) (a.eval x)) (hM : MemR A w hv M) (h : core P own o ρ M (K := K)) : o.wp P a w (After A o a w hv K.k) Q := by
  unfold core at h
  split at h
  · -- move
    rename_i x ho
    exact after_same (v := a.eval x) (by simp [execOp, ho]) hM (hρ x) h
  · -- assign
    rename_i x ho
    split at h
    · rename_i hx _
      split at h
      · rename_i ti hti
        split at h
        · rename_i e he
          split at h
          · rename_i te hte
            have hxv := hρ x
            rw [hx] at hxv
            simp only [RV] at hxv
            have hb : Bel w.heap.size w w := Bel.refl _ _
            obtain ⟨m1, m2⟩ := mem_add hM hb (ob := ⟨none, e, te.size, []⟩) (v := .slice none 0 0) (fun b hb => by simp [blk, Value.ownBlock] at hb) (fun hs => ObR.of_row rfl ⟨[], World.ownsRow_nil w 0 e te.size, by simp, by simp [RL]⟩)
            refine wp_value (v := .slice none 0 0) (w' := w) (by simp [execOp, ho, hxv]) ⟨_, [], _, _, _, h, rfl, m1, ?_, m2⟩
            simp only [RV, R]
            exact ⟨_, hvAdd_self _ _, rfl, rfl⟩
          · exact h.elim
        · exact h.elim
      · exact h.elim
    · exact after_same (v := a.eval x) (by simp [execOp, ho]) hM (hρ x) h
  · -- pick
    rename_i c x y ho
    split at h
    · rename_i b hb
      have hc := hρ c
      rw [hb] at hc
      simp only [RV] at hc
      cases b with
      | true => exact after_same (v := a.eval x) (by simp [execOp, ho, hc, asBool]) hM (hρ x) (h.1 rfl)
      | false => exact after_same (v := a.eval y) (by simp [execOp, ho, hc, asBool]) hM (hρ y) (h.2 rfl)
    · exact h.elim
  · -- box
    rename_i t x ho
    obtain ⟨h1, h2⟩ := h
    have hrun : (execOp a.eval o).run P w = .ok (.value (.pointer (some ⟨w.heap.size, 0, none⟩))) (w.alloc (.cells (a.eval x).cells t)) := by
      simp [execOp, ho, Instr.box, newVar, Go.newRow, newObj, Sem.run]
    split at h2
    · exact var_ok hM hrun (RV_R h1 (hρ x)) h2
    · exact box_ok hM hrun (RV_R h1 (hρ x)) h2.1 h2.2
  · -- alloc
    rename_i t ho
    split at h
    · rename_i ti hti
      obtain ⟨hc, hK⟩ := h
      obtain ⟨z, hz⟩ := zero_ok (w := w) (hv := hv) (T := OwnA A hv) hti
      rcases hz with ⟨hz1, hz2, hz3, hz4⟩ | ⟨hb1, hb2⟩
      · have hsz := R_size _ _ _ hz3
        have : (mkA ti.agg (ti.zero.map .v)).size = ti.size := by rw [← hsz]; simpa using hz4
        refine var_ok (v := z) (t := t) hM ?_ hz3 (by rw [this]; exact hK)
        simp [execOp, ho, Instr.alloc, hz1, newVar, Go.newRow, newObj, Sem.run]
      · simp [hb1, hb2] at hc
    · exact h.elim
  · -- load
    rename_i t x ho
    split at h
    · rename_i ti y off hti hx
      split at h
      · rename_i r hr
        have hxv := hρ x
        rw [hx] at hxv
        simp only [RV, R] at hxv
        obtain ⟨b, q, ws, e1, h1, b', o', e2, _, _, hc⟩ := hxv
        injection e1 with e1
        injection e2 with e2
        injection e2 with e2 e3
        subst e2; subst e3
        have h1' : R w (OwnA A hv) hv y ws := by
          have := R_keep (Keeps.refl w (OwnA A hv)) y [] noHv hv ws (fun i u _ h => by simp [noHv] at h) h1
          rwa [AV.kill_nil] at this
        obtain ⟨u, hu, hru⟩ := load_ok hti h1' hc hr
        exact after_same (v := u) (by simp [execOp, ho, Instr.loadAt, Instr.sureAddr, e1, hu]) hM hru h
      · exact h.elim
    · rename_i ti id k j off hti hx
      split at h
      · rename_i ob hob
        obtain ⟨rfl, y, hy, h⟩ := h
        have hj : j < ob.xs.length := (List.getElem?_eq_some_iff.1 hy).1
        have hyx : ob.xs.getD j .bot = y := by rw [List.getD_eq_getElem?_getD, hy]; rfl
        simp only at h
        split at h
        · rename_i r hr
          rw [← hyx] at hr
          have hxv := hρ x
          rw [hx] at hxv
          simp only [RV, R] at hxv
          obtain ⟨b, n, c, hb, e1⟩ := hxv
          injection e1 with e1
          obtain ⟨g, cap, ws, e2, h1, hc⟩ := ob_cells (hM_ob hM hob hb) (hM_ob hM hob hb).slice hj
          injection e2 with e2
          injection e2 with e2
          injection e2 with e2
          subst e2
          obtain ⟨u, hu, hru⟩ := load_ok hti h1 hc hr
          exact after_same (v := u) (by simp [execOp, ho, Instr.loadAt, Instr.sureAddr, e1, hu]) hM hru h
        · exact h.elim
      · exact h.elim
    · exact h.elim
  · -- store
    rename_i t x y ho
    split at h
    · rename_i ti id k j off hti hx
      split at h
      · rename_i ob hob
        obtain ⟨hk, z, hz, h⟩ := h
        have hj : j < ob.xs.length := (List.getElem?_eq_some_iff.1 hz).1
        have hzx : ob.xs.getD j .bot = z := by rw [List.getD_eq_getElem?_getD, hz]; rfl
        simp only at h
        split at h
        · rename_i r hr
          rw [← hzx] at hr
          have hxv := hρ x
          rw [hx] at hxv
          obtain ⟨w', hrun, m1, m2⟩ := store_ok hti hM hob hk hj hxv (hρ y) hr
          exact wp_skip' (w' := w') (by simp [execOp, ho, hrun]) ⟨_, [], _, _, _, h, rfl, m1, by simp [RV], m2⟩
        · exact h.elim
      · exact h.elim
    · exact h.elim
  · -- fieldAddr
    rename_i t x f ho
    split at h
    · rename_i ti y off hti hx
      split at h
      · rename_i fo fs hf
        obtain ⟨hfs, hK⟩ := h
        obtain ⟨Fs, F, hu, hF, rfl, hsz⟩ := ti_fld hti hf
        have hxv := hρ x
        rw [hx] at hxv
        simp only [RV, R] at hxv
        obtain ⟨b, q, ws, e1, h1, h2⟩ := hxv
        injection e1 with e1
        refine after_same (v := .pointer (some ⟨b, q + (off + F.offset), none⟩)) ?_ hM (by simp only [RV, R]; exact ⟨b, q, ws, rfl, h1, h2⟩) hK
        simp [execOp, ho, Instr.fieldAt, run_underlying hu, hF, Instr.sureAddr, e1, fieldPlace, run_sizeOf' hsz hfs, hfs, Addr.add_lit, Nat.add_assoc]
      · exact h.elim
    · rename_i ti id k j off hti hx
      split at h
      · rename_i fo fs hf
        obtain ⟨hfs, hK⟩ := h
        obtain ⟨Fs, F, hu, hF, rfl, hsz⟩ := ti_fld hti hf
        have hxv := hρ x
        rw [hx] at hxv
        simp only [RV, R] at hxv
        obtain ⟨b, n, c, hb, e1⟩ := hxv
        injection e1 with e1
        refine after_same (v := .pointer (some ⟨b, j * k + (off + F.offset), none⟩)) ?_ hM (by simp only [RV, R]; exact ⟨b, n, c, hb, rfl⟩) hK
        simp [execOp, ho, Instr.fieldAt, run_underlying hu, hF, Instr.sureAddr, e1, fieldPlace, run_sizeOf' hsz hfs, hfs, Addr.add_lit, Nat.add_assoc]
      · exact h.elim
    · exact h.elim
  · -- indexAddr
    rename_i t x i ho
    split at h
    · rename_i k n hi
      have hiv := hρ i
      rw [hi] at hiv
      simp only [RV] at hiv
      obtain ⟨u, r, hr, hru, hK⟩ := idx_ok (P := P) (k := k) hM (hρ x) h
      exact after_same (v := u) (by simp [execOp, ho, hiv, hr]) hM hru hK
    · exact h.elim
  · -- binOp
    rename_i op ty x y yt ho
    obtain ⟨u, r, hr, hru, hK⟩ := bin_ok (ox := x) (oy := y) (c := isC y) (fun hc => by cases y <;> simp [isC] at hc; exact ⟨_, rfl⟩) (hρ x) (hρ y) h
    refine after_same (v := u) ?_ hM hru hK
    simp only [execOp, ho, Sem.run_bind, Sem.run_pure] at hr ⊢
    rw [hr]
    rfl
  · -- convert
    rename_i s d x ho
    split at h
    · rename_i k n hn
      split at h
      · rename_i k1 k2 hs hd
        have hxv := hρ x
        rw [hn] at hxv
        simp only [RV] at hxv
        have hs' : ∃ q, P.underlying s = some (.int q) := by unfold intOf at hs; split at hs <;> simp_all
        have hd' : P.underlying d = some (.int k2) := by unfold intOf at hd; split at hd <;> simp_all
        obtain ⟨q, hs'⟩ := hs'
        exact after_same (v := .int k2 (k2.wrap n)) (by simp [execOp, ho, hxv, convert, run_underlying hs', run_underlying hd', Conv.intToInt]) hM (by simp only [RV]) h
      · exact h.elim
    · rename_i b hb
      split at h
      · rename_i ti hti
        split at h
        · rename_i e he
          obtain ⟨⟨h1, h2, h3⟩, hK⟩ := h
          have hxv := hρ x
          rw [hb] at hxv
          simp only [RV] at hxv
          obtain ⟨u, hs⟩ := Option.isSome_iff_exists.1 h2
          have hd := ti_elem hti he
          have he' : P.underlying e = some (.int .u8) := by unfold intOf at h1; split at h1 <;> simp_all
          have hl : b.toList = b.data.toList := ByteArray.toList_eq b
          have hl2 : b.data.toList.length = b.size := by cases b; rfl
          have hbel : Bel w.heap.size w (Lib.bytesWorld w e b) := ⟨⟨rfl, rfl, rfl, by rw [Lib.bytesWorld_size]; exact Nat.le_succ _, fun j hj => Lib.bytesWorld_at_old w e b j hj⟩, dr_bytes w e b⟩
          obtain ⟨m1, m2⟩ := mem_keep hM hbel
          refine wp_value (v := .slice (some ⟨w.heap.size, 0, none⟩) b.size (grownCap w b.size 0 e)) (w' := Lib.bytesWorld w e b) (by simp only [execOp, ho, hxv, Sem.run_bind, Lib.run_convert_string_bytes w s d e b hs hd he', Result.andThen_ok, Sem.run_pure]) ⟨_, [], _, _, _, hK, rfl, m1, ?_, m2⟩
          simp only [RV, R]
          have hbl : (bytesA b.toList).length = b.size := by rw [hl]; simp [bytesA, hl2]
          refine ⟨_, _, b.data.toList.map (fun c => Value.int .u8 c.toNat), by rw [hbl], by rw [hbl]; exact grownCap_ge w b.size 0 e, grownCap_le_maxLen w b.size 0 e (by simp only [maxLen]; rw [hl, hl2] at h3; omega), by intro x hx; simp only [bytesA, List.mem_map] at hx; obtain ⟨q, _, rfl⟩ := hx; rfl, ?_, fun _ => ⟨w.heap.size, 0, rfl, by rw [Lib.bytesWorld_size]; exact Nat.lt_succ_self _, fun ho => ?_, fun j u hu => ?_⟩⟩
          · rw [hl]
            have key : ∀ l : List UInt8, RL (Lib.bytesWorld w e b) (OwnA A hv) noHv (bytesA l) (l.map fun c => Value.int .u8 c.toNat) := by
              intro l
              induction l with
              | nil => simp [bytesA, RL]
              | cons c l ih =>
                simp only [bytesA, List.map_cons, RL] at ih ⊢
                exact ⟨[_], _, rfl, ⟨rfl, rfl⟩, ih⟩
            exact key _
          · exact absurd (hM.lt ho) (Nat.lt_irrefl _)
          · have hj : j < b.size := by
              have := (List.getElem?_eq_some_iff.1 hu).1
              simp only [List.length_map] at this
              omega
            rw [List.getElem?_map, List.getElem?_eq_getElem (by omega)] at hu
            simp only [Option.map_some, Option.some.injEq] at hu
            rw [Nat.zero_add, Lib.bytesWorld_cell w e b j hj, ← hu]
            simp [List.getD_eq_getElem?_getD, List.getElem?_eq_getElem (show j < b.data.toList.length by omega)]
        · exact h.elim
      · exact h.elim
    · exact h.elim
  · -- index
    rename_i t x i ho
    split at h
    · rename_i ti b k n hti hx hi
      obtain ⟨⟨h1, h2, h3⟩, hK⟩ := h
      have hxv := hρ x
      have hiv := hρ i
      rw [hx] at hxv
      rw [hi] at hiv
      simp only [RV] at hxv hiv
      have hl : b.toList = b.data.toList := ByteArray.toList_eq b
      have hl2 : b.data.toList.length = b.size := by cases b; rfl
      rw [hl, hl2] at h3
      refine after_same (v := .int .u8 (b.toList.getD n.toNat 0).toNat) ?_ hM (by simp only [RV]) hK
      have hr := run_index_string (P := P) w t b k n (ti_str hti h1)
      rw [dif_pos ⟨h2, h3⟩] at hr
      simp only [execOp, ho, hxv, hiv, Sem.run_bind, hr, Result.andThen_ok, Sem.run_pure]
      congr 4
      rw [hl, List.getD_eq_getElem?_getD, List.getElem?_eq_getElem (show n.toNat < b.data.toList.length by omega)]
      cases b; rfl
    · rename_i ti xs k n hti hx hi
      split at h
      · rename_i m e ha
        split at h
        · rename_i te hte
          obtain ⟨⟨h1, h2, h3, h4, h5⟩, y, hy, hK⟩ := h
          have hu := ti_arr hti ha
          have hxv := hρ x
          have hiv := hρ i
          rw [hx] at hxv
          rw [hi] at hiv
          simp only [RV] at hxv hiv
          obtain ⟨cs, hcs, hl⟩ := hxv
          have hf : ∀ x ∈ xs, x.size = 1 := fun x hx => AV.size_single (List.all_eq_true.1 h5 x hx)
          obtain ⟨u, hu1, hu2⟩ := cell_at hf hl hy
          have hs1 := ti_size hte w
          rw [h3] at hs1
          have hag := ti_agg hte w
          rw [h4] at hag
          refine after_same (v := u) ?_ hM (R_RV (List.all_eq_true.1 h5 y (List.mem_of_getElem? hy)) hu2) hK
          have hu1' : cs[n.toNat]? = some u := by simpa using hu1
          simp [execOp, ho, hcs, hiv, Instr.index, asIntOf, run_underlying hu, h1, h2, hs1, part, hag, hu1']
        · exact h.elim
      · exact h.elim
    · exact h.elim
  · -- makeInterface
    rename_i t x ho
    split at h
    · rename_i v hv1
      obtain ⟨h1, hK⟩ := h
      have hxv : a.eval x = v := valOf_eq hv1 (hρ x)
      refine after_same (v := .iface t v) ?_ hM (by simp only [RV]) hK
      unfold conc at h1
      have : (Instr.makeInterface t v).run P w = .ok (.iface t v) w := by
        split at h1
        · cases h1
        · rename_i u hne hu
          unfold Instr.makeInterface
          simp only [Sem.run_bind, run_underlying hu, Result.andThen_ok]
          cases u <;> first | rfl | exact (hne _ rfl).elim
        · cases h1
      simp only [execOp, ho, hxv, Sem.run_bind, this, Result.andThen_ok, Sem.run_pure]
    · exact h.elim
  · -- not
    rename_i ty x ho
    split at h
    · rename_i b hb
      have hxv := hρ x
      rw [hb] at hxv
      simp only [RV] at hxv
      exact after_same (v := .bool (!b)) (by simp [execOp, ho, hxv, Op.unary]) hM (by simp only [RV]) h
    · exact h.elim
  · -- neg
    rename_i ty x ho
    split at h
    · rename_i n hn
      obtain ⟨h1, hK⟩ := h
      have hxv := hρ x
      rw [hn] at hxv
      simp only [RV] at hxv
      simp only [lim] at h1
      exact after_same (v := .int .i64 (-n)) (by simp [execOp, ho, hxv, Op.unary, Op.intArith, IntWalk.i64_in _ h1]) hM (by simp only [RV]) hK
    · exact h.elim
  · -- build
    rename_i t parts ho
    split at h
    · rename_i ti hti
      split at h
      · rename_i cells hc
        obtain ⟨⟨h1, h2⟩, hK⟩ := h
        obtain ⟨v, hr, hru⟩ := build_ok hρ hti h1 h2 hc
        exact after_same (v := v) (by simp only [execOp, ho, Sem.run_bind, hr, Result.andThen_ok, Sem.run_pure]) hM hru hK
      · exact h.elim
    · exact h.elim
  · -- buildSlice
    rename_i t n parts ho
    split at h
    · rename_i ti hti
      split at h
      · rename_i e he
        split at h
        · rename_i te hte
          obtain ⟨h1, h2⟩ := h
          split at h2
          · exact buildSlice_own ho hρ hM hti he hte h1 h2
          · exact buildSlice_per ho hρ hM hti he hte h1 h2.1 h2.2
        · exact h.elim
      · exact h.elim
    · exact h.elim
  · -- extract
    rename_i x i ho
    split at h
    · rename_i xs hx
      split at h
      · rename_i r hr
        have hxv := hρ x
        rw [hx] at hxv
        simp only [RV] at hxv
        obtain ⟨vs, e1, hvs⟩ := hxv
        have hat : ∀ (l : List AV) (us : List Value) (i : Nat) (r : AV), RVL w (OwnA A hv) hv l us → l[i]? = some r → ∃ u, us[i]? = some u ∧ RV w (OwnA A hv) hv r u := by
          intro l
          induction l with
          | nil => intro us i r _ h; simp at h
          | cons y l ih =>
            intro us i r h1 h2
            simp only [RVL] at h1
            obtain ⟨u, us, rfl, h3, h4⟩ := h1
            cases i with
            | zero => simp at h2; subst h2; exact ⟨u, by simp, h3⟩
            | succ i => simp at h2; obtain ⟨u', h5, h6⟩ := ih us i r h4 h2; exact ⟨u', by simpa using h5, h6⟩
        obtain ⟨u, hu, hru⟩ := hat xs _ i r hvs hr
        have hu' : vs[i]? = some u := by simpa using hu
        exact after_same (v := u) (by simp [execOp, ho, Instr.extract, e1, hu']) hM hru h
      · exact h.elim
    · exact h.elim
  · -- field
    rename_i t x f ho
    split at h
    · rename_i ti xs hti hx
      split at h
      · rename_i fo fs ft hf hft
        split at h
        · rename_i tf htf
          split at h
          · rename_i r hr
            obtain ⟨Fs, F, hu, hF, rfl, rfl⟩ := ti_fty hti hf hft
            have hxv := hρ x
            rw [hx] at hxv
            simp only [RV] at hxv
            obtain ⟨cs, e1, hcs⟩ := hxv
            obtain ⟨u, hu1, hru⟩ := part_ok htf hcs hr
            exact after_same (v := u) (by simp [execOp, ho, Instr.field, run_underlying hu, hF, e1, asAgg, hu1]) hM hru h
          · exact h.elim
        · exact h.elim
      · exact h.elim
    · exact h.elim
  · -- slice
    rename_i t x lo hi ho
    obtain ⟨u, r, hr, hru, hK⟩ := slice_ok (P := P) hρ (hρ x) h
    exact after_same (v := u) (by simp [execOp, ho, hr]) hM hru hK
  · -- makeFunc
    rename_i fn first cap ho
    obtain ⟨⟨h1, h2⟩, hK⟩ := h
    have hf : first = #[] := Array.eq_empty_of_size_eq_zero h1
    subst hf
    simp only [List.all_eq_true, Bool.and_eq_true] at h2
    refine after_same (v := .func fn #[] (cap.map a.eval)) (by simp [execOp, ho, Instr.makeFunc]) hM ?_ hK
    simp only [RV, R]
    refine ⟨cap.map a.eval, rfl, fun y hy => by obtain ⟨x, hx, rfl⟩ := List.mem_map.1 hy; exact (h2 x hx).2, ?_⟩
    have key : ∀ l : List Operand, (∀ x ∈ l, (ρ x).cellular = true ∧ (ρ x).single = true) → RL w (OwnA A hv) hv (l.map ρ) (l.map a.eval) := by
      intro l
      induction l with
      | nil => intro _; simp [RL]
      | cons x l ih =>
        intro h
        simp only [List.map_cons, RL]
        exact ⟨[a.eval x], _, rfl, RV_R1 (h x List.mem_cons_self).2 (h x List.mem_cons_self).1 (hρ x), ih fun y hy => h y (List.mem_cons_of_mem _ hy)⟩
    rw [Array.toList_map]
    exact key cap.toList h2
  · -- nilCheck
    rename_i x ho
    split at h
    · rename_i y off hx
      have hxv := hρ x
      rw [hx] at hxv
      have hxv0 := hxv
      simp only [RV, R] at hxv
      obtain ⟨b, q, ws, e1, _⟩ := hxv
      injection e1 with e1
      rw [e1] at hxv0
      exact after_same (by simp [execOp, ho, e1]) hM hxv0 h
    · rename_i id k j off hx
      have hxv := hρ x
      rw [hx] at hxv
      have hxv0 := hxv
      simp only [RV, R] at hxv
      obtain ⟨b, n, c, _, e1⟩ := hxv
      injection e1 with e1
      rw [e1] at hxv0
      exact after_same (by simp [execOp, ho, e1]) hM hxv0 h
    · exact h.elim
  · -- makeMap
    rename_i t ho
    obtain ⟨_, hK⟩ := h
    obtain ⟨m1, m2⟩ := mem_add hM (own_lit w (.map #[] 0)) (ob := ⟨some [], t, 0, []⟩) (v := .map (some w.heap.size)) (fun b hb => by simp [blk] at hb; omega)
      (fun hs => ObR.of_map (ks := []) rfl ⟨[], .inl ⟨rfl, w.heap.size, #[], 0, rfl, heap_alloc_new w _, by simp, by simp, by simp [Stamps]⟩, by simp [RVL]⟩)
    refine wp_value (v := .map (some w.heap.size)) (w' := w.alloc (.map #[] 0)) (by simp [execOp, ho, Instr.makeMap, newObj, Sem.run]) ⟨_, [], _, _, _, hK, rfl, m1, ?_, m2⟩
    simp only [RV, R]
    exact ⟨_, hvAdd_self _ _, rfl, rfl⟩
  · -- lookup
    rename_i t m x ok ho
    exact lookup_ok ho hρ hM h
  · -- mapUpdate
    rename_i t m x y ho
    exact mapPut_ok (fun u w' hr => by simp [execOp, ho, hr]) hρ hM h
  · -- insert
    rename_i t m x y ho
    exact mapPut_ok (fun u w' hr => by simp [execOp, ho, hr]) hρ hM h
  · -- makeSlice
    rename_i t l c ho
    obtain ⟨ti, e, te, z, k, k', n, hti, he, hte, hz, hag, hl, hc, ⟨h0, h1, h2, h3⟩, hK⟩ := h
    have hu := ti_elem hti he
    obtain ⟨i, d, z', hi, hd, hz', hz1, hz2, _, hsz, hby, hzero, _⟩ := tiOf_spec hte
    have hlv := hρ l
    have hcv := hρ c
    rw [hl] at hlv
    rw [hc] at hcv
    simp only [RV] at hlv hcv
    have hsz1 : i.size = 1 := by omega
    have hrun := run_makeSlice w t e i z' hu hi hz' k k' n n h0 (Int.le_refl _) (by rw [hsz1]; omega) (by
      have : (i.bytes : Int) ≤ 1000 := by omega
      have : (i.bytes : Int) * n ≤ 1000 * 1000000 := Int.mul_le_mul this h1 h0 (by omega)
      omega) (by omega)
    have hzc : z'.cells = #[z] := by
      rw [hzero] at hz
      exact arr1 hz
    have hmc : (madeCells z'.cells (n.toNat * i.size)).toList = List.replicate n.toNat z := by
      rw [hsz1, Nat.mul_one, hzc]
      apply List.ext_getElem
      · simp [madeCells]
      · intro m h1 h2
        simp [madeCells, Nat.mod_one]
    obtain ⟨m1, m2⟩ := mem_add hM (own_lit w (.cells (madeCells z'.cells (n.toNat * i.size)) e)) (ob := ⟨none, e, 1, List.replicate n.toNat (.v z)⟩) (v := .slice (some ⟨w.heap.size, 0, none⟩) n.toNat n.toNat) (fun b hb => by simp [blk, Value.ownBlock] at hb; omega)
      (fun hs => ObR.of_row rfl ⟨List.replicate n.toNat z, by
        rw [← hmc]; simp only [List.length_replicate]
        exact row_new e 1 n.toNat _ (by simp [madeCells, hsz1]) (by simp only [maxLen]; omega), by intro x hx; simp only [List.mem_replicate] at hx; rw [hx.2]; rfl, by
        have := rl_vals (w := w.alloc (.cells (madeCells z'.cells (n.toNat * i.size)) e)) (hv := hvAdd hv M.length (.slice (some ⟨w.heap.size, 0, none⟩) n.toNat n.toNat)) (T := OwnA A (hvAdd hv M.length (.slice (some ⟨w.heap.size, 0, none⟩) n.toNat n.toNat))) (List.replicate n.toNat z) (fun u hu => by
          simp only [List.mem_replicate] at hu
          rw [hu.2]
          exact hz2 z (by rw [hzc]; simp))
        simpa using this⟩)
    refine wp_value (v := .slice (some ⟨w.heap.size, 0, none⟩) n.toNat n.toNat) (w' := w.alloc (.cells (madeCells z'.cells (n.toNat * i.size)) e)) (by simp only [execOp, ho, hlv, hcv, Sem.run_bind, hrun, Result.andThen_ok, Sem.run_pure]) ⟨_, [], _, _, _, hK, rfl, m1, ?_, m2⟩
    simp only [RV, R]
    exact ⟨_, hvAdd_self _ _, rfl, rfl⟩
  · -- call
    rename_i c ho
    exact callA_sound ho hρ hM h
  · exact h.elim
end

end Aw
end Go.Proofs.YtndniceeibflcaaGreatDoor

namespace Go.Proofs.YtndniceeibflcaaGreatDoor
namespace Aw
open Go.RowKit

def AOpt {α : Type} (x : Option α) [K : HK (α → Prop)] : Prop := match x with | some a => K.k a | none => False
def AAlt {α : Type} (x : Option α) [K : HK (α → Prop)] [L : HK Prop] : Prop := match x with | some a => K.k a | none => L.k
theorem AOpt_some {α : Type} (a : α) (K : HK (α → Prop)) : @AOpt α (some a) K = K.k a := rfl
theorem AAlt_some {α : Type} (a : α) (K : HK (α → Prop)) (L : HK Prop) : @AAlt α (some a) K L = K.k a := rfl
theorem AAlt_none {α : Type} (K : HK (α → Prop)) (L : HK Prop) : @AAlt α none K L = L.k := rfl
def asP : AV → Option (AV × Nat) | .p y off => some (y, off) | _ => none
def asQ : AV → Option (Nat × Nat × Nat × Nat) | .q i k j off => some (i, k, j, off) | _ => none
def asO : AV → Option Nat | .o i => some i | _ => none
def asS : AV → Option (Nat × List AV) | .s k xs => some (k, xs) | _ => none
def asT : AV → Option (List AV) | .t xs => some xs | _ => none
def asG : AV → Option (List AV) | .g xs => some xs | _ => none
def asF : AV → Option (FuncId × List AV) | .f (.func f) cap => some (f, cap) | _ => none
def asB : AV → Option Bool | .v (.bool b) => some b | _ => none
def asI : AV → Option (IntKind × Int) | .v (.int k n) => some (k, n) | _ => none
def asN : AV → Option Unit | .v (.slice none 0 0) => some () | _ => none
def asE : AV → Option Unit | .v (.slice none _ _) => some () | _ => none
def isNP : AV → Option Unit | .v (.pointer none) => some () | _ => none
def isNI : AV → Option Unit | .v .nilIface => some () | _ => none
def isU : IntKind → Bool | .u64 => true | .u8 => true | _ => false
/-- an object. -/
def obA (M : Mem) (i : Nat) : Option Ob := match M[i]? with | some (some ob) => some ob | _ => none

/-- a number's operation. -/
def arithC (op : BinOp) (a b : Int) [K : HK (AV → Prop)] : Prop :=
  match op with
  | .add => lim (a + b) ∧ K.k (I (a + b))
  | .sub => lim (a - b) ∧ K.k (I (a - b))
  | .mul => lim (a * b) ∧ K.k (I (a * b))
  | .quo => (b ≠ 0 ∧ lim (a.tdiv b)) ∧ K.k (I (a.tdiv b))
  | .rem => b ≠ 0 ∧ K.k (I (a.tmod b))
  | .shl => (0 ≤ b ∧ b ≤ 62 ∧ lim (a * 2 ^ b.toNat)) ∧ K.k (I (a * 2 ^ b.toNat))
  | .shr => (0 ≤ b ∧ b ≤ 62) ∧ K.k (I (a / 2 ^ b.toNat))
  | .and => (0 ≤ a ∧ 0 ≤ b ∧ lim a ∧ lim b) ∧ K.k (I ((a.toNat &&& b.toNat : Nat) : Int))
  | .or => (0 ≤ a ∧ 0 ≤ b ∧ lim a ∧ lim b) ∧ K.k (I ((a.toNat ||| b.toNat : Nat) : Int))
  | _ => False

def arithU (k : IntKind) (op : BinOp) (a b : Int) [K : HK (AV → Prop)] : Prop :=
  match op with
  | .rem => (k = .u64 ∧ b ≠ 0) ∧ K.k (.v (.int .u64 (a.tmod b)))
  | .add => k = .u64 ∧ K.k (.v (.int .u64 (IntKind.u64.wrap (a + b))))
  | .sub => k = .u8 ∧ K.k (.v (.int .u8 (IntKind.u8.wrap (a - b))))
  | _ => False

def strC (op : BinOp) (a b : List UInt8) [K : HK (AV → Prop)] : Prop :=
  AAlt (eqC op (decide (a = b))) (K := ⟨fun r => K.k (B r)⟩) (L := ⟨(op = .add ∧ a.length + b.length ≤ 9223372036854775807) ∧ K.k (S (a ++ b))⟩)

def cmpC (op : BinOp) (a b : Int) : Option Bool :=
  match op with
  | .lss => some (decide (a < b))
  | .leq => some (decide (a ≤ b))
  | .gtr => some (decide (b < a))
  | .geq => some (decide (b ≤ a))
  | .eql => some (decide (a = b))
  | .neq => some (!decide (a = b))
  | _ => none

def binC (P : Program) (op : BinOp) (ty : TypeId) (x y : AV) (c : Bool) [K : HK (AV → Prop)] : Prop :=
  AAlt (asI x) (K := ⟨fun kx => AOpt (asI y) (K := ⟨fun ky => AAlt (cmpC op kx.2 ky.2) (K := ⟨fun b => kx.1 = ky.1 ∧ K.k (B b)⟩) (L := ⟨@ACond (isU kx.1) ⟨ky.1 = kx.1 ∧ arithU kx.1 op kx.2 ky.2 (K := K)⟩ ⟨(kx.1 = .i64 ∧ ky.1 = (match op with | .shl => ky.1 | .shr => ky.1 | _ => .i64)) ∧ arithC op kx.2 ky.2 (K := K)⟩⟩)⟩)⟩) (L := ⟨
  AAlt (asB x) (K := ⟨fun a => AOpt (asB y) (K := ⟨fun b => AOpt (tiOf P ty) (K := ⟨fun ti => ti.bool = true ∧ AOpt (eqC op (a == b)) (K := ⟨fun r => K.k (B r)⟩)⟩)⟩)⟩) (L := ⟨
  AAlt (asG x) (K := ⟨fun xs => AOpt (asG y) (K := ⟨fun ys => AOpt (tiOf P ty) (K := ⟨fun ti => AOpt (ints xs) (K := ⟨fun aS => AOpt (ints ys) (K := ⟨fun bs =>
    (ti.eqn = true ∧ aS.length = ti.flds.length ∧ bs.length = ti.flds.length) ∧ AOpt (eqC op (decide (aS = bs))) (K := ⟨fun r => K.k (B r)⟩)⟩)⟩)⟩)⟩)⟩) (L := ⟨
  AAlt (asStr x) (K := ⟨fun a => AOpt (asStr y) (K := ⟨fun b => strC op a b (K := K)⟩)⟩) (L := ⟨
  AAlt (ptrN x) (K := ⟨fun b => AOpt (isNP y) (K := ⟨fun _ => AOpt (eqC op b) (K := ⟨fun r => nilT P ty = some true ∧ K.k (B r)⟩)⟩)⟩) (L := ⟨
  AAlt (ifcN x) (K := ⟨fun b => AOpt (isNI y) (K := ⟨fun _ => AOpt (eqC op b) (K := ⟨fun r => (c = true ∧ nilT P ty = some false) ∧ K.k (B r)⟩)⟩)⟩) (L := ⟨
  AOpt (asS x) (K := ⟨fun kxs => AOpt (asE y) (K := ⟨fun _ => AOpt (tiOf P ty) (K := ⟨fun ti => (op = .eql ∧ ti.elem.isSome = true) ∧ ∀ b : Bool, (b = true → kxs.2 = []) → K.k (B b)⟩)⟩)⟩)⟩)⟩)⟩)⟩)⟩)⟩)

theorem AOpt_elim0 {α : Type} {x : Option α} {K : HK (α → Prop)} (h : @AOpt α x K) : ∃ a, x = some a ∧ K.k a := by
  cases x with
  | none => exact h.elim
  | some a => exact ⟨a, rfl, h⟩
theorem asStr_eq {x : AV} {l : List UInt8} (h : asStr x = some l) : ∃ b : ByteArray, x = .v (.string b) ∧ l = b.toList := by
  unfold asStr at h
  split at h
  · injection h with h; exact ⟨_, rfl, h.symm⟩
  · cases h
theorem isNP_eq {x : AV} {u : Unit} (h : isNP x = some u) : x = .v (.pointer none) := by unfold isNP at h; split at h <;> simp_all
theorem isNI_eq {x : AV} {u : Unit} (h : isNI x = some u) : x = .v .nilIface := by unfold isNI at h; split at h <;> simp_all

theorem binC_binA {P : Program} {op : BinOp} {ty : TypeId} {x y : AV} {c : Bool} {K : HK (AV → Prop)} (h : binC P op ty x y c (K := K)) : binA P op ty x y c (K := K) := by
  unfold binC at h
  cases hx : asI x with
  | some kx =>
    obtain ⟨k, a⟩ := kx
    have ex : x = .v (.int k a) := by unfold asI at hx; split at hx <;> simp_all
    subst ex
    simp only [hx, AAlt_some] at h
    cases hy : asI y with
    | some ky =>
      obtain ⟨k', b⟩ := ky
      have ey : y = .v (.int k' b) := by unfold asI at hy; split at hy <;> simp_all
      subst ey
      simp only [hy, AOpt_some] at h
      cases hu : isU k with
      | true =>
        have ek : k = .u64 ∨ k = .u8 := by unfold isU at hu; split at hu <;> simp_all
        cases op <;> simp only [cmpC, AAlt_some, AAlt_none, hu, ACond_true, arithU] at h <;> first
          | exact h
          | exact h.2.elim
          | (obtain ⟨rfl, ⟨rfl, h0⟩, h⟩ := h; exact ⟨h0, h⟩)
          | (obtain ⟨rfl, rfl, h⟩ := h; exact h)
          | (obtain ⟨rfl, h⟩ := h; rcases ek with rfl | rfl <;> exact ⟨rfl, h⟩)
      | false =>
        cases op <;> simp only [cmpC, AAlt_some, AAlt_none, hu, ACond_false, arithC] at h <;> first
          | exact h
          | (obtain ⟨⟨rfl, rfl⟩, h⟩ := h; exact h)
          | (obtain ⟨⟨rfl, _⟩, h⟩ := h; exact h)
          | exact h.2.elim
    | none => rw [hy] at h; exact h.elim
  | none =>
    simp only [hx, AAlt_none] at h
    cases hb : asB x with
    | some a =>
      have ex : x = .v (.bool a) := by unfold asB at hb; split at hb <;> simp_all
      subst ex
      simp only [hb, AAlt_some] at h
      cases hy : asB y with
      | some b =>
        have ey : y = .v (.bool b) := by unfold asB at hy; split at hy <;> simp_all
        subst ey
        simp only [hy, AOpt_some] at h
        cases ht : tiOf P ty with
        | none => rw [ht] at h; exact h.elim
        | some ti =>
          rw [ht] at h
          simp only [AOpt_some] at h
          obtain ⟨h1, h2⟩ := h
          cases op <;> first | exact h2.elim | (simp only [binA, ht]; exact ⟨h1, h2⟩)
      | none => rw [hy] at h; exact h.elim
    | none =>
      simp only [hb, AAlt_none] at h
      cases hg : asG x with
      | some xs =>
        have ex : x = .g xs := by unfold asG at hg; split at hg <;> simp_all
        subst ex
        simp only [hg, AAlt_some] at h
        cases hy : asG y with
        | some ys =>
          have ey : y = .g ys := by unfold asG at hy; split at hy <;> simp_all
          subst ey
          simp only [hy, AOpt_some] at h
          cases ht : tiOf P ty with
          | none => rw [ht] at h; exact h.elim
          | some ti =>
            rw [ht] at h
            simp only [AOpt_some] at h
            cases ha : ints xs with
            | none => rw [ha] at h; exact h.elim
            | some aS =>
              rw [ha] at h
              simp only [AOpt_some] at h
              cases hbs : ints ys with
              | none => rw [hbs] at h; exact h.elim
              | some bs =>
                rw [hbs] at h
                simp only [AOpt_some] at h
                obtain ⟨h1, h2⟩ := h
                cases op <;> first | exact h2.elim | (simp only [binA, ht, ha, hbs]; exact ⟨h1, h2⟩)
        | none => rw [hy] at h; exact h.elim
      | none =>
        simp only [hg, AAlt_none] at h
        cases hstr : asStr x with
        | some a =>
          obtain ⟨a, rfl, rfl⟩ := asStr_eq hstr
          simp only [hstr, AAlt_some] at h
          obtain ⟨b', hy, h⟩ := AOpt_elim0 h
          obtain ⟨b, rfl, rfl⟩ := asStr_eq hy
          have h : strC op a.toList b.toList (K := K) := h
          have : strA op a.toList b.toList (K := K) := by
            unfold strC at h
            unfold strA
            cases he : eqC op (decide (a.toList = b.toList)) with
            | some r => rw [he] at h; exact h
            | none => rw [he] at h; exact h
          unfold binA
          cases op <;> exact this
        | none =>
        simp only [hstr, AAlt_none] at h
        cases hpn : ptrN x with
        | some b =>
          simp only [hpn, AAlt_some] at h
          obtain ⟨_, hy, h⟩ := AOpt_elim0 h
          obtain ⟨r, hr, h⟩ := AOpt_elim0 h
          rw [isNP_eq hy]
          cases op <;> simp only [eqC, reduceCtorEq] at hr
          all_goals
            injection hr with hr
            subst hr
            unfold ptrN at hpn
            split at hpn <;> first | (cases hpn; done) | skip
            all_goals
              injection hpn with hpn
              subst hpn
              exact h
        | none =>
        simp only [hpn, AAlt_none] at h
        cases hin : ifcN x with
        | some b =>
          simp only [hin, AAlt_some] at h
          obtain ⟨_, hy, h⟩ := AOpt_elim0 h
          obtain ⟨r, hr, h⟩ := AOpt_elim0 h
          rw [isNI_eq hy]
          cases op <;> simp only [eqC, reduceCtorEq] at hr
          all_goals
            injection hr with hr
            subst hr
            unfold ifcN at hin
            split at hin <;> first | (cases hin; done) | skip
            all_goals
              injection hin with hin
              subst hin
              exact h
        | none =>
        simp only [hin, AAlt_none] at h
        cases hs : asS x with
        | none => rw [hs] at h; exact h.elim
        | some kxs =>
          obtain ⟨k, xs⟩ := kxs
          have ex : x = .s k xs := by unfold asS at hs; split at hs <;> simp_all
          subst ex
          simp only [hs, AOpt_some] at h
          cases hy : asE y with
          | none => rw [hy] at h; exact h.elim
          | some u =>
            rw [hy] at h
            simp only [AOpt_some] at h
            cases ht : tiOf P ty with
            | none => rw [ht] at h; exact h.elim
            | some ti =>
              rw [ht] at h
              simp only [AOpt_some] at h
              obtain ⟨⟨rfl, h1⟩, h2⟩ := h
              unfold asE at hy
              split at hy
              · simp only [binA, ht]; exact ⟨h1, h2⟩
              · cases hy

theorem AOpt_elim {α : Type} {x : Option α} {K : HK (α → Prop)} (h : @AOpt α x K) : ∃ a, x = some a ∧ K.k a := by
  cases x with
  | none => exact h.elim
  | some a => exact ⟨a, rfl, h⟩
theorem AAlt_elim {α : Type} {x : Option α} {K : HK (α → Prop)} {L : HK Prop} (h : @AAlt α x K L) : (∃ a, x = some a ∧ K.k a) ∨ (x = none ∧ L.k) := by
  cases x with
  | none => exact .inr ⟨rfl, h⟩
  | some a => exact .inl ⟨a, rfl, h⟩

theorem asP_eq {a y : AV} {off : Nat} (h : asP a = some (y, off)) : a = .p y off := by unfold asP at h; split at h <;> simp_all
theorem asQ_eq {a : AV} {i k j off : Nat} (h : asQ a = some (i, k, j, off)) : a = .q i k j off := by unfold asQ at h; split at h <;> simp_all
theorem asO_eq {a : AV} {i : Nat} (h : asO a = some i) : a = .o i := by unfold asO at h; split at h <;> simp_all
theorem asS_eq {a : AV} {k : Nat} {xs : List AV} (h : asS a = some (k, xs)) : a = .s k xs := by unfold asS at h; split at h <;> simp_all
theorem asT_eq {a : AV} {xs : List AV} (h : asT a = some xs) : a = .t xs := by unfold asT at h; split at h <;> simp_all
theorem asG_eq {a : AV} {xs : List AV} (h : asG a = some xs) : a = .g xs := by unfold asG at h; split at h <;> simp_all
theorem asF_eq {a : AV} {f : FuncId} {cap : List AV} (h : asF a = some (f, cap)) : a = .f (.func f) cap := by unfold asF at h; split at h <;> simp_all
theorem asB_eq {a : AV} {b : Bool} (h : asB a = some b) : a = .v (.bool b) := by unfold asB at h; split at h <;> simp_all
theorem asI_eq {a : AV} {k : IntKind} {n : Int} (h : asI a = some (k, n)) : a = .v (.int k n) := by unfold asI at h; split at h <;> simp_all
theorem asN_eq {a : AV} {u : Unit} (h : asN a = some u) : a = .v (.slice none 0 0) := by unfold asN at h; split at h <;> simp_all
theorem obA_eq {M : Mem} {i : Nat} {ob : Ob} (h : obA M i = some ob) : M[i]? = some (some ob) := by unfold obA at h; split at h <;> simp_all

def idxC (P : Program) (t : TypeId) (M : Mem) (x : AV) (i : Int) [K : HK (AV → Prop)] : Prop :=
  AOpt (tiOf P t) (K := ⟨fun ti => AAlt ti.elem (K := ⟨fun e => AOpt (tiOf P e) (K := ⟨fun te =>
    AAlt (asS x) (K := ⟨fun kxs => (kxs.1 = te.size ∧ 0 ≤ i) ∧ AGet kxs.2 i.toNat (K := ⟨fun x => K.k (.p x 0)⟩)⟩) (L := ⟨
    AOpt (asO x) (K := ⟨fun id => AOpt (obA M id) (K := ⟨fun ob => (ob.mp = none ∧ ob.k = te.size ∧ 0 ≤ i ∧ i < ob.xs.length) ∧ K.k (.q id ob.k i.toNat 0)⟩)⟩)⟩)⟩)⟩)
   (L := ⟨AOpt ti.arr (K := ⟨fun ne => AOpt (tiOf P ne.2) (K := ⟨fun te => (0 ≤ i ∧ i < ne.1) ∧
    AAlt (asP x) (K := ⟨fun yo => K.k (.p yo.1 (yo.2 + i.toNat * te.size))⟩) (L := ⟨AOpt (asQ x) (K := ⟨fun q => K.k (.q q.1 q.2.1 q.2.2.1 (q.2.2.2 + i.toNat * te.size))⟩)⟩)⟩)⟩)⟩)⟩)

theorem idxC_idxA {P : Program} {t : TypeId} {M : Mem} {x : AV} {i : Int} {K : HK (AV → Prop)} (h : idxC P t M x i (K := K)) : idxA P t M x i (K := K) := by
  obtain ⟨ti, hti, h⟩ := AOpt_elim h
  unfold idxA
  simp only [hti]
  rcases AAlt_elim h with ⟨e, he, h⟩ | ⟨he, h⟩
  · obtain ⟨te, hte, h⟩ := AOpt_elim h
    simp only [he, hte]
    rcases AAlt_elim h with ⟨⟨k, xs⟩, hs, h⟩ | ⟨_, h⟩
    · rw [asS_eq hs]; exact h
    · obtain ⟨id, ho, h⟩ := AOpt_elim h
      obtain ⟨ob, hob, h⟩ := AOpt_elim h
      rw [asO_eq ho]
      simp only [obA_eq hob]
      exact h
  · obtain ⟨⟨n, e⟩, ha, h⟩ := AOpt_elim h
    obtain ⟨te, hte, h1, h⟩ := AOpt_elim h
    simp only [he, ha, hte]
    rcases AAlt_elim h with ⟨⟨y, off⟩, hp, h⟩ | ⟨_, h⟩
    · rw [asP_eq hp]; exact ⟨h1, h⟩
    · obtain ⟨⟨id, k, j, off⟩, hq, h⟩ := AOpt_elim h
      rw [asQ_eq hq]; exact ⟨h1, h⟩

def oneOf : List Value → Option Value | [z] => some z | _ => none
theorem oneOf_eq {l : List Value} {z : Value} (h : oneOf l = some z) : l = [z] := by unfold oneOf at h; split at h <;> simp_all

def putC (P : Program) (t : TypeId) (m x y : AV) (M : Mem) [K : HK Kont] : Prop :=
  AOpt (mapOf P t) (K := ⟨fun ke => AOpt (asO m) (K := ⟨fun id => AOpt (valOf x) (K := ⟨fun kv => AOpt (obA M id) (K := ⟨fun ob => AOpt ob.mp (K := ⟨fun ks => ob.k = 0 ∧
    AFind P ke.1 ks kv (K := ⟨fun j => K.k .bot [] (M.set id (some { ob with xs := ob.xs.set j y }))⟩) (L := ⟨K.k .bot [] (M.set id (some { ob with mp := some (ks ++ [kv]), xs := ob.xs ++ [y] }))⟩)⟩)⟩)⟩)⟩)⟩)

theorem putC_mapPut {P : Program} {t : TypeId} {m x y : AV} {M : Mem} {K : HK Kont} (h : putC P t m x y M (K := K)) : mapPut P t m x y M (K := K) := by
  obtain ⟨ke, h1, h⟩ := AOpt_elim h
  obtain ⟨id, h2, h⟩ := AOpt_elim h
  obtain ⟨kv, h3, h⟩ := AOpt_elim h
  obtain ⟨ob, h4, h⟩ := AOpt_elim h
  obtain ⟨ks, h5, h0, h⟩ := AOpt_elim h
  exact ⟨ke, id, kv, ob, ks, h1, asO_eq h2, h3, obA_eq h4, h5, h0, h⟩

def callC (P : Program) (c : Call) (ρ : Operand → AV) (M : Mem) [K : HK Kont] : Prop :=
  match c.callee with
  | .value (.func f) => ACall P f (c.args.toList.map ρ) M (K := ⟨fun r M' => K.k r [] M'⟩)
  | .value x => AOpt (asF (ρ x)) (K := ⟨fun fc => ACall P fc.1 (c.args.toList.map ρ ++ fc.2) M (K := ⟨fun r M' => K.k r [] M'⟩)⟩)
  | .builtin .len => (match c.args.toList, c.argTypes.toList with
    | [x], [t] => AOpt (tiOf P t) (K := ⟨fun ti => AAlt (lenA M (ρ x)) (K := ⟨fun n => lenK ti (ρ x) = true ∧ K.k (I n) [] M⟩) (L := ⟨AOpt (mapOf P t) (K := ⟨fun _ => AOpt (lenM M (ρ x)) (K := ⟨fun n => K.k (I n) [] M⟩)⟩)⟩)⟩)
    | _, _ => False)
  | .builtin .min => (match c.args.toList with
    | [x, y] => AOpt (minmaxA false (ρ x) (ρ y)) (K := ⟨fun r => K.k r [] M⟩)
    | _ => False)
  | .builtin .max => (match c.args.toList with
    | [x, y] => AOpt (minmaxA true (ρ x) (ρ y)) (K := ⟨fun r => K.k r [] M⟩)
    | _ => False)
  | .builtin .append => (match c.args.toList, c.argTypes.toList with
    | [x, y], [t, t'] => AOpt (tiOf P t) (K := ⟨fun ti => AOpt ti.elem (K := ⟨fun e => AOpt (tiOf P e) (K := ⟨fun te => AOpt (asO (ρ x)) (K := ⟨fun i => AOpt (obA M i) (K := ⟨fun ob =>
        AAlt (asS (ρ y)) (K := ⟨fun kys => (t = t' ∧ ob.mp = none ∧ ob.ty = e ∧ ob.k = te.size ∧ kys.1 = te.size ∧ 0 < te.size ∧ ob.xs.length + kys.2.length ≤ 1000000 ∧ te.bytes ≤ 1000) ∧
            K.k (.o i) [i] ((M.kill [i]).set i (some { ob with xs := AV.killL [i] ob.xs ++ kys.2 }))⟩) (L := ⟨
        AAlt (asN (ρ y)) (K := ⟨fun _ => (t = t' ∧ ob.mp = none) ∧ K.k (.o i) [] M⟩) (L := ⟨
        AOpt (asO (ρ y)) (K := ⟨fun j => AOpt (obA M j) (K := ⟨fun ob' => (i ≠ j ∧ t = t' ∧ ob.mp = none ∧ ob'.mp = none ∧ ob.ty = e ∧ ob.k = te.size ∧ ob'.k = te.size ∧ 0 < te.size ∧ ob.xs.length + ob'.xs.length ≤ 1000000 ∧ te.bytes ≤ 1000) ∧
            K.k (.o i) [i] ((M.kill [i]).set i (some { ob with xs := AV.killL [i] ob.xs ++ AV.killL [i] ob'.xs }))⟩)⟩)⟩)⟩)⟩)⟩)⟩)⟩)⟩)
    | _, _ => False)
  | _ => False

theorem callC_callA {P : Program} {c : Call} {ρ : Operand → AV} {M : Mem} {K : HK Kont} (h : callC P c ρ M (K := K)) : callA P c ρ M (K := K) := by
  obtain ⟨callee, args, argTypes⟩ := c
  unfold callC at h
  unfold callA
  split at h
  · rename_i f hc
    simp only at hc
    subst hc
    exact h
  · rename_i x hne hc
    simp only at hc
    subst hc
    obtain ⟨⟨f, cap⟩, hf, h⟩ := AOpt_elim h
    cases x with
    | func f => exact (hne f rfl).elim
    | tmp t => simp only [asF_eq hf]; exact h
    | const t => simp only [asF_eq hf]; exact h
    | global t => simp only [asF_eq hf]; exact h
  · rename_i hc
    simp only at hc
    subst hc
    simp only
    split at h
    · rename_i x t hx ht
      obtain ⟨ti, hti, h⟩ := AOpt_elim h
      simp only at hx ht
      rcases AAlt_elim h with ⟨n, hn, h⟩ | ⟨hn, h⟩
      · simp only [hx, ht, hti, hn]
        exact h
      · obtain ⟨ke, hke, h⟩ := AOpt_elim h
        obtain ⟨n, hn', h⟩ := AOpt_elim h
        simp only [hx, ht, hti, hn, hke, hn']
        exact h
    · exact h.elim
  · rename_i hc
    simp only at hc
    subst hc
    simp only
    split at h
    · rename_i x y hx
      obtain ⟨r, hr, h⟩ := AOpt_elim h
      simp only at hx
      simp only [hx, hr]
      exact h
    · exact h.elim
  · rename_i hc
    simp only at hc
    subst hc
    simp only
    split at h
    · rename_i x y hx
      obtain ⟨r, hr, h⟩ := AOpt_elim h
      simp only at hx
      simp only [hx, hr]
      exact h
    · exact h.elim
  · rename_i hc
    simp only at hc
    subst hc
    simp only
    split at h
    · rename_i x y t t' hx ht
      obtain ⟨ti, hti, h⟩ := AOpt_elim h
      obtain ⟨e, he, h⟩ := AOpt_elim h
      obtain ⟨te, hte, h⟩ := AOpt_elim h
      obtain ⟨i, hi, h⟩ := AOpt_elim h
      obtain ⟨ob, hob, h⟩ := AOpt_elim h
      simp only at hx ht
      simp only [hx, ht, hti, he, hte, asO_eq hi]
      rcases AAlt_elim h with ⟨⟨k, ys⟩, hs, h⟩ | ⟨_, h⟩
      · simp only [asS_eq hs, obA_eq hob]; exact h
      · rcases AAlt_elim h with ⟨u, hn, h⟩ | ⟨_, h⟩
        · simp only [asN_eq hn, obA_eq hob]; exact h
        · obtain ⟨j, hj, h⟩ := AOpt_elim h
          obtain ⟨ob', hob', h⟩ := AOpt_elim h
          simp only [asO_eq hj, obA_eq hob, obA_eq hob']; exact h
    · exact h.elim
  · exact h.elim

end Aw
end Go.Proofs.YtndniceeibflcaaGreatDoor

namespace Go.Proofs.YtndniceeibflcaaGreatDoor
namespace Aw
open Go.RowKit

def coreC (P : Program) (own : List Nat) (o : Oper) (ρ : Operand → AV) (M : Mem) [K : HK Kont] : Prop :=
  match o.op with
  | .move x => K.k (ρ x) [] M
  | .assign x => AAlt (if own.contains (o.dst.getD 0) then asN (ρ x) else none) (K := ⟨fun _ => AOpt (tiOf P o.type) (K := ⟨fun ti => AOpt ti.elem (K := ⟨fun e => AOpt (tiOf P e) (K := ⟨fun te => K.k (.o M.length) [] (newRow M e te.size [])⟩)⟩)⟩)⟩) (L := ⟨K.k (ρ x) [] M⟩)
  | .pick c a b => AOpt (asB (ρ c)) (K := ⟨fun c => @ACond c ⟨K.k (ρ a) [] M⟩ ⟨K.k (ρ b) [] M⟩⟩)
  | .box t x => (ρ x).cellular = true ∧ @ACond (own.contains (o.dst.getD 0)) ⟨K.k (.q M.length (ρ x).size 0 0) [] (newRow M t (ρ x).size [ρ x])⟩ ⟨(ρ x).pure = true ∧ K.k (.p (ρ x) 0) [] M⟩
  | .alloc t => AOpt (tiOf P t) (K := ⟨fun ti => (ti.agg || ti.zero.length == 1) = true ∧ K.k (.q M.length ti.size 0 0) [] (newRow M t ti.size [mkA ti.agg (ti.zero.map .v)])⟩)
  | .load t x => AOpt (tiOf P t) (K := ⟨fun ti => AAlt (asP (ρ x)) (K := ⟨fun yo => AOpt (loadA ti yo.1 yo.2) (K := ⟨fun r => K.k r [] M⟩)⟩) (L := ⟨
      AOpt (asQ (ρ x)) (K := ⟨fun q => AOpt (obA M q.1) (K := ⟨fun ob => ob.k = q.2.1 ∧ AGet ob.xs q.2.2.1 (K := ⟨fun y => AOpt (loadA ti y q.2.2.2) (K := ⟨fun r => K.k r [] M⟩)⟩)⟩)⟩)⟩)⟩)
  | .store t x y => AOpt (tiOf P t) (K := ⟨fun ti => AOpt (asQ (ρ x)) (K := ⟨fun q => AOpt (obA M q.1) (K := ⟨fun ob => ob.k = q.2.1 ∧ AGet ob.xs q.2.2.1 (K := ⟨fun z =>
      AOpt (storeA ti z q.2.2.2 (ρ y)) (K := ⟨fun r => K.k .bot [] (M.set q.1 (some { ob with xs := ob.xs.set q.2.2.1 r }))⟩)⟩)⟩)⟩)⟩)
  | .fieldAddr t x f => AOpt (tiOf P t) (K := ⟨fun ti => AOpt ti.flds[f]? (K := ⟨fun fo => fo.2 ≠ 0 ∧ AAlt (asP (ρ x)) (K := ⟨fun yo => K.k (.p yo.1 (yo.2 + fo.1)) [] M⟩) (L := ⟨
      AOpt (asQ (ρ x)) (K := ⟨fun q => K.k (.q q.1 q.2.1 q.2.2.1 (q.2.2.2 + fo.1)) [] M⟩)⟩)⟩)⟩)
  | .indexAddr t x i => AOpt (asI (ρ i)) (K := ⟨fun n => idxC P t M (ρ x) n.2 (K := ⟨fun r => K.k r [] M⟩)⟩)
  | .binOp op ty x y _ => binC P op ty (ρ x) (ρ y) (isC y) (K := ⟨fun r => K.k r [] M⟩)
  | .convert s d x => AAlt (asI (ρ x)) (K := ⟨fun n => AOpt (intOf P s) (K := ⟨fun _ => AOpt (intOf P d) (K := ⟨fun k => K.k (.v (.int k (k.wrap n.2))) [] M⟩)⟩)⟩) (L := ⟨
      AOpt (asStr (ρ x)) (K := ⟨fun l => AOpt (tiOf P d) (K := ⟨fun ti => AOpt ti.elem (K := ⟨fun e => (intOf P e = some .u8 ∧ (P.underlying s).isSome = true ∧ l.length ≤ 1000000) ∧ K.k (.s 1 (bytesA l)) [] M⟩)⟩)⟩)⟩)
  | .index t x i => AOpt (tiOf P t) (K := ⟨fun ti => AOpt (asI (ρ i)) (K := ⟨fun n => AAlt (asStr (ρ x)) (K := ⟨fun l => (ti.str = true ∧ 0 ≤ n.2 ∧ n.2 < l.length) ∧ K.k (.v (.int .u8 (l.getD n.2.toNat 0).toNat)) [] M⟩) (L := ⟨
      AOpt (asG (ρ x)) (K := ⟨fun xs => AOpt ti.arr (K := ⟨fun me => AOpt (tiOf P me.2) (K := ⟨fun te => (0 ≤ n.2 ∧ n.2 < me.1 ∧ te.size = 1 ∧ te.agg = false ∧ (xs.all AV.single) = true) ∧ AGet xs n.2.toNat (K := ⟨fun x => K.k x [] M⟩)⟩)⟩)⟩)⟩)⟩)⟩)
  | .makeInterface t x => AOpt (valOf (ρ x)) (K := ⟨fun v => conc P t = true ∧ K.k (.v (.iface t v)) [] M⟩)
  | .unOp .not _ x => AOpt (asB (ρ x)) (K := ⟨fun b => K.k (B (!b)) [] M⟩)
  | .unOp .neg _ x => AOpt (asI (ρ x)) (K := ⟨fun n => (n.1 = .i64 ∧ lim (-n.2)) ∧ K.k (I (-n.2)) [] M⟩)
  | .build t parts => AOpt (tiOf P t) (K := ⟨fun ti => AOpt (fillA (fun i => ti.flds[i]?) (ti.zero.map .v) (parts.toList.map fun ix => (ix.1, ρ ix.2))) (K := ⟨fun cells => (ti.agg = true ∧ ti.arr = none) ∧ K.k (.g cells) [] M⟩)⟩)
  | .buildSlice t n parts => AOpt (tiOf P t) (K := ⟨fun ti => AOpt ti.elem (K := ⟨fun e => AOpt (tiOf P e) (K := ⟨fun te =>
      (0 < te.size ∧ n * te.size ≤ 16777216 ∧ parts.toList.map (·.1) = List.range n ∧ parts.toList.all (fun ix => (ρ ix.2).cellular && (ρ ix.2).flat && (ρ ix.2).size == te.size) = true) ∧
      @ACond (own.contains (o.dst.getD 0)) ⟨K.k (.o M.length) [] (newRow M e te.size (parts.toList.map fun ix => ρ ix.2))⟩ ⟨AV.pureL (parts.toList.map fun ix => ρ ix.2) = true ∧ K.k (.s te.size (parts.toList.map fun ix => ρ ix.2)) [] M⟩⟩)⟩)⟩)
  | .extract x i => AOpt (asT (ρ x)) (K := ⟨fun xs => AOpt xs[i]? (K := ⟨fun r => K.k r [] M⟩)⟩)
  | .field t x f => AOpt (tiOf P t) (K := ⟨fun ti => AOpt (asG (ρ x)) (K := ⟨fun xs => AOpt ti.flds[f]? (K := ⟨fun fo => AOpt ti.ftys[f]? (K := ⟨fun ft => AOpt (tiOf P ft) (K := ⟨fun tf => AOpt (loadA tf (.g xs) fo.1) (K := ⟨fun r => K.k r [] M⟩)⟩)⟩)⟩)⟩)⟩)
  | .slice t x lo hi none => AOpt (tiOf P t) (K := ⟨fun ti => AAlt (asS (ρ x)) (K := ⟨fun kxs => AOpt (bndA ρ lo) (K := ⟨fun lo => AOpt (bndA ρ hi) (K := ⟨fun hi => AOpt ti.elem (K := ⟨fun e => AOpt (tiOf P e) (K := ⟨fun te =>
      (kxs.1 = te.size ∧ 0 ≤ lo.getD 0 ∧ lo.getD 0 ≤ hi.getD kxs.2.length ∧ hi.getD kxs.2.length ≤ kxs.2.length) ∧ K.k (.s kxs.1 ((kxs.2.take (hi.getD kxs.2.length).toNat).drop (lo.getD 0).toNat)) [] M⟩)⟩)⟩)⟩)⟩) (L := ⟨
      AOpt (asStr (ρ x)) (K := ⟨fun l => AOpt (bndA ρ lo) (K := ⟨fun lo => AOpt (bndA ρ hi) (K := ⟨fun hi => (ti.str = true ∧ 0 ≤ lo.getD 0 ∧ lo.getD 0 ≤ hi.getD l.length ∧ hi.getD l.length ≤ l.length) ∧
        K.k (S ((l.take (hi.getD l.length).toNat).drop (lo.getD 0).toNat)) [] M⟩)⟩)⟩)⟩)⟩)
  | .makeFunc fn first cap => (first.size = 0 ∧ (cap.toList.all fun x => (ρ x).cellular && (ρ x).single) = true) ∧ K.k (.f fn (cap.toList.map ρ)) [] M
  | .nilCheck x => AAlt (asP (ρ x)) (K := ⟨fun yo => K.k (.p yo.1 yo.2) [] M⟩) (L := ⟨AOpt (asQ (ρ x)) (K := ⟨fun q => K.k (.q q.1 q.2.1 q.2.2.1 q.2.2.2) [] M⟩)⟩)
  | .makeMap t none => (mapOf P t).isSome = true ∧ K.k (.o M.length) [] (M ++ [some ⟨some [], t, 0, []⟩])
  | .lookup t m x ok => AOpt (mapOf P t) (K := ⟨fun ke => AOpt (asO (ρ m)) (K := ⟨fun id => AOpt (valOf (ρ x)) (K := ⟨fun kv => AOpt (obA M id) (K := ⟨fun ob => AOpt ob.mp (K := ⟨fun ks => AOpt (zeroA P ke.2) (K := ⟨fun z => ob.k = 0 ∧
      AFind P ke.1 ks kv (K := ⟨fun j => AGet ob.xs j (K := ⟨fun y => K.k (if ok then .t [y, B true] else y) [] M⟩)⟩) (L := ⟨K.k (if ok then .t [z, B false] else z) [] M⟩)⟩)⟩)⟩)⟩)⟩)⟩)
  | .mapUpdate t m x y => putC P t (ρ m) (ρ x) (ρ y) M (K := K)
  | .insert t m x y => putC P t (ρ m) (ρ x) (ρ y) M (K := K)
  | .makeSlice t l c => AOpt (tiOf P t) (K := ⟨fun ti => AOpt ti.elem (K := ⟨fun e => AOpt (tiOf P e) (K := ⟨fun te => AOpt (oneOf te.zero) (K := ⟨fun z => AOpt (asI (ρ l)) (K := ⟨fun kn => AOpt (asI (ρ c)) (K := ⟨fun kn' =>
      (kn'.2 = kn.2 ∧ te.agg = false ∧ 0 ≤ kn.2 ∧ kn.2 ≤ 1000000 ∧ te.size = 1 ∧ te.bytes ≤ 1000) ∧ K.k (.o M.length) [] (newRow M e 1 (List.replicate kn.2.toNat (.v z)))⟩)⟩)⟩)⟩)⟩)⟩)
  | .call c => callC P c ρ M (K := K)
  | _ => False

theorem coreC_core {P : Program} {own : List Nat} {o : Oper} {ρ : Operand → AV} {M : Mem} {K : HK Kont} (h : coreC P own o ρ M (K := K)) : core P own o ρ M (K := K) := by
  obtain ⟨dst, op, ty0, pos, aft, gd⟩ := o
  unfold coreC at h
  unfold core
  dsimp only at h ⊢
  split at h
  · exact h
  · dsimp only
    rcases AAlt_elim h with ⟨u, hc, h⟩ | ⟨hc, h⟩
    · obtain ⟨ti, hti, h⟩ := AOpt_elim h
      obtain ⟨e, he, h⟩ := AOpt_elim h
      obtain ⟨te, hte, h⟩ := AOpt_elim h
      split at hc
      · rename_i hown
        rw [asN_eq hc, hown]
        simp only [hti, he, hte]
        exact h
      · cases hc
    · split
      · rename_i hx hown
        rw [hown] at hc
        rw [hx] at hc
        simp [asN] at hc
      · exact h
  · obtain ⟨b, hb, h⟩ := AOpt_elim h
    simp only [asB_eq hb]
    exact h
  · obtain ⟨h1, h2⟩ := h
    dsimp only
    refine ⟨h1, ?_⟩
    split
    · rename_i hc; exact h2.1 hc
    · rename_i hc; exact h2.2 (by simpa using hc)
  · obtain ⟨ti, hti, h⟩ := AOpt_elim h
    simp only [hti]; exact h
  · obtain ⟨ti, hti, h⟩ := AOpt_elim h
    rcases AAlt_elim h with ⟨⟨y, off⟩, hp, h⟩ | ⟨_, h⟩
    · obtain ⟨r, hr, h⟩ := AOpt_elim h
      simp only at hr
      simp only [hti, asP_eq hp, hr]; exact h
    · obtain ⟨⟨id, k, j, off⟩, hq, h⟩ := AOpt_elim h
      obtain ⟨ob, hob, h1, y, hy, h⟩ := AOpt_elim h
      obtain ⟨r, hr, h⟩ := AOpt_elim h
      simp only at hob hr h1 hy
      simp only [hti, asQ_eq hq, obA_eq hob]
      exact ⟨h1, y, hy, by simp only [hr]; exact h⟩
  · obtain ⟨ti, hti, h⟩ := AOpt_elim h
    obtain ⟨⟨id, k, j, off⟩, hq, h⟩ := AOpt_elim h
    obtain ⟨ob, hob, h1, z, hz, h⟩ := AOpt_elim h
    obtain ⟨r, hr, h⟩ := AOpt_elim h
    simp only at hob hr h1 hz
    simp only [hti, asQ_eq hq, obA_eq hob]
    exact ⟨h1, z, hz, by simp only [hr]; exact h⟩
  · obtain ⟨ti, hti, h⟩ := AOpt_elim h
    obtain ⟨⟨fo, fs⟩, hf, h1, h⟩ := AOpt_elim h
    rcases AAlt_elim h with ⟨⟨y, off⟩, hp, h⟩ | ⟨_, h⟩
    · simp only [hti, asP_eq hp, hf]; exact ⟨h1, h⟩
    · obtain ⟨⟨id, k, j, off⟩, hq, h⟩ := AOpt_elim h
      simp only [hti, asQ_eq hq, hf]; exact ⟨h1, h⟩
  · obtain ⟨⟨k, n⟩, hn, h⟩ := AOpt_elim h
    simp only [asI_eq hn]
    exact idxC_idxA h
  · exact binC_binA h
  · rcases AAlt_elim h with ⟨⟨k, n⟩, hn, h⟩ | ⟨hn, h⟩
    · obtain ⟨k1, h1, h⟩ := AOpt_elim h
      obtain ⟨k2, h2, h⟩ := AOpt_elim h
      simp only [asI_eq hn, h1, h2]; exact h
    · obtain ⟨l, hl, h⟩ := AOpt_elim h
      obtain ⟨ti, hti, h⟩ := AOpt_elim h
      obtain ⟨e, he, h⟩ := AOpt_elim h
      obtain ⟨b, hb, rfl⟩ := asStr_eq hl
      simp only [hb, hti, he]; exact h
  · obtain ⟨ti, hti, h⟩ := AOpt_elim h
    obtain ⟨⟨k, n⟩, hn, h⟩ := AOpt_elim h
    rcases AAlt_elim h with ⟨l, hl, h⟩ | ⟨hl, h⟩
    · obtain ⟨b, hb, rfl⟩ := asStr_eq hl
      simp only [hb, hti, asI_eq hn]; exact h
    · obtain ⟨xs, hx, h⟩ := AOpt_elim h
      obtain ⟨⟨m, e⟩, ha, h⟩ := AOpt_elim h
      obtain ⟨te, hte, h⟩ := AOpt_elim h
      simp only at hte h
      simp only [asG_eq hx, hti, asI_eq hn, ha, hte]; exact h
  · obtain ⟨v, hv, h⟩ := AOpt_elim h
    simp only [hv]; exact h
  · obtain ⟨b, hb, h⟩ := AOpt_elim h
    simp only [asB_eq hb]; exact h
  · obtain ⟨⟨k, n⟩, hn, h⟩ := AOpt_elim h
    obtain ⟨⟨hk, h1⟩, h⟩ := h
    simp only at hk
    subst hk
    simp only [asI_eq hn]; exact ⟨h1, h⟩
  · obtain ⟨ti, hti, h⟩ := AOpt_elim h
    obtain ⟨cells, hc, h⟩ := AOpt_elim h
    simp only [hti, hc]; exact h
  · obtain ⟨ti, hti, h⟩ := AOpt_elim h
    obtain ⟨e, he, h⟩ := AOpt_elim h
    obtain ⟨te, hte, h1, h2⟩ := AOpt_elim h
    simp only [hti, he, hte]
    refine ⟨h1, ?_⟩
    split
    · rename_i hc; exact h2.1 hc
    · rename_i hc; exact h2.2 (by simpa using hc)
  · obtain ⟨xs, hx, h⟩ := AOpt_elim h
    obtain ⟨r, hr, h⟩ := AOpt_elim h
    simp only [asT_eq hx, hr]; exact h
  · obtain ⟨ti, hti, h⟩ := AOpt_elim h
    obtain ⟨xs, hx, h⟩ := AOpt_elim h
    obtain ⟨⟨fo, fs⟩, hf, h⟩ := AOpt_elim h
    obtain ⟨ft, hft, h⟩ := AOpt_elim h
    obtain ⟨tf, htf, h⟩ := AOpt_elim h
    obtain ⟨r, hr, h⟩ := AOpt_elim h
    simp only at hr
    simp only [hti, asG_eq hx, hf, hft, htf, hr]; exact h
  · obtain ⟨ti, hti, h⟩ := AOpt_elim h
    rcases AAlt_elim h with ⟨⟨k, xs⟩, hx, h⟩ | ⟨_, h⟩
    · obtain ⟨lo, hlo, h⟩ := AOpt_elim h
      obtain ⟨hi, hhi, h⟩ := AOpt_elim h
      obtain ⟨e, he, h⟩ := AOpt_elim h
      obtain ⟨te, hte, h⟩ := AOpt_elim h
      simp only [sliceA, hti, asS_eq hx, hlo, hhi, he, hte]; exact h
    · obtain ⟨l, hl, h⟩ := AOpt_elim h
      obtain ⟨b, hb, rfl⟩ := asStr_eq hl
      obtain ⟨lo, hlo, h⟩ := AOpt_elim h
      obtain ⟨hi, hhi, h⟩ := AOpt_elim h
      simp only [sliceA, hti, hb, hlo, hhi]; exact h
  · exact h
  · rcases AAlt_elim h with ⟨⟨y, off⟩, hp, h⟩ | ⟨_, h⟩
    · simp only [asP_eq hp]; exact h
    · obtain ⟨⟨id, k, j, off⟩, hq, h⟩ := AOpt_elim h
      simp only [asQ_eq hq]; exact h
  · exact h
  · obtain ⟨ke, h1, h⟩ := AOpt_elim h
    obtain ⟨id, h2, h⟩ := AOpt_elim h
    obtain ⟨kv, h3, h⟩ := AOpt_elim h
    obtain ⟨ob, h4, h⟩ := AOpt_elim h
    obtain ⟨ks, h5, h⟩ := AOpt_elim h
    obtain ⟨z, h6, h0, h⟩ := AOpt_elim h
    exact ⟨ke, id, kv, ob, ks, z, h1, asO_eq h2, h3, obA_eq h4, h5, h6, h0, h⟩
  · exact putC_mapPut h
  · exact putC_mapPut h
  · obtain ⟨ti, h1, h⟩ := AOpt_elim h
    obtain ⟨e, h2, h⟩ := AOpt_elim h
    obtain ⟨te, h3, h⟩ := AOpt_elim h
    obtain ⟨z, h4, h⟩ := AOpt_elim h
    obtain ⟨⟨k, n⟩, h5, h⟩ := AOpt_elim h
    obtain ⟨⟨k', n'⟩, h6, ⟨g1, g2, g3, g4, g5, g6⟩, h⟩ := AOpt_elim h
    simp only at g1 g2 g3 g4 g5 g6
    subst g1
    exact ⟨ti, e, te, z, k, k', _, h1, h2, h3, oneOf_eq h4, g2, asI_eq h5, asI_eq h6, ⟨g3, g4, g5, g6⟩, h⟩
  · exact callC_callA h
  · exact h.elim

end Aw
end Go.Proofs.YtndniceeibflcaaGreatDoor

namespace Go.Proofs.YtndniceeibflcaaGreatDoor
namespace Aw
open Go.RowKit

structure St where
  sl : List AV
  M : Mem

def St.ev (σ : St) : Operand → AV
  | .tmp t => σ.sl.getD t .bot
  | .const v => .v v
  | .func f => .f (.func f) []
  | .global _ => .bot

def killS (Z : List Nat) (l : List AV) : List AV := if Z.isEmpty then l else AV.killL Z l

def setS (l : List AV) (d : Option Tmp) (r : AV) : List AV := match d with | some d => l.set d r | none => l

def St.step (σ : St) (d : Option Tmp) (r : AV) (Z : List Nat) (M' : Mem) : St := ⟨setS (killS Z σ.sl) d r, M'⟩

/-- the call that is walked: the world in which it began, and the blocks that it was handed. -/
structure Ctx where
  w0 : World
  In : Nat → Prop
  A : Nat → Prop
  /-- the calls that are put off. -/
  dl : List Deferred

structure Frm (C : Ctx) (w : World) (hv : Nat → Option Value) : Prop where
  os : w.os = C.w0.os
  tape : w.tape = C.w0.tape
  output : w.output = C.w0.output
  drawn : dr C.w0 ≤ dr w
  size : C.w0.heap.size ≤ w.heap.size
  block : ∀ b, b < C.w0.heap.size → ¬ C.In b → w.heap[b]? = C.w0.heap[b]?
  own : ∀ b, Own hv b → C.In b ∨ C.w0.heap.size ≤ b
  aold : ∀ b, C.A b → b < C.w0.heap.size
  dis : ∀ b, C.A b → ¬ C.In b

theorem Frm.sep {C : Ctx} {w : World} {hv : Nat → Option Value} (h : Frm C w hv) {b : Nat} (hb : Own hv b) : ¬ C.A b := fun hA => by
  rcases h.own b hb with h1 | h1
  · exact h.dis b hA h1
  · have := h.aold b hA; omega

theorem Frm.step {C : Ctx} {w w' : World} {hv hv' : Nat → Option Value} {Z : List Nat} (h : Frm C w hv) (s : StepR C.A w hv Z w' hv') : Frm C w' hv' := by
  refine ⟨s.os.trans h.os, s.tape.trans h.tape, s.output.trans h.output, Nat.le_trans h.drawn s.drawn, Nat.le_trans h.size s.kp.size, fun b hb hn => ?_, fun b hb => ?_, h.aold, h.dis⟩
  · refine (s.kp.block b (Nat.lt_of_lt_of_le hb h.size) (fun ho => ?_)).trans (h.block b hb hn)
    rcases h.own b ho with h1 | h1
    · exact hn h1
    · omega
  · rcases Nat.lt_or_ge b w.heap.size with hlt | hge
    · exact h.own b (s.kp.own b hlt hb)
    · exact .inr (Nat.le_trans h.size hge)

def StR (C : Ctx) (σ : St) (a : Act) (w : World) : Prop :=
  ∃ hv, a.defers = C.dl ∧ a.tmps.size = σ.sl.length ∧ (∀ (i : Nat) (x : AV), σ.sl[i]? = some x → ∃ v, a.tmps[i]? = some v ∧ RV w (OwnA C.A hv) hv x v) ∧ MemR C.A w hv σ.M ∧ Frm C w hv

section
variable {P : Program} {C : Ctx} {σ : St} {a : Act} {w : World} {Q : Exit → Act → World → Prop}

theorem ev_ok {hv : Nat → Option Value} (h : ∀ (i : Nat) (x : AV), σ.sl[i]? = some x → ∃ v, a.tmps[i]? = some v ∧ RV w (OwnA C.A hv) hv x v) (x : Operand) : RV w (OwnA C.A hv) hv (σ.ev x) (a.eval x) := by
  cases x with
  | tmp t =>
    simp only [St.ev, Act.eval, List.getD_eq_getElem?_getD]
    cases ht : σ.sl[t]? with
    | none => simp [RV]
    | some y =>
      obtain ⟨v, h1, h2⟩ := h t y ht
      simp only [Option.getD_some, Array.getD_eq_getD_getElem?, h1]
      exact h2
  | const v => simp only [St.ev, Act.eval, RV]
  | global g => simp [St.ev, RV]
  | func f => simp only [St.ev, Act.eval, RV, R]; exact ⟨#[], rfl, by simp, by simp [RL]⟩

theorem killS_get (Z : List Nat) (l : List AV) (i : Nat) : (killS Z l)[i]? = (l[i]?).map (AV.kill Z) := by
  unfold killS
  split
  · rename_i h
    have : Z = [] := by simpa using h
    subst this
    cases l[i]? <;> simp [AV.kill_nil]
  · rw [AV.killL_map, List.getElem?_map]

theorem setS_get (l : List AV) (d : Option Tmp) (r : AV) (i : Nat) {x : AV} (h : (setS l d r)[i]? = some x) : (d = some i ∧ x = r ∧ i < l.length) ∨ (d ≠ some i ∧ l[i]? = some x) := by
  cases d with
  | none => exact .inr ⟨by simp, h⟩
  | some d =>
    simp only [setS, List.getElem?_set] at h
    by_cases hd : d = i
    · subst hd
      rw [if_pos rfl] at h
      split at h
      · rename_i hlt; injection h with h; exact .inl ⟨rfl, h.symm, hlt⟩
      · cases h
    · rw [if_neg hd] at h
      exact .inr ⟨by simpa using hd, h⟩

theorem setS_len (l : List AV) (d : Option Tmp) (r : AV) : (setS l d r).length = l.length := by cases d <;> simp [setS]
theorem killS_len (Z : List Nat) (l : List AV) : (killS Z l).length = l.length := by unfold killS; split <;> simp [AV.killL_map]
theorem put_size (a : Act) (d : Option Tmp) (v : Value) : (a.put d v).tmps.size = a.tmps.size := by cases d <;> simp [Act.put]
theorem put_get (a : Act) (d : Option Tmp) (v : Value) (i : Nat) (h : d ≠ some i) : (a.put d v).tmps[i]? = a.tmps[i]? := by
  cases d with
  | none => rfl
  | some d => simp only [Act.put]; exact Array.getElem?_setIfInBounds_ne (by simpa using h)

/-- one step of the state. -/
theorem StR.next {hv hv' : Nat → Option Value} {w' : World} {Z : List Nat} {M' : Mem} {r : AV} {v : Value} {d : Option Tmp} (hd : a.defers = C.dl) (hsz : a.tmps.size = σ.sl.length)
    (hsl : ∀ (i : Nat) (x : AV), σ.sl[i]? = some x → ∃ v, a.tmps[i]? = some v ∧ RV w (OwnA C.A hv) hv x v) (hF : Frm C w hv) (hM' : MemR C.A w' hv' M') (hr : RV w' (OwnA C.A hv') hv' r v) (hs : StepR C.A w hv Z w' hv') :
    StR C (σ.step d r Z M') (a.put d v) w' := by
  refine ⟨hv', by cases d <;> exact hd, ?_, fun i x hx => ?_, hM', hF.step hs⟩
  · rw [put_size, hsz]; simp only [St.step, setS_len, killS_len]
  · rcases setS_get _ _ _ _ hx with ⟨rfl, rfl, hlt⟩ | ⟨hne, hx⟩
    · refine ⟨v, ?_, hr⟩
      rw [killS_len] at hlt
      simp [Act.put, hsz, hlt]
    · rw [killS_get] at hx
      simp only [Option.map_eq_some_iff] at hx
      obtain ⟨y, hy, rfl⟩ := hx
      obtain ⟨u, h1, h2⟩ := hsl i y hy
      exact ⟨u, by rw [put_get _ _ _ _ hne]; exact h1, hs.rv h2⟩

/-- whether a guarded operation is done: the guard's value is known, or its own operation has not been done. -/
def gd : AV → Bool → Option Bool
  | .v (.bool b), want => some (b == want)
  | .t [], _ => some false
  | _, _ => none
theorem gd_spec {x : AV} {want c : Bool} (h : gd x want = some c) : (∃ b, x = .v (.bool b) ∧ c = (b == want)) ∨ (x = .t [] ∧ c = false) := by
  unfold gd at h
  split at h
  · injection h with h; exact .inl ⟨_, rfl, h.symm⟩
  · injection h with h; exact .inr ⟨rfl, h.symm⟩
  · cases h

/-- an operation, with its guard. -/
def aop (P : Program) (own : List Nat) (ops : List Oper) (o : Oper) (σ : St) [N : HK (St → Prop)] : Prop :=
  match o.guard with
  | none => coreC P own o σ.ev σ.M (K := ⟨fun r Z M' => N.k (σ.step o.dst r Z M')⟩)
  | some (j, want) => AOpt ((ops[j]?).bind (·.dst)) (K := ⟨fun d => AOpt (gd (σ.sl.getD d .bot) want) (K := ⟨fun b =>
      @ACond b ⟨coreC P own o σ.ev σ.M (K := ⟨fun r Z M' => N.k (σ.step o.dst r Z M')⟩)⟩ ⟨N.k (σ.step o.dst (.t []) [] σ.M)⟩⟩)⟩)

theorem wanted_none {o : Oper} (h : o.guard = none) (y : Nat → Option Bool) : Region.wanted o y = true := by simp [Region.wanted, h]

theorem aop_sound {own : List Nat} {ops : Array Oper} {i : Nat} {o : Oper} {N : HK (St → Prop)} (ho : ops[i]? = some o) (h : aop P own ops.toList o σ (N := N)) (hS : StR C σ a w) :
    wpOp P ops Q i (fun a' w' => ∃ σ', N.k σ' ∧ StR C σ' a' w') a w := by
  obtain ⟨hv, hd, hsz, hsl, hM, hF⟩ := hS
  have hρ := ev_ok hsl
  have run : coreC P own o σ.ev σ.M (K := ⟨fun r Z M' => N.k (σ.step o.dst r Z M')⟩) → o.wp P a w (fun a' w' => ∃ σ', N.k σ' ∧ StR C σ' a' w') Q := fun hc =>
    Oper.wp_mono (fun a' w' => by
      rintro ⟨r, Z, M', hv', v, hK, rfl, hM', hr, hs⟩
      exact ⟨_, hK, StR.next hd hsz hsl hF hM' hr hs⟩) (core_sound hρ hM (coreC_core hc))
  have skip : N.k (σ.step o.dst (.t []) [] σ.M) → ∃ σ', N.k σ' ∧ StR C σ' (a.put o.dst undef) w := fun hN =>
    ⟨_, hN, StR.next hd hsz hsl hF hM (by simp only [RV, RVL]; exact ⟨#[], rfl, rfl⟩) (StepR.refl C.A w hv)⟩
  unfold wpOp
  simp only [ho]
  unfold aop at h
  split at h
  · rename_i hg
    rw [if_pos (wanted_none hg _)]
    exact .inl (run h)
  · rename_i j want hg
    obtain ⟨d, hdst, h⟩ := AOpt_elim h
    obtain ⟨c, hc, h⟩ := AOpt_elim h
    have hdst' : (ops[j]?).bind (·.dst) = some d := by simpa using hdst
    have hval : ∀ y, σ.sl.getD d .bot = y → y ≠ .bot → ∃ u, a.tmps[d]? = some u ∧ RV w (OwnA C.A hv) hv y u := by
      intro y hy hne
      rw [List.getD_eq_getElem?_getD] at hy
      cases hx : σ.sl[d]? with
      | none => rw [hx] at hy; exact absurd hy.symm hne
      | some x =>
        rw [hx] at hy
        simp only [Option.getD_some] at hy
        subst hy
        exact hsl d _ hx
    have hw : Region.wanted o (yielded ops a.tmps) = c := by
      rcases gd_spec hc with ⟨b, hb, rfl⟩ | ⟨hb, rfl⟩
      · obtain ⟨u, h1, h2⟩ := hval _ hb (by simp)
        simp only [RV] at h2
        subst h2
        have hy : yielded ops a.tmps j = some b := by
          unfold yielded
          rw [hdst']
          simp [h1]
        simp only [Region.wanted, hg, hy]
        cases b <;> cases want <;> rfl
      · obtain ⟨u, h1, h2⟩ := hval _ hb (by simp)
        simp only [RV, RVL] at h2
        obtain ⟨vs, rfl, _⟩ := h2
        have hy : yielded ops a.tmps j = none := by
          unfold yielded
          rw [hdst']
          simp [h1]
        simp only [Region.wanted, hg, hy]
        cases want <;> rfl
    rw [hw]
    obtain ⟨h1, h2⟩ := h
    cases hbw : c with
    | true => simp only [if_true]; exact .inl (run (h1 hbw))
    | false => simp only [Bool.false_eq_true, if_false]; exact skip (h2 hbw)

/-- a region, in the order of the text. -/
def AOps (P : Program) (own : List Nat) (ops : List Oper) : List Oper → St → [HK (St → Prop)] → Prop
  | [], σ, N => N.k σ
  | o :: rest, σ, N => aop P own ops o σ (N := ⟨fun σ' => @AOps P own ops rest σ' N⟩)

theorem aops_sound {own : List Nat} {ops : Array Oper} {N : HK (St → Prop)} (hQ : ∀ σ a w, N.k σ → StR C σ a w → Q .normal a w) : ∀ (l : List Oper) (k : Nat) (σ : St) (a : Act) (w : World), ops.toList.drop k = l → @AOps P own ops.toList l σ N → StR C σ a w →
    wpOps P ops Q (List.range' k l.length) a w
  | [], k, σ, a, w, _, h, hS => by simp only [List.length_nil, List.range'_zero, wpOps]; exact hQ σ a w h hS
  | o :: l, k, σ, a, w, hk, h, hS => by
    have ho : ops[k]? = some o := by
      have : (ops.toList.drop k)[0]? = some o := by rw [hk]; rfl
      rw [List.getElem?_drop] at this
      simpa using this
    have hk' : ops.toList.drop (k + 1) = l := by rw [← List.drop_drop, hk]; rfl
    rw [List.length_cons, List.range'_succ, wpOps_cons]
    refine wpOp_mono (fun a' w' => ?_) (aop_sound ho h hS)
    rintro ⟨σ', h1, h2⟩
    exact aops_sound hQ l (k + 1) σ' a' w' hk' h1 h2

theorem region_sound {own : List Nat} {id : Nat} {ops : Array Oper} {N : HK (St → Prop)} (hQ : ∀ σ a w, N.k σ → StR C σ a w → Q .normal a w) (h : @AOps P own ops.toList ops.toList σ N) (hS : StR C σ a w) : (Code.region id ops false).wp P Q a w := by
  refine wp_region ?_
  have := aops_sound (P := P) (own := own) (ops := ops) hQ ops.toList 0 σ a w rfl h hS
  rw [List.range_eq_range']
  simpa using this
end

end Aw
end Go.Proofs.YtndniceeibflcaaGreatDoor

namespace Go.Proofs.YtndniceeibflcaaGreatDoor
namespace Aw
open Go.RowKit

/-- what holds at an exit. -/
def APost (C : Ctx) (N : St → Prop) (E : Nat → St → Prop) (Rt : St → Prop) : Exit → Act → World → Prop
  | .normal, a, w => ∃ σ, N σ ∧ StR C σ a w
  | .exit id, a, w => ∃ σ, E id σ ∧ StR C σ a w
  | .ret, a, w => ∃ σ, Rt σ ∧ StR C σ a w
  | _, _, _ => False

/-- what a piece of code does, said of states. -/
def SWp (P : Program) (c : Code) (σ : St) [N : HK (St → Prop)] [E : HK (Nat → St → Prop)] [Rt : HK (St → Unit → Prop)] : Prop :=
  ∀ C a w, StR C σ a w → c.wp P (APost C N.k E.k (fun σ => Rt.k σ ())) a w

/-- all that fits σ fits σ'. -/
def Le (σ σ' : St) : Prop := ∀ C a w, StR C σ a w → StR C σ' a w

abbrev HN := HK (St → Prop)
abbrev HE := HK (Nat → St → Prop)
abbrev HR := HK (St → Unit → Prop)

def awp (P : Program) (own : List Nat) : Code → St → [HN] → [HE] → [HR] → Prop
  | .skip, σ, N, _, _ => N.k σ
  | .label _, σ, N, _, _ => N.k σ
  | .region id ops true, σ, N, E, Rt => @SWp P (.region id ops true) σ N E Rt
  | .region id ops false, σ, N, E, Rt => @ACond (own.contains (1000 + id)) ⟨@SWp P (.region id ops false) σ N E Rt⟩ ⟨@AOps P own ops.toList ops.toList σ N⟩
  | .seq a b, σ, N, E, Rt => @awp P own a σ ⟨fun σ' => @awp P own b σ' N E Rt⟩ E Rt
  | .cond c x y, σ, N, E, Rt => AOpt (asB (σ.ev c)) (K := ⟨fun b => @ACond b ⟨@awp P own x σ N E Rt⟩ ⟨@awp P own y σ N E Rt⟩⟩)
  | .block id c, σ, N, E, Rt => @awp P own c σ N ⟨fun id' σ' => if id' = id then N.k σ' else E.k id' σ'⟩ Rt
  | .scope c, σ, N, E, Rt => @awp P own c σ N E Rt
  | .loop c, σ, N, E, Rt => @SWp P (.loop c) σ N E Rt
  | .exit id, σ, _, E, _ => E.k id σ
  | .ret, σ, _, _, Rt => Rt.k σ ()
  | _, _, _, _, _ => False

section
variable {P : Program} {own : List Nat}

theorem awp_sound : ∀ (c : Code) (N : HN) (E : HE) (Rt : HR) (σ : St), @awp P own c σ N E Rt → @SWp P c σ N E Rt := by
  intro c
  induction c with
  | skip => intro N E Rt σ h C a w hS; exact wp_skip ⟨σ, h, hS⟩
  | label l => intro N E Rt σ h C a w hS; exact wp_label ⟨σ, h, hS⟩
  | region id ops draw =>
    intro N E Rt σ h C a w hS
    cases draw with
    | true => unfold awp at h; exact h C a w hS
    | false =>
      unfold awp at h
      cases hc : own.contains (1000 + id) with
      | true => exact h.1 hc C a w hS
      | false => exact region_sound (own := own) (fun σ a w hN hS => ⟨σ, hN, hS⟩) (h.2 hc) hS
  | seq x y ihx ihy =>
    intro N E Rt σ h C a w hS
    unfold awp at h
    refine wp_seq (wp_mono (ihx _ _ _ _ h C a w hS) fun e a' w' hq => ?_)
    cases e with
    | normal => obtain ⟨σ', h1, h2⟩ := hq; exact ihy _ _ _ _ h1 C a' w' h2
    | exit id => exact hq
    | ret => exact hq
    | goto l => exact hq.elim
    | panic ch => exact hq.elim
    | outgrown => exact hq.elim
  | cond c x y ihx ihy =>
    intro N E Rt σ h C a w hS
    unfold awp at h
    obtain ⟨b, hb, h⟩ := AOpt_elim h
    have hb := asB_eq hb
    · obtain ⟨hv, hd, hsz, hsl, hM, hF⟩ := id hS
      have hc := ev_ok hsl c
      rw [hb] at hc
      simp only [RV] at hc
      exact wp_cond_split hc (fun ht => ihx _ _ _ _ (h.1 ht) C a w hS) (fun hf => ihy _ _ _ _ (h.2 hf) C a w hS)
  | block id c ih =>
    intro N E Rt σ h C a w hS
    unfold awp at h
    refine wp_block (wp_mono (ih _ _ _ _ h C a w hS) fun e a' w' hq => ?_)
    cases e with
    | normal => exact hq
    | exit id' =>
      obtain ⟨σ', h1, h2⟩ := hq
      simp only at h1
      simp only [Exit.inBlock]
      split
      · rename_i he; rw [if_pos he] at h1; exact ⟨σ', h1, h2⟩
      · rename_i he; rw [if_neg he] at h1; exact ⟨σ', h1, h2⟩
    | ret => exact hq
    | goto l => exact hq.elim
    | panic ch => exact hq.elim
    | outgrown => exact hq.elim
  | loop c _ => intro N E Rt σ h; unfold awp at h; exact h
  | scope c ih =>
    intro N E Rt σ h C a w hS
    unfold awp at h
    refine wp_scope_straight (wp_mono (ih _ _ _ _ h C a w hS) fun e a' w' hq => ?_)
    cases e with
    | normal => exact hq
    | exit id => exact hq
    | ret => exact hq
    | goto l => exact hq.elim
    | panic ch => exact hq.elim
    | outgrown => exact hq.elim
  | exit id => intro N E Rt σ h C a w hS; exact wp_exit ⟨σ, h, hS⟩
  | ret => intro N E Rt σ h C a w hS; exact wp_ret ⟨σ, h, hS⟩
  | _ => intro N E Rt σ h; simp [awp] at h

theorem least (J : Nat → Prop) (h : ∃ n, J n) : ∃ m, J m ∧ ∀ n, J n → m ≤ n := by
  obtain ⟨n, hn⟩ := h
  induction n using Nat.strongRecOn with
  | _ n ih =>
    by_cases h : ∃ k, k < n ∧ J k
    · obtain ⟨k, hk, hJ⟩ := h; exact ih k hk hJ
    · exact ⟨n, hn, fun k hk => by
        rcases Nat.lt_or_ge k n with hlt | hge
        · exact absurd ⟨k, hlt, hk⟩ h
        · exact hge⟩

/-- the state may be weakened. -/
theorem swp_le {c : Code} {N : HN} {E : HE} {Rt : HR} {σ σ' : St} (h : Le σ σ') (hs : @SWp P c σ' N E Rt) : @SWp P c σ N E Rt := fun C a w hS => hs C a w (h C a w hS)

theorem Le.refl (σ : St) : Le σ σ := fun _ _ _ h => h
theorem Le.trans {σ σ' σ'' : St} (h : Le σ σ') (k : Le σ' σ'') : Le σ σ'' := fun C a w hS => k C a w (h C a w hS)

/-- slots may be forgotten. -/
def leSl : List AV → List AV → Prop
  | [], [] => True
  | a :: aS, b :: bs => (b = .bot ∨ b = a) ∧ leSl aS bs
  | _, _ => False

theorem leSl_get : ∀ (aS bs : List AV), leSl aS bs → aS.length = bs.length ∧ ∀ (i : Nat) (x : AV), bs[i]? = some x → x = .bot ∧ i < aS.length ∨ aS[i]? = some x
  | [], [], _ => by simp
  | a :: aS, b :: bs, h => by
    obtain ⟨h1, h2⟩ := h
    obtain ⟨h3, h4⟩ := leSl_get aS bs h2
    refine ⟨by simp [h3], fun i x hx => ?_⟩
    cases i with
    | zero =>
      simp at hx
      subst hx
      rcases h1 with rfl | rfl
      · exact .inl ⟨rfl, by simp⟩
      · exact .inr (by simp)
    | succ i =>
      simp at hx
      rcases h4 i x hx with ⟨e, hl⟩ | hl
      · exact .inl ⟨e, by simpa using hl⟩
      · exact .inr (by simpa using hl)
  | [], _ :: _, h => by cases h
  | _ :: _, [], h => by cases h

/-- objects of the end may be forgotten, if no slot that is kept names them. -/
theorem le_of {sl sl' : List AV} {M M' Mx : Mem} (h : leSl sl sl') (hM : M = M' ++ Mx) (hf : AV.freeL ((List.range Mx.length).map (· + M'.length)) sl' = true)
    (hm : ∀ ob, some ob ∈ M' → AV.freeL ((List.range Mx.length).map (· + M'.length)) ob.xs = true) : Le ⟨sl, M⟩ ⟨sl', M'⟩ := by
  intro C a w hS
  obtain ⟨hv, hd, hsz, hsl, hMR, hF⟩ := hS
  subst hM
  let Z := (List.range Mx.length).map (· + M'.length)
  have hZ : ∀ i, i ∈ Z ↔ M'.length ≤ i ∧ i < M'.length + Mx.length := by
    intro i
    simp only [Z, List.mem_map, List.mem_range]
    constructor
    · rintro ⟨j, hj, rfl⟩; omega
    · rintro ⟨h1, h2⟩; exact ⟨i - M'.length, by omega, by omega⟩
  let hv' : Nat → Option Value := fun i => if i < M'.length then hv i else none
  have hown : ∀ b, Own hv' b → Own hv b := by
    rintro b ⟨i, v, hi, hb⟩
    simp only [hv'] at hi
    split at hi
    · exact ⟨i, v, hi, hb⟩
    · cases hi
  have hs : StepR C.A w hv Z w hv' := by
    refine ⟨⟨Nat.le_refl _, fun _ _ _ => rfl, fun b _ hb => hown b hb⟩, fun i u hi h => ?_, rfl, rfl, rfl, Nat.le_refl _⟩
    have hlt : i < M'.length := by
      obtain ⟨ob, hob⟩ := hMR.dom i u h
      have := (List.getElem?_eq_some_iff.1 hob).1
      rw [List.length_append] at this
      rcases Nat.lt_or_ge i M'.length with h' | h'
      · exact h'
      · exact absurd ((hZ i).2 ⟨h', this⟩) hi
    simp only [hv', if_pos hlt]
    exact h
  have hfree : ∀ (l : List AV), AV.freeL Z l = true → ∀ x ∈ l, x.free Z = true := by
    intro l
    induction l with
    | nil => intro _ x hx; cases hx
    | cons y l ih =>
      intro h x hx
      simp only [AV.freeL, Bool.and_eq_true] at h
      rcases List.mem_cons.1 hx with rfl | hx
      · exact h.1
      · exact ih h.2 x hx
  obtain ⟨hlen, hget⟩ := leSl_get sl sl' h
  refine ⟨hv', hd, by rw [hsz]; exact hlen, fun i x hx => ?_, ⟨fun i ob hi => ?_, fun i v hi => ?_, fun i j vi vj b hi hj => ?_, hMR.old, hs.gl hMR.gl⟩, hF.step hs⟩
  · rcases hget i x hx with ⟨rfl, hl⟩ | hl
    · simp only at hsz hl
      exact ⟨a.tmps[i]'(by omega), Array.getElem?_eq_getElem (by omega), by simp [RV]⟩
    · obtain ⟨v, h1, h2⟩ := hsl i x hl
      have := hs.rv h2
      rw [AV.kill_free Z x (hfree sl' hf x (List.mem_of_getElem? hx))] at this
      exact ⟨v, h1, this⟩
  · have hlt : i < M'.length := (List.getElem?_eq_some_iff.1 hi).1
    obtain ⟨v, h1, h2, h3⟩ := live_step hMR hs (fun v b h1 h2 => rfl) (fun h => by have := (hZ i).1 h; omega) (by rw [List.getElem?_append_left hlt]; exact hi)
    have hk : Ob.kill Z ob = ob := by
      have := hm ob (List.mem_of_getElem? hi)
      cases ob
      simp only [Ob.kill, Ob.mk.injEq, true_and]
      rw [AV.killL_map]
      have h' := hfree _ this
      rw [List.map_congr_left (fun x hx => AV.kill_free Z x (h' x hx))]
      simp
    rw [hk] at h3
    exact ⟨v, h2, h3⟩
  · simp only [hv'] at hi
    split at hi
    · rename_i hlt
      obtain ⟨ob, hob⟩ := hMR.dom i v hi
      rw [List.getElem?_append_left hlt] at hob
      exact ⟨ob, hob⟩
    · cases hi
  · simp only [hv'] at hi hj
    split at hi
    · split at hj
      · exact hMR.inj i j vi vj b hi hj
      · cases hj
    · cases hi
end

end Aw
end Go.Proofs.YtndniceeibflcaaGreatDoor

namespace Go.Proofs.YtndniceeibflcaaGreatDoor
namespace Aw
open Go.RowKit

section
variable {w : World} {T T' : Nat → Prop} {hv hv' : Nat → Option Value} {F : Nat → AV} {G : Nat → Nat → Nat → Nat → AV}

theorem single_sub (hF1 : ∀ i, (F i).single = true) (hG1 : ∀ i k j off, (G i k j off).single = true) (a : AV) (h : a.single = true) : (a.sub F G).single = true := by
  cases a <;> simp_all [AV.single, AV.sub]

theorem R_sub (hT : ∀ b, T' b → T b) (hF : ∀ i v, hv i = some v → R w T' hv' (F i) [v]) (hF1 : ∀ i, (F i).single = true) (hG : ∀ i k j off us, R w T hv (.q i k j off) us → R w T' hv' (G i k j off) us) (hG1 : ∀ i k j off, (G i k j off).single = true) :
    ∀ (a : AV) (us : List Value), R w T hv a us → R w T' hv' (a.sub F G) us := by
  have hk : Keeps w T w T' := ⟨Nat.le_refl _, fun _ _ _ => rfl, fun b _ h => hT b h⟩
  intro a
  refine AV.rec (motive_1 := fun a => ∀ us, R w T hv a us → R w T' hv' (a.sub F G) us) (motive_2 := fun l => ∀ us, RL w T hv l us → RL w T' hv' (AV.subL F G l) us)
    ?_ ?_ ?_ ?_ ?_ ?_ ?_ ?_ ?_ ?_ ?_ a
  · intro us h; simpa only [R, AV.sub] using h
  · intro x us h; simpa only [R, AV.sub] using h
  · intro k xs _ us h
    have := R_keep hk (.s k xs) [] hv hv us (fun _ _ _ h => h) h
    rw [AV.kill_nil] at this
    simpa only [R, AV.sub] using this
  · intro xs ih us h; simp only [R, AV.sub] at h ⊢; exact ih us h
  · intro xs _ us h; simp [R] at h
  · intro x off _ us h
    have := R_keep hk (.p x off) [] hv hv us (fun _ _ _ h => h) h
    rw [AV.kill_nil] at this
    simpa only [R, AV.sub] using this
  · intro i us h
    simp only [R] at h
    obtain ⟨v, h1, rfl, _⟩ := h
    simp only [AV.sub]
    exact hF i v h1
  · intro i k j off us h
    simp only [AV.sub]
    exact hG i k j off us h
  · intro fn cap ih us h
    simp only [R, AV.sub] at h ⊢
    obtain ⟨cs, h1, h2, h3⟩ := h
    exact ⟨cs, h1, fun x hx => by rw [AV.subL_map] at hx; obtain ⟨y, hy, rfl⟩ := List.mem_map.1 hx; exact single_sub hF1 hG1 y (h2 y hy), ih _ h3⟩
  · intro us h; simpa only [RL, AV.subL] using h
  · intro x xs ih1 ih2 us h
    simp only [RL, AV.subL] at h ⊢
    obtain ⟨u1, u2, rfl, h1, h2⟩ := h
    exact ⟨u1, u2, rfl, ih1 u1 h1, ih2 u2 h2⟩

theorem RL_sub (hT : ∀ b, T' b → T b) (hF : ∀ i v, hv i = some v → R w T' hv' (F i) [v]) (hF1 : ∀ i, (F i).single = true) (hG : ∀ i k j off us, R w T hv (.q i k j off) us → R w T' hv' (G i k j off) us) (hG1 : ∀ i k j off, (G i k j off).single = true) :
    ∀ (l : List AV) (us : List Value), RL w T hv l us → RL w T' hv' (AV.subL F G l) us
  | [], us, h => by simpa only [RL, AV.subL] using h
  | x :: xs, us, h => by
    simp only [RL, AV.subL] at h ⊢
    obtain ⟨u1, u2, rfl, h1, h2⟩ := h
    exact ⟨u1, u2, rfl, R_sub hT hF hF1 hG hG1 x u1 h1, RL_sub hT hF hF1 hG hG1 xs u2 h2⟩

theorem RV_sub (hT : ∀ b, T' b → T b) (hF : ∀ i v, hv i = some v → R w T' hv' (F i) [v]) (hF1 : ∀ i, (F i).single = true) (hG : ∀ i k j off us, R w T hv (.q i k j off) us → R w T' hv' (G i k j off) us) (hG1 : ∀ i k j off, (G i k j off).single = true) :
    ∀ (a : AV) (v : Value), RV w T hv a v → RV w T' hv' (a.sub F G) v := by
  intro a
  refine AV.rec (motive_1 := fun a => ∀ v, RV w T hv a v → RV w T' hv' (a.sub F G) v) (motive_2 := fun l => ∀ vs, RVL w T hv l vs → RVL w T' hv' (AV.subL F G l) vs)
    ?_ ?_ ?_ ?_ ?_ ?_ ?_ ?_ ?_ ?_ ?_ a
  · intro v _; simp [RV, AV.sub]
  · intro x v h; simpa only [RV, AV.sub] using h
  · intro k xs _ v h; have := R_sub hT hF hF1 hG hG1 (.s k xs) [v] (by simpa only [RV] using h); simpa only [RV, AV.sub] using this
  · intro xs _ v h
    simp only [RV, AV.sub] at h ⊢
    obtain ⟨cs, rfl, h⟩ := h
    exact ⟨cs, rfl, RL_sub hT hF hF1 hG hG1 xs _ h⟩
  · intro xs ih v h
    simp only [RV, AV.sub] at h ⊢
    obtain ⟨vs, rfl, h⟩ := h
    exact ⟨vs, rfl, ih _ h⟩
  · intro x off _ v h; have := R_sub hT hF hF1 hG hG1 (.p x off) [v] (by simpa only [RV] using h); simpa only [RV, AV.sub] using this
  · intro i v h
    have h' : R w T hv (.o i) [v] := by simpa only [RV] using h
    exact R_RV (hF1 i) (R_sub hT hF hF1 hG hG1 (.o i) [v] h')
  · intro i k j off v h
    have h' : R w T hv (.q i k j off) [v] := by simpa only [RV] using h
    exact R_RV (hG1 i k j off) (R_sub hT hF hF1 hG hG1 (.q i k j off) [v] h')
  · intro fn cap _ v h; have := R_sub hT hF hF1 hG hG1 (.f fn cap) [v] (by simpa only [RV] using h); simpa only [RV, AV.sub] using this
  · intro vs h; simpa only [RVL, AV.subL] using h
  · intro x xs ih1 ih2 vs h
    simp only [RVL, AV.subL] at h ⊢
    obtain ⟨u, us, rfl, h1, h2⟩ := h
    exact ⟨u, us, rfl, ih1 u h1, ih2 us h2⟩
end

/-- the objects are read, and no longer written. -/
def frz (M : Mem) : AV → AV := AV.sub (fun i => match M[i]? with | some (some ob) => if (ob.mp.isNone && AV.pureL ob.xs) = true then .s ob.k ob.xs else .bot | _ => .bot) (fun _ _ _ _ => .bot)

/-- one object is handed on. -/
def exp1 (i : Nat) : AV → AV := AV.sub (fun j => if j = i then .o 0 else .bot) (fun j k jj off => if j = i then .q 0 k jj off else .bot)

/-- what is returned: x, told as r, with the objects Ms. -/
def Ret (M : Mem) (x : AV) (r : AV) (Ms : List Ob) : Prop :=
  ∀ A w hv v, MemR A w hv M → (∀ b, Own hv b → ¬ A b) → RV w (OwnA A hv) hv x v → ∃ hv', MemR A w hv' (Ms.map some) ∧ RV w (OwnA A hv') hv' r v ∧ ∀ b, Own hv' b → Own hv b

theorem R_botq {w : World} {T : Nat → Prop} {hv hv' : Nat → Option Value} {i k j off : Nat} {us : List Value} (h : R w T hv (.q i k j off) us) : R w T hv' .bot us := by
  simp only [R] at h
  obtain ⟨b, n, c, _, rfl⟩ := h
  exact ⟨_, rfl, rfl⟩

theorem ret_frz (M : Mem) (x : AV) : Ret M x (frz M x) [] := by
  intro A w hv v hM hA hx
  refine ⟨noHv, ⟨fun i ob h => by simp at h, fun i v h => by simp [noHv] at h, fun i j vi vj b h => by simp [noHv] at h, hM.old, hM.gl.1, fun b h => by obtain ⟨i, v, h, _⟩ := h; simp [noHv] at h⟩, ?_, fun b h => by obtain ⟨i, v, h, _⟩ := h; simp [noHv] at h⟩
  have hown : ∀ b, ¬ Own noHv b := fun b h => by obtain ⟨i, v, h, _⟩ := h; simp [noHv] at h
  refine RV_sub (T := OwnA A hv) (T' := OwnA A noHv) (hv := hv) (hv' := noHv) (fun b h => h.elim .inl (fun h => absurd h (hown b))) (fun i v h => ?_) (fun i => ?_) (fun i k j off us h => R_botq h) (fun _ _ _ _ => rfl) x v hx
  · obtain ⟨ob, hob⟩ := hM.dom i v h
    simp only [hob]
    split
    · rename_i hp
      simp only [Bool.and_eq_true, Option.isNone_iff_eq_none] at hp
      obtain ⟨hm, hp⟩ := hp
      obtain ⟨us, hrow, hk, hus⟩ := (hM_ob hM hob h).row hm
      have hus' := RL_pure ob.xs hv noHv us hp hus
      have hkeep : Keeps w (OwnA A hv) w (OwnA A noHv) := ⟨Nat.le_refl _, fun _ _ _ => rfl, fun b _ h => h.elim .inl (fun h => absurd h (hown b))⟩
      have hus2 := RL_keep hkeep (Z := []) (hv := noHv) (hv' := noHv) (fun _ _ _ h => h) _ _ hus'
      rw [AV.killL_nil] at hus2
      simp only [R]
      rcases hrow.2 with ⟨rfl, h0⟩ | ⟨g, cap, cur, rfl, _, hg, hnc, hcm, hcs, htk⟩
      · have he : ob.xs = [] := List.eq_nil_of_length_eq_zero h0
        rw [he]
        exact ⟨none, 0, [], by simp, Nat.le_refl _, Nat.zero_le _, by simp, by simp [RL], fun h => absurd rfl h⟩
      · refine ⟨_, cap, us, rfl, hnc, hcm, hk, hus2, fun _ => ⟨g, 0, rfl, (Array.getElem?_eq_some_iff.1 hg).1, fun h' => ?_, fun j u hu => ?_⟩⟩
        · rcases h' with h' | h'
          · exact hA g ⟨i, _, h, rfl⟩ h'
          · exact hown g h'
        · have := hrow.cells (g := g) rfl j u hu
          rw [Addr.add_lit] at this
          exact this
    · simp only [R]; exact ⟨v, rfl, (hM_ob hM hob h).one⟩
  · split
    · split <;> rfl
    · rfl

theorem ret_exp1 (M : Mem) (x : AV) (i : Nat) (ob : Ob) (hi : M[i]? = some (some ob)) (hp : AV.pureL ob.xs = true) : Ret M x (exp1 i x) [ob] := by
  intro A w hv v hM hA hx
  obtain ⟨v0, hv0, hob⟩ := hM.live i ob hi
  let hv' : Nat → Option Value := fun j => if j = 0 then some v0 else none
  have hown : ∀ b, Own hv' b → Own hv b := by
    rintro b ⟨j, u, hj, hb⟩
    simp only [hv'] at hj
    split at hj
    · injection hj with hj; subst hj; exact ⟨i, _, hv0, hb⟩
    · cases hj
  have hkeep : Keeps w (OwnA A hv) w (OwnA A hv') := ⟨Nat.le_refl _, fun _ _ _ => rfl, fun b _ h => h.elim .inl (fun h => .inr (hown b h))⟩
  refine ⟨hv', ⟨fun j o h => ?_, fun j u h => ?_, fun j1 j2 v1 v2 b h1 h2 _ _ => ?_, hM.old, hM.gl.1, fun b h => hM.gl.2 b (hown b h)⟩, ?_, hown⟩
  · cases j with
    | zero =>
      simp at h
      subst h
      refine ⟨v0, rfl, ?_⟩
      cases hm : ob.mp with
      | some ks =>
        obtain ⟨vals, g1, g3⟩ := hob.map hm
        have h1 := RVL_pure ob.xs hv hv' _ hp g3
        have := RVL_keep hkeep (Z := []) (hv := hv') (hv' := hv') (fun _ _ _ h => h) _ _ h1
        rw [AV.killL_nil] at this
        exact ObR.of_map hm ⟨vals, g1, this⟩
      | none =>
      obtain ⟨us, hrow, hk, hus⟩ := hob.row hm
      refine ObR.of_row hm ⟨us, hrow, hk, ?_⟩
      have h1 := RL_pure ob.xs hv hv' us hp hus
      have := RL_keep hkeep (Z := []) (hv := hv') (hv' := hv') (fun _ _ _ h => h) _ _ h1
      rwa [AV.killL_nil] at this
    | succ j => simp at h
  · simp only [hv'] at h
    split at h
    · rename_i hj; subst hj; exact ⟨ob, rfl⟩
    · cases h
  · simp only [hv'] at h1 h2
    split at h1
    · split at h2
      · omega
      · cases h2
    · cases h1
  · refine RV_sub (T := OwnA A hv) (T' := OwnA A hv') (hv := hv) (hv' := hv') (fun b h => h.elim .inl (fun h => .inr (hown b h))) (fun j u h => ?_) (fun j => by split <;> rfl) (fun j k jj off us h => ?_) (fun j _ _ _ => by split <;> rfl) x v hx
    · split
      · rename_i hj
        subst hj
        rw [hv0] at h
        injection h with h
        subst h
        exact ⟨v0, rfl, rfl, hob.one⟩
      · obtain ⟨o, ho⟩ := hM.dom j u h
        exact ⟨u, rfl, (hM_ob hM ho h).one⟩
    · split
      · rename_i hj
        subst hj
        simp only [R] at h ⊢
        obtain ⟨b, n, c, h1, h2⟩ := h
        rw [hv0] at h1
        injection h1 with h1
        exact ⟨b, n, c, by simp [hv', h1], h2⟩
      · exact R_botq h

def resOne (P : Program) (σ : St) : ResultVar → Option AV
  | .tmp t => some (σ.sl.getD t .bot)
  | .cell t ty => match tiOf P ty, σ.sl.getD t .bot with
    | some ti, .q id k j off => (match σ.M[id]? with
      | some (some ob) => if ob.k = k ∧ j < ob.xs.length then loadA ti (ob.xs.getD j .bot) off else none
      | _ => none)
    | _, _ => none

def resL (P : Program) (σ : St) : List ResultVar → Option (List AV)
  | [] => some []
  | r :: rs => match resOne P σ r, resL P σ rs with
    | some x, some xs => some (x :: xs)
    | _, _ => none

def resA (P : Program) (rs : List ResultVar) (σ : St) : Option AV :=
  match resL P σ rs with
  | some [x] => some x
  | some xs => some (.t xs)
  | none => none

/-- what holds where a function ends. -/
def AEnd (P : Program) (rs : List ResultVar) (post : AV → List Ob → Prop) (σ : St) : Prop :=
  ∃ x, resA P rs σ = some x ∧ ∃ r Ms, Ret σ.M x r Ms ∧ post r Ms

section
variable {P : Program}

end

end Aw
end Go.Proofs.YtndniceeibflcaaGreatDoor
