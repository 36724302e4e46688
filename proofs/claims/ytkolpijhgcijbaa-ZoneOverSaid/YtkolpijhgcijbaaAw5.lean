/-
  The calculus: 'core' is sound: loads, stores, addresses, tests.
-/
import Derived.Test.YtkolpijhgcijbaaAw4
namespace Go.Proofs.Ytkolpijhgcijbaa
namespace Aw
open Go.RowKit

section
variable {A : Nat → Prop} {P : Program} {w : World} {T : Nat → Prop} {hv : Nat → Option Value}

theorem tiOf_spec {t : TypeId} {ti : TI} (h : tiOf P t = some ti) : ∃ i d z, P.info? t = some i ∧ P.underlying t = some d ∧ i.zero = some z ∧ z.cells.size = i.size ∧ (∀ u ∈ z.cells.toList, u.oneCell' = true) ∧
    ti.agg = (match d with | .struct _ | .array _ _ => true | _ => false) ∧ ti.size = i.size ∧ ti.bytes = i.bytes ∧ ti.zero = z.cells.toList ∧
    ti.elem = (match d with | .slice e => some e | _ => none) ∧ ti.arr = (match d with | .array n e => some (n, e) | _ => none) ∧
    ti.flds = (match d with | .struct fs => fs.toList.map fun f => (f.offset, P.cellsOf f.type) | _ => []) ∧
    ti.ftys = (match d with | .struct fs => fs.toList.map fun f => f.type | _ => []) ∧ ti.bool = (match d with | .bool => true | _ => false) ∧ ti.eqn = eqnOf P t ∧ fldsKnown P d = true := by
  unfold tiOf at h
  split at h
  · rename_i i d hi hd
    split at h
    · rename_i z hz
      split at h
      · rename_i hc
        injection h with h
        subst h
        simp only [Bool.and_eq_true, decide_eq_true_eq, List.all_eq_true] at hc
        exact ⟨i, d, z, hi, hd, hz, hc.1.1, hc.1.2, rfl, rfl, rfl, rfl, rfl, rfl, rfl, rfl, rfl, rfl, hc.2⟩
      · cases h
    · cases h
  · cases h

theorem ti_elem {t e : TypeId} {ti : TI} (h : tiOf P t = some ti) (he : ti.elem = some e) : P.underlying t = some (.slice e) := by
  obtain ⟨i, d, z, _, hd, _, _, _, _, _, _, _, h1, _⟩ := tiOf_spec h
  rw [h1] at he
  cases d <;> simp at he
  subst he
  exact hd

theorem ti_size {t : TypeId} {ti : TI} (h : tiOf P t = some ti) (w : World) : (sizeOf t).run P w = .ok ti.size w := by
  obtain ⟨i, d, z, hi, _, _, _, _, _, h1, _⟩ := tiOf_spec h
  simp [sizeOf, typeInfo, hi, h1]

theorem ti_agg {t : TypeId} {ti : TI} (h : tiOf P t = some ti) (w : World) : (isAgg t).run P w = .ok ti.agg w := by
  obtain ⟨i, d, z, _, hd, _, _, _, h1, _⟩ := tiOf_spec h
  simp only [isAgg, Sem.run_bind, run_underlying hd, Result.andThen_ok, h1]
  cases d <;> rfl

theorem ti_arr {t e : TypeId} {n : Nat} {ti : TI} (h : tiOf P t = some ti) (he : ti.arr = some (n, e)) : P.underlying t = some (.array n e) := by
  obtain ⟨i, d, z, _, hd, _, _, _, _, _, _, _, _, h1, _⟩ := tiOf_spec h
  rw [h1] at he
  cases d <;> simp at he
  obtain ⟨rfl, rfl⟩ := he
  exact hd

theorem ti_fld {t : TypeId} {f fo fs : Nat} {ti : TI} (h : tiOf P t = some ti) (hf : ti.flds[f]? = some (fo, fs)) :
    ∃ Fs : Array Field, ∃ F : Field, P.underlying t = some (.struct Fs) ∧ Fs[f]? = some F ∧ F.offset = fo ∧ P.cellsOf F.type = fs := by
  obtain ⟨i, d, z, _, hd, _, _, _, _, _, _, _, _, _, h1, _⟩ := tiOf_spec h
  rw [h1] at hf
  cases d with
  | struct Fs =>
    simp only [List.getElem?_map, Array.getElem?_toList] at hf
    cases hF : Fs[f]? with
    | none => rw [hF] at hf; simp at hf
    | some F => rw [hF] at hf; simp at hf; exact ⟨Fs, F, hd, hF, hf.1, hf.2⟩
  | _ => simp at hf

theorem ti_fty {t ft : TypeId} {f fo fs : Nat} {ti : TI} (h : tiOf P t = some ti) (hf : ti.flds[f]? = some (fo, fs)) (hg : ti.ftys[f]? = some ft) :
    ∃ Fs : Array Field, ∃ F : Field, P.underlying t = some (.struct Fs) ∧ Fs[f]? = some F ∧ F.offset = fo ∧ F.type = ft := by
  obtain ⟨Fs, F, hu, hF, h1, _⟩ := ti_fld h hf
  obtain ⟨i, d, z, _, hd, _, _, _, _, _, _, _, _, _, _, h2, _⟩ := tiOf_spec h
  rw [hd] at hu
  injection hu with hu
  subst hu
  rw [h2] at hg
  simp only [List.getElem?_map, Array.getElem?_toList, hF, Option.map_some, Option.some.injEq] at hg
  exact ⟨Fs, F, hd, hF, h1, hg⟩

theorem part_ok {t : TypeId} {ti : TI} {xs : List AV} {r : AV} {off : Nat} {cs : Array Value} (ht : tiOf P t = some ti) (hy : RL w T hv xs cs.toList) (hl : loadA ti (.g xs) off = some r) :
    ∃ u, (part t cs off).run P w = .ok u w ∧ RV w T hv r u := by
  unfold loadA at hl
  split at hl
  · cases hl
  rename_i hflat
  have hf : (AV.g xs).flat = true := by simpa using hflat
  have hs : ∀ x ∈ xs, x.size = 1 := flat_size hf
  simp only [part, Sem.run_bind, ti_agg ht, Result.andThen_ok]
  have hwl : cs.size = xs.length := by have := RL_len xs _ hs hy; simpa using this
  split at hl
  · rename_i hag
    simp only [hag, if_true, Sem.run_bind, ti_size ht, Result.andThen_ok, Sem.run_pure]
    refine ⟨_, rfl, ?_⟩
    simp only at hl
    split at hl
    · rename_i hh
      simp only [Bool.and_eq_true, beq_iff_eq] at hh
      injection hl with hl
      subst hl
      simp only [RV]
      refine ⟨_, rfl, ?_⟩
      rw [hh.1, ← hh.2, Nat.zero_add, ← hwl]
      simpa using hy
    · split at hl
      · rename_i hh
        simp only [decide_eq_true_eq] at hh
        injection hl with hl
        subst hl
        have h1 := RL_take (n := ti.size) (fun x hx => hs x (List.mem_of_mem_drop hx)) (RL_drop hs hy off)
        simp only [Nat.mul_one] at h1
        simp only [RV]
        refine ⟨_, rfl, ?_⟩
        have : (cs.extract off (off + ti.size)).toList = (cs.toList.drop off).take ti.size := by simp [List.extract_eq_take_drop]
        rw [this]; exact h1
      · cases hl
  · rename_i hag
    simp only [hag]
    obtain ⟨u, hu, hR⟩ := cell_at hs hy hl
    have hu' : cs[off]? = some u := by simpa using hu
    refine ⟨u, by simp [hu'], R_RV ?_ hR⟩
    simp only [AV.flat, AV.cells, List.all_eq_true] at hf
    exact hf r (List.mem_of_getElem? hl)

theorem run_sizeOf' {t : TypeId} {n : Nat} (h : P.cellsOf t = n) (hn : n ≠ 0) (w : World) : (sizeOf t).run P w = .ok n w := by
  unfold Program.cellsOf at h
  cases hi : P.info? t with
  | none => rw [hi] at h; simp at h; omega
  | some i => rw [hi] at h; simp at h; simp [sizeOf, typeInfo, hi, h]

theorem load_ok {t : TypeId} {ti : TI} {y r : AV} {off b o : Nat} {ws : List Value} (ht : tiOf P t = some ti) (hy : R w T hv y ws) (hc : ∀ j u, ws[j]? = some u → w.cell? ⟨b, o + j, none⟩ = some u)
    (hl : loadA ti y off = some r) : ∃ u, (loadVar t ⟨b, o + off, none⟩).run P w = .ok u w ∧ RV w T hv r u := by
  unfold loadA at hl
  split at hl
  · cases hl
  rename_i hflat
  have hf : y.flat = true := by simpa using hflat
  have hL := (R_cells hf).1 hy
  have hs := flat_size hf
  simp only [loadVar, Sem.run_bind, ti_agg ht, Result.andThen_ok]
  split at hl
  · rename_i hag
    simp only [hag, if_true, Sem.run_bind, ti_size ht, Result.andThen_ok]
    have key : ∀ (zs : List AV) (n : Nat), zs = (y.cells.drop off).take n → n = ti.size → off + n ≤ y.cells.length → ∃ u, ((loadCells ⟨b, o + off, none⟩ ti.size).run P w).andThen (fun a w' => (pure (Value.agg a) : Sem Value).run P w') = .ok u w ∧ RV w T hv (.g zs) u := by
      intro zs n hz hn hlen
      have h1 := RL_take (n := n) (fun x hx => hs x (List.mem_of_mem_drop hx)) (RL_drop hs hL off)
      simp only [Nat.mul_one] at h1
      have hwl : ws.length = y.cells.length := by have := RL_len y.cells ws hs hL; omega
      have h2 := run_loadCells_list (P := P) w ⟨b, o + off, none⟩ ((ws.drop off).take n) (fun j v hj => by
        rw [Addr.add_lit]
        rw [List.getElem?_take] at hj
        split at hj
        · rw [List.getElem?_drop] at hj
          have := hc _ _ hj
          rw [← Nat.add_assoc] at this
          exact this
        · cases hj)
      have hlen2 : ((ws.drop off).take n).length = ti.size := by simp; omega
      rw [hlen2] at h2
      refine ⟨_, by rw [h2]; rfl, ?_⟩
      simp only [RV]
      exact ⟨_, rfl, by rw [hz]; exact h1⟩
    split at hl
    · rename_i xs
      split at hl
      · rename_i hh
        simp only [Bool.and_eq_true, beq_iff_eq] at hh
        injection hl with hl
        subst hl
        exact key xs ti.size (by simp only [AV.cells]; rw [hh.1, ← hh.2]; simp) rfl (by simp only [AV.cells]; omega)
      · split at hl
        · rename_i hh
          simp only [decide_eq_true_eq] at hh
          injection hl with hl
          subst hl
          exact key _ ti.size rfl rfl (by simp only [AV.cells]; exact hh)
        · cases hl
    · cases hl
  · rename_i hag
    simp only [hag]
    obtain ⟨u, hu, hR⟩ := cell_at hs hL hl
    have hcell := hc off u hu
    refine ⟨u, by simp [load, Sem.run, hcell], R_RV ?_ hR⟩
    simp only [AV.flat, List.all_eq_true] at hf
    exact hf r (List.mem_of_getElem? hl)

theorem putsA_len : ∀ (l cs : List AV) (off : Nat), (putsA cs off l).length = cs.length
  | [], cs, off => rfl
  | x :: l, cs, off => by simp [putsA, putsA_len l]

theorem putsA_RL : ∀ (l cs : List AV) (off : Nat) (us vs : List Value), (∀ x ∈ cs, x.size = 1) → (∀ x ∈ l, x.size = 1) → RL w T hv cs us → RL w T hv l vs → off + l.length ≤ cs.length →
    RL w T hv (putsA cs off l) (us.take off ++ vs ++ us.drop (off + vs.length)) ∧ ∀ x ∈ putsA cs off l, x.size = 1
  | [], cs, off, us, vs, h1, _, h3, h4, _ => by
    simp only [RL] at h4
    subst h4
    simp only [putsA, List.append_nil, List.length_nil, Nat.add_zero, List.take_append_drop]
    exact ⟨h3, h1⟩
  | x :: l, cs, off, us, vs, h1, h2, h3, h4, h5 => by
    simp only [RL] at h4
    obtain ⟨u1, u2, rfl, h6, h7⟩ := h4
    have hx1 := R_size x hv u1 h6
    rw [h2 x List.mem_cons_self] at hx1
    match u1, hx1 with
    | [u], _ =>
      simp only [List.length_cons] at h5
      have h8 := RL_set h1 h3 (i := off) (by omega) h6
      have hul : us.length = cs.length := by have := RL_len cs us h1 h3; omega
      have h9 := putsA_RL l (cs.set off x) (off + 1) (us.set off u) u2 (fun y hy => by
        rcases List.mem_or_eq_of_mem_set hy with hy | rfl
        · exact h1 y hy
        · exact h2 _ List.mem_cons_self) (fun y hy => h2 y (List.mem_cons_of_mem _ hy)) h8 h7 (by simp; omega)
      simp only [putsA]
      refine ⟨?_, h9.2⟩
      have e : (us.set off u).take (off + 1) ++ u2 ++ (us.set off u).drop (off + 1 + u2.length) = us.take off ++ ([u] ++ u2) ++ us.drop (off + ([u] ++ u2).length) := by
        have e1 : (us.set off u).take (off + 1) = us.take off ++ [u] := by
          have hl : (us.take off).length = off := by simp; omega
          rw [List.set_eq_take_append_cons_drop, if_pos (by omega), List.take_append, hl, List.take_of_length_le (by omega)]
          simp
        have e2 : (us.set off u).drop (off + 1 + u2.length) = us.drop (off + ([u] ++ u2).length) := by
          rw [List.drop_set_of_lt (by omega)]
          congr 1
          simp
          omega
        rw [e1, e2]
        simp
      rw [← e]
      exact h9.1
end

end Aw
end Go.Proofs.Ytkolpijhgcijbaa
