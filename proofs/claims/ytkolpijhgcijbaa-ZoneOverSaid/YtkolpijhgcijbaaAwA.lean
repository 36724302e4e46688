/-
  The calculus: 'core' is sound: append, build.
-/
import Derived.Test.YtkolpijhgcijbaaAw9
namespace Go.Proofs.Ytkolpijhgcijbaa
namespace Aw
open Go.RowKit

section
variable {A : Nat → Prop} {P : Program} {w : World} {hv : Nat → Option Value} {M : Mem}

theorem ownsRow_add {e : TypeId} {k n : Nat} {v : Value} {xs : List Value} (h : w.ownsRow 0 e k v n xs) (hpos : 0 < n) : ∃ g cap, v = .slice (some ⟨g, 0, none⟩) n cap := by
  rcases h.2 with ⟨_, h0⟩ | ⟨g, cap, cur, rfl, _⟩
  · omega
  · exact ⟨g, cap, rfl⟩

/-- the run of an append onto an own row, from whatever source. -/
theorem run_append_src {t e ty : TypeId} {ti te : TI} (ht : tiOf P t = some ti) (he : ti.elem = some e) (hte : tiOf P e = some te) (hsz : 0 < te.size) {v : Value} {n : Nat} {xs : List Value} (hown : w.ownsRow 0 e te.size v n xs)
    {A : Option Addr} {m c : Nat} {news : List Value} (hl : news.length = m * te.size) (hsrc : 0 < m → ∃ a : Addr, A = some a ∧ ∀ j u, news[j]? = some u → w.cell? (a.add j) = some u) (h1 : ∀ u ∈ news, u.oneCell' = true)
    (h63 : n + m ≤ 1000000) (hbytes : te.bytes ≤ 1000) :
    ∃ v' w', (Builtin.append_ #[t, t] ty #[v, .slice A m c]).run P w = .ok v' w' ∧ w'.ownsRow 0 e te.size v' (n + m) (xs ++ news) ∧ w.grownBy w' v.ownBlock ∧ (v'.ownBlock = v.ownBlock ∨ v'.ownBlock = some w.heap.size) := by
  have hu := ti_elem ht he
  obtain ⟨i, d, z, hi, hd, hz, hz1, hz2, _, hs, hb, _⟩ := tiOf_spec hte
  have hby : (n + m) * te.bytes ≤ 140737488355328 := Nat.le_trans (Nat.mul_le_mul h63 hbytes) (by omega)
  rcases A with _ | a
  · have hm : m = 0 := by
      rcases Nat.eq_zero_or_pos m with h0 | h0
      · exact h0
      · obtain ⟨a, h, _⟩ := hsrc h0; cases h
    subst hm
    have hn : news = [] := List.eq_nil_of_length_eq_zero (by simpa using hl)
    subst hn
    refine ⟨v, w, ?_, by simpa using hown, World.grownBy.refl w _, .inl rfl⟩
    rcases hown.2 with ⟨rfl, rfl⟩ | ⟨g, cap, cur, rfl, _, _, hnc, _⟩
    · simp [Builtin.append_, run_underlying hu, sizeOf, typeInfo, hi, Builtin.lenOf, Builtin.firstCells]
    · simp [Builtin.append_, run_underlying hu, sizeOf, typeInfo, hi, Builtin.lenOf, Builtin.firstCells, hnc, storeCells]
  · obtain ⟨v', w', hr, h2, h3, _, h5⟩ := run_append_own_at (P := P) w 0 t ty e i z te.size te.bytes hu hi hz hs.symm hb.symm (by rw [hz1, hs]) hsz v n xs hown a m c news hl (fun j u hu => by
        rcases Nat.eq_zero_or_pos m with h0 | h0
        · subst h0
          have hn : news = [] := List.eq_nil_of_length_eq_zero (by simpa using hl)
          subst hn
          simp at hu
        · obtain ⟨a', h, hc⟩ := hsrc h0
          injection h with h
          subst h
          exact hc j u hu) h1 (by simp only [maxLen]; omega) hby (Nat.zero_le _)
    exact ⟨v', w', hr, h2, h3, h5⟩

def hvSet (hv : Nat → Option Value) (i : Nat) (v : Value) : Nat → Option Value := fun j => if j = i then some v else hv j

/-- an object's row has grown. -/
theorem mem_append {i : Nat} {ob : Ob} {v v' : Value} {w' : World} {ys : List AV} {us news : List Value} (hM : MemR A w hv M) (hi : M[i]? = some (some ob)) (hmp : ob.mp = none) (hvb : blk v = v.ownBlock) (hvb' : blk v' = v'.ownBlock) (hvi : hv i = some v) (hus : RL w (OwnA A hv) hv ob.xs us) (hks : ∀ x ∈ ob.xs, x.size = ob.k)
    (hrow : w'.ownsRow 0 ob.ty ob.k v' (ob.xs.length + ys.length) (us ++ news)) (hg : w.grownBy w' v.ownBlock) (hb : v'.ownBlock = v.ownBlock ∨ v'.ownBlock = some w.heap.size)
    (hys : ∀ y ∈ ys, y.size = ob.k) (hnews : StepR A w hv [i] w' (hvSet hv i v') → RL w' (OwnA A (hvSet hv i v')) (hvSet hv i v') ys news) :
    MemR A w' (hvSet hv i v') ((Mem.kill [i] M).set i (some { ob with xs := AV.killL [i] ob.xs ++ ys })) ∧ StepR A w hv [i] w' (hvSet hv i v') := by
  have hlt : i < M.length := (List.getElem?_eq_some_iff.1 hi).1
  have hself : hvSet hv i v' i = some v' := by simp [hvSet]
  have hne : ∀ j, j ≠ i → hvSet hv i v' j = hv j := fun j h => by simp [hvSet, h]
  have hs : StepR A w hv [i] w' (hvSet hv i v') := by
    refine ⟨⟨hg.size, fun b hb' hT => hg.block b hb' (fun e => hT ⟨i, v, hvi, by rw [hvb]; exact e.symm⟩), fun b hlt' h => ?_⟩, fun j u hj h => ?_, hg.os, hg.tape, hg.output⟩
    · obtain ⟨j, u, hj, hu⟩ := h
      by_cases hji : j = i
      · subst hji
        rw [hself] at hj
        injection hj with hj
        subst hj
        rw [hvb'] at hu
        rcases hb with hb | hb
        · exact ⟨j, v, hvi, by rw [hvb, ← hb]; exact hu⟩
        · rw [hb] at hu; injection hu with hu; omega
      · rw [hne j hji] at hj
        exact ⟨j, u, hj, hu⟩
    · rw [hne j (by simpa using hj)]; exact h
  refine ⟨⟨fun j o h => ?_, fun j u h => ?_, fun j1 j2 v1 v2 b h1 h2 hb1 hb2 => ?_, fun b h => Nat.lt_of_lt_of_le (hM.old b h) hg.size⟩, hs⟩
  · rw [setOb_get _ _ _ _ (by simpa [Mem.kill] using hlt)] at h
    by_cases hji : j = i
    · subst hji
      rw [if_pos rfl] at h
      simp only [Option.some.injEq] at h
      subst h
      refine ⟨v', hself, ObR.of_row (ob := { ob with xs := AV.killL [j] ob.xs ++ ys }) hmp ⟨us ++ news, ?_, ?_, RL_app _ _ _ _ (RL_keep hs.keeps hs.hv _ _ hus) (hnews hs)⟩⟩
      · simp only [List.length_append, AV.killL_map, List.length_map]; exact hrow
      · intro x hx
        simp only [List.mem_append, AV.killL_map, List.mem_map] at hx
        rcases hx with ⟨y, hy, rfl⟩ | hx
        · rw [AV.size_kill]; exact hks y hy
        · exact hys x hx
    · rw [if_neg hji, Mem.kill_get] at h
      simp only [Option.map_eq_some_iff] at h
      obtain ⟨o', ho', h⟩ := h
      cases o' with
      | none => simp at h
      | some ob' =>
        simp only [Option.some.injEq] at h
        obtain ⟨_, rfl, rfl⟩ := h
        obtain ⟨v1, h9, h10, h11⟩ := live_step hM hs (fun v' b' hi' hb' => hg.block b' (hM.own_lt ⟨j, v', hi', hb'⟩) (fun e => hji (hM.inj j i _ _ b' hi' hvi hb' (by rw [hvb]; exact e.symm)))) (by simpa using hji) ho'
        exact ⟨v1, h10, h11⟩
  · rw [setOb_get _ _ _ _ (by simpa [Mem.kill] using hlt)]
    by_cases hji : j = i
    · exact ⟨_, by rw [if_pos hji]⟩
    · rw [hne j hji] at h
      obtain ⟨o, ho⟩ := hM.dom j u h
      exact ⟨o.kill [i], by rw [if_neg hji, Mem.kill_get, ho]; rfl⟩
  · have key : ∀ j v0 b, j ≠ i → hv j = some v0 → blk v0 = some b → blk v' = some b → False := by
      intro j v0 b hji h hb0 hb'
      rw [hvb'] at hb'
      have hlt' := hM.own_lt ⟨j, v0, h, hb0⟩
      rcases hb with hb | hb
      · exact hji (hM.inj j i _ _ b h hvi hb0 (by rw [hvb, ← hb]; exact hb'))
      · rw [hb] at hb'; injection hb' with hb'; omega
    by_cases e1 : j1 = i <;> by_cases e2 : j2 = i
    · omega
    · subst e1
      rw [hself] at h1
      injection h1 with h1
      subst h1
      rw [hne j2 e2] at h2
      exact (key j2 v2 b e2 h2 hb2 hb1).elim
    · subst e2
      rw [hself] at h2
      injection h2 with h2
      subst h2
      rw [hne j1 e1] at h1
      exact (key j1 v1 b e1 h1 hb1 hb2).elim
    · rw [hne j1 e1] at h1
      rw [hne j2 e2] at h2
      exact hM.inj j1 j2 v1 v2 b h1 h2 hb1 hb2

theorem R_noHv {T : Nat → Prop} (hv : Nat → Option Value) (l : List AV) (us : List Value) (h : RL w T noHv l us) : RL w T hv l us := by
  have := RL_keep (Keeps.refl w T) (Z := []) (hv := noHv) (hv' := hv) (fun i u _ h => by simp [noHv] at h) l us h
  rwa [AV.killL_nil] at this

/-- one value is filled in behind the other. -/
theorem puts_fold (off : Nat) : ∀ (l : List Value) (n : Nat) (cs : Array Value), off + n + l.length ≤ cs.size →
    ((l.zipIdx n).foldl (fun (cs : Array Value) (cj : Value × Nat) => cs.setIfInBounds (off + cj.2) cj.1) cs).toList = cs.toList.take (off + n) ++ l ++ cs.toList.drop (off + n + l.length)
  | [], n, cs, _ => by simp
  | v :: l, n, cs, h => by
    simp only [List.length_cons] at h
    simp only [List.zipIdx_cons, List.foldl_cons]
    rw [puts_fold off l (n + 1) _ (by simp; omega)]
    have hlt : off + n < cs.toList.length := by simp; omega
    simp only [Array.toList_setIfInBounds]
    have e1 : (cs.toList.set (off + n) v).take (off + (n + 1)) = cs.toList.take (off + n) ++ [v] := by
      have hl : (cs.toList.take (off + n)).length = off + n := by simp; omega
      rw [List.set_eq_take_append_cons_drop, if_pos hlt, List.take_append, hl, List.take_of_length_le (by omega)]
      rw [show off + (n + 1) - (off + n) = 1 by omega]
      simp
    have e2 : (cs.toList.set (off + n) v).drop (off + (n + 1) + l.length) = cs.toList.drop (off + n + (v :: l).length) := by
      rw [List.drop_set_of_lt (by omega)]
      congr 1
      simp; omega
    rw [e1, e2]
    simp

def PartsR (w : World) (T : Nat → Prop) (hv : Nat → Option Value) : List (Nat × AV) → List (Nat × Value) → Prop
  | [], [] => True
  | p :: ps, q :: qs => p.1 = q.1 ∧ RV w T hv p.2 q.2 ∧ PartsR w T hv ps qs
  | _, _ => False

theorem fill_ok {T : Nat → Prop} (place : Nat → Option (Nat × Nat)) : ∀ (parts : List (Nat × AV)) (vs : List (Nat × Value)) (cells out : List AV) (cs : Array Value), fillA place cells parts = some out → (∀ x ∈ cells, x.size = 1) → RL w T hv cells cs.toList →
    PartsR w T hv parts vs →
    ∃ res, Instr.fill place cs vs = some res ∧ RL w T hv out res.toList ∧ (∀ x ∈ out, x.size = 1) ∧ res.size = cs.size
  | [], vs, cells, out, cs, h, h1, hr, hp => by
    match vs, hp with
    | [], _ =>
      simp only [fillA, Option.some.injEq] at h
      subst h
      exact ⟨cs, rfl, hr, h1, rfl⟩
  | (i, x) :: parts, vs, cells, out, cs, h, h1, hr, hp => by
    match vs, hp with
    | (i', v) :: vs, hp =>
      obtain ⟨rfl, hx, hp⟩ := hp
      simp only [fillA] at h
      cases hpl : place i with
      | none => rw [hpl] at h; simp at h
      | some os =>
        obtain ⟨off, size⟩ := os
        rw [hpl] at h
        simp only at h
        split at h
        · rename_i hc
          simp only [Bool.and_eq_true, beq_iff_eq, decide_eq_true_eq] at hc
          obtain ⟨⟨⟨c1, c2⟩, c3⟩, c4⟩ := hc
          have hxc := (R_cells c2).1 (RV_R c1 hx)
          have l1 := RL_len _ _ (flat_size c2) hxc
          have l2 := RL_len _ _ h1 hr
          simp only [Nat.mul_one, Array.length_toList] at l1 l2
          have hp2 := putsA_RL x.cells cells off cs.toList v.cells.toList h1 (flat_size c2) hr hxc (by omega)
          have hfold : (v.cells.zipIdx.foldl (fun cs (c, j) => cs.setIfInBounds (off + j) c) cs).toList = cs.toList.take off ++ v.cells.toList ++ cs.toList.drop (off + v.cells.toList.length) := by
            rw [← Array.foldl_toList, Array.toList_zipIdx]
            have := puts_fold off v.cells.toList 0 cs (by simp; omega)
            simpa using this
          obtain ⟨res, r1, r2, r3, r4⟩ := fill_ok place parts vs _ out (v.cells.zipIdx.foldl (fun cs (c, j) => cs.setIfInBounds (off + j) c) cs) h hp2.2 (by rw [hfold]; exact hp2.1) hp
          refine ⟨res, ?_, r2, r3, ?_⟩
          · simp only [Instr.fill, hpl]
            rw [if_neg]
            · exact r1
            · intro hbad
              simp only [Bool.or_eq_true, decide_eq_true_eq] at hbad
              omega
          · rw [r4, ← Array.length_toList, hfold]
            simp
            omega
        · cases h
end

end Aw
end Go.Proofs.Ytkolpijhgcijbaa
