/-
  The calculus: 'core' is sound.
-/
import Derived.Test.YtkolpijhgcijbaaAwC
namespace Go.Proofs.Ytkolpijhgcijbaa
namespace Aw
open Go.RowKit

section
variable {A : Nat → Prop} {P : Program} {w : World} {hv : Nat → Option Value} {M : Mem} {a : Act} {K : Kont} {Q : Exit → Act → World → Prop} {ρ : Operand → AV}

/-- the parts of a slice literal, one behind the other, fill it. -/
theorem fill_row {k : Nat} : ∀ (l : List (Nat × Value)) (m n : Nat) (cs : Array Value), l.map (·.1) = List.range' m l.length → m + l.length = n → cs.size = n * k → (∀ p ∈ l, p.2.cells.size = k) →
    ∃ res, Instr.fill (fun i => some (i * k, k)) cs l = some res ∧ res.toList = cs.toList.take (m * k) ++ l.flatMap (fun p => p.2.cells.toList)
  | [], m, n, cs, _, h2, h3, _ => ⟨cs, rfl, by simp at h2; subst h2; rw [← h3, List.take_of_length_le (by simp)]; simp⟩
  | (i, v) :: l, m, n, cs, h1, h2, h3, h4 => by
    simp only [List.map_cons, List.length_cons, List.range'_succ, List.cons.injEq] at h1 h2
    obtain ⟨rfl, h1⟩ := h1
    have hv := h4 (i, v) List.mem_cons_self
    simp only at hv
    have hmul : i * k + k ≤ n * k := by rw [← Nat.succ_mul]; exact Nat.mul_le_mul_right _ (by omega)
    have hfold : (v.cells.zipIdx.foldl (fun cs (c, j) => cs.setIfInBounds (i * k + j) c) cs).toList = cs.toList.take (i * k) ++ v.cells.toList ++ cs.toList.drop (i * k + v.cells.toList.length) := by
      rw [← Array.foldl_toList, Array.toList_zipIdx]
      have := puts_fold (i * k) v.cells.toList 0 cs (by simp; omega)
      simpa using this
    have hsz : (v.cells.zipIdx.foldl (fun cs (c, j) => cs.setIfInBounds (i * k + j) c) cs).size = n * k := by
      rw [← Array.length_toList, hfold]; simp; omega
    obtain ⟨res, r1, r2⟩ := fill_row l (i + 1) n _ h1 (by omega) hsz (fun p hp => h4 p (List.mem_cons_of_mem _ hp))
    refine ⟨res, ?_, ?_⟩
    · simp only [Instr.fill]
      rw [if_neg]
      · exact r1
      · intro hbad
        simp only [Bool.or_eq_true, decide_eq_true_eq] at hbad
        omega
    · rw [r2, hfold, List.flatMap_cons, ← List.append_assoc]
      congr 1
      have hl : (cs.toList.take (i * k) ++ v.cells.toList).length = (i + 1) * k := by rw [Nat.succ_mul]; simp; omega
      rw [← hl, List.take_left]

theorem buildSlice_run {t e : TypeId} {ti te : TI} {n : Nat} {parts : Array (Nat × Operand)} (ht : tiOf P t = some ti) (he : ti.elem = some e) (hte : tiOf P e = some te) (hn : n * te.size ≤ 16777216) (h0 : 0 < te.size)
    (hparts : parts.toList.map (·.1) = List.range n) (hs : ∀ ix ∈ parts.toList, (a.eval ix.2).cells.size = te.size) :
    ∃ cs : Array Value, (Instr.buildSlice t n (parts.map fun (i, x) => (i, a.eval x))).run P w = .ok (.slice (some ⟨w.heap.size, 0, none⟩) n n) (w.alloc (.cells cs e)) ∧ cs.toList = parts.toList.flatMap (fun ix => (a.eval ix.2).cells.toList) ∧ cs.size = n * te.size := by
  have hu := ti_elem ht he
  obtain ⟨i, d, z, hi, hd, hz, hz1, hz2, _, hsz, _⟩ := tiOf_spec hte
  have hlen : parts.toList.length = n := by have := congrArg List.length hparts; simpa using this
  have hfill := fill_row (k := te.size) (parts.toList.map fun ix => (ix.1, a.eval ix.2)) 0 n ((Array.range (n * te.size)).map ((if n * te.size = 0 then #[] else z.cells)[· % (if n * te.size = 0 then (#[] : Array Value) else z.cells).size]!))
    (by simp only [List.map_map, List.length_map, hlen]; rw [← List.range_eq_range', ← hparts]; rfl) (by simpa using hlen) (by simp) (fun p hp => by
      simp only [List.mem_map] at hp; obtain ⟨ix, hix, rfl⟩ := hp; exact hs ix hix)
  obtain ⟨res, r1, r2⟩ := hfill
  have hr : res.toList = parts.toList.flatMap (fun ix => (a.eval ix.2).cells.toList) := by rw [r2]; simp [List.flatMap_map]
  have hrs : res.size = n * te.size := by
    rw [← Array.length_toList, hr]
    have : ∀ l : List (Nat × Operand), (∀ ix ∈ l, (a.eval ix.2).cells.size = te.size) → (l.flatMap (fun ix => (a.eval ix.2).cells.toList)).length = l.length * te.size := by
      intro l
      induction l with
      | nil => intro _; simp
      | cons x l ih => intro h; simp only [List.flatMap_cons, List.length_append, ih fun y hy => h y (List.mem_cons_of_mem _ hy), List.length_cons, Array.length_toList, h x List.mem_cons_self, Nat.succ_mul, Nat.add_comm]
    rw [this _ hs, hlen]
  refine ⟨res, ?_, hr, hrs⟩
  have r1' : Instr.fill (fun i => some (i * te.size, te.size)) ((Array.range (n * te.size)).map ((if n * te.size = 0 then #[] else z.cells)[· % (if n * te.size = 0 then (#[] : Array Value) else z.cells).size]!)) (parts.map fun (i, x) => (i, a.eval x)).toList = some res := by
    rw [Array.toList_map]; exact r1
  simp only [Instr.buildSlice, Sem.run_bind, run_underlying hu, Result.andThen_ok, ti_size hte]
  rw [if_neg (by omega)]
  by_cases hz0 : n * te.size = 0
  · simp only [hz0, if_true] at r1' ⊢
    simp only [Sem.run_bind, Sem.run_pure, Result.andThen_ok, r1']
    rfl
  · simp only [hz0, if_false] at r1' ⊢
    have hzr : (zeroValue e).run P w = .ok z w := by simp [zeroValue, typeInfo, hi, hz]
    simp only [Sem.run_bind, Sem.run_pure, Result.andThen_ok, hzr, r1']
    rfl

theorem flat_rl {k : Nat} (hρ : ∀ x, RV w (OwnA A hv) hv (ρ x) (a.eval x)) : ∀ l : List (Nat × Operand), (l.all fun ix => (ρ ix.2).cellular && (ρ ix.2).flat && (ρ ix.2).size == k) = true →
    RL w (OwnA A hv) hv (l.map fun ix => ρ ix.2) (l.flatMap fun ix => (a.eval ix.2).cells.toList) ∧ (∀ ix ∈ l, (a.eval ix.2).cells.size = k) ∧ ∀ x ∈ l.map (fun ix => ρ ix.2), x.size = k
  | [], _ => by simp [RL]
  | ix :: l, h => by
    simp only [List.all_cons, Bool.and_eq_true, beq_iff_eq] at h
    obtain ⟨⟨⟨h1, h2⟩, h3⟩, h4⟩ := h
    obtain ⟨g1, g2, g3⟩ := flat_rl hρ l h4
    have hR := RV_R h1 (hρ ix.2)
    have hsz := R_size _ _ _ hR
    refine ⟨?_, ?_, ?_⟩
    · simp only [List.map_cons, List.flatMap_cons, RL]; exact ⟨_, _, rfl, hR, g1⟩
    · intro x hx
      rcases List.mem_cons.1 hx with rfl | hx
      · simp at hsz; omega
      · exact g2 x hx
    · intro x hx
      rcases List.mem_cons.1 hx with rfl | hx
      · exact h3
      · exact g3 x hx

theorem buildSlice_own {o : Oper} {t e : TypeId} {ti te : TI} {n : Nat} {parts : Array (Nat × Operand)} (ho : o.op = .buildSlice t n parts) (hρ : ∀ x, RV w (OwnA A hv) hv (ρ x) (a.eval x)) (hM : MemR A w hv M) (ht : tiOf P t = some ti) (he : ti.elem = some e) (hte : tiOf P e = some te)
    (h : 0 < te.size ∧ n * te.size ≤ 16777216 ∧ parts.toList.map (·.1) = List.range n ∧ (parts.toList.all fun ix => (ρ ix.2).cellular && (ρ ix.2).flat && (ρ ix.2).size == te.size) = true)
    (hK : K (.o M.length) [] (newRow M e te.size (parts.toList.map fun ix => ρ ix.2))) : o.wp P a w (After A o a w hv K) Q := by
  obtain ⟨h0, h1, h2, h3⟩ := h
  obtain ⟨g1, g2, g3⟩ := flat_rl hρ parts.toList h3
  obtain ⟨cs, hr, hcs, hsz⟩ := buildSlice_run (w := w) (a := a) ht he hte h1 h0 h2 g2
  have hlen : parts.toList.length = n := by have := congrArg List.length h2; simpa using this
  have hn : n ≤ maxLen := by
    have : n * 1 ≤ n * te.size := Nat.mul_le_mul_left n h0
    simp only [maxLen]; omega
  obtain ⟨m1, m2⟩ := mem_add hM (own_lit w (.cells cs e)) (ob := ⟨none, e, te.size, parts.toList.map fun ix => ρ ix.2⟩) (v := .slice (some ⟨w.heap.size, 0, none⟩) n n) (fun b hb => by simp [blk, Value.ownBlock] at hb; omega)
    (fun hs => ObR.of_row rfl ⟨cs.toList, by simp only [List.length_map, hlen]; exact row_new e te.size n cs hsz hn, g3, by
      have := RL_keep hs.keeps hs.hv _ _ g1
      rw [AV.killL_nil] at this
      rw [hcs]; exact this⟩)
  refine wp_value (v := .slice (some ⟨w.heap.size, 0, none⟩) n n) (w' := w.alloc (.cells cs e)) (by simp only [execOp, ho, Sem.run_bind, hr, Result.andThen_ok, Sem.run_pure]) ⟨_, [], _, _, _, hK, rfl, m1, ?_, m2⟩
  simp only [RV, R]
  exact ⟨_, hvAdd_self _ _, rfl, rfl⟩

theorem buildSlice_per {o : Oper} {t e : TypeId} {ti te : TI} {n : Nat} {parts : Array (Nat × Operand)} (ho : o.op = .buildSlice t n parts) (hρ : ∀ x, RV w (OwnA A hv) hv (ρ x) (a.eval x)) (hM : MemR A w hv M) (ht : tiOf P t = some ti) (he : ti.elem = some e) (hte : tiOf P e = some te)
    (h : 0 < te.size ∧ n * te.size ≤ 16777216 ∧ parts.toList.map (·.1) = List.range n ∧ (parts.toList.all fun ix => (ρ ix.2).cellular && (ρ ix.2).flat && (ρ ix.2).size == te.size) = true)
    (hp : AV.pureL (parts.toList.map fun ix => ρ ix.2) = true) (hK : K (.s te.size (parts.toList.map fun ix => ρ ix.2)) [] M) : o.wp P a w (After A o a w hv K) Q := by
  obtain ⟨h0, h1, h2, h3⟩ := h
  obtain ⟨g1, g2, g3⟩ := flat_rl hρ parts.toList h3
  obtain ⟨cs, hr, hcs, hsz⟩ := buildSlice_run (w := w) (a := a) ht he hte h1 h0 h2 g2
  have hlen : parts.toList.length = n := by have := congrArg List.length h2; simpa using this
  have hn : n ≤ maxLen := by
    have : n * 1 ≤ n * te.size := Nat.mul_le_mul_left n h0
    simp only [maxLen]; omega
  obtain ⟨m1, m2⟩ := mem_keep hM (own_lit w (.cells cs e))
  refine wp_value (v := .slice (some ⟨w.heap.size, 0, none⟩) n n) (w' := w.alloc (.cells cs e)) (by simp only [execOp, ho, Sem.run_bind, hr, Result.andThen_ok, Sem.run_pure]) ⟨_, [], _, _, _, hK, rfl, m1, ?_, m2⟩
  simp only [RV, R]
  have hx := RL_keep m2.keeps m2.hv _ _ g1
  rw [AV.killL_nil] at hx
  refine ⟨some ⟨w.heap.size, 0, none⟩, n, cs.toList, by simp [hlen], by simp [hlen], hn, g3, by rw [hcs]; exact RL_pure _ hv noHv _ hp hx, fun _ => ⟨w.heap.size, 0, rfl, by simp, fun h => by have := hM.lt h; omega, fun j u hj => ?_⟩⟩
  rw [Nat.zero_add, World.cell?_alloc_new]
  simpa using hj
end

end Aw
end Go.Proofs.Ytkolpijhgcijbaa
