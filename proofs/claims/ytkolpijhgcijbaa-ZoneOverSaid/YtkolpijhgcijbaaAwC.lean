/-
  The calculus: 'core' is sound: all operations.
-/
import Derived.Test.YtkolpijhgcijbaaAwB
namespace Go.Proofs.Ytkolpijhgcijbaa
namespace Aw
open Go.RowKit

section
variable {A : Nat → Prop} {P : Program} {w : World} {hv : Nat → Option Value} {M : Mem} {a : Act} {K : Kont} {Q : Exit → Act → World → Prop} {ρ : Operand → AV}

theorem rvl_map (hρ : ∀ x, RV w (OwnA A hv) hv (ρ x) (a.eval x)) : ∀ l : List Operand, RVL w (OwnA A hv) hv (l.map ρ) (l.map a.eval)
  | [] => by simp [RVL]
  | x :: l => by simp only [List.map_cons, RVL]; exact ⟨_, _, rfl, hρ x, rvl_map hρ l⟩

theorem rvl_app {T : Nat → Prop} : ∀ (l l' : List AV) (us us' : List Value), RVL w T hv l us → RVL w T hv l' us' → RVL w T hv (l ++ l') (us ++ us')
  | [], l', us, us', h, h' => by simp only [RVL] at h; subst h; simpa using h'
  | x :: xs, l', us, us', h, h' => by
    simp only [RVL, List.cons_append] at h ⊢
    obtain ⟨u, v, rfl, h1, h2⟩ := h
    exact ⟨u, v ++ us', by simp, h1, rvl_app xs l' v us' h2 h'⟩

theorem rl_of_vals (hρ : ∀ x, RV w (OwnA A hv) hv (ρ x) (a.eval x)) {k : Nat} : ∀ l : List Operand, (l.all fun x => (ρ x).cellular && (ρ x).size == k) = true → RL w (OwnA A hv) hv (l.map ρ) (l.flatMap fun x => (a.eval x).cells.toList)
  | [], _ => by simp [RL]
  | x :: l, h => by
    simp only [List.all_cons, Bool.and_eq_true] at h
    simp only [List.map_cons, List.flatMap_cons, RL]
    exact ⟨_, _, rfl, RV_R h.1.1 (hρ x), rl_of_vals hρ l h.2⟩

theorem own_lit (w : World) (o : Obj) : Below w.heap.size w (w.alloc o) := (Below.refl _ _).alloc (Nat.le_refl _) o

theorem row_new (e : TypeId) (k n : Nat) (cs : Array Value) (hk : cs.size = n * k) (hn : n ≤ maxLen) : (w.alloc (.cells cs e)).ownsRow 0 e k (.slice (some ⟨w.heap.size, 0, none⟩) n n) n cs.toList :=
  ⟨by simpa using hk, .inr ⟨w.heap.size, n, cs, rfl, Nat.zero_le _, heap_alloc_new w _, Nat.le_refl _, hn, hk, by rw [← hk]; exact List.take_of_length_le (by simp)⟩⟩

/-- a new variable. -/
theorem var_ok {o : Oper} {t : TypeId} {x : AV} {v : Value} (hM : MemR A w hv M) (hrun : (execOp a.eval o).run P w = .ok (.value (.pointer (some ⟨w.heap.size, 0, none⟩))) (w.alloc (.cells v.cells t)))
    (hx : R w (OwnA A hv) hv x v.cells.toList) (hK : K (.q M.length x.size 0 0) [] (newRow M t x.size [x])) : o.wp P a w (After A o a w hv K) Q := by
  have hsz := R_size _ _ _ hx
  obtain ⟨h1, h2⟩ := mem_add hM (own_lit w (.cells v.cells t)) (ob := ⟨none, t, x.size, [x]⟩) (v := .slice (some ⟨w.heap.size, 0, none⟩) 1 1) (fun b hb => by simp [blk, Value.ownBlock] at hb; omega)
    (fun hs => ObR.of_row rfl ⟨v.cells.toList, row_new t x.size 1 v.cells (by simpa using hsz) (by simp [maxLen]), by simp, by
      have := RL_keep hs.keeps hs.hv [x] v.cells.toList (by simp only [RL]; exact ⟨_, _, by simp, hx, rfl⟩)
      rwa [AV.killL_nil] at this⟩)
  refine wp_value hrun ⟨_, [], _, _, _, hK, rfl, h1, ?_, h2⟩
  simp only [RV, R]
  exact ⟨w.heap.size, 1, 1, hvAdd_self _ _, by simp⟩

/-- a new variable that nobody writes. -/
theorem box_ok {o : Oper} {t : TypeId} {x : AV} {v : Value} (hM : MemR A w hv M) (hrun : (execOp a.eval o).run P w = .ok (.value (.pointer (some ⟨w.heap.size, 0, none⟩))) (w.alloc (.cells v.cells t)))
    (hx : R w (OwnA A hv) hv x v.cells.toList) (hp : x.pure = true) (hK : K (.p x 0) [] M) : o.wp P a w (After A o a w hv K) Q := by
  obtain ⟨h1, h2⟩ := mem_keep hM (own_lit w (.cells v.cells t))
  refine wp_value hrun ⟨_, [], _, _, _, hK, rfl, h1, ?_, h2⟩
  simp only [RV, R]
  have hx' := R_keep h2.keeps x [] hv hv _ h2.hv hx
  rw [AV.kill_nil] at hx'
  refine ⟨w.heap.size, 0, v.cells.toList, by simp, R_pure x hv noHv _ hp hx', w.heap.size, 0, rfl, by simp, fun h => by have := hM.lt h; omega, fun j u hj => ?_⟩
  rw [Nat.zero_add, World.cell?_alloc_new]
  simpa using hj
theorem rl_vals {T : Nat → Prop} : ∀ l : List Value, (∀ u ∈ l, u.oneCell' = true) → RL w T hv (l.map AV.v) l
  | [], _ => by simp [RL]
  | u :: l, h => by
    simp only [List.map_cons, RL, R]
    exact ⟨[u], l, rfl, ⟨rfl, h u List.mem_cons_self⟩, rl_vals l fun x hx => h x (List.mem_cons_of_mem _ hx)⟩

theorem zero_ok {T : Nat → Prop} {t : TypeId} {ti : TI} (ht : tiOf P t = some ti) : ∃ z : Value, (zeroValue t).run P w = .ok z w ∧ z.cells.toList = ti.zero ∧ R w T hv (mkA ti.agg (ti.zero.map .v)) z.cells.toList ∧ z.cells.size = ti.size ∨ (ti.agg = false ∧ ti.zero.length ≠ 1) := by
  obtain ⟨i, d, z, hi, hd, hz, hz1, hz2, hag, hs, _, hzero, _⟩ := tiOf_spec ht
  by_cases hc : ti.agg = false ∧ ti.zero.length ≠ 1
  · exact ⟨undef, .inr hc⟩
  refine ⟨z, .inl ⟨by simp [zeroValue, typeInfo, hi, hz], hzero.symm, ?_, by rw [hz1, hs]⟩⟩
  have hl := rl_vals (w := w) (hv := hv) (T := T) z.cells.toList hz2
  unfold mkA
  cases h : ti.agg with
  | true => simp only [if_true, R, hzero]; exact hl
  | false =>
    simp only [Bool.false_eq_true, if_false, hzero]
    rw [hzero] at hc
    simp only [h, true_and, Decidable.not_not, ne_eq] at hc
    match hq : z.cells.toList, hc with
    | [u], _ =>
      rw [hq] at hz2
      simp only [List.map_cons, List.map_nil, R]
      exact ⟨trivial, hz2 u (by simp)⟩

theorem parts_ok (hρ : ∀ x, RV w (OwnA A hv) hv (ρ x) (a.eval x)) : ∀ l : List (Nat × Operand), PartsR w (OwnA A hv) hv (l.map fun ix => (ix.1, ρ ix.2)) (l.map fun ix => (ix.1, a.eval ix.2))
  | [] => by simp [PartsR]
  | (i, x) :: l => by simp only [List.map_cons, PartsR]; exact ⟨trivial, hρ x, parts_ok hρ l⟩

theorem build_ok {t : TypeId} {ti : TI} {parts : Array (Nat × Operand)} {cells : List AV} (hρ : ∀ x, RV w (OwnA A hv) hv (ρ x) (a.eval x)) (ht : tiOf P t = some ti) (hag : ti.agg = true) (har : ti.arr = none)
    (hf : fillA (fun i => ti.flds[i]?) (ti.zero.map .v) (parts.toList.map fun ix => (ix.1, ρ ix.2)) = some cells) :
    ∃ v, (Instr.build t (parts.map fun (i, x) => (i, a.eval x))).run P w = .ok v w ∧ RV w (OwnA A hv) hv (.g cells) v := by
  obtain ⟨i, d, z, hi, hd, hz, hz1, hz2, hag', hs, _, hzero, _, harr, hfl, _, _, _, hall⟩ := tiOf_spec ht
  rw [hzero] at hf
  cases d with
  | struct fs =>
    simp only at hfl
    simp only [fldsKnown, List.all_eq_true] at hall
    obtain ⟨res, r1, r2, r3, r4⟩ := fill_ok (fun i => ti.flds[i]?) _ _ _ cells z.cells hf (fun x hx => by
      simp only [List.mem_map] at hx; obtain ⟨u, _, rfl⟩ := hx; rfl) (rl_vals z.cells.toList hz2) (parts_ok hρ parts.toList)
    have hm : ∀ (l : List Field), (∀ f ∈ l, (P.info? f.type).isSome = true) → (l.mapM fun f => (P.info? f.type).map fun i => (f.offset, i.size)) = some (l.map fun f => (f.offset, P.cellsOf f.type)) := by
      intro l
      induction l with
      | nil => intro _; rfl
      | cons f l ih =>
        intro hl
        obtain ⟨j, hj⟩ := Option.isSome_iff_exists.1 (hl f List.mem_cons_self)
        simp [List.mapM_cons, ih fun g hg => hl g (List.mem_cons_of_mem _ hg), hj, Program.cellsOf]
    refine ⟨.agg res, run_build w t _ res ?_, by simp only [RV]; exact ⟨res, rfl, r2⟩⟩
    have hr1 : Instr.fill (fun i => ((fs.toList.map fun f => (f.offset, P.cellsOf f.type)).toArray)[i]?) z.cells (parts.toList.map fun ix => (ix.1, a.eval ix.2)) = some res := by
      rw [← hfl]; simpa using r1
    unfold Program.built
    simp only [hi, hd, hz, hm fs.toList hall, Array.toList_map]
    exact hr1
  | array n e => simp [har] at harr
  | _ => simp [hag] at hag'
end

end Aw
end Go.Proofs.Ytkolpijhgcijbaa
