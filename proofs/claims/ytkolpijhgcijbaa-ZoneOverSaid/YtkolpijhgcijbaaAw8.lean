/-
  The calculus: 'core' is sound: tests and sums, structs and slices that are built.
-/
import Derived.Test.YtkolpijhgcijbaaAw7
namespace Go.Proofs.Ytkolpijhgcijbaa
namespace Aw
open Go.RowKit

section
variable {A : Nat → Prop} {P : Program} {w : World} {hv : Nat → Option Value} {M : Mem} {T : Nat → Prop}

theorem ints_vals : ∀ (xs : List AV) (ns : List Int) (us : List Value), ints xs = some ns → RL w T hv xs us → us.length = ns.length ∧ ∀ (j : Nat) (n : Int), ns[j]? = some n → us[j]? = some (Value.int .i64 n) ∧ xs[j]? = some (I n)
  | [], ns, us, h, hr => by
    simp only [ints, Option.some.injEq] at h
    subst h
    simp only [RL] at hr
    subst hr
    simp
  | .v (.int .i64 m) :: xs, ns, us, h, hr => by
    simp only [ints, Option.map_eq_some_iff] at h
    obtain ⟨ns', h1, rfl⟩ := h
    simp only [RL, R] at hr
    obtain ⟨u1, u2, rfl, ⟨rfl, _⟩, h3⟩ := hr
    obtain ⟨h4, h5⟩ := ints_vals xs ns' u2 h1 h3
    refine ⟨by simp [h4], fun j n hj => ?_⟩
    cases j with
    | zero => simp at hj; subst hj; exact ⟨by simp, by simp⟩
    | succ j => simp at hj; obtain ⟨h6, h7⟩ := h5 j n hj; exact ⟨by simpa using h6, by simpa using h7⟩

theorem eqFields_ints (d : Nat) (us vs : Array Value) (as bs : List Int) (hu : ∀ (j : Nat) (n : Int), as[j]? = some n → us[j]? = some (Value.int .i64 n)) (hv' : ∀ (j : Nat) (n : Int), bs[j]? = some n → vs[j]? = some (Value.int .i64 n)) :
    ∀ (fs : List Field) (m : Nat), (∀ (i : Nat) (f : Field), fs[i]? = some f → (f.name != "_") = true ∧ f.offset = m + i ∧ ∃ k, P.underlying f.type = some (.int k)) → m + fs.length = as.length → m + fs.length = bs.length →
      (Op.eqFields (d + 1) us vs fs).run P w = .ok (decide (as.drop m = bs.drop m)) w := by
  intro fs
  induction fs with
  | nil =>
    intro m _ h1 h2
    simp only [List.length_nil, Nat.add_zero] at h1 h2
    rw [List.drop_of_length_le (by omega), List.drop_of_length_le (by omega)]
    simp [Op.eqFields]
  | cons f fs ih =>
    intro m hf h1 h2
    obtain ⟨hn, ho, k0, hu0⟩ := hf 0 f rfl
    simp only [List.length_cons] at h1 h2
    simp only [Nat.add_zero] at ho
    have ha : as[m]? = some (as[m]'(by omega)) := List.getElem?_eq_getElem (by omega)
    have hb : bs[m]? = some (bs[m]'(by omega)) := List.getElem?_eq_getElem (by omega)
    have hx := hu m _ ha
    have hy := hv' m _ hb
    have hn' : f.name ≠ "_" := by simpa using hn
    have hpart : ∀ (cs : Array Value) (v : Value), cs[m]? = some v → (part f.type cs f.offset).run P w = .ok v w := by
      intro cs v hc
      simp [part, isAgg, run_underlying hu0, ho, hc]
    have hih := ih (m + 1) (fun i g hg => by obtain ⟨a1, a2, a3⟩ := hf (i + 1) g (by simpa using hg); exact ⟨a1, by omega, a3⟩) (by omega) (by omega)
    rw [List.drop_eq_getElem_cons (show m < as.length by omega), List.drop_eq_getElem_cons (show m < bs.length by omega)]
    simp only [Op.eqFields, hn', ne_eq, not_false_eq_true, if_true, Sem.run_bind, hpart us _ hx, hpart vs _ hy, Result.andThen_ok]
    rw [run_equalIn_int w d f.type .i64 k0 _ _ hu0]
    simp only [Result.andThen_ok, Sem.run_ite]
    by_cases he : as[m] = bs[m]
    · simp only [he, beq_self_eq_true, Bool.not_true, Bool.false_eq_true, if_false]
      rw [hih]
      congr 1
      simp only [List.cons.injEq, true_and]
    · have : (as[m] == bs[m]) = false := by simp [he]
      simp only [this, Bool.not_false, if_true, Sem.run_pure, List.cons.injEq, he, false_and, decide_false]

theorem eqn_run {t : TypeId} {ti : TI} {xs ys : List AV} {as bs : List Int} {us vs : Array Value} (ht : tiOf P t = some ti) (he : ti.eqn = true) (h1 : ints xs = some as) (h2 : ints ys = some bs) (l1 : as.length = ti.flds.length) (l2 : bs.length = ti.flds.length)
    (hx : RL w T hv xs us.toList) (hy : RL w T hv ys vs.toList) :
    (Op.equalIn 10000 t (.agg us) (.agg vs)).run P w = .ok (decide (as = bs)) w ∧ P.eqGuardType P.depth t = false := by
  obtain ⟨i, d, z, _, hd, _, _, _, _, _, _, _, _, _, hfl, _, _, heq, _⟩ := tiOf_spec ht
  rw [heq] at he
  unfold eqnOf at he
  simp only [Bool.and_eq_true, beq_iff_eq] at he
  obtain ⟨⟨hst, hg⟩, hfs⟩ := he
  refine ⟨?_, hg⟩
  rw [hd] at hfs
  cases d with
  | struct fs =>
    simp only [List.all_eq_true] at hfs
    have hfo : P.fieldsOf t = fs := by simp [Program.fieldsOf, hd]
    rw [run_equalIn_struct w 9999 t us vs (by rw [hfo]; exact hd) hst, hfo]
    obtain ⟨g1, g2⟩ := ints_vals xs as _ h1 hx
    obtain ⟨g3, g4⟩ := ints_vals ys bs _ h2 hy
    have hl : ti.flds.length = fs.toList.length := by rw [hfl]; simp
    have := eqFields_ints (P := P) (w := w) 9998 us vs as bs (fun j n hj => by simpa using (g2 j n hj).1) (fun j n hj => by simpa using (g4 j n hj).1) fs.toList 0 (fun i f hf => ?_) (by omega) (by omega)
    · simpa using this
    · have := hfs (f, i) (by
        rw [List.mem_iff_getElem?]
        exact ⟨i, by simp [List.getElem?_zipIdx, hf]⟩)
      simp only [Bool.and_eq_true, beq_iff_eq] at this
      obtain ⟨⟨a1, a2⟩, a3⟩ := this
      refine ⟨a1, by omega, ?_⟩
      revert a3
      cases hq : P.underlying f.type with
      | none => simp
      | some q => cases q <;> simp
  | _ => simp at hfs
end

end Aw
end Go.Proofs.Ytkolpijhgcijbaa
