/-
  Parts of several texts in one: Aw7, Aw8, Aw9, AwA, AwB, AwC, AwD, AwE, AwT.
-/
import Derived.Test.YtndniceeibflcaaGreatDoorProg
import Derived.WalkKit
import Derived.Lib.ConvBytes
import Derived.LaidEql
import Derived.Lib.ItoaNum
import Derived.Lib.LaidTab
import Derived.KernelRfl
import GoSem.Claims
import GoSem.ClaimJoined
import Derived.Orders
import Derived.Laws.StructEq
import Derived.Maps.Keyed
import Derived.Lib.Strings
import Derived.Maps.AppendAt
import Derived.Laws.Concat
import Derived.MapKept
import Derived.Test.YtndniceeibflcaaGreatDoorLaa
set_option linter.unusedSimpArgs false
set_option linter.unusedVariables false
namespace Go.Proofs.YtndniceeibflcaaGreatDoor
namespace Aw
end Aw
namespace Mp
end Mp
end Go.Proofs.YtndniceeibflcaaGreatDoor
namespace Go.Proofs.YtndniceeibflcaaGreatDoor
namespace Aw
open Go.RowKit

section
variable {A : Nat → Prop} {P : Program} {w : World} {hv : Nat → Option Value} {M : Mem} {T : Nat → Prop}

theorem idx_ok {t : TypeId} {x : AV} {xv : Value} {k : IntKind} {i : Int} {K : HK (AV → Prop)} (hM : MemR A w hv M) (hx : RV w (OwnA A hv) hv x xv) (h : idxA P t M x i (K := K)) :
    ∃ u r, (Instr.indexAt t xv (.int k i)).run P w = .ok u w ∧ RV w (OwnA A hv) hv r u ∧ K.k r := by
  unfold idxA at h
  split at h
  · exact h.elim
  rename_i ti hti
  split at h
  · rename_i e he
    have hu := ti_elem hti he
    split at h
    · rename_i te kk xs hte
      obtain ⟨⟨h1, h2⟩, y, hy, hK⟩ := h
      have hi : i.toNat < xs.length := (List.getElem?_eq_some_iff.1 hy).1
      have h3 : i < xs.length := by omega
      simp only [RV, R] at hx
      obtain ⟨A, c, ws, e1, h4, h5, h6, h7, h8⟩ := hx
      injection e1 with e1
      subst e1
      obtain ⟨b, off, rfl, hb, hT, hc⟩ := h8 (by intro e; rw [e] at hi; simp at hi)
      obtain ⟨u1, u2, u3, e2, e3, e4, e5, _⟩ := RL_at h6 h7 (List.getElem?_eq_getElem hi)
      refine ⟨.pointer (some ⟨b, off + i.toNat * te.size, none⟩), _, ?_, ?_, hK⟩
      · simp [Instr.indexAt, asIntOf, run_underlying hu, h2, h3, ti_size hte, Addr.add_lit]
      · simp only [RV, R]
        refine ⟨b, off + i.toNat * te.size, u2, by simp, ?_, ?_⟩
        · have : xs[i.toNat] = y := by rw [List.getElem?_eq_getElem hi] at hy; injection hy
          rw [← this]; exact e4
        · rw [e2] at hc
          exact readable_sub ⟨b, off, rfl, hb, hT, hc⟩ (by rw [e3, h1])
    · rename_i te id hte
      split at h
      · rename_i ob hid
        obtain ⟨⟨hmp, h1, h2, h3⟩, hK⟩ := h
        simp only [RV, R] at hx
        obtain ⟨v, hv1, e1, _⟩ := hx
        injection e1 with e1
        subst e1
        obtain ⟨v', hv2, hob⟩ := hM.live id ob hid
        rw [hv1] at hv2
        injection hv2 with hv2
        subst hv2
        obtain ⟨g, cap, cur, us, rfl, _⟩ := obR_row hob hmp (by intro e; rw [e] at h3; simp at h3; omega)
        refine ⟨.pointer (some ⟨g, i.toNat * te.size, none⟩), _, ?_, ?_, hK⟩
        · simp [Instr.indexAt, asIntOf, run_underlying hu, h2, h3, ti_size hte, Addr.add_lit]
        · simp only [RV, R]
          exact ⟨g, _, _, hv1, by rw [h1]; simp⟩
      · exact h.elim
    · exact h.elim
  · split at h
    · rename_i n e he
      have hu := ti_arr hti he
      split at h
      · rename_i te y off hte
        obtain ⟨⟨h1, h2⟩, hK⟩ := h
        simp only [RV, R] at hx
        obtain ⟨b, o, ws, e1, h4, h5⟩ := hx
        injection e1 with e1
        subst e1
        refine ⟨.pointer (some ⟨b, o + (off + i.toNat * te.size), none⟩), _, ?_, ?_, hK⟩
        · simp [Instr.indexAt, asIntOf, run_underlying hu, Instr.sureAddr, h1, h2, ti_size hte, Addr.add_lit, Nat.add_assoc]
        · simp only [RV, R]
          exact ⟨b, o, ws, rfl, h4, h5⟩
      · rename_i te id k' j off hte
        obtain ⟨⟨h1, h2⟩, hK⟩ := h
        simp only [RV, R] at hx
        obtain ⟨b, n', c, hb, e1⟩ := hx
        injection e1 with e1
        subst e1
        refine ⟨.pointer (some ⟨b, j * k' + (off + i.toNat * te.size), none⟩), _, ?_, ?_, hK⟩
        · simp [Instr.indexAt, asIntOf, run_underlying hu, Instr.sureAddr, h1, h2, ti_size hte, Addr.add_lit, Nat.add_assoc]
        · simp only [RV, R]
          exact ⟨b, n', c, hb, rfl⟩
      · exact h.elim
    · exact h.elim

theorem bnd_ok {ρ : Operand → AV} {a : Act} (hρ : ∀ x, RV w (OwnA A hv) hv (ρ x) (a.eval x)) {x : Option Operand} {n : Option Int} (h : bndA ρ x = some n) :
    (x = none ∧ n = none) ∨ ∃ y k m, x = some y ∧ a.eval y = .int k m ∧ n = some m := by
  unfold bndA at h
  split at h
  · injection h with h; exact .inl ⟨rfl, h.symm⟩
  · rename_i y
    split at h
    · rename_i k m hy
      injection h with h
      have := hρ y
      rw [hy] at this
      simp only [RV] at this
      exact .inr ⟨y, k, m, rfl, this, h.symm⟩
    · cases h

theorem slice_ok {t : TypeId} {x : AV} {xv : Value} {lo hi : Option Operand} {ρ : Operand → AV} {a : Act} {K : HK Kont} (hρ : ∀ x, RV w (OwnA A hv) hv (ρ x) (a.eval x)) (hx : RV w (OwnA A hv) hv x xv)
    (h : sliceA P t M x (bndA ρ lo) (bndA ρ hi) (K := K)) :
    ∃ u r, (Instr.sliceAt t xv (lo.map a.eval) (hi.map a.eval) none).run P w = .ok u w ∧ RV w (OwnA A hv) hv r u ∧ K.k r [] M := by
  unfold sliceA at h
  split at h
  · rename_i ti k xs l hh hti hlo hhi
    split at h
    · rename_i e he
      split at h
      · rename_i te hte
        have hu := ti_elem hti he
        obtain ⟨⟨h1, h2, h3, h4⟩, hK⟩ := h
        simp only [RV, R] at hx
        obtain ⟨A, c, ws, e1, h5, h6, h7, h8, h9⟩ := hx
        injection e1 with e1
        subst e1
        -- the bounds as they run
        obtain ⟨L, hL, hL0⟩ : ∃ L : Nat, (L : Int) = l.getD 0 ∧ (l.getD 0).toNat = L := ⟨(l.getD 0).toNat, by omega, rfl⟩
        obtain ⟨H, hH, hH0⟩ : ∃ H : Nat, (H : Int) = hh.getD xs.length ∧ (hh.getD xs.length).toNat = H := ⟨(hh.getD xs.length).toNat, by omega, rfl⟩
        have hLH : L ≤ H := by omega
        have hHn : H ≤ xs.length := by omega
        refine ⟨.slice (if c = L then A else A.map (·.add (L * te.size))) (H - L) (c - L), _, ?_, ?_, hK⟩
        · have hb : (Instr.sliceBounds true xs.length c (lo.map a.eval) (hi.map a.eval) none).run P w = .ok (L, H, c) w := by
            have sb : ∀ (k : IntKind) (i : Int) (n y : Nat) (code : BoundsCode), (n : Int) = i → n ≤ y → (Instr.sliceBound (.int k i) y code).run P w = .ok n w := by
              intro k i n y code h0 h1
              simp only [Instr.sliceBound, Sem.run_bind, asIntOf, Sem.run_pure, Result.andThen_ok]
              rw [if_pos (by omega)]
              simp only [Sem.run_pure]
              congr 1; omega
            rcases bnd_ok hρ hlo with ⟨rfl, rfl⟩ | ⟨y, k1, m1, rfl, hy, rfl⟩ <;> rcases bnd_ok hρ hhi with ⟨rfl, rfl⟩ | ⟨z, k2, m2, rfl, hz, rfl⟩ <;>
              simp only [Option.getD_none, Option.getD_some] at hL hH <;>
              simp only [Option.map_none, Option.map_some, Instr.sliceBounds, Sem.run_bind, Sem.run_pure, Result.andThen_ok, *]
            · rw [show L = 0 by omega, show H = xs.length by omega]
            · rw [sb k2 m2 H c _ hH (by omega)]
              simp only [Result.andThen_ok, Sem.run_bind, Sem.run_pure]
              rw [show L = 0 by omega]
            · rw [sb k1 m1 L _ _ hL (by omega)]
              simp only [Result.andThen_ok]
              rw [show H = xs.length by omega]
            · rw [sb k2 m2 H c _ hH (by omega)]
              simp only [Result.andThen_ok, Sem.run_bind, Sem.run_pure]
              rw [sb k1 m1 L H _ hL (by omega)]
              rfl
          simp only [Instr.sliceAt, Instr.slice, Sem.run_bind, run_underlying hu, Result.andThen_ok, hb, ti_size hte, Sem.run_pure]
        · rw [hL0, hH0]
          have hlen : ((xs.take H).drop L).length = H - L := by simp; omega
          have htk := RL_take h7 h8 H
          have hdr := RL_drop (fun x hx => h7 x (List.mem_of_mem_take hx)) htk L
          simp only [RV, R]
          refine ⟨_, c - L, _, by rw [hlen], by omega, by omega, fun x hx => h7 x (List.mem_of_mem_take (List.mem_of_mem_drop hx)), hdr, fun hne => ?_⟩
          have hpos : 0 < H - L := by
            rcases Nat.eq_zero_or_pos (H - L) with h0 | h0
            · exact absurd (List.eq_nil_of_length_eq_zero (by omega)) hne
            · exact h0
          obtain ⟨b, off, rfl, hb, hT, hc⟩ := h9 (by intro e; rw [e] at hHn; simp at hHn; omega)
          rw [if_neg (by omega)]
          refine ⟨b, off + L * te.size, by simp [Addr.add_lit], hb, hT, fun j u hu => ?_⟩
          rw [h1] at hu
          rw [List.getElem?_drop, List.getElem?_take] at hu
          split at hu
          · have := hc _ _ hu
            rw [← Nat.add_assoc] at this
            exact this
          · cases hu
      · exact h.elim
    · exact h.elim
  · rename_i ti b l hh hti hlo hhi
    obtain ⟨⟨h0, h1, h2, h3⟩, hK⟩ := h
    have hu := ti_str hti h0
    simp only [RV] at hx
    subst hx
    have hsz : b.toList.length = b.size := by rw [ByteArray.toList_eq]; cases b; rfl
    obtain ⟨L, hL, hL0⟩ : ∃ L : Nat, (L : Int) = l.getD 0 ∧ (l.getD 0).toNat = L := ⟨(l.getD 0).toNat, by omega, rfl⟩
    obtain ⟨H, hH, hH0⟩ : ∃ H : Nat, (H : Int) = hh.getD b.toList.length ∧ (hh.getD b.toList.length).toNat = H := ⟨(hh.getD b.toList.length).toNat, by omega, rfl⟩
    have hLH : L ≤ H := by omega
    have hHn : H ≤ b.size := by omega
    rw [hL0, hH0] at hK
    have hb : (Instr.sliceBounds false b.size b.size (lo.map a.eval) (hi.map a.eval) none).run P w = .ok (L, H, b.size) w := by
      have sb : ∀ (k : IntKind) (i : Int) (n y : Nat) (code : BoundsCode), (n : Int) = i → n ≤ y → (Instr.sliceBound (.int k i) y code).run P w = .ok n w := by
        intro k i n y code h0 h1
        simp only [Instr.sliceBound, Sem.run_bind, asIntOf, Sem.run_pure, Result.andThen_ok]
        rw [if_pos (by omega)]
        simp only [Sem.run_pure]
        congr 1; omega
      rcases bnd_ok hρ hlo with ⟨rfl, rfl⟩ | ⟨y, k1, m1, rfl, hy, rfl⟩ <;> rcases bnd_ok hρ hhi with ⟨rfl, rfl⟩ | ⟨z, k2, m2, rfl, hz, rfl⟩ <;>
        simp only [Option.getD_none, Option.getD_some] at hL hH <;>
        simp only [Option.map_none, Option.map_some, Instr.sliceBounds, Sem.run_bind, Sem.run_pure, Result.andThen_ok, *]
      · rw [show L = 0 by omega, show H = b.size by omega]
      · rw [sb k2 m2 H b.size _ hH (by omega)]
        simp only [Result.andThen_ok, Sem.run_bind, Sem.run_pure]
        rw [show L = 0 by omega]
      · rw [sb k1 m1 L _ _ hL (by omega)]
        simp only [Result.andThen_ok]
        rw [show H = b.size by omega]
      · rw [sb k2 m2 H b.size _ hH (by omega)]
        simp only [Result.andThen_ok, Sem.run_bind, Sem.run_pure]
        rw [sb k1 m1 L H _ hL (by omega)]
        rfl
    refine ⟨.string (b.extract L H), S ((b.toList.take H).drop L), ?_, ?_, hK⟩
    · simp only [Instr.sliceAt, Instr.slice, Sem.run_bind, run_underlying hu, Result.andThen_ok, Option.isSome_none, Bool.false_eq_true, if_false, hb, Sem.run_pure]
    · simp only [RV]
      congr 1
      cases b with
      | mk d =>
        rw [ByteArray.toList_eq]
        apply ByteArray.ext
        apply Array.ext'
        have := Lib.extract_data ⟨d⟩ L H
        rw [this]
        simp [List.drop_take]
  · exact h.elim
end

end Aw
end Go.Proofs.YtndniceeibflcaaGreatDoor

namespace Go.Proofs.YtndniceeibflcaaGreatDoor
namespace Aw
open Go.RowKit

section
variable {A : Nat → Prop} {P : Program} {w : World} {hv : Nat → Option Value} {M : Mem} {T : Nat → Prop}

theorem ints_vals : ∀ (xs : List AV) (ns : List Int) (us : List Value), ints xs = some ns → RL w T hv xs us → us.length = ns.length ∧ ∀ (j : Nat) (n : Int), ns[j]? = some n → us[j]? = some (Value.int .i64 n) ∧ xs[j]? = some (I n)
  | [], ns, us, h, hr => by
    simp only [ints, Option.some.injEq] at h
    subst h
    simp only [RL] at hr
    subst hr
    simp
  | .v (.int .i64 m) :: xs, ns, us, h, hr => by
    simp only [ints, Option.map_eq_some_iff] at h
    obtain ⟨ns', h1, rfl⟩ := h
    simp only [RL, R] at hr
    obtain ⟨u1, u2, rfl, ⟨rfl, _⟩, h3⟩ := hr
    obtain ⟨h4, h5⟩ := ints_vals xs ns' u2 h1 h3
    refine ⟨by simp [h4], fun j n hj => ?_⟩
    cases j with
    | zero => simp at hj; subst hj; exact ⟨by simp, by simp⟩
    | succ j => simp at hj; obtain ⟨h6, h7⟩ := h5 j n hj; exact ⟨by simpa using h6, by simpa using h7⟩

theorem eqFields_ints (d : Nat) (us vs : Array Value) (aS bs : List Int) (hu : ∀ (j : Nat) (n : Int), aS[j]? = some n → us[j]? = some (Value.int .i64 n)) (hv' : ∀ (j : Nat) (n : Int), bs[j]? = some n → vs[j]? = some (Value.int .i64 n)) :
    ∀ (fs : List Field) (m : Nat), (∀ (i : Nat) (f : Field), fs[i]? = some f → (f.name != "_") = true ∧ f.offset = m + i ∧ ∃ k, P.underlying f.type = some (.int k)) → m + fs.length = aS.length → m + fs.length = bs.length →
      (Op.eqFields (d + 1) us vs fs).run P w = .ok (decide (aS.drop m = bs.drop m)) w := by
  intro fs
  induction fs with
  | nil =>
    intro m _ h1 h2
    simp only [List.length_nil, Nat.add_zero] at h1 h2
    rw [List.drop_of_length_le (by omega), List.drop_of_length_le (by omega)]
    simp [Op.eqFields]
  | cons f fs ih =>
    intro m hf h1 h2
    obtain ⟨hn, ho, k0, hu0⟩ := hf 0 f rfl
    simp only [List.length_cons] at h1 h2
    simp only [Nat.add_zero] at ho
    have ha : aS[m]? = some (aS[m]'(by omega)) := List.getElem?_eq_getElem (by omega)
    have hb : bs[m]? = some (bs[m]'(by omega)) := List.getElem?_eq_getElem (by omega)
    have hx := hu m _ ha
    have hy := hv' m _ hb
    have hn' : f.name ≠ "_" := by simpa using hn
    have hpart : ∀ (cs : Array Value) (v : Value), cs[m]? = some v → (part f.type cs f.offset).run P w = .ok v w := by
      intro cs v hc
      simp [part, isAgg, run_underlying hu0, ho, hc]
    have hih := ih (m + 1) (fun i g hg => by obtain ⟨a1, a2, a3⟩ := hf (i + 1) g (by simpa using hg); exact ⟨a1, by omega, a3⟩) (by omega) (by omega)
    rw [List.drop_eq_getElem_cons (show m < aS.length by omega), List.drop_eq_getElem_cons (show m < bs.length by omega)]
    simp only [Op.eqFields, hn', ne_eq, not_false_eq_true, if_true, Sem.run_bind, hpart us _ hx, hpart vs _ hy, Result.andThen_ok]
    rw [run_equalIn_int w d f.type .i64 k0 _ _ hu0]
    simp only [Result.andThen_ok, Sem.run_ite]
    by_cases he : aS[m] = bs[m]
    · simp only [he, beq_self_eq_true, Bool.not_true, Bool.false_eq_true, if_false]
      rw [hih]
      congr 1
      simp only [List.cons.injEq, true_and]
    · have : (aS[m] == bs[m]) = false := by simp [he]
      simp only [this, Bool.not_false, if_true, Sem.run_pure, List.cons.injEq, he, false_and, decide_false]

theorem eqn_run {t : TypeId} {ti : TI} {xs ys : List AV} {aS bs : List Int} {us vs : Array Value} (ht : tiOf P t = some ti) (he : ti.eqn = true) (h1 : ints xs = some aS) (h2 : ints ys = some bs) (l1 : aS.length = ti.flds.length) (l2 : bs.length = ti.flds.length)
    (hx : RL w T hv xs us.toList) (hy : RL w T hv ys vs.toList) :
    (Op.equalIn 10000 t (.agg us) (.agg vs)).run P w = .ok (decide (aS = bs)) w ∧ P.eqGuardType P.depth t = false := by
  obtain ⟨i, d, z, _, hd, _, _, _, _, _, _, _, _, _, hfl, _, _, heq, _⟩ := tiOf_spec ht
  rw [heq] at he
  unfold eqnOf at he
  simp only [Bool.and_eq_true, beq_iff_eq] at he
  obtain ⟨⟨hst, hg⟩, hfs⟩ := he
  refine ⟨?_, hg⟩
  rw [hd] at hfs
  cases d with
  | struct fs =>
    simp only [List.all_eq_true] at hfs
    have hfo : P.fieldsOf t = fs := by simp [Program.fieldsOf, hd]
    rw [run_equalIn_struct w 9999 t us vs (by rw [hfo]; exact hd) hst, hfo]
    obtain ⟨g1, g2⟩ := ints_vals xs aS _ h1 hx
    obtain ⟨g3, g4⟩ := ints_vals ys bs _ h2 hy
    have hl : ti.flds.length = fs.toList.length := by rw [hfl]; simp
    have := eqFields_ints (P := P) (w := w) 9998 us vs aS bs (fun j n hj => by simpa using (g2 j n hj).1) (fun j n hj => by simpa using (g4 j n hj).1) fs.toList 0 (fun i f hf => ?_) (by omega) (by omega)
    · simpa using this
    · have := hfs (f, i) (by
        rw [List.mem_iff_getElem?]
        exact ⟨i, by simp [List.getElem?_zipIdx, hf]⟩)
      simp only [Bool.and_eq_true, beq_iff_eq] at this
      obtain ⟨⟨a1, a2⟩, a3⟩ := this
      refine ⟨a1, by omega, ?_⟩
      revert a3
      cases hq : P.underlying f.type with
      | none => simp
      | some q => cases q <;> simp
  | _ => simp at hfs
end

end Aw
end Go.Proofs.YtndniceeibflcaaGreatDoor

namespace Go.Proofs.YtndniceeibflcaaGreatDoor
namespace Aw
open Go.RowKit

set_option maxHeartbeats 1000000
section
variable {A : Nat → Prop} {P : Program} {w : World} {hv : Nat → Option Value} {M : Mem} {T : Nat → Prop}

theorem and_i64 {a b : Int} (ha : 0 ≤ a) (hb : 0 ≤ b) (ha' : a ≤ 9223372036854775807) (hb' : b ≤ 9223372036854775807) : Op.intBits .and .i64 a b = pure (.int .i64 ((a.toNat &&& b.toNat : Nat) : Int)) := by
  obtain ⟨m, rfl⟩ := Int.eq_ofNat_of_zero_le ha
  obtain ⟨n, rfl⟩ := Int.eq_ofNat_of_zero_le hb
  have h1 : m &&& n ≤ m := Nat.and_le_left
  have e : (BitVec.ofInt IntKind.i64.bits (m : Int) &&& BitVec.ofInt IntKind.i64.bits (n : Int)).toNat = m &&& n := by
    simp only [BitVec.ofInt_natCast, BitVec.toNat_and, BitVec.toNat_ofNat]
    rw [Nat.mod_eq_of_lt (by show m < 2 ^ 64; omega), Nat.mod_eq_of_lt (by show n < 2 ^ 64; omega)]
  unfold Op.intBits
  simp only [e, Int.toNat_natCast]
  rw [IntWalk.i64_in _ (by omega)]
theorem or_i64 {a b : Int} (ha : 0 ≤ a) (hb : 0 ≤ b) (ha' : a ≤ 9223372036854775807) (hb' : b ≤ 9223372036854775807) : Op.intBits .or .i64 a b = pure (.int .i64 ((a.toNat ||| b.toNat : Nat) : Int)) := by
  obtain ⟨m, rfl⟩ := Int.eq_ofNat_of_zero_le ha
  obtain ⟨n, rfl⟩ := Int.eq_ofNat_of_zero_le hb
  have h1 : m ||| n < 2 ^ 63 := Nat.or_lt_two_pow (by omega) (by omega)
  have e : (BitVec.ofInt IntKind.i64.bits (m : Int) ||| BitVec.ofInt IntKind.i64.bits (n : Int)).toNat = m ||| n := by
    simp only [BitVec.ofInt_natCast, BitVec.toNat_or, BitVec.toNat_ofNat]
    rw [Nat.mod_eq_of_lt (by show m < 2 ^ 64; omega), Nat.mod_eq_of_lt (by show n < 2 ^ 64; omega)]
  unfold Op.intBits
  simp only [e, Int.toNat_natCast]
  rw [IntWalk.i64_in _ (by omega)]

theorem bin_ok {op : BinOp} {ty : TypeId} {x y : AV} {xv yv : Value} {ox oy : Operand} {c : Bool} {K : HK (AV → Prop)} (hc : c = true → ∃ v, oy = .const v) (hx : RV w T hv x xv) (hy : RV w T hv y yv) (h : binA P op ty x y c (K := K)) :
    ∃ u r, (do eqGuard op ty ox oy xv yv; binOp op ty xv yv : Sem Value).run P w = .ok u w ∧ RV w T hv r u ∧ K.k r := by
  unfold binA at h
  split at h
  · rename_i a b
    simp only [RV] at hx hy
    subst hx; subst hy
    obtain ⟨h1, hK⟩ := h
    simp only [lim] at h1
    refine ⟨.int .i64 (a + b), I (a + b), ?_, by simp only [RV], hK⟩
    simp [eqGuard_at_int, binOp_add, Op.intArith, IntWalk.i64_in _ h1]
  · rename_i a b
    simp only [RV] at hx hy
    subst hx; subst hy
    obtain ⟨h1, hK⟩ := h
    simp only [lim] at h1
    refine ⟨.int .i64 (a - b), I (a - b), ?_, by simp only [RV], hK⟩
    simp [eqGuard_at_int, binOp_sub, Op.intArith, IntWalk.i64_in _ h1]
  · rename_i a b
    simp only [RV] at hx hy
    subst hx; subst hy
    obtain ⟨h1, hK⟩ := h
    simp only [lim] at h1
    refine ⟨.int .i64 (a * b), I (a * b), ?_, by simp only [RV], hK⟩
    simp [eqGuard_at_int, binOp_mul, Op.intArith, IntWalk.i64_in _ h1]
  · rename_i a b
    simp only [RV] at hx hy
    subst hx; subst hy
    obtain ⟨⟨h0, h1⟩, hK⟩ := h
    simp only [lim] at h1
    refine ⟨.int .i64 (a.tdiv b), I (a.tdiv b), ?_, by simp only [RV], hK⟩
    simp [eqGuard_at_int, binOp_quo, Op.intDiv, h0, IntWalk.i64_in _ h1]
  · rename_i a b
    simp only [RV] at hx hy
    subst hx; subst hy
    obtain ⟨h0, hK⟩ := h
    refine ⟨.int .i64 (a.tmod b), I (a.tmod b), ?_, by simp only [RV], hK⟩
    simp [eqGuard_at_int, binOp_rem, Op.intDiv, h0]
  · rename_i a k b
    simp only [RV] at hx hy
    subst hx; subst hy
    obtain ⟨⟨h0, h2, h1⟩, hK⟩ := h
    simp only [lim] at h1
    refine ⟨.int .i64 (a * 2 ^ b.toNat), I (a * 2 ^ b.toNat), ?_, by simp only [RV], hK⟩
    have hm : min b.toNat IntKind.i64.bits = b.toNat := Nat.min_eq_left (by show b.toNat ≤ 64; omega)
    simp [eqGuard_at_int, binOp_shl, shift_shl_any _ _ _ _ h0, hm, IntWalk.i64_in _ h1]
  · rename_i a k b
    simp only [RV] at hx hy
    subst hx; subst hy
    obtain ⟨⟨h0, h2⟩, hK⟩ := h
    refine ⟨.int .i64 (a / 2 ^ b.toNat), I (a / 2 ^ b.toNat), ?_, by simp only [RV], hK⟩
    have hm : min b.toNat IntKind.i64.bits = b.toNat := Nat.min_eq_left (by show b.toNat ≤ 64; omega)
    simp [eqGuard_at_int, binOp_shr, shift_shr_any _ _ _ _ h0, hm]
  · rename_i a b
    simp only [RV] at hx hy
    subst hx; subst hy
    obtain ⟨⟨h0, h2, h3, h4⟩, hK⟩ := h
    simp only [lim] at h3 h4
    refine ⟨.int .i64 ((a.toNat &&& b.toNat : Nat) : Int), I ((a.toNat &&& b.toNat : Nat) : Int), ?_, by simp only [RV], hK⟩
    simp [eqGuard_at_int, binOp_and, and_i64 h0 h2 h3.2 h4.2]
  · rename_i a b
    simp only [RV] at hx hy
    subst hx; subst hy
    obtain ⟨⟨h0, h2, h3, h4⟩, hK⟩ := h
    simp only [lim] at h3 h4
    refine ⟨.int .i64 ((a.toNat ||| b.toNat : Nat) : Int), I ((a.toNat ||| b.toNat : Nat) : Int), ?_, by simp only [RV], hK⟩
    simp [eqGuard_at_int, binOp_or, or_i64 h0 h2 h3.2 h4.2]
  · rename_i k a k' b
    simp only [RV] at hx hy
    subst hx; subst hy
    obtain ⟨rfl, hK⟩ := h
    refine ⟨.bool (decide (a < b)), B (decide (a < b)), ?_, by simp only [RV], hK⟩
    simp only [eqGuard_at_int, binOp_lss, Sem.run_bind, Sem.run_pure, Result.andThen_ok]
    
  · rename_i k a k' b
    simp only [RV] at hx hy
    subst hx; subst hy
    obtain ⟨rfl, hK⟩ := h
    refine ⟨.bool (decide (a ≤ b)), B (decide (a ≤ b)), ?_, by simp only [RV], hK⟩
    simp only [eqGuard_at_int, binOp_leq, Sem.run_bind, Sem.run_pure, Result.andThen_ok]
    
  · rename_i k a k' b
    simp only [RV] at hx hy
    subst hx; subst hy
    obtain ⟨rfl, hK⟩ := h
    refine ⟨.bool (decide (b < a)), B (decide (b < a)), ?_, by simp only [RV], hK⟩
    simp only [eqGuard_at_int, binOp_gtr, Sem.run_bind, Sem.run_pure, Result.andThen_ok]
    
  · rename_i k a k' b
    simp only [RV] at hx hy
    subst hx; subst hy
    obtain ⟨rfl, hK⟩ := h
    refine ⟨.bool (decide (b ≤ a)), B (decide (b ≤ a)), ?_, by simp only [RV], hK⟩
    simp only [eqGuard_at_int, binOp_geq, Sem.run_bind, Sem.run_pure, Result.andThen_ok]
    
  · rename_i k a k' b
    simp only [RV] at hx hy
    subst hx; subst hy
    obtain ⟨rfl, hK⟩ := h
    refine ⟨.bool (decide (a = b)), B (decide (a = b)), ?_, by simp only [RV], hK⟩
    simp only [eqGuard_at_int, binOp_eql, Sem.run_bind, Sem.run_pure, Result.andThen_ok]
    rfl
  · rename_i k a k' b
    simp only [RV] at hx hy
    subst hx; subst hy
    obtain ⟨rfl, hK⟩ := h
    refine ⟨.bool (!decide (a = b)), B (!decide (a = b)), ?_, by simp only [RV], hK⟩
    simp only [eqGuard_at_int, binOp_neq, Sem.run_bind, Sem.run_pure, Result.andThen_ok]
    rfl
  · rename_i a b
    simp only [RV] at hx hy
    subst hx; subst hy
    obtain ⟨hb, hK⟩ := h
    split at hb
    · rename_i ti hti
      obtain ⟨_, d, _, _, hd, _, _, _, _, _, _, _, _, _, _, _, h1, _⟩ := tiOf_spec hti
      rw [hb] at h1
      have hd' : P.underlying ty = some .bool := by
        cases d with
        | bool => exact hd
        | _ => simp at h1
      refine ⟨.bool (a == b), B (a == b), ?_, by simp only [RV], hK⟩
      simp [eqGuard_at_bool, binOp, Op.equal, Op.maxDepth, run_equalIn_bool' w 9999 ty a b hd']
    · exact hb.elim
  · rename_i a b
    simp only [RV] at hx hy
    subst hx; subst hy
    obtain ⟨hb, hK⟩ := h
    split at hb
    · rename_i ti hti
      obtain ⟨_, d, _, _, hd, _, _, _, _, _, _, _, _, _, _, _, h1, _⟩ := tiOf_spec hti
      rw [hb] at h1
      have hd' : P.underlying ty = some .bool := by
        cases d with
        | bool => exact hd
        | _ => simp at h1
      refine ⟨.bool (!(a == b)), B (!(a == b)), ?_, by simp only [RV], hK⟩
      simp [eqGuard_at_bool, binOp, Op.equal, Op.maxDepth, run_equalIn_bool' w 9999 ty a b hd']
    · exact hb.elim
  · rename_i xs ys
    split at h
    · rename_i ti aS bs hti has hbs
      obtain ⟨⟨h1, h2, h3⟩, hK⟩ := h
      simp only [RV] at hx hy
      obtain ⟨cs, rfl, hx⟩ := hx
      obtain ⟨ds, rfl, hy⟩ := hy
      obtain ⟨hr, hg⟩ := eqn_run hti h1 has hbs h2 h3 hx hy
      refine ⟨.bool (decide (aS = bs)), B (decide (aS = bs)), ?_, by simp only [RV], hK⟩
      simp only [Sem.run_bind, run_eqGuard_agg w .eql ty ox oy cs ds hg, Result.andThen_ok, run_eql_struct, hr]
    · exact h.elim
  · rename_i xs ys
    split at h
    · rename_i ti aS bs hti has hbs
      obtain ⟨⟨h1, h2, h3⟩, hK⟩ := h
      simp only [RV] at hx hy
      obtain ⟨cs, rfl, hx⟩ := hx
      obtain ⟨ds, rfl, hy⟩ := hy
      obtain ⟨hr, hg⟩ := eqn_run hti h1 has hbs h2 h3 hx hy
      refine ⟨.bool (!decide (aS = bs)), B (!decide (aS = bs)), ?_, by simp only [RV], hK⟩
      simp only [Sem.run_bind, run_eqGuard_agg w .neq ty ox oy cs ds hg, Result.andThen_ok, run_neq_struct, hr]
    · exact h.elim
  · rename_i k xs n c
    obtain ⟨h0, hK⟩ := h
    split at h0
    · rename_i ti hti
      obtain ⟨e, he⟩ := Option.isSome_iff_exists.1 h0
      have hu := ti_elem hti he
      simp only [RV] at hy
      subst hy
      simp only [RV, R] at hx
      obtain ⟨A, c', ws, e1, _, _, _, _, h5⟩ := hx
      injection e1 with e1
      subst e1
      refine ⟨.bool A.isNone, B A.isNone, ?_, by simp only [RV], hK _ fun hb => ?_⟩
      · have hq : ∀ d, (Op.equalIn (d + 1) ty (.slice A xs.length c') (.slice none n c)).run P w = .ok A.isNone w := fun d => by
          cases A <;> simp [Op.equalIn, run_underlying hu]
        simp only [eqGuard_at_slice, Sem.run_bind, Sem.run_pure, Result.andThen_ok]
        simp only [binOp]
        simp [Op.equal, Op.maxDepth, hq 9999]
      · cases xs with
        | nil => rfl
        | cons x xs => obtain ⟨b, off, rfl, _⟩ := h5 (by simp); simp at hb
    · exact h0.elim
  · rename_i a b
    simp only [RV] at hx hy
    subst hx; subst hy
    obtain ⟨h0, hK⟩ := h
    refine ⟨.int .u64 (a.tmod b), _, ?_, by simp only [RV], hK⟩
    simp [eqGuard_at_int, binOp_rem, Op.intDiv, h0]
  · rename_i a b
    simp only [RV] at hx hy
    subst hx; subst hy
    refine ⟨.int .u64 (IntKind.u64.wrap (a + b)), _, ?_, by simp only [RV], h⟩
    simp [eqGuard_at_int, binOp_add, Op.intArith]
  · rename_i a b
    simp only [RV] at hx hy
    subst hx; subst hy
    refine ⟨.int .u8 (IntKind.u8.wrap (a - b)), _, ?_, by simp only [RV], h⟩
    simp [eqGuard_at_int, binOp_sub, Op.intArith]
  · rename_i a b
    simp only [RV] at hx hy
    subst hx; subst hy
    unfold strA at h
    have hl : ∀ z : ByteArray, z.toList.length = z.size := fun z => by rw [ByteArray.toList_eq]; cases z; rfl
    have hq : (a.toList == b.toList) = decide (a.toList = b.toList) := by by_cases e : a.toList = b.toList <;> simp [e]
    split at h
    · rename_i r hr
      cases op <;> simp only [eqC, reduceCtorEq] at hr
      · injection hr with hr
        refine ⟨.bool r, B r, ?_, by simp only [RV], h⟩
        simp only [eqGuard_at_string, binOp_string_eql, Sem.run_bind, Sem.run_pure, Result.andThen_ok, hq, hr]
      · injection hr with hr
        refine ⟨.bool r, B r, ?_, by simp only [RV], h⟩
        simp only [eqGuard_at_string, binOp_string_neq, Sem.run_bind, Sem.run_pure, Result.andThen_ok, hq, hr]
    · obtain ⟨⟨rfl, h1⟩, hK⟩ := h
      rw [hl, hl] at h1
      refine ⟨.string (a ++ b), _, ?_, ?_, hK⟩
      · simp only [eqGuard_at_string, binOp_string_add, Sem.run_bind, Sem.run_pure, Result.andThen_ok, run_string_add_sum _ a b h1]
      · simp only [RV]
        congr 1
        rw [ByteArray.toList_eq, ByteArray.toList_eq]
        cases a with
        | mk a =>
          cases b with
          | mk b =>
            apply ByteArray.ext
            simp
  · have hyv : yv = .pointer none := by simpa only [RV] using hy
    subst hyv
    split at h
    · rename_i b hb
      split at h
      · rename_i r hr
        obtain ⟨hT, hK⟩ := h
        have hu : ∃ e, P.underlying ty = some (.pointer e) := by
          unfold nilT at hT
          split at hT
          · rename_i e hu; exact ⟨e, hu⟩
          · simp at hT
          · cases hT
        obtain ⟨e, hu⟩ := hu
        have hp : ∃ A : Option Addr, xv = .pointer A ∧ A.isNone = b := by
          unfold ptrN at hb
          split at hb <;> first | (cases hb; done) | skip
          all_goals
            injection hb with hb
            subst hb
            simp only [RV, R] at hx
          · obtain ⟨b, n, c, _, h2⟩ := hx; injection h2 with h2; exact ⟨_, h2, rfl⟩
          · obtain ⟨b, o, ws, h2, _⟩ := hx; injection h2 with h2; exact ⟨_, h2, rfl⟩
          · exact ⟨none, hx, rfl⟩
          · exact ⟨_, hx, rfl⟩
        obtain ⟨A, rfl, hA⟩ := hp
        have hq : ∀ d, (Op.equalIn (d + 1) ty (.pointer A) (.pointer none)).run P w = .ok A.isNone w := fun d => by
          cases A <;> simp [Op.equalIn, run_underlying hu]
        cases op <;> simp only [eqC, reduceCtorEq] at hr
        · injection hr with hr
          refine ⟨.bool r, B r, ?_, by simp only [RV], hK⟩
          simp only [eqGuard_at_pointer, Sem.run_bind, Sem.run_pure, Result.andThen_ok]
          simp only [binOp]
          simp [Op.equal, Op.maxDepth, hq 9999, hA, hr]
        · injection hr with hr
          refine ⟨.bool r, B r, ?_, by simp only [RV], hK⟩
          simp only [eqGuard_at_pointer, Sem.run_bind, Sem.run_pure, Result.andThen_ok]
          simp only [binOp]
          simp [Op.equal, Op.maxDepth, hq 9999, hA, hr]
      · exact h.elim
    · exact h.elim
  · have hyv : yv = .nilIface := by simpa only [RV] using hy
    subst hyv
    split at h
    · rename_i b hb
      split at h
      · rename_i r hr
        obtain ⟨⟨hcc, hT⟩, hK⟩ := h
        obtain ⟨cv, rfl⟩ := hc hcc
        have hu : ∃ ms, P.underlying ty = some (.interface ms) := by
          unfold nilT at hT
          split at hT
          · simp at hT
          · rename_i ms hu; exact ⟨ms, hu⟩
          · cases hT
        obtain ⟨ms, hu⟩ := hu
        have hp : ∃ q : Bool, q = b ∧ ((xv = .nilIface ∧ q = true) ∨ ∃ t v, xv = .iface t v ∧ q = false) := by
          unfold ifcN at hb
          split at hb <;> first | (cases hb; done) | skip
          all_goals
            injection hb with hb
            subst hb
            simp only [RV] at hx
          · exact ⟨_, rfl, .inl ⟨hx, rfl⟩⟩
          · exact ⟨_, rfl, .inr ⟨_, _, hx, rfl⟩⟩
        obtain ⟨q, rfl, hp⟩ := hp
        have q1 : ∀ d, (Op.equalIn (d + 1) ty .nilIface .nilIface).run P w = .ok true w := fun d => by simp [Op.equalIn, run_underlying hu]
        have q2 : ∀ d t v, (Op.equalIn (d + 1) ty (.iface t v) .nilIface).run P w = .ok false w := fun d t v => by simp [Op.equalIn, run_underlying hu]
        rcases hp with ⟨rfl, rfl⟩ | ⟨t, v, rfl, rfl⟩
        · cases op <;> simp only [eqC, reduceCtorEq] at hr
          all_goals
            injection hr with hr
            refine ⟨.bool r, B r, ?_, by simp only [RV], hK⟩
            simp only [eqGuard_nil_constR, Sem.run_bind, Sem.run_pure, Result.andThen_ok]
            simp only [binOp]
            simp [Op.equal, Op.maxDepth, q1 9999, q2 9999, ← hr]
        · cases op <;> simp only [eqC, reduceCtorEq] at hr
          all_goals
            injection hr with hr
            refine ⟨.bool r, B r, ?_, by simp only [RV], hK⟩
            simp only [eqGuard_at_iface, Sem.run_bind, Sem.run_pure, Result.andThen_ok]
            simp only [binOp]
            simp [Op.equal, Op.maxDepth, q1 9999, q2 9999, ← hr]
      · exact h.elim
    · exact h.elim
  · exact h.elim
end

end Aw
end Go.Proofs.YtndniceeibflcaaGreatDoor

namespace Go.Proofs.YtndniceeibflcaaGreatDoor
namespace Aw
open Go.RowKit

section
variable {A : Nat → Prop} {P : Program} {w : World} {hv : Nat → Option Value} {M : Mem}

theorem ownsRow_add {e : TypeId} {k n : Nat} {v : Value} {xs : List Value} (h : w.ownsRow 0 e k v n xs) (hpos : 0 < n) : ∃ g cap, v = .slice (some ⟨g, 0, none⟩) n cap := by
  rcases h.2 with ⟨_, h0⟩ | ⟨g, cap, cur, rfl, _⟩
  · omega
  · exact ⟨g, cap, rfl⟩

/-- the run of an append onto an own row, from whatever source. -/
theorem run_append_src {t e ty : TypeId} {ti te : TI} (ht : tiOf P t = some ti) (he : ti.elem = some e) (hte : tiOf P e = some te) (hsz : 0 < te.size) {v : Value} {n : Nat} {xs : List Value} (hown : w.ownsRow 0 e te.size v n xs)
    {A : Option Addr} {m c : Nat} {news : List Value} (hl : news.length = m * te.size) (hsrc : 0 < m → ∃ a : Addr, A = some a ∧ ∀ j u, news[j]? = some u → w.cell? (a.add j) = some u) (h1 : ∀ u ∈ news, u.oneCell' = true)
    (h63 : n + m ≤ 1000000) (hbytes : te.bytes ≤ 1000) :
    ∃ v' w', (Builtin.append_ #[t, t] ty #[v, .slice A m c]).run P w = .ok v' w' ∧ w'.ownsRow 0 e te.size v' (n + m) (xs ++ news) ∧ w.grownBy w' v.ownBlock ∧ (v'.ownBlock = v.ownBlock ∨ v'.ownBlock = some w.heap.size) := by
  have hu := ti_elem ht he
  obtain ⟨i, d, z, hi, hd, hz, hz1, hz2, _, hs, hb, _⟩ := tiOf_spec hte
  have hby : (n + m) * te.bytes ≤ 140737488355328 := Nat.le_trans (Nat.mul_le_mul h63 hbytes) (by omega)
  rcases A with _ | a
  · have hm : m = 0 := by
      rcases Nat.eq_zero_or_pos m with h0 | h0
      · exact h0
      · obtain ⟨a, h, _⟩ := hsrc h0; cases h
    subst hm
    have hn : news = [] := List.eq_nil_of_length_eq_zero (by simpa using hl)
    subst hn
    refine ⟨v, w, ?_, by simpa using hown, World.grownBy.refl w _, .inl rfl⟩
    rcases hown.2 with ⟨rfl, rfl⟩ | ⟨g, cap, cur, rfl, _, _, hnc, _⟩
    · simp [Builtin.append_, run_underlying hu, sizeOf, typeInfo, hi, Builtin.lenOf, Builtin.firstCells]
    · simp [Builtin.append_, run_underlying hu, sizeOf, typeInfo, hi, Builtin.lenOf, Builtin.firstCells, hnc, storeCells]
  · obtain ⟨v', w', hr, h2, h3, _, h5⟩ := run_append_own_at (P := P) w 0 t ty e i z te.size te.bytes hu hi hz hs.symm hb.symm (by rw [hz1, hs]) hsz v n xs hown a m c news hl (fun j u hu => by
        rcases Nat.eq_zero_or_pos m with h0 | h0
        · subst h0
          have hn : news = [] := List.eq_nil_of_length_eq_zero (by simpa using hl)
          subst hn
          simp at hu
        · obtain ⟨a', h, hc⟩ := hsrc h0
          injection h with h
          subst h
          exact hc j u hu) h1 (by simp only [maxLen]; omega) hby (Nat.zero_le _)
    exact ⟨v', w', hr, h2, h3, h5⟩

def hvSet (hv : Nat → Option Value) (i : Nat) (v : Value) : Nat → Option Value := fun j => if j = i then some v else hv j

/-- an object's row has grown. -/
theorem mem_append {i : Nat} {ob : Ob} {v v' : Value} {w' : World} {ys : List AV} {us news : List Value} (hM : MemR A w hv M) (hi : M[i]? = some (some ob)) (hmp : ob.mp = none) (hvb : blk v = v.ownBlock) (hvb' : blk v' = v'.ownBlock) (hvi : hv i = some v) (hus : RL w (OwnA A hv) hv ob.xs us) (hks : ∀ x ∈ ob.xs, x.size = ob.k)
    (hrow : w'.ownsRow 0 ob.ty ob.k v' (ob.xs.length + ys.length) (us ++ news)) (hg : w.grownBy w' v.ownBlock) (hdr : dr w ≤ dr w') (hb : v'.ownBlock = v.ownBlock ∨ v'.ownBlock = some w.heap.size)
    (hys : ∀ y ∈ ys, y.size = ob.k) (hnews : StepR A w hv [i] w' (hvSet hv i v') → RL w' (OwnA A (hvSet hv i v')) (hvSet hv i v') ys news) :
    MemR A w' (hvSet hv i v') ((Mem.kill [i] M).set i (some { ob with xs := AV.killL [i] ob.xs ++ ys })) ∧ StepR A w hv [i] w' (hvSet hv i v') := by
  have hlt : i < M.length := (List.getElem?_eq_some_iff.1 hi).1
  have hself : hvSet hv i v' i = some v' := by simp [hvSet]
  have hne : ∀ j, j ≠ i → hvSet hv i v' j = hv j := fun j h => by simp [hvSet, h]
  have hs : StepR A w hv [i] w' (hvSet hv i v') := by
    refine ⟨⟨hg.size, fun b hb' hT => hg.block b hb' (fun e => hT ⟨i, v, hvi, by rw [hvb]; exact e.symm⟩), fun b hlt' h => ?_⟩, fun j u hj h => ?_, hg.os, hg.tape, hg.output, hdr⟩
    · obtain ⟨j, u, hj, hu⟩ := h
      by_cases hji : j = i
      · subst hji
        rw [hself] at hj
        injection hj with hj
        subst hj
        rw [hvb'] at hu
        rcases hb with hb | hb
        · exact ⟨j, v, hvi, by rw [hvb, ← hb]; exact hu⟩
        · rw [hb] at hu; injection hu with hu; omega
      · rw [hne j hji] at hj
        exact ⟨j, u, hj, hu⟩
    · rw [hne j (by simpa using hj)]; exact h
  refine ⟨⟨fun j o h => ?_, fun j u h => ?_, fun j1 j2 v1 v2 b h1 h2 hb1 hb2 => ?_, fun b h => Nat.lt_of_lt_of_le (hM.old b h) hg.size, hs.gl hM.gl⟩, hs⟩
  · rw [setOb_get _ _ _ _ (by simpa [Mem.kill] using hlt)] at h
    by_cases hji : j = i
    · subst hji
      rw [if_pos rfl] at h
      simp only [Option.some.injEq] at h
      subst h
      refine ⟨v', hself, ObR.of_row (ob := { ob with xs := AV.killL [j] ob.xs ++ ys }) hmp ⟨us ++ news, ?_, ?_, RL_app _ _ _ _ (RL_keep hs.keeps hs.hv _ _ hus) (hnews hs)⟩⟩
      · simp only [List.length_append, AV.killL_map, List.length_map]; exact hrow
      · intro x hx
        simp only [List.mem_append, AV.killL_map, List.mem_map] at hx
        rcases hx with ⟨y, hy, rfl⟩ | hx
        · rw [AV.size_kill]; exact hks y hy
        · exact hys x hx
    · rw [if_neg hji, Mem.kill_get] at h
      simp only [Option.map_eq_some_iff] at h
      obtain ⟨o', ho', h⟩ := h
      cases o' with
      | none => simp at h
      | some ob' =>
        simp only [Option.some.injEq] at h
        obtain ⟨_, rfl, rfl⟩ := h
        obtain ⟨v1, h9, h10, h11⟩ := live_step hM hs (fun v' b' hi' hb' => hg.block b' (hM.own_lt ⟨j, v', hi', hb'⟩) (fun e => hji (hM.inj j i _ _ b' hi' hvi hb' (by rw [hvb]; exact e.symm)))) (by simpa using hji) ho'
        exact ⟨v1, h10, h11⟩
  · rw [setOb_get _ _ _ _ (by simpa [Mem.kill] using hlt)]
    by_cases hji : j = i
    · exact ⟨_, by rw [if_pos hji]⟩
    · rw [hne j hji] at h
      obtain ⟨o, ho⟩ := hM.dom j u h
      exact ⟨o.kill [i], by rw [if_neg hji, Mem.kill_get, ho]; rfl⟩
  · have key : ∀ j v0 b, j ≠ i → hv j = some v0 → blk v0 = some b → blk v' = some b → False := by
      intro j v0 b hji h hb0 hb'
      rw [hvb'] at hb'
      have hlt' := hM.own_lt ⟨j, v0, h, hb0⟩
      rcases hb with hb | hb
      · exact hji (hM.inj j i _ _ b h hvi hb0 (by rw [hvb, ← hb]; exact hb'))
      · rw [hb] at hb'; injection hb' with hb'; omega
    by_cases e1 : j1 = i <;> by_cases e2 : j2 = i
    · omega
    · subst e1
      rw [hself] at h1
      injection h1 with h1
      subst h1
      rw [hne j2 e2] at h2
      exact (key j2 v2 b e2 h2 hb2 hb1).elim
    · subst e2
      rw [hself] at h2
      injection h2 with h2
      subst h2
      rw [hne j1 e1] at h1
      exact (key j1 v1 b e1 h1 hb1 hb2).elim
    · rw [hne j1 e1] at h1
      rw [hne j2 e2] at h2
      exact hM.inj j1 j2 v1 v2 b h1 h2 hb1 hb2

/-- one value is filled in behind the other. -/
theorem puts_fold (off : Nat) : ∀ (l : List Value) (n : Nat) (cs : Array Value), off + n + l.length ≤ cs.size →
    ((l.zipIdx n).foldl (fun (cs : Array Value) (cj : Value × Nat) => cs.setIfInBounds (off + cj.2) cj.1) cs).toList = cs.toList.take (off + n) ++ l ++ cs.toList.drop (off + n + l.length)
  | [], n, cs, _ => by simp
  | v :: l, n, cs, h => by
    simp only [List.length_cons] at h
    simp only [List.zipIdx_cons, List.foldl_cons]
    rw [puts_fold off l (n + 1) _ (by simp; omega)]
    have hlt : off + n < cs.toList.length := by simp; omega
    simp only [Array.toList_setIfInBounds]
    have e1 : (cs.toList.set (off + n) v).take (off + (n + 1)) = cs.toList.take (off + n) ++ [v] := by
      have hl : (cs.toList.take (off + n)).length = off + n := by simp; omega
      rw [List.set_eq_take_append_cons_drop, if_pos hlt, List.take_append, hl, List.take_of_length_le (by omega)]
      rw [show off + (n + 1) - (off + n) = 1 by omega]
      simp
    have e2 : (cs.toList.set (off + n) v).drop (off + (n + 1) + l.length) = cs.toList.drop (off + n + (v :: l).length) := by
      rw [List.drop_set_of_lt (by omega)]
      congr 1
      simp; omega
    rw [e1, e2]
    simp

def PartsR (w : World) (T : Nat → Prop) (hv : Nat → Option Value) : List (Nat × AV) → List (Nat × Value) → Prop
  | [], [] => True
  | p :: ps, q :: qs => p.1 = q.1 ∧ RV w T hv p.2 q.2 ∧ PartsR w T hv ps qs
  | _, _ => False

theorem fill_ok {T : Nat → Prop} (place : Nat → Option (Nat × Nat)) : ∀ (parts : List (Nat × AV)) (vs : List (Nat × Value)) (cells out : List AV) (cs : Array Value), fillA place cells parts = some out → (∀ x ∈ cells, x.size = 1) → RL w T hv cells cs.toList →
    PartsR w T hv parts vs →
    ∃ res, Instr.fill place cs vs = some res ∧ RL w T hv out res.toList ∧ (∀ x ∈ out, x.size = 1) ∧ res.size = cs.size
  | [], vs, cells, out, cs, h, h1, hr, hp => by
    match vs, hp with
    | [], _ =>
      simp only [fillA, Option.some.injEq] at h
      subst h
      exact ⟨cs, rfl, hr, h1, rfl⟩
  | (i, x) :: parts, vs, cells, out, cs, h, h1, hr, hp => by
    match vs, hp with
    | (i', v) :: vs, hp =>
      obtain ⟨rfl, hx, hp⟩ := hp
      simp only [fillA] at h
      cases hpl : place i with
      | none => rw [hpl] at h; simp at h
      | some os =>
        obtain ⟨off, size⟩ := os
        rw [hpl] at h
        simp only at h
        split at h
        · rename_i hc
          simp only [Bool.and_eq_true, beq_iff_eq, decide_eq_true_eq] at hc
          obtain ⟨⟨⟨c1, c2⟩, c3⟩, c4⟩ := hc
          have hxc := (R_cells c2).1 (RV_R c1 hx)
          have l1 := RL_len _ _ (flat_size c2) hxc
          have l2 := RL_len _ _ h1 hr
          simp only [Nat.mul_one, Array.length_toList] at l1 l2
          have hp2 := putsA_RL x.cells cells off cs.toList v.cells.toList h1 (flat_size c2) hr hxc (by omega)
          have hfold : (v.cells.zipIdx.foldl (fun cs (c, j) => cs.setIfInBounds (off + j) c) cs).toList = cs.toList.take off ++ v.cells.toList ++ cs.toList.drop (off + v.cells.toList.length) := by
            rw [← Array.foldl_toList, Array.toList_zipIdx]
            have := puts_fold off v.cells.toList 0 cs (by simp; omega)
            simpa using this
          obtain ⟨res, r1, r2, r3, r4⟩ := fill_ok place parts vs _ out (v.cells.zipIdx.foldl (fun cs (c, j) => cs.setIfInBounds (off + j) c) cs) h hp2.2 (by rw [hfold]; exact hp2.1) hp
          refine ⟨res, ?_, r2, r3, ?_⟩
          · simp only [Instr.fill, hpl]
            rw [if_neg]
            · exact r1
            · intro hbad
              simp only [Bool.or_eq_true, decide_eq_true_eq] at hbad
              omega
          · rw [r4, ← Array.length_toList, hfold]
            simp
            omega
        · cases h
end

end Aw
end Go.Proofs.YtndniceeibflcaaGreatDoor

namespace Go.Proofs.YtndniceeibflcaaGreatDoor
namespace Aw
open Go.RowKit

theorem AV.subL_map (F : Nat → AV) (G : Nat → Nat → Nat → Nat → AV) : ∀ l : List AV, AV.subL F G l = l.map (AV.sub F G)
  | [] => rfl
  | x :: xs => by simp [AV.subL, AV.subL_map F G xs]

theorem AV.single_up (m : Nat) (a : AV) (h : a.single = true) : (a.up m).single = true := by cases a <;> simp_all [AV.single, AV.up, AV.sub]

theorem AV.size_up (m : Nat) (a : AV) : (a.up m).size = a.size := by
  refine AV.rec (motive_1 := fun a => (a.up m).size = a.size) (motive_2 := fun l => AV.sizeL (AV.subL (fun i => .o (i + m)) (fun i k j off => .q (i + m) k j off) l) = AV.sizeL l) ?_ ?_ ?_ ?_ ?_ ?_ ?_ ?_ ?_ ?_ ?_ a <;> intros <;> simp_all [AV.up, AV.sub, AV.subL, AV.size, AV.sizeL]

section
variable {A : Nat → Prop} {w : World} {T T' : Nat → Prop} {m : Nat}

theorem R_up (hT : ∀ b, T' b → T b) {hv hv' : Nat → Option Value} (hh : ∀ i v, hv i = some v → hv' (i + m) = some v) : ∀ (a : AV) (us : List Value), R w T hv a us → R w T' hv' (a.up m) us := by
  have hk : Keeps w T w T' := ⟨Nat.le_refl _, fun _ _ _ => rfl, fun b _ h => hT b h⟩
  intro a
  refine AV.rec (motive_1 := fun a => ∀ us, R w T hv a us → R w T' hv' (a.up m) us)
    (motive_2 := fun l => ∀ us, RL w T hv l us → RL w T' hv' (AV.subL (fun i => .o (i + m)) (fun i k j off => .q (i + m) k j off) l) us)
    ?_ ?_ ?_ ?_ ?_ ?_ ?_ ?_ ?_ ?_ ?_ a
  · intro us h; simpa only [R, AV.up, AV.sub] using h
  · intro x us h; simpa only [R, AV.up, AV.sub] using h
  · intro k xs _ us h
    have := R_keep hk (.s k xs) [] hv hv us (fun _ _ _ h => h) h
    rw [AV.kill_nil] at this
    simpa only [R, AV.up, AV.sub] using this
  · intro xs ih us h; simp only [R, AV.up, AV.sub] at h ⊢; exact ih us h
  · intro xs _ us h; simp [R] at h
  · intro x off _ us h
    have := R_keep hk (.p x off) [] hv hv us (fun _ _ _ h => h) h
    rw [AV.kill_nil] at this
    simpa only [R, AV.up, AV.sub] using this
  · intro i us h; simp only [R, AV.up, AV.sub] at h ⊢; obtain ⟨v, h1, h2⟩ := h; exact ⟨v, hh i v h1, h2⟩
  · intro i k j off us h; simp only [R, AV.up, AV.sub] at h ⊢; obtain ⟨b, n, c, h1, h2⟩ := h; exact ⟨b, n, c, hh i _ h1, h2⟩
  · intro fn cap ih us h
    simp only [R, AV.up, AV.sub] at h ⊢
    obtain ⟨cs, h1, h2, h3⟩ := h
    exact ⟨cs, h1, fun x hx => by rw [AV.subL_map] at hx; obtain ⟨y, hy, rfl⟩ := List.mem_map.1 hx; exact AV.single_up m y (h2 y hy), ih _ h3⟩
  · intro us h; simpa only [RL, AV.subL] using h
  · intro x xs ih1 ih2 us h
    simp only [RL, AV.subL] at h ⊢
    obtain ⟨u1, u2, rfl, h1, h2⟩ := h
    exact ⟨u1, u2, rfl, ih1 u1 h1, ih2 u2 h2⟩

theorem RL_up (hT : ∀ b, T' b → T b) {hv hv' : Nat → Option Value} (hh : ∀ i v, hv i = some v → hv' (i + m) = some v) : ∀ (l : List AV) (us : List Value), RL w T hv l us → RL w T' hv' (l.map (AV.up m)) us
  | [], us, h => by simpa only [RL, List.map_nil] using h
  | x :: xs, us, h => by
    simp only [RL, List.map_cons] at h ⊢
    obtain ⟨u1, u2, rfl, h1, h2⟩ := h
    exact ⟨u1, u2, rfl, R_up hT hh x u1 h1, RL_up hT hh xs u2 h2⟩

theorem RV_up (hT : ∀ b, T' b → T b) {hv hv' : Nat → Option Value} (hh : ∀ i v, hv i = some v → hv' (i + m) = some v) : ∀ (a : AV) (v : Value), RV w T hv a v → RV w T' hv' (a.up m) v := by
  intro a
  refine AV.rec (motive_1 := fun a => ∀ v, RV w T hv a v → RV w T' hv' (a.up m) v)
    (motive_2 := fun l => ∀ vs, RVL w T hv l vs → RVL w T' hv' (AV.subL (fun i => .o (i + m)) (fun i k j off => .q (i + m) k j off) l) vs)
    ?_ ?_ ?_ ?_ ?_ ?_ ?_ ?_ ?_ ?_ ?_ a
  · intro v _; simp [RV, AV.up, AV.sub]
  · intro x v h; simpa only [RV, AV.up, AV.sub] using h
  · intro k xs _ v h; have := R_up (w := w) hT hh (.s k xs) [v] h; simpa only [RV, AV.up, AV.sub] using this
  · intro xs _ v h
    simp only [RV, AV.up, AV.sub] at h ⊢
    obtain ⟨cs, rfl, h⟩ := h
    refine ⟨cs, rfl, ?_⟩
    rw [AV.subL_map]
    exact RL_up hT hh xs _ h
  · intro xs ih v h
    simp only [RV, AV.up, AV.sub] at h ⊢
    obtain ⟨vs, rfl, h⟩ := h
    exact ⟨vs, rfl, ih _ h⟩
  · intro x off _ v h; have := R_up (w := w) hT hh (.p x off) [v] h; simpa only [RV, AV.up, AV.sub] using this
  · intro i v h; have := R_up (w := w) hT hh (.o i) [v] h; simpa only [RV, AV.up, AV.sub] using this
  · intro i k j off v h; have := R_up (w := w) hT hh (.q i k j off) [v] h; simpa only [RV, AV.up, AV.sub] using this
  · intro fn cap _ v h; have := R_up (w := w) hT hh (.f fn cap) [v] h; simpa only [RV, AV.up, AV.sub] using this
  · intro vs h; simpa only [RVL, AV.subL] using h
  · intro x xs ih1 ih2 vs h
    simp only [RVL, AV.subL] at h ⊢
    obtain ⟨u, us, rfl, h1, h2⟩ := h
    exact ⟨u, us, rfl, ih1 u h1, ih2 us h2⟩
theorem RVL_up (hT : ∀ b, T' b → T b) {hv hv' : Nat → Option Value} (hh : ∀ i v, hv i = some v → hv' (i + m) = some v) : ∀ (l : List AV) (us : List Value), RVL w T hv l us → RVL w T' hv' (l.map (AV.up m)) us
  | [], us, h => by simpa only [RVL, List.map_nil] using h
  | x :: xs, us, h => by
    simp only [RVL, List.map_cons] at h ⊢
    obtain ⟨u, u2, rfl, h1, h2⟩ := h
    exact ⟨u, u2, rfl, RV_up hT hh x u h1, RVL_up hT hh xs u2 h2⟩
end

section
variable {A : Nat → Prop} {P : Program} {w w' : World} {hv : Nat → Option Value} {M : Mem}

theorem coe_rvl {lend : Bool} (hM : MemR A w hv M) : ∀ (aS bs : List AV) (vs : List Value), CoeL lend M aS bs → RVL w (OwnA A hv) hv aS vs → RVL w (if lend then fun _ => False else OwnA A hv) noHv bs vs
  | [], [], vs, _, h => by simpa only [RVL] using h
  | a :: aS, b :: bs, vs, hc, h => by
    simp only [CoeL] at hc
    simp only [RVL] at h ⊢
    obtain ⟨u, us, rfl, h1, h2⟩ := h
    exact ⟨u, us, rfl, hc.1 A w hv u hM h1, coe_rvl hM aS bs us hc.2 h2⟩
  | [], _ :: _, vs, hc, _ => by simp [CoeL] at hc
  | _ :: _, [], vs, hc, _ => by simp [CoeL] at hc

/-- what is all its own says the same whatever is to be kept away from. -/
theorem R_tfree {T T' : Nat → Prop} : ∀ (a : AV) (hv : Nat → Option Value) (us : List Value), a.tfree = true → R w T hv a us → R w T' hv a us := by
  intro a
  refine AV.rec (motive_1 := fun a => ∀ hv us, a.tfree = true → R w T hv a us → R w T' hv a us) (motive_2 := fun l => ∀ hv us, AV.tfreeL l = true → RL w T hv l us → RL w T' hv l us)
    ?_ ?_ ?_ ?_ ?_ ?_ ?_ ?_ ?_ ?_ ?_ a
  · intro hv us _ h; simpa only [R] using h
  · intro x hv us _ h; simpa only [R] using h
  · intro k xs _ hv us ht h
    simp only [AV.tfree, List.isEmpty_iff] at ht
    subst ht
    simp only [R] at h ⊢
    obtain ⟨A, c, ws, h1, h2, h3, h4, h5, _⟩ := h
    exact ⟨A, c, ws, h1, h2, h3, h4, by simpa only [RL] using h5, fun h => absurd rfl h⟩
  · intro xs ih hv us ht h; simp only [R, AV.tfree] at *; exact ih hv us ht h
  · intro xs _ hv us _ h; simp [R] at h
  · intro x off _ hv us ht h; simp [AV.tfree] at ht
  · intro i hv us _ h; simpa only [R] using h
  · intro i k j off hv us _ h; simpa only [R] using h
  · intro fn cap ih hv us ht h
    simp only [R, AV.tfree] at *
    obtain ⟨cs, h1, h2, h3⟩ := h
    exact ⟨cs, h1, h2, ih hv _ ht h3⟩
  · intro hv us _ h; simpa only [RL] using h
  · intro x xs ih1 ih2 hv us ht h
    simp only [RL, AV.tfreeL, Bool.and_eq_true] at *
    obtain ⟨u1, u2, rfl, h1, h2⟩ := h
    exact ⟨u1, u2, rfl, ih1 hv u1 ht.1 h1, ih2 hv u2 ht.2 h2⟩
theorem RL_tfree {T T' : Nat → Prop} {hv : Nat → Option Value} : ∀ (l : List AV) (us : List Value), AV.tfreeL l = true → RL w T hv l us → RL w T' hv l us
  | [], us, _, h => by simpa only [RL] using h
  | x :: xs, us, ht, h => by
    simp only [RL, AV.tfreeL, Bool.and_eq_true] at *
    obtain ⟨u1, u2, rfl, h1, h2⟩ := h
    exact ⟨u1, u2, rfl, R_tfree x hv u1 ht.1 h1, RL_tfree xs u2 ht.2 h2⟩
theorem RV_tfree {T T' : Nat → Prop} {hv : Nat → Option Value} : ∀ (a : AV) (v : Value), a.tfree = true → RV w T hv a v → RV w T' hv a v := by
  intro a
  refine AV.rec (motive_1 := fun a => ∀ v, a.tfree = true → RV w T hv a v → RV w T' hv a v) (motive_2 := fun l => ∀ vs, AV.tfreeL l = true → RVL w T hv l vs → RVL w T' hv l vs)
    ?_ ?_ ?_ ?_ ?_ ?_ ?_ ?_ ?_ ?_ ?_ a
  · intro v _ _; simp [RV]
  · intro x v _ h; simpa only [RV] using h
  · intro k xs _ v ht h; have := R_tfree (T' := T') (.s k xs) hv [v] ht (by simpa only [RV] using h); simpa only [RV] using this
  · intro xs _ v ht h
    simp only [RV, AV.tfree] at *
    obtain ⟨cs, rfl, h⟩ := h
    exact ⟨cs, rfl, RL_tfree xs _ ht h⟩
  · intro xs ih v ht h
    simp only [RV, AV.tfree] at *
    obtain ⟨vs, rfl, h⟩ := h
    exact ⟨vs, rfl, ih _ ht h⟩
  · intro x off _ v ht h; simp [AV.tfree] at ht
  · intro i v _ h; simpa only [RV, R] using h
  · intro i k j off v _ h; simpa only [RV, R] using h
  · intro fn cap _ v ht h; have := R_tfree (T' := T') (.f fn cap) hv [v] ht (by simpa only [RV] using h); simpa only [RV] using this
  · intro vs _ h; simpa only [RVL] using h
  · intro x xs ih1 ih2 vs ht h
    simp only [RVL, AV.tfreeL, Bool.and_eq_true] at *
    obtain ⟨u, us, rfl, h1, h2⟩ := h
    exact ⟨u, us, rfl, ih1 u ht.1 h1, ih2 us ht.2 h2⟩

theorem RVL_tfree {T T' : Nat → Prop} {hv : Nat → Option Value} : ∀ (l : List AV) (us : List Value), AV.tfreeL l = true → RVL w T hv l us → RVL w T' hv l us
  | [], us, _, h => by simpa only [RVL] using h
  | x :: xs, us, ht, h => by
    simp only [RVL, AV.tfreeL, Bool.and_eq_true] at *
    obtain ⟨u, u2, rfl, h1, h2⟩ := h
    exact ⟨u, u2, rfl, RV_tfree x u ht.1 h1, RVL_tfree xs u2 ht.2 h2⟩

/-- the callee's objects behind the caller's. -/
def hvJoin (hv hvC : Nat → Option Value) (m : Nat) : Nat → Option Value := fun i => if i < m then hv i else hvC (i - m)

theorem own_join {hvC : Nat → Option Value} {m : Nat} (hn : ∀ i, m ≤ i → hv i = none) {b : Nat} : Own (hvJoin hv hvC m) b ↔ Own hv b ∨ Own hvC b := by
  constructor
  · rintro ⟨i, v, hi, hb⟩
    unfold hvJoin at hi
    split at hi
    · exact .inl ⟨i, v, hi, hb⟩
    · exact .inr ⟨i - m, v, hi, hb⟩
  · rintro (⟨i, v, hi, hb⟩ | ⟨i, v, hi, hb⟩)
    · refine ⟨i, v, ?_, hb⟩
      unfold hvJoin
      rw [if_pos]
      · exact hi
      · rcases Nat.lt_or_ge i m with h | h
        · exact h
        · rw [hn i h] at hi; cases hi
    · refine ⟨i + m, v, ?_, hb⟩
      unfold hvJoin
      rw [if_neg (by omega), Nat.add_sub_cancel]
      exact hi

theorem mem_join {hvC : Nat → Option Value} {Ms : List Ob} (hM : MemR A w hv M) (hb : Bel w.heap.size w w') (hC : MemR (OwnA A hv) w' hvC (Ms.map some)) (hf : ∀ b, Own hvC b → w.heap.size ≤ b) :
    MemR A w' (hvJoin hv hvC M.length) (M ++ Ms.map fun ob => some (ob.up M.length)) ∧ StepR A w hv [] w' (hvJoin hv hvC M.length) := by
  have hn : ∀ i, M.length ≤ i → hv i = none := fun i h => mem_none hM h
  have hT : ∀ b, OwnA A (hvJoin hv hvC M.length) b → OwnA (OwnA A hv) hvC b := fun b h => by
    rcases h with h | h
    · exact .inl (.inl h)
    rcases (own_join hn).1 h with h | h
    · exact .inl (.inr h)
    · exact .inr h
  have hs : StepR A w hv [] w' (hvJoin hv hvC M.length) := by
    refine ⟨⟨hb.size, fun b h _ => hb.block b h, fun b hlt h => ?_⟩, fun i u _ h => ?_, hb.os, hb.tape, hb.output, hb.drawn⟩
    · rcases (own_join hn).1 h with h | h
      · exact h
      · have := hf b h; omega
    · unfold hvJoin
      rw [if_pos]
      · exact h
      · rcases Nat.lt_or_ge i M.length with h' | h'
        · exact h'
        · rw [hn i h'] at h; cases h
  refine ⟨⟨fun i ob h => ?_, fun i u h => ?_, fun i j vi vj b hi hj hbi hbj => ?_, fun b h => Nat.lt_of_lt_of_le (hM.old b h) hb.size, hs.gl hM.gl⟩, hs⟩
  · rcases Nat.lt_or_ge i M.length with hlt | hge
    · rw [List.getElem?_append_left hlt] at h
      obtain ⟨v, h1, h2, h3⟩ := live_step hM hs (fun v b h1 h2 => hb.block b (hM.own_lt ⟨i, v, h1, h2⟩)) (by simp) h
      rw [Ob.kill_nil] at h3
      exact ⟨v, h2, h3⟩
    · rw [List.getElem?_append_right hge, List.getElem?_map] at h
      simp only [Option.map_eq_some_iff] at h
      obtain ⟨ob0, h0, h⟩ := h
      injection h with h
      subst h
      obtain ⟨v, h1, hob⟩ := hC.live (i - M.length) ob0 (by rw [List.getElem?_map, h0]; rfl)
      have hh1 : ∀ (i : Nat) (v : Value), hvC i = some v → hvJoin hv hvC M.length (i + M.length) = some v := fun i v h => by unfold hvJoin; rw [if_neg (by omega), Nat.add_sub_cancel]; exact h
      cases hm : ob0.mp with
      | some ks =>
        obtain ⟨vals, g1, g3⟩ := hob.map hm
        exact ⟨_, by unfold hvJoin; rw [if_neg (by omega)]; exact h1, ObR.of_map (ob := ob0.up M.length) (ks := ks) hm ⟨vals, g1, RVL_up hT hh1 _ _ g3⟩⟩
      | none =>
      obtain ⟨us, h2, h3, h4⟩ := hob.row hm
      refine ⟨v, by unfold hvJoin; rw [if_neg (by omega)]; exact h1, ObR.of_row (ob := ob0.up M.length) hm ⟨us, by simpa [Ob.up] using h2, ?_, ?_⟩⟩
      · intro x hx
        simp only [Ob.up, List.mem_map] at hx
        obtain ⟨y, hy, rfl⟩ := hx
        rw [AV.size_up]; exact h3 y hy
      · exact RL_up hT (fun i v h => by unfold hvJoin; rw [if_neg (by omega), Nat.add_sub_cancel]; exact h) _ _ h4
  · unfold hvJoin at h
    split at h
    · rename_i hlt
      obtain ⟨o, ho⟩ := hM.dom i u h
      exact ⟨o, by rw [List.getElem?_append_left hlt]; exact ho⟩
    · rename_i hge
      obtain ⟨o, ho⟩ := hC.dom _ u h
      rw [List.getElem?_map] at ho
      simp only [Option.map_eq_some_iff, Option.some.injEq, exists_eq_right] at ho
      exact ⟨o.up M.length, by rw [List.getElem?_append_right (by omega), List.getElem?_map, ho]; rfl⟩
  · unfold hvJoin at hi hj
    split at hi <;> split at hj
    · exact hM.inj i j vi vj b hi hj hbi hbj
    · have := hM.own_lt ⟨i, vi, hi, hbi⟩
      have := hf b ⟨_, vj, hj, hbj⟩
      omega
    · have := hM.own_lt ⟨j, vj, hj, hbj⟩
      have := hf b ⟨_, vi, hi, hbi⟩
      omega
    · have := hC.inj _ _ vi vj b hi hj hbi hbj
      omega

theorem mem_tfree {A' : Nat → Prop} {hvC : Nat → Option Value} {Ms : List Ob} (h : MemR A w hvC (Ms.map some)) (ht : ∀ ob ∈ Ms, AV.tfreeL ob.xs = true) (hA : ∀ b, A' b → b < w.heap.size) : MemR A' w hvC (Ms.map some) := by
  refine ⟨fun i ob hi => ?_, h.dom, h.inj, hA, h.gl⟩
  obtain ⟨v, h1, hob⟩ := h.live i ob hi
  have hmem : ob ∈ Ms := by
    rw [List.getElem?_map] at hi
    simp only [Option.map_eq_some_iff, Option.some.injEq, exists_eq_right] at hi
    exact List.mem_of_getElem? hi
  cases hm : ob.mp with
  | some ks =>
    obtain ⟨vals, g1, g3⟩ := hob.map hm
    exact ⟨_, h1, ObR.of_map hm ⟨vals, g1, RVL_tfree _ _ (ht ob hmem) g3⟩⟩
  | none =>
    obtain ⟨us, h2, h3, h4⟩ := hob.row hm
    exact ⟨v, h1, ObR.of_row hm ⟨us, h2, h3, RL_tfree _ _ (ht ob hmem) h4⟩⟩

theorem call_ok {o : Oper} {a : Act} {K : Kont} {Q : Exit → Act → World → Prop} {f : FuncId} {aS : List AV} {args : List Value} (hM : MemR A w hv M) (has : RVL w (OwnA A hv) hv aS args)
    (hrun : okFn P f = true → (execOp a.eval o).run P w = .ok (.enter f args.toArray) w) (h : ACall P f aS M (K := ⟨fun r M' => K r [] M'⟩)) : o.wp P a w (After A o a w hv K) Q := by
  obtain ⟨lend, bs, post, hcoe, ⟨hok, hspec⟩, hK⟩ := h
  unfold Oper.wp
  rw [hrun hok]
  have hn : ∀ i, M.length ≤ i → hv i = none := fun i h => mem_none hM h
  have hT : ∀ (hvC : Nat → Option Value) b, OwnA A (hvJoin hv hvC M.length) b → OwnA (OwnA A hv) hvC b := fun hvC b h => by
    rcases h with h | h
    · exact .inl (.inl h)
    rcases (own_join hn).1 h with h | h
    · exact .inl (.inr h)
    · exact .inr h
  cases lend with
  | false =>
    refine (hspec w args (OwnA A hv) hM.gl.1 (fun b h => hM.lt h) (by simpa using coe_rvl hM aS bs args hcoe has)).mono ?_
    rintro e w' ⟨r, Ms, v, hvC, rfl, hp, hC, hr, hf, hb⟩
    obtain ⟨h1, h2⟩ := mem_join hM hb hC hf
    exact ⟨_, [], _, _, v, (hK r Ms hp).2, rfl, h1, RV_up (hT hvC) (fun i v h => by unfold hvJoin; rw [if_neg (by omega), Nat.add_sub_cancel]; exact h) r v hr, h2⟩
  | true =>
    refine (hspec w args (fun _ => False) hM.gl.1 (fun b h => h.elim) (by simpa using coe_rvl hM aS bs args hcoe has)).mono ?_
    rintro e w' ⟨r, Ms, v, hvC, rfl, hp, hC, hr, hf, hb⟩
    obtain ⟨⟨t1, t2⟩, hK'⟩ : (r.tfree = true ∧ ∀ ob ∈ Ms, AV.tfreeL ob.xs = true) ∧ _ := ⟨(hK r Ms hp).1 rfl, (hK r Ms hp).2⟩
    have hC' := mem_tfree (A' := OwnA A hv) hC t2 (fun b h => Nat.lt_of_lt_of_le (hM.lt h) hb.size)
    obtain ⟨h1, h2⟩ := mem_join hM hb hC' hf
    exact ⟨_, [], _, _, v, hK', rfl, h1, RV_up (hT hvC) (fun i v h => by unfold hvJoin; rw [if_neg (by omega), Nat.add_sub_cancel]; exact h) r v (RV_tfree r v t1 hr), h2⟩
end

end Aw
end Go.Proofs.YtndniceeibflcaaGreatDoor

namespace Go.Proofs.YtndniceeibflcaaGreatDoor
namespace Aw
open Go.RowKit

section
variable {A : Nat → Prop} {P : Program} {w : World} {hv : Nat → Option Value} {M : Mem} {a : Act} {K : Kont} {Q : Exit → Act → World → Prop} {ρ : Operand → AV}

theorem rvl_map (hρ : ∀ x, RV w (OwnA A hv) hv (ρ x) (a.eval x)) : ∀ l : List Operand, RVL w (OwnA A hv) hv (l.map ρ) (l.map a.eval)
  | [] => by simp [RVL]
  | x :: l => by simp only [List.map_cons, RVL]; exact ⟨_, _, rfl, hρ x, rvl_map hρ l⟩

theorem rvl_app {T : Nat → Prop} : ∀ (l l' : List AV) (us us' : List Value), RVL w T hv l us → RVL w T hv l' us' → RVL w T hv (l ++ l') (us ++ us')
  | [], l', us, us', h, h' => by simp only [RVL] at h; subst h; simpa using h'
  | x :: xs, l', us, us', h, h' => by
    simp only [RVL, List.cons_append] at h ⊢
    obtain ⟨u, v, rfl, h1, h2⟩ := h
    exact ⟨u, v ++ us', by simp, h1, rvl_app xs l' v us' h2 h'⟩

theorem own_lit (w : World) (o : Obj) : Bel w.heap.size w (w.alloc o) := ⟨(Below.refl _ _).alloc (Nat.le_refl _) o, Nat.le_refl _⟩

theorem row_new (e : TypeId) (k n : Nat) (cs : Array Value) (hk : cs.size = n * k) (hn : n ≤ maxLen) : (w.alloc (.cells cs e)).ownsRow 0 e k (.slice (some ⟨w.heap.size, 0, none⟩) n n) n cs.toList :=
  ⟨by simpa using hk, .inr ⟨w.heap.size, n, cs, rfl, Nat.zero_le _, heap_alloc_new w _, Nat.le_refl _, hn, hk, by rw [← hk]; exact List.take_of_length_le (by simp)⟩⟩

/-- a new variable. -/
theorem var_ok {o : Oper} {t : TypeId} {x : AV} {v : Value} (hM : MemR A w hv M) (hrun : (execOp a.eval o).run P w = .ok (.value (.pointer (some ⟨w.heap.size, 0, none⟩))) (w.alloc (.cells v.cells t)))
    (hx : R w (OwnA A hv) hv x v.cells.toList) (hK : K (.q M.length x.size 0 0) [] (newRow M t x.size [x])) : o.wp P a w (After A o a w hv K) Q := by
  have hsz := R_size _ _ _ hx
  obtain ⟨h1, h2⟩ := mem_add hM (own_lit w (.cells v.cells t)) (ob := ⟨none, t, x.size, [x]⟩) (v := .slice (some ⟨w.heap.size, 0, none⟩) 1 1) (fun b hb => by simp [blk, Value.ownBlock] at hb; omega)
    (fun hs => ObR.of_row rfl ⟨v.cells.toList, row_new t x.size 1 v.cells (by simpa using hsz) (by simp [maxLen]), by simp, by
      have := RL_keep hs.keeps hs.hv [x] v.cells.toList (by simp only [RL]; exact ⟨_, _, by simp, hx, rfl⟩)
      rwa [AV.killL_nil] at this⟩)
  refine wp_value hrun ⟨_, [], _, _, _, hK, rfl, h1, ?_, h2⟩
  simp only [RV, R]
  exact ⟨w.heap.size, 1, 1, hvAdd_self _ _, by simp⟩

/-- a new variable that nobody writes. -/
theorem box_ok {o : Oper} {t : TypeId} {x : AV} {v : Value} (hM : MemR A w hv M) (hrun : (execOp a.eval o).run P w = .ok (.value (.pointer (some ⟨w.heap.size, 0, none⟩))) (w.alloc (.cells v.cells t)))
    (hx : R w (OwnA A hv) hv x v.cells.toList) (hp : x.pure = true) (hK : K (.p x 0) [] M) : o.wp P a w (After A o a w hv K) Q := by
  obtain ⟨h1, h2⟩ := mem_keep hM (own_lit w (.cells v.cells t))
  refine wp_value hrun ⟨_, [], _, _, _, hK, rfl, h1, ?_, h2⟩
  simp only [RV, R]
  have hx' := R_keep h2.keeps x [] hv hv _ h2.hv hx
  rw [AV.kill_nil] at hx'
  refine ⟨w.heap.size, 0, v.cells.toList, by simp, R_pure x hv noHv _ hp hx', w.heap.size, 0, rfl, by simp, fun h => by have := hM.lt h; omega, fun j u hj => ?_⟩
  rw [Nat.zero_add, World.cell?_alloc_new]
  simpa using hj
theorem rl_vals {T : Nat → Prop} : ∀ l : List Value, (∀ u ∈ l, u.oneCell' = true) → RL w T hv (l.map AV.v) l
  | [], _ => by simp [RL]
  | u :: l, h => by
    simp only [List.map_cons, RL, R]
    exact ⟨[u], l, rfl, ⟨rfl, h u List.mem_cons_self⟩, rl_vals l fun x hx => h x (List.mem_cons_of_mem _ hx)⟩

theorem zero_ok {T : Nat → Prop} {t : TypeId} {ti : TI} (ht : tiOf P t = some ti) : ∃ z : Value, (zeroValue t).run P w = .ok z w ∧ z.cells.toList = ti.zero ∧ R w T hv (mkA ti.agg (ti.zero.map .v)) z.cells.toList ∧ z.cells.size = ti.size ∨ (ti.agg = false ∧ ti.zero.length ≠ 1) := by
  obtain ⟨i, d, z, hi, hd, hz, hz1, hz2, hag, hs, _, hzero, _⟩ := tiOf_spec ht
  by_cases hc : ti.agg = false ∧ ti.zero.length ≠ 1
  · exact ⟨undef, .inr hc⟩
  refine ⟨z, .inl ⟨by simp [zeroValue, typeInfo, hi, hz], hzero.symm, ?_, by rw [hz1, hs]⟩⟩
  have hl := rl_vals (w := w) (hv := hv) (T := T) z.cells.toList hz2
  unfold mkA
  cases h : ti.agg with
  | true => simp only [if_true, R, hzero]; exact hl
  | false =>
    simp only [Bool.false_eq_true, if_false, hzero]
    rw [hzero] at hc
    simp only [h, true_and, Decidable.not_not, ne_eq] at hc
    match hq : z.cells.toList, hc with
    | [u], _ =>
      rw [hq] at hz2
      simp only [List.map_cons, List.map_nil, R]
      exact ⟨trivial, hz2 u (by simp)⟩

theorem parts_ok (hρ : ∀ x, RV w (OwnA A hv) hv (ρ x) (a.eval x)) : ∀ l : List (Nat × Operand), PartsR w (OwnA A hv) hv (l.map fun ix => (ix.1, ρ ix.2)) (l.map fun ix => (ix.1, a.eval ix.2))
  | [] => by simp [PartsR]
  | (i, x) :: l => by simp only [List.map_cons, PartsR]; exact ⟨trivial, hρ x, parts_ok hρ l⟩

theorem build_ok {t : TypeId} {ti : TI} {parts : Array (Nat × Operand)} {cells : List AV} (hρ : ∀ x, RV w (OwnA A hv) hv (ρ x) (a.eval x)) (ht : tiOf P t = some ti) (hag : ti.agg = true) (har : ti.arr = none)
    (hf : fillA (fun i => ti.flds[i]?) (ti.zero.map .v) (parts.toList.map fun ix => (ix.1, ρ ix.2)) = some cells) :
    ∃ v, (Instr.build t (parts.map fun (i, x) => (i, a.eval x))).run P w = .ok v w ∧ RV w (OwnA A hv) hv (.g cells) v := by
  obtain ⟨i, d, z, hi, hd, hz, hz1, hz2, hag', hs, _, hzero, _, harr, hfl, _, _, _, hall⟩ := tiOf_spec ht
  rw [hzero] at hf
  cases d with
  | struct fs =>
    simp only at hfl
    simp only [fldsKnown, List.all_eq_true] at hall
    obtain ⟨res, r1, r2, r3, r4⟩ := fill_ok (fun i => ti.flds[i]?) _ _ _ cells z.cells hf (fun x hx => by
      simp only [List.mem_map] at hx; obtain ⟨u, _, rfl⟩ := hx; rfl) (rl_vals z.cells.toList hz2) (parts_ok hρ parts.toList)
    have hm : ∀ (l : List Field), (∀ f ∈ l, (P.info? f.type).isSome = true) → (l.mapM fun f => (P.info? f.type).map fun i => (f.offset, i.size)) = some (l.map fun f => (f.offset, P.cellsOf f.type)) := by
      intro l
      induction l with
      | nil => intro _; rfl
      | cons f l ih =>
        intro hl
        obtain ⟨j, hj⟩ := Option.isSome_iff_exists.1 (hl f List.mem_cons_self)
        simp [List.mapM_cons, ih fun g hg => hl g (List.mem_cons_of_mem _ hg), hj, Program.cellsOf]
    refine ⟨.agg res, run_build w t _ res ?_, by simp only [RV]; exact ⟨res, rfl, r2⟩⟩
    have hr1 : Instr.fill (fun i => ((fs.toList.map fun f => (f.offset, P.cellsOf f.type)).toArray)[i]?) z.cells (parts.toList.map fun ix => (ix.1, a.eval ix.2)) = some res := by
      rw [← hfl]; simpa using r1
    unfold Program.built
    simp only [hi, hd, hz, hm fs.toList hall, Array.toList_map]
    exact hr1
  | array n e => simp [har] at harr
  | _ => simp [hag] at hag'
end

end Aw
end Go.Proofs.YtndniceeibflcaaGreatDoor

namespace Go.Proofs.YtndniceeibflcaaGreatDoor
namespace Aw
open Go.RowKit

section
variable {A : Nat → Prop} {P : Program} {w : World} {hv : Nat → Option Value} {M : Mem} {a : Act} {K : Kont} {Q : Exit → Act → World → Prop} {ρ : Operand → AV}

/-- the parts of a slice literal, one behind the other, fill it. -/
theorem fill_row {k : Nat} : ∀ (l : List (Nat × Value)) (m n : Nat) (cs : Array Value), l.map (·.1) = List.range' m l.length → m + l.length = n → cs.size = n * k → (∀ p ∈ l, p.2.cells.size = k) →
    ∃ res, Instr.fill (fun i => some (i * k, k)) cs l = some res ∧ res.toList = cs.toList.take (m * k) ++ l.flatMap (fun p => p.2.cells.toList)
  | [], m, n, cs, _, h2, h3, _ => ⟨cs, rfl, by simp at h2; subst h2; rw [← h3, List.take_of_length_le (by simp)]; simp⟩
  | (i, v) :: l, m, n, cs, h1, h2, h3, h4 => by
    simp only [List.map_cons, List.length_cons, List.range'_succ, List.cons.injEq] at h1 h2
    obtain ⟨rfl, h1⟩ := h1
    have hv := h4 (i, v) List.mem_cons_self
    simp only at hv
    have hmul : i * k + k ≤ n * k := by rw [← Nat.succ_mul]; exact Nat.mul_le_mul_right _ (by omega)
    have hfold : (v.cells.zipIdx.foldl (fun cs (c, j) => cs.setIfInBounds (i * k + j) c) cs).toList = cs.toList.take (i * k) ++ v.cells.toList ++ cs.toList.drop (i * k + v.cells.toList.length) := by
      rw [← Array.foldl_toList, Array.toList_zipIdx]
      have := puts_fold (i * k) v.cells.toList 0 cs (by simp; omega)
      simpa using this
    have hsz : (v.cells.zipIdx.foldl (fun cs (c, j) => cs.setIfInBounds (i * k + j) c) cs).size = n * k := by
      rw [← Array.length_toList, hfold]; simp; omega
    obtain ⟨res, r1, r2⟩ := fill_row l (i + 1) n _ h1 (by omega) hsz (fun p hp => h4 p (List.mem_cons_of_mem _ hp))
    refine ⟨res, ?_, ?_⟩
    · simp only [Instr.fill]
      rw [if_neg]
      · exact r1
      · intro hbad
        simp only [Bool.or_eq_true, decide_eq_true_eq] at hbad
        omega
    · rw [r2, hfold, List.flatMap_cons, ← List.append_assoc]
      congr 1
      have hl : (cs.toList.take (i * k) ++ v.cells.toList).length = (i + 1) * k := by rw [Nat.succ_mul]; simp; omega
      rw [← hl, List.take_left]

theorem buildSlice_run {t e : TypeId} {ti te : TI} {n : Nat} {parts : Array (Nat × Operand)} (ht : tiOf P t = some ti) (he : ti.elem = some e) (hte : tiOf P e = some te) (hn : n * te.size ≤ 16777216) (h0 : 0 < te.size)
    (hparts : parts.toList.map (·.1) = List.range n) (hs : ∀ ix ∈ parts.toList, (a.eval ix.2).cells.size = te.size) :
    ∃ cs : Array Value, (Instr.buildSlice t n (parts.map fun (i, x) => (i, a.eval x))).run P w = .ok (.slice (some ⟨w.heap.size, 0, none⟩) n n) (w.alloc (.cells cs e)) ∧ cs.toList = parts.toList.flatMap (fun ix => (a.eval ix.2).cells.toList) ∧ cs.size = n * te.size := by
  have hu := ti_elem ht he
  obtain ⟨i, d, z, hi, hd, hz, hz1, hz2, _, hsz, _⟩ := tiOf_spec hte
  have hlen : parts.toList.length = n := by have := congrArg List.length hparts; simpa using this
  have hfill := fill_row (k := te.size) (parts.toList.map fun ix => (ix.1, a.eval ix.2)) 0 n ((Array.range (n * te.size)).map ((if n * te.size = 0 then #[] else z.cells)[· % (if n * te.size = 0 then (#[] : Array Value) else z.cells).size]!))
    (by simp only [List.map_map, List.length_map, hlen]; rw [← List.range_eq_range', ← hparts]; rfl) (by simpa using hlen) (by simp) (fun p hp => by
      simp only [List.mem_map] at hp; obtain ⟨ix, hix, rfl⟩ := hp; exact hs ix hix)
  obtain ⟨res, r1, r2⟩ := hfill
  have hr : res.toList = parts.toList.flatMap (fun ix => (a.eval ix.2).cells.toList) := by rw [r2]; simp [List.flatMap_map]
  have hrs : res.size = n * te.size := by
    rw [← Array.length_toList, hr]
    have : ∀ l : List (Nat × Operand), (∀ ix ∈ l, (a.eval ix.2).cells.size = te.size) → (l.flatMap (fun ix => (a.eval ix.2).cells.toList)).length = l.length * te.size := by
      intro l
      induction l with
      | nil => intro _; simp
      | cons x l ih => intro h; simp only [List.flatMap_cons, List.length_append, ih fun y hy => h y (List.mem_cons_of_mem _ hy), List.length_cons, Array.length_toList, h x List.mem_cons_self, Nat.succ_mul, Nat.add_comm]
    rw [this _ hs, hlen]
  refine ⟨res, ?_, hr, hrs⟩
  have r1' : Instr.fill (fun i => some (i * te.size, te.size)) ((Array.range (n * te.size)).map ((if n * te.size = 0 then #[] else z.cells)[· % (if n * te.size = 0 then (#[] : Array Value) else z.cells).size]!)) (parts.map fun (i, x) => (i, a.eval x)).toList = some res := by
    rw [Array.toList_map]; exact r1
  simp only [Instr.buildSlice, Sem.run_bind, run_underlying hu, Result.andThen_ok, ti_size hte]
  rw [if_neg (by omega)]
  by_cases hz0 : n * te.size = 0
  · simp only [hz0, if_true] at r1' ⊢
    simp only [Sem.run_bind, Sem.run_pure, Result.andThen_ok, r1']
    rfl
  · simp only [hz0, if_false] at r1' ⊢
    have hzr : (zeroValue e).run P w = .ok z w := by simp [zeroValue, typeInfo, hi, hz]
    simp only [Sem.run_bind, Sem.run_pure, Result.andThen_ok, hzr, r1']
    rfl

theorem flat_rl {k : Nat} (hρ : ∀ x, RV w (OwnA A hv) hv (ρ x) (a.eval x)) : ∀ l : List (Nat × Operand), (l.all fun ix => (ρ ix.2).cellular && (ρ ix.2).flat && (ρ ix.2).size == k) = true →
    RL w (OwnA A hv) hv (l.map fun ix => ρ ix.2) (l.flatMap fun ix => (a.eval ix.2).cells.toList) ∧ (∀ ix ∈ l, (a.eval ix.2).cells.size = k) ∧ ∀ x ∈ l.map (fun ix => ρ ix.2), x.size = k
  | [], _ => by simp [RL]
  | ix :: l, h => by
    simp only [List.all_cons, Bool.and_eq_true, beq_iff_eq] at h
    obtain ⟨⟨⟨h1, h2⟩, h3⟩, h4⟩ := h
    obtain ⟨g1, g2, g3⟩ := flat_rl hρ l h4
    have hR := RV_R h1 (hρ ix.2)
    have hsz := R_size _ _ _ hR
    refine ⟨?_, ?_, ?_⟩
    · simp only [List.map_cons, List.flatMap_cons, RL]; exact ⟨_, _, rfl, hR, g1⟩
    · intro x hx
      rcases List.mem_cons.1 hx with rfl | hx
      · simp at hsz; omega
      · exact g2 x hx
    · intro x hx
      rcases List.mem_cons.1 hx with rfl | hx
      · exact h3
      · exact g3 x hx

theorem buildSlice_own {o : Oper} {t e : TypeId} {ti te : TI} {n : Nat} {parts : Array (Nat × Operand)} (ho : o.op = .buildSlice t n parts) (hρ : ∀ x, RV w (OwnA A hv) hv (ρ x) (a.eval x)) (hM : MemR A w hv M) (ht : tiOf P t = some ti) (he : ti.elem = some e) (hte : tiOf P e = some te)
    (h : 0 < te.size ∧ n * te.size ≤ 16777216 ∧ parts.toList.map (·.1) = List.range n ∧ (parts.toList.all fun ix => (ρ ix.2).cellular && (ρ ix.2).flat && (ρ ix.2).size == te.size) = true)
    (hK : K (.o M.length) [] (newRow M e te.size (parts.toList.map fun ix => ρ ix.2))) : o.wp P a w (After A o a w hv K) Q := by
  obtain ⟨h0, h1, h2, h3⟩ := h
  obtain ⟨g1, g2, g3⟩ := flat_rl hρ parts.toList h3
  obtain ⟨cs, hr, hcs, hsz⟩ := buildSlice_run (w := w) (a := a) ht he hte h1 h0 h2 g2
  have hlen : parts.toList.length = n := by have := congrArg List.length h2; simpa using this
  have hn : n ≤ maxLen := by
    have : n * 1 ≤ n * te.size := Nat.mul_le_mul_left n h0
    simp only [maxLen]; omega
  obtain ⟨m1, m2⟩ := mem_add hM (own_lit w (.cells cs e)) (ob := ⟨none, e, te.size, parts.toList.map fun ix => ρ ix.2⟩) (v := .slice (some ⟨w.heap.size, 0, none⟩) n n) (fun b hb => by simp [blk, Value.ownBlock] at hb; omega)
    (fun hs => ObR.of_row rfl ⟨cs.toList, by simp only [List.length_map, hlen]; exact row_new e te.size n cs hsz hn, g3, by
      have := RL_keep hs.keeps hs.hv _ _ g1
      rw [AV.killL_nil] at this
      rw [hcs]; exact this⟩)
  refine wp_value (v := .slice (some ⟨w.heap.size, 0, none⟩) n n) (w' := w.alloc (.cells cs e)) (by simp only [execOp, ho, Sem.run_bind, hr, Result.andThen_ok, Sem.run_pure]) ⟨_, [], _, _, _, hK, rfl, m1, ?_, m2⟩
  simp only [RV, R]
  exact ⟨_, hvAdd_self _ _, rfl, rfl⟩

theorem buildSlice_per {o : Oper} {t e : TypeId} {ti te : TI} {n : Nat} {parts : Array (Nat × Operand)} (ho : o.op = .buildSlice t n parts) (hρ : ∀ x, RV w (OwnA A hv) hv (ρ x) (a.eval x)) (hM : MemR A w hv M) (ht : tiOf P t = some ti) (he : ti.elem = some e) (hte : tiOf P e = some te)
    (h : 0 < te.size ∧ n * te.size ≤ 16777216 ∧ parts.toList.map (·.1) = List.range n ∧ (parts.toList.all fun ix => (ρ ix.2).cellular && (ρ ix.2).flat && (ρ ix.2).size == te.size) = true)
    (hp : AV.pureL (parts.toList.map fun ix => ρ ix.2) = true) (hK : K (.s te.size (parts.toList.map fun ix => ρ ix.2)) [] M) : o.wp P a w (After A o a w hv K) Q := by
  obtain ⟨h0, h1, h2, h3⟩ := h
  obtain ⟨g1, g2, g3⟩ := flat_rl hρ parts.toList h3
  obtain ⟨cs, hr, hcs, hsz⟩ := buildSlice_run (w := w) (a := a) ht he hte h1 h0 h2 g2
  have hlen : parts.toList.length = n := by have := congrArg List.length h2; simpa using this
  have hn : n ≤ maxLen := by
    have : n * 1 ≤ n * te.size := Nat.mul_le_mul_left n h0
    simp only [maxLen]; omega
  obtain ⟨m1, m2⟩ := mem_keep hM (own_lit w (.cells cs e))
  refine wp_value (v := .slice (some ⟨w.heap.size, 0, none⟩) n n) (w' := w.alloc (.cells cs e)) (by simp only [execOp, ho, Sem.run_bind, hr, Result.andThen_ok, Sem.run_pure]) ⟨_, [], _, _, _, hK, rfl, m1, ?_, m2⟩
  simp only [RV, R]
  have hx := RL_keep m2.keeps m2.hv _ _ g1
  rw [AV.killL_nil] at hx
  refine ⟨some ⟨w.heap.size, 0, none⟩, n, cs.toList, by simp [hlen], by simp [hlen], hn, g3, by rw [hcs]; exact RL_pure _ hv noHv _ hp hx, fun _ => ⟨w.heap.size, 0, rfl, by simp, fun h => by have := hM.lt h; omega, fun j u hj => ?_⟩⟩
  rw [Nat.zero_add, World.cell?_alloc_new]
  simpa using hj
end

end Aw
end Go.Proofs.YtndniceeibflcaaGreatDoor

namespace Go.Proofs.YtndniceeibflcaaGreatDoor
namespace Aw
open Go.RowKit

set_option maxHeartbeats 1000000
section
variable {A : Nat → Prop} {P : Program} {w : World} {hv : Nat → Option Value} {M : Mem} {a : Act} {K : Kont} {Q : Exit → Act → World → Prop} {ρ : Operand → AV}

theorem hM_ob {i : Nat} {ob : Ob} {v : Value} (hM : MemR A w hv M) (hi : M[i]? = some (some ob)) (hv1 : hv i = some v) : ObR w (OwnA A hv) hv ob v := by
  obtain ⟨v', h1, h2⟩ := hM.live i ob hi
  rw [hv1] at h1
  injection h1 with h1
  subst h1
  exact h2

theorem append_case {o : Oper} {x y : Operand} {t e : TypeId} {ti te : TI} {i : Nat} {ob : Ob} {ys : List AV} {Ad : Option Addr} {c : Nat} {news : List Value} (ho : o.op = .call { callee := .builtin .append, args := #[x, y], argTypes := #[t, t] })
    (hM : MemR A w hv M) (ht : tiOf P t = some ti) (he : ti.elem = some e) (hte : tiOf P e = some te) (hx : RV w (OwnA A hv) hv (.o i) (a.eval x)) (hi : M[i]? = some (some ob)) (hmp : ob.mp = none) (hty : ob.ty = e) (hk : ob.k = te.size) (h0 : 0 < te.size)
    (hlen : ob.xs.length + ys.length ≤ 1000000) (hby : te.bytes ≤ 1000) (hy : a.eval y = .slice Ad ys.length c) (hsz : ∀ z ∈ ys, z.size = ob.k) (hnews : RL w (OwnA A hv) noHv ys news ∨ RL w (OwnA A hv) hv ys news) (hsrc : ys ≠ [] → ∃ ad : Addr, Ad = some ad ∧ ∀ j u, news[j]? = some u → w.cell? (ad.add j) = some u)
    {zs : List AV} (hzs : (zs = ys ∧ RL w (OwnA A hv) noHv ys news) ∨ (zs = AV.killL [i] ys ∧ RL w (OwnA A hv) hv ys news))
    (hK : K (.o i) [i] ((Mem.kill [i] M).set i (some { ob with xs := AV.killL [i] ob.xs ++ zs }))) : o.wp P a w (After A o a w hv K) Q := by
  simp only [RV, R] at hx
  obtain ⟨v, hvi, e1, _⟩ := hx
  injection e1 with e1
  obtain ⟨us, hrow, hks, hus⟩ := (hM_ob hM hi hvi).row hmp
  have h1 : ∀ u ∈ news, u.oneCell' = true := by rcases hnews with h | h <;> exact RL_one _ _ h
  have hnl : news.length = ys.length * ob.k := by rcases hnews with h | h <;> exact RL_len ys news hsz h
  subst hty
  rw [hk] at hrow hnl
  obtain ⟨v', w', hr, h2, h3, h4⟩ := run_append_src (ty := o.type) ht he hte h0 hrow (A := Ad) (m := ys.length) (c := c) hnl (fun hpos => hsrc (by intro e; rw [e] at hpos; simp at hpos)) h1 hlen hby
  have hzl : zs.length = ys.length := by rcases hzs with ⟨rfl, _⟩ | ⟨rfl, _⟩ <;> simp [AV.killL_map]
  obtain ⟨m1, m2⟩ := mem_append (ys := zs) (news := news) hM hi hmp (blk_row hrow) (blk_row h2) hvi hus hks (by rw [hk, hzl]; exact h2) h3 (dr_of (run_drawn _ hr)) h4 (fun z hz => by
      rcases hzs with ⟨rfl, _⟩ | ⟨rfl, _⟩
      · exact hsz z hz
      · simp only [AV.killL_map, List.mem_map] at hz; obtain ⟨q, hq, rfl⟩ := hz; rw [AV.size_kill]; exact hsz q hq) (fun hs => by
      rcases hzs with ⟨rfl, h⟩ | ⟨rfl, h⟩
      · have := RL_keep hs.keeps (Z := []) (hv := noHv) (hv' := hvSet hv i v') (fun i u _ h => by simp [noHv] at h) _ _ h
        rwa [AV.killL_nil] at this
      · exact RL_keep hs.keeps hs.hv _ _ h)
  refine wp_value (v := v') (w' := w') ?_ ⟨_, [i], _, _, _, hK, rfl, m1, ?_, m2⟩
  · simp only [execOp, ho, resolve, invoke, builtin, Sem.run_bind, Sem.run_pure, Result.andThen_ok, List.map_toArray, List.map_cons, List.map_nil, e1, hy, hr]
  · simp only [RV, R]
    refine ⟨v', by simp [hvSet], rfl, ?_⟩
    rcases h2.2 with ⟨rfl, _⟩ | ⟨g, cap, cur, rfl, _⟩ <;> rfl

theorem rvl_of_rl {T : Nat → Prop} : ∀ (l : List AV) (us : List Value), (∀ x ∈ l, x.single = true) → RL w T hv l us → RVL w T hv l us
  | [], us, _, h => by simpa only [RL, RVL] using h
  | x :: l, us, hs, h => by
    simp only [RL] at h
    obtain ⟨u1, u2, rfl, h1, h2⟩ := h
    have h3 := R_size _ _ _ h1
    rw [AV.size_single (hs x List.mem_cons_self)] at h3
    match u1, h3 with
    | [u], _ =>
      simp only [RVL]
      exact ⟨u, u2, rfl, R_RV (hs x List.mem_cons_self) h1, rvl_of_rl l u2 (fun y hy => hs y (List.mem_cons_of_mem _ hy)) h2⟩

theorem rvl_len {T : Nat → Prop} : ∀ (l : List AV) (us : List Value), RVL w T hv l us → us.length = l.length
  | [], us, h => by simp only [RVL] at h; subst h; rfl
  | x :: l, us, h => by simp only [RVL] at h; obtain ⟨u, us, rfl, _, h⟩ := h; simp [rvl_len l us h]
theorem mapOf_eq {t : TypeId} {ke : TypeId × TypeId} (h : mapOf P t = some ke) : P.underlying t = some (.map ke.1 ke.2) := by
  unfold mapOf at h
  split at h
  · rename_i k e hu; injection h with h; subst h; exact hu
  · cases h

theorem arr1 {α : Type} {x : Array α} {y : α} (h : x.toList = [y]) : x = #[y] := by cases x; simp at h; subst h; rfl
theorem arr2 {α : Type} {x : Array α} {y z : α} (h : x.toList = [y, z]) : x = #[y, z] := by cases x; simp at h; subst h; rfl

theorem callA_sound {K : HK Kont} {o : Oper} {c : Call} (ho : o.op = .call c) (hρ : ∀ x, RV w (OwnA A hv) hv (ρ x) (a.eval x)) (hM : MemR A w hv M) (h : callA P c ρ M (K := K)) : o.wp P a w (After A o a w hv K.k) Q := by
  obtain ⟨callee, args, argTypes⟩ := c
  unfold callA at h
  split at h
  · -- a function
    rename_i f hc
    simp only at hc
    subst hc
    refine call_ok (args := args.toList.map a.eval) hM (rvl_map hρ args.toList) (fun hok => ?_) h
    unfold okFn at hok
    cases hf : P.funcs[f]? with
    | none => rw [hf] at hok; simp at hok
    | some fn =>
      rw [hf] at hok
      simp only [Bool.and_eq_true, Bool.not_eq_true'] at hok
      have h1 : ¬ fn.name = "runtime.NumGoroutine" := by simpa using hok.1
      have hb : ¬ fn.body = none := by intro e; rw [e] at hok; simp at hok
      have e : (args.toList.map a.eval).toArray = args.map a.eval := by rw [← Array.toList_map]
      rw [e]
      simp [execOp, ho, resolve, Deferred.ofValue, Act.eval, invoke, callFunc, hf, h1, hb]
  · -- a function value
    rename_i x hne hc
    simp only at hc
    subst hc
    split at h
    · rename_i f cap hx
      have hfx := hρ x
      rw [hx] at hfx
      simp only [RV, R] at hfx
      obtain ⟨cs, e1, hcl, hcs⟩ := hfx
      injection e1 with e1
      have hcv : RVL w (OwnA A hv) hv cap cs.toList := rvl_of_rl cap cs.toList hcl hcs
      refine call_ok (args := args.toList.map a.eval ++ cs.toList) hM (rvl_app _ _ _ _ (rvl_map hρ args.toList) hcv) (fun hok => ?_) h
      unfold okFn at hok
      cases hf : P.funcs[f]? with
      | none => rw [hf] at hok; simp at hok
      | some fn =>
        rw [hf] at hok
        simp only [Bool.and_eq_true, Bool.not_eq_true'] at hok
        have h1 : ¬ fn.name = "runtime.NumGoroutine" := by simpa using hok.1
        have hb : ¬ fn.body = none := by intro e; rw [e] at hok; simp at hok
        have e : (args.toList.map a.eval ++ cs.toList).toArray = args.map a.eval ++ cs := by rw [← Array.toList_map, ← Array.toList_append]
        rw [e]
        simp [execOp, ho, resolve, Deferred.ofValue, e1, invoke, callFunc, hf, h1, hb]
    · exact h.elim
  · -- len
    rename_i hc
    simp only at hc
    subst hc
    split at h
    · rename_i x t hx ht
      split at h
      · rename_i ti n hti hn
        obtain ⟨he, hK⟩ := h
        have hax := arr1 hx
        have hat := arr1 ht
        simp only at hax hat
        subst hax; subst hat
        have hxv := hρ x
        by_cases hstr : ∃ b, ρ x = .v (.string b)
        · obtain ⟨b, hb⟩ := hstr
          rw [hb] at hn hxv
          simp only [lenA, Option.some.injEq] at hn
          simp only [RV] at hxv
          rw [hb] at he
          have hu : P.underlying t = some .string := ti_str hti he
          refine after_same (v := .int .i64 n) (r := I n) ?_ hM (by simp only [RV]) hK
          have hl : b.toList.length = b.size := by rw [ByteArray.toList_eq]; cases b; rfl
          rw [hl] at hn
          simp [execOp, ho, resolve, invoke, builtin, Builtin.len_, run_underlying hu, hxv, goInt, hn]
        have hue : ∃ e, P.underlying t = some (.slice e) := by
          have he : ti.elem.isSome = true := by
            unfold lenK at he
            split at he
            · rename_i b hb; exact absurd ⟨b, hb⟩ hstr
            · exact he
          obtain ⟨e, he⟩ := Option.isSome_iff_exists.1 he
          exact ⟨e, ti_elem hti he⟩
        obtain ⟨e, hu⟩ := hue
        have hlen : ∃ A m c, a.eval x = .slice A m c ∧ (m : Int) = n := by
          unfold lenA at hn
          split at hn
          · rename_i k xs hxs
            rw [hxs] at hxv
            simp only [RV, R] at hxv
            obtain ⟨A, c, ws, e1, _⟩ := hxv
            injection e1 with e1
            injection hn with hn
            exact ⟨A, _, c, e1, hn⟩
          · rename_i hxs
            rw [hxs] at hxv
            simp only [RV] at hxv
            injection hn with hn
            exact ⟨none, 0, 0, hxv, hn⟩
          · rename_i b hxs; exact absurd ⟨b, hxs⟩ hstr
          · rename_i i hxs
            rw [hxs] at hxv
            simp only [RV, R] at hxv
            obtain ⟨v, hv1, e1, _⟩ := hxv
            injection e1 with e1
            split at hn
            · rename_i ob hob
              split at hn
              case h_2 => cases hn
              rename_i hmp
              obtain ⟨us, hrow, _⟩ := (hM_ob hM hob hv1).row hmp
              injection hn with hn
              rcases hrow.2 with ⟨hv0, h0⟩ | ⟨g, cap, cur, hv0, _⟩
              · exact ⟨none, 0, 0, by rw [e1, hv0], by omega⟩
              · exact ⟨_, _, _, by rw [e1, hv0], hn⟩
            · cases hn
          · cases hn
        obtain ⟨A, m, c, hev, hmn⟩ := hlen
        refine after_same (v := .int .i64 n) (r := I n) ?_ hM (by simp only [RV]) hK
        simp [execOp, ho, resolve, invoke, builtin, Builtin.len_, run_underlying hu, hev, goInt, hmn]
      · rename_i ti hti hn
        split at h
        · rename_i ke n hke hn'
          have hax := arr1 hx
          have hat := arr1 ht
          simp only at hax hat
          subst hax; subst hat
          have hxv := hρ x
          unfold lenM at hn'
          split at hn'
          · rename_i i hxs
            rw [hxs] at hxv
            simp only [RV, R] at hxv
            obtain ⟨v, hv1, e1, _⟩ := hxv
            injection e1 with e1
            split at hn'
            · rename_i ob hob
              split at hn'
              · rename_i ks hmp
                split at hn'
                case isFalse => cases hn'
                rename_i hk0
                obtain ⟨vals, ⟨_, b, es, clock, rfl, h1, h2, rfl, _⟩ | ⟨hk1, _⟩, h3⟩ := (hM_ob hM hob hv1).map hmp
                case inr => exact absurd hk0 hk1
                injection hn' with hn'
                have hl := (rvl_len _ _ h3)
                simp only [List.length_map, Array.length_toList] at hl
                refine after_same (v := .int .i64 n) (r := I n) ?_ hM (by simp only [RV]) h
                have hu : P.underlying t = some (.map ke.1 ke.2) := mapOf_eq hke
                simp [execOp, ho, resolve, invoke, builtin, Builtin.len_, run_underlying hu, e1, goInt, getObj, h1, Sem.run]
                omega
              · cases hn'
            · cases hn'
          · cases hn'
        · exact h.elim
      · exact h.elim
    · exact h.elim
  · -- min
    rename_i hc
    simp only at hc
    subst hc
    split at h
    · rename_i x y hxy
      have := arr2 hxy
      simp only at this
      subst this
      split at h
      · rename_i r hr
        unfold minmaxA at hr
        split at hr
        · rename_i p q hp hq
          have hpx := hρ x
          have hqy := hρ y
          rw [hp] at hpx
          rw [hq] at hqy
          simp only [RV] at hpx hqy
          injection hr with hr
          subst hr
          refine after_same (v := .int .i64 (min p q)) ?_ hM (by simp only [RV]; rfl) h
          simp [execOp, ho, resolve, invoke, builtin, Builtin.min_, Builtin.min2, hpx, hqy, List.foldlM]
          omega
        · cases hr
      · exact h.elim
    · exact h.elim
  · -- max
    rename_i hc
    simp only at hc
    subst hc
    split at h
    · rename_i x y hxy
      have := arr2 hxy
      simp only at this
      subst this
      split at h
      · rename_i r hr
        unfold minmaxA at hr
        split at hr
        · rename_i p q hp hq
          have hpx := hρ x
          have hqy := hρ y
          rw [hp] at hpx
          rw [hq] at hqy
          simp only [RV] at hpx hqy
          injection hr with hr
          subst hr
          refine after_same (v := .int .i64 (max p q)) ?_ hM (by simp only [RV]; rfl) h
          simp [execOp, ho, resolve, invoke, builtin, Builtin.max_, Builtin.max2, hpx, hqy, List.foldlM]
          omega
        · cases hr
      · exact h.elim
    · exact h.elim
  · -- append
    rename_i hc
    simp only at hc
    subst hc
    split at h
    · rename_i x y t t' hxy htt
      have e1 := arr2 hxy
      have e2 := arr2 htt
      simp only at e1 e2
      subst e1; subst e2
      split at h
      · rename_i ti hti
        split at h
        · rename_i e he
          split at h
          · rename_i te hte
            split at h
            · -- a persistent source
              rename_i i k ys hx hy
              split at h
              · rename_i ob hob
                obtain ⟨⟨rfl, hmp, h1, h2, h3, h4, h5, h6⟩, hK⟩ := h
                have hyv := hρ y
                rw [hy] at hyv
                simp only [RV, R] at hyv
                obtain ⟨A, c, ws, e1, _, _, g1, g2, g3⟩ := hyv
                injection e1 with e1
                exact append_case ho hM hti he hte (by rw [← hx]; exact hρ x) hob hmp h1 h2 h4 h5 h6 e1 (fun z hz => by rw [g1 z hz, h3, h2]) (.inl g2) (fun hne => by
                  obtain ⟨b, off, rfl, _, _, hc⟩ := g3 hne
                  exact ⟨_, rfl, fun j u hu => by rw [Addr.add_lit]; exact hc j u hu⟩) (.inl ⟨rfl, g2⟩) hK
              · exact h.elim
            · -- a nil source
              rename_i i hx hy
              split at h
              case h_2 => exact h.elim
              rename_i ob hob
              obtain ⟨⟨rfl, hmp⟩, hK⟩ := h
              have hxv := hρ x
              have hyv := hρ y
              rw [hx] at hxv
              rw [hy] at hyv
              simp only [RV] at hyv
              have hxv0 := hxv
              simp only [RV, R] at hxv
              obtain ⟨v, hv1, e1, _⟩ := hxv
              injection e1 with e1
              obtain ⟨us, hrow, _⟩ := (hM_ob hM hob hv1).row hmp
              have hu := ti_elem hti he
              obtain ⟨ie, _, _, hie, _⟩ := tiOf_spec hte
              refine after_same (v := v) ?_ hM (by rw [← e1]; exact hxv0) hK
              rcases hrow.2 with ⟨rfl, _⟩ | ⟨g, cap, cur, rfl, _, _, hnc, _⟩
              · simp [execOp, ho, resolve, invoke, builtin, e1, hyv, Builtin.append_, run_underlying hu, sizeOf, typeInfo, hie, Builtin.lenOf, Builtin.firstCells]
              · simp [execOp, ho, resolve, invoke, builtin, e1, hyv, Builtin.append_, run_underlying hu, sizeOf, typeInfo, hie, Builtin.lenOf, Builtin.firstCells, hnc, storeCells]
            · -- an own source
              rename_i i j hx hy
              split at h
              · rename_i ob ob' hob hob'
                obtain ⟨⟨hij, rfl, hmp, hmp', h1, h2, h3, h4, h5, h6⟩, hK⟩ := h
                have hyv := hρ y
                rw [hy] at hyv
                simp only [RV, R] at hyv
                obtain ⟨v, hv1, e1, _⟩ := hyv
                injection e1 with e1
                obtain ⟨us, hrow, hks, hus⟩ := (hM_ob hM hob' hv1).row hmp'
                have hshape : ∃ A c, v = .slice A ob'.xs.length c := by
                  rcases hrow.2 with ⟨rfl, h0⟩ | ⟨g, cap, cur, rfl, _⟩
                  · exact ⟨none, 0, by rw [h0]⟩
                  · exact ⟨_, _, rfl⟩
                obtain ⟨A, c, rfl⟩ := hshape
                exact append_case ho hM hti he hte (by rw [← hx]; exact hρ x) hob hmp h1 h2 h4 h5 h6 e1 (fun z hz => by rw [hks z hz, h3, h2]) (.inr hus) (fun hne => by
                  obtain ⟨g, cap, hg⟩ := ownsRow_add hrow (List.length_pos_iff.2 hne)
                  injection hg with hg
                  subst hg
                  exact ⟨_, rfl, hrow.cells (g := g) rfl⟩) (.inr ⟨rfl, hus⟩) hK
              · exact h.elim
            · exact h.elim
          · exact h.elim
        · exact h.elim
      · exact h.elim
    · exact h.elim
  · exact h.elim
end

end Aw
end Go.Proofs.YtndniceeibflcaaGreatDoor

namespace Go.Proofs.YtndniceeibflcaaGreatDoor
namespace Aw
open Go.RowKit

set_option maxHeartbeats 1000000
section
variable {A : Nat → Prop} {P : Program} {w : World} {hv : Nat → Option Value} {M : Mem} {a : Act} {K : Kont} {Q : Exit → Act → World → Prop} {ρ : Operand → AV}

theorem valsOf_eq {T : Nat → Prop} : ∀ (xs : List AV) (l us : List Value), valsOf xs = some l → RL w T hv xs us → us = l
  | [], l, us, h, hr => by simp only [valsOf, Option.some.injEq] at h; subst h; simpa only [RL] using hr
  | .v x :: xs, l, us, h, hr => by
    simp only [valsOf, Option.map_eq_some_iff] at h
    obtain ⟨l', h1, rfl⟩ := h
    simp only [RL, R] at hr
    obtain ⟨u1, u2, rfl, ⟨rfl, _⟩, h3⟩ := hr
    rw [valsOf_eq xs l' u2 h1 h3]
    rfl
  | .bot :: _, l, us, h, hr => by simp [valsOf] at h
  | .s _ _ :: _, l, us, h, hr => by simp [valsOf] at h
  | .g _ :: _, l, us, h, hr => by simp [valsOf] at h
  | .t _ :: _, l, us, h, hr => by simp [valsOf] at h
  | .p _ _ :: _, l, us, h, hr => by simp [valsOf] at h
  | .o _ :: _, l, us, h, hr => by simp [valsOf] at h
  | .q _ _ _ _ :: _, l, us, h, hr => by simp [valsOf] at h
  | .f _ _ :: _, l, us, h, hr => by simp [valsOf] at h

theorem valOf_eq {T : Nat → Prop} {x : AV} {v u : Value} (h : valOf x = some v) (hr : RV w T hv x u) : u = v := by
  cases x with
  | v y => simp only [valOf, Option.some.injEq] at h; simp only [RV] at hr; rw [hr, h]
  | g xs =>
    simp only [valOf, Option.map_eq_some_iff] at h
    obtain ⟨l, h1, rfl⟩ := h
    simp only [RV] at hr
    obtain ⟨cs, rfl, h2⟩ := hr
    rw [← valsOf_eq xs l cs.toList h1 h2]
  | _ => simp [valOf] at h

theorem zeroA_ok {T : Nat → Prop} {t : TypeId} {z : AV} (h : zeroA P t = some z) : ∃ v, (zeroValue t).run P w = .ok v w ∧ RV w T hv z v := by
  unfold zeroA at h
  split at h
  · rename_i cs hz
    obtain ⟨i, hi, hz⟩ := Option.bind_eq_some_iff.1 hz
    split at h
    · rename_i hc
      injection h with h
      subst h
      simp only [List.all_eq_true] at hc
      refine ⟨.agg cs, by simp [zeroValue, typeInfo, hi, hz], ?_⟩
      simp only [RV]
      exact ⟨cs, rfl, rl_vals cs.toList hc⟩
    · cases h
  · rename_i v _ hz
    obtain ⟨i, hi, hz⟩ := Option.bind_eq_some_iff.1 hz
    split at h
    · injection h with h
      subst h
      exact ⟨v, by simp [zeroValue, typeInfo, hi, hz], by simp only [RV]⟩
    · cases h
  · cases h

theorem afind_run {kt : TypeId} {v : Value} {K : HK (Nat → Prop)} {L : HK Prop} {es : Array MapEntry} (h : AFind P kt (es.toList.map (·.key)) v (K := K) (L := L)) :
    (∃ l, keyOf P kt v = some l) ∧ Maps.Keyed P kt ∧ ((∃ j e, (Instr.findKey kt v es.toList).run P w = .ok (some (j, e.val)) w ∧ es[j]? = some e ∧ e.key = v ∧ K.k j) ∨ ((Instr.findKey kt v es.toList).run P w = .ok none w ∧ L.k)) := by
  obtain ⟨⟨hk, ⟨l, hl⟩, hall⟩, h⟩ := h
  refine ⟨⟨l, hl⟩, hk, ?_⟩
  rcases hk.find w hl es.toList (fun e he => hall e.key (List.mem_map.2 ⟨e, he, rfl⟩)) with ⟨h1, h2⟩ | ⟨j, e, h1, h2, h3⟩
  · rcases h with ⟨j, ⟨hj, _⟩, _⟩ | ⟨_, hL⟩
    · rw [List.getElem?_map] at hj
      simp only [Option.map_eq_some_iff] at hj
      obtain ⟨e, he, hke⟩ := hj
      exact absurd hke (h2 e (List.mem_of_getElem? he))
    · exact .inr ⟨h1, hL⟩
  · rcases h with ⟨j', ⟨_, hu⟩, hK⟩ | ⟨hn, _⟩
    · have : j = j' := hu j (by rw [List.getElem?_map, h2]; simp [h3])
      subst this
      exact .inl ⟨j, e, h1, by simpa using h2, h3, hK⟩
    · exact absurd h3 (hn e.key (List.mem_map.2 ⟨e, List.mem_of_getElem? h2, rfl⟩))

theorem rvl_at {T : Nat → Prop} : ∀ (l : List AV) (us : List Value) (i : Nat) (x : AV) (u : Value), RVL w T hv l us → l[i]? = some x → us[i]? = some u → RV w T hv x u
  | [], us, i, x, u, h, hx, hu => by simp at hx
  | y :: l, us, i, x, u, h, hx, hu => by
    simp only [RVL] at h
    obtain ⟨v, vs, rfl, h1, h2⟩ := h
    cases i with
    | zero => simp at hx hu; subst hx; subst hu; exact h1
    | succ i => simp at hx hu; exact rvl_at l vs i x u h2 hx hu
theorem rvl_set {T : Nat → Prop} : ∀ (l : List AV) (us : List Value) (i : Nat) (x : AV) (u : Value), RVL w T hv l us → RV w T hv x u → RVL w T hv (l.set i x) (us.set i u)
  | [], us, i, x, u, h, hx => by simp only [RVL] at h; subst h; simp [RVL]
  | y :: l, us, i, x, u, h, hx => by
    simp only [RVL] at h
    obtain ⟨v, vs, rfl, h1, h2⟩ := h
    cases i with
    | zero => simp only [List.set_cons_zero, RVL]; exact ⟨u, vs, rfl, hx, h2⟩
    | succ i => simp only [List.set_cons_succ, RVL]; exact ⟨v, _, rfl, h1, rvl_set l vs i x u h2 hx⟩

end

end Aw
end Go.Proofs.YtndniceeibflcaaGreatDoor
