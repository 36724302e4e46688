/-
  Several texts in one: SaA, SaN.
-/
import Derived.Test.YtkolpijhgcijbaaRows
import Derived.Test.YtkolpijhgcijbaaChecked
import Derived.Test.YtkolpijhgcijbaaMc
import Derived.ProofKit
import Derived.Deep.Slices
import Derived.Deep.Fields
import Derived.Lib.SmallJoins
import Derived.Test.YtkolpijhgcijbaaMz
set_option linter.unusedSimpArgs false
set_option linter.unusedVariables false
namespace Go.Proofs.Ytkolpijhgcijbaa
open Aw Go.ChangeShapes Go.WideShapes Go.ChangeAt Go.RowKit Go.Deep Go.Joins

theorem Try.own : ownKnob Try.prog.godebug = none := by kernel_rfl
theorem Try.laidOut : laidOutB Try.prog = true := by kernel_rfl

/-- A LAW's last step: it has answered, below the old size of the heap nothing has turned, and each argument reads as it did. -/
theorem law_shut {P : Program} {H : Type} {enc : TypeId × Value → H} {f : Func} {s : ChangeSpec} {ap fr ho ag : Bool} {W W' : World} {args : Array Value} {v : Value} {ds : List (DataW H)} {before : List MemPlace}
    (hW : DataW.Whole enc P f.params.toList s.vars ap W args.toList ds [] before) (hb : Below W.heap.size W W') (hv : s.vars = [])
    (hr : ∀ (b : Nat) (sp : Nat → Bool) (hd : Bool), DataW.TrodAll enc P W' b sp hd f.resultTypes.toList (v.resultList f.resultTypes.size) (s.fn H (ds ++ [])).results [])
    (ha : ∀ sp : Nat → Bool, (∀ p ∈ before, sp p.block = true) → DataW.TrodAll enc P W' 0 sp true f.params.toList args.toList (s.fn H (ds ++ [])).args before) (hvs : (s.fn H (ds ++ [])).vars = [])
    (hk : ∀ (j : Nat) (t : TypeId) (r : Value), f.resultTypes[j]? = some t → (v.resultList f.resultTypes.size)[j]? = some r → Value.okWide P W' .any 0 t r) :
    s.post enc P f ap fr ho ag W args v W' := by
  have old : ∀ p ∈ before, p.block < W.heap.size := fun p hp => hW.lt p hp
  have vars : ∀ sp : Nat → Bool, DataW.TrodVars enc P W' sp s.vars (s.fn H (ds ++ [])).vars [] := fun sp => by rw [hv, hvs]; simp [DataW.TrodVars]
  have keep : W.keptBut W' (fun p => p ∈ before) := hb.frame (· ∈ before)
  obtain ⟨_, _, _, _, _, hz, hn⟩ := id hW
  refine ⟨ds, [], before, [], before, [], hW, hr _ _ _, ha _ fun p hp => by simpa using old p hp, vars _, World.keptBut_mono (fun p hp => ⟨hp, by simpa using hp⟩) keep, fun _ => ⟨hk, _, _, ([] ++ before) ++ [], ⟨[] ++ before, [], trodAll_append (ha _ fun _ _ => rfl) (hr _ _ _), vars _, rfl, fun b off hp => ?_, fun hap => ?_⟩, fun p hp _ => by simpa using hp⟩⟩
  · have hin : MemPlace.cell b off ∈ before := by simpa using hp
    rw [hb.frozen (old _ hin)]
    exact hz b off hin
  · simpa using hn hap
section
variable {H : Type} {enc : TypeId × Value → H} {w : World}

abbrev noA : Nat → Prop := fun _ => False

theorem cell_at_lit {a : Addr} {v : Value} (h : w.cell? a = some v) : a.spot = none ∧ a.block < w.heap.size := by
  unfold World.cell? at h
  split at h
  · rename_i c e f hh
    refine ⟨?_, (Array.getElem?_eq_some_iff.1 hh).1⟩
    cases hsp : a.spot with
    | none => rfl
    | some s => simp [hsp] at h
  · cases h

/-- a row of cells reads as a list of abstract values. -/
theorem s_of_cells {k : Nat} {a : Addr} {n cap : Nat} {xs : List AV} {us : List Value} (hn : xs.length = n) (hc : n ≤ cap) (hm : cap ≤ maxLen) (hk : ∀ x ∈ xs, x.size = k) (hr : RL w noA noHv xs us) (hpos : 0 < k)
    (hcell : ∀ (j : Nat) (u : Value), us[j]? = some u → w.cell? (a.add j) = some u) : RV w noA noHv (.s k xs) (.slice (some a) n cap) := by
  simp only [RV, R]
  refine ⟨some a, cap, us, by rw [hn], by omega, hm, hk, hr, fun hne => ?_⟩
  have hl := RL_len xs us hk hr
  have h0 : 0 < us.length := by
    rw [hl]
    exact Nat.mul_pos (List.length_pos_iff.2 hne) hpos
  have h1 := hcell 0 us[0] (List.getElem?_eq_getElem h0)
  have ea : a.add 0 = a := by simp [Addr.add]
  rw [ea] at h1
  obtain ⟨hs, hb⟩ := cell_at_lit h1
  obtain ⟨b, off, sp⟩ := a
  simp only at hs
  subst hs
  refine ⟨b, off, rfl, hb, fun h => h, fun j u hu => ?_⟩
  have := hcell j u hu
  rw [Addr.add_lit] at this
  exact this

theorem list_of {α : Type} (Φ : Nat → α → Prop) : ∀ n : Nat, (∀ i, i < n → ∃ x, Φ i x) → ∃ l : List α, l.length = n ∧ ∀ (i : Nat) (h : i < l.length), Φ i l[i]
  | 0, _ => ⟨[], rfl, by simp⟩
  | n + 1, h => by
    obtain ⟨l, hl, hp⟩ := list_of Φ n fun i hi => h i (by omega)
    obtain ⟨x, hx⟩ := h n (by omega)
    refine ⟨l ++ [x], by simp [hl], fun i hi => ?_⟩
    rcases Nat.lt_or_ge i l.length with hlt | hge
    · rw [List.getElem_append_left hlt]; exact hp i hlt
    · simp at hi
      obtain rfl : i = l.length := by omega
      simp only [List.getElem_append_right (Nat.le_refl _), Nat.sub_self, List.getElem_cons_zero]
      rw [hl]; exact hx

theorem Try.u3 : Try.prog.underlying 3 = some (.int .i64) := by kernel_rfl
theorem Try.u25 : Try.prog.underlying 25 = some (.slice 3) := by kernel_rfl
theorem Try.c3 : Try.prog.cellsOf 3 = 1 := by kernel_rfl

theorem rl_ints (zs : List Int) : RL w noA noHv (intsA zs) (zs.map (Value.int .i64)) := by
  induction zs with
  | nil => simp [intsA, RL]
  | cons z zs ih =>
    simp only [intsA, List.map_cons, RL] at *
    exact ⟨[.int .i64 z], _, rfl, ⟨rfl, rfl⟩, ih⟩

theorem sa_ints {v : Value} {cs : List Value} {b0 : Nat} {sp : Nat → Bool} {hd : Bool} {fuel : Nat} {x : DataW H × List MemPlace} (hcs : cs = [v]) (h : DataW.trod enc Try.prog w b0 sp hd fuel 25 cs = some x) : ∃ l, RV w noA noHv (.s 1 (intsA l)) v := by
  rcases open_ints Try.u25 Try.u3 Try.c3 h with ⟨h1, _⟩ | ⟨a, len, cap, zs, h1, _, hl, hm, hz, _, hcell, _⟩
  · rw [hcs] at h1
    injection h1 with h1
    refine ⟨[], ?_⟩
    rw [h1]
    simp only [RV, R]
    exact ⟨none, 0, [], rfl, Nat.le_refl _, Nat.zero_le _, by simp [intsA], by simp [intsA, RL], fun h => absurd rfl h⟩
  · rw [hcs] at h1
    injection h1 with h1
    subst h1
    have hzl : len ≤ zs.length := by rw [hz]; split <;> omega
    refine ⟨zs.take len, s_of_cells (k := 1) (us := (zs.take len).map (Value.int .i64)) (by simp [intsA]; omega) hl hm (by intro y hy; simp only [intsA, List.mem_map] at hy; obtain ⟨q, _, rfl⟩ := hy; rfl) (rl_ints _) (by decide) fun j u hu => ?_⟩
    simp only [List.getElem?_map, Option.map_eq_some_iff] at hu
    obtain ⟨z, hz1, rfl⟩ := hu
    have hj : j < (zs.take len).length := (List.getElem?_eq_some_iff.1 hz1).1
    simp at hj
    have := hcell j (by omega)
    rw [this]
    congr 2
    have e : (zs.take len)[j]? = zs[j]? := by rw [List.getElem?_take, if_pos (by omega)]
    rw [e] at hz1
    rw [List.getD_eq_getElem?_getD, hz1]
    rfl

theorem rl_prs (zs : List (Int × Int)) : RL w noA noHv (prsA zs) (zs.flatMap fun z => [Value.int .i64 z.1, Value.int .i64 z.2]) := by
  induction zs with
  | nil => simp [prsA, RL]
  | cons z zs ih =>
    simp only [prsA, List.map_cons, RL, List.flatMap_cons] at *
    refine ⟨[.int .i64 z.1, .int .i64 z.2], _, rfl, ?_, ih⟩
    simp only [prA, R, RL]
    exact ⟨[.int .i64 z.1], [.int .i64 z.2], rfl, ⟨rfl, rfl⟩, [.int .i64 z.2], [], rfl, ⟨rfl, rfl⟩, rfl⟩

theorem prs_at (zs : List (Int × Int)) : ∀ (j : Nat) (u : Value), (zs.flatMap fun z => [Value.int .i64 z.1, Value.int .i64 z.2])[j]? = some u → ∃ (i : Nat) (h : i < zs.length), (j = i * 2 ∧ u = .int .i64 zs[i].1) ∨ (j = i * 2 + 1 ∧ u = .int .i64 zs[i].2) := by
  induction zs with
  | nil => intro j u h; simp at h
  | cons z zs ih =>
    intro j u h
    rw [List.flatMap_cons] at h
    match j with
    | 0 => simp at h; exact ⟨0, by simp, .inl ⟨rfl, h.symm⟩⟩
    | 1 => simp at h; exact ⟨0, by simp, .inr ⟨rfl, h.symm⟩⟩
    | j + 2 =>
      simp at h
      obtain ⟨i, hi, h⟩ := ih j u (by simpa using h)
      refine ⟨i + 1, by simpa using hi, ?_⟩
      rcases h with ⟨h1, h2⟩ | ⟨h1, h2⟩
      · exact .inl ⟨by omega, by simpa using h2⟩
      · exact .inr ⟨by omega, by simpa using h2⟩

set_option maxRecDepth 100000 in
theorem sa_prs {t e : TypeId} {f0 f1 : Field} (ht : Try.prog.underlying t = some (.slice e)) (he : Try.prog.underlying e = some (.struct #[f0, f1])) (hC : Try.prog.cellsOf e = 2) (e0 : f0.type = 3) (e1 : f1.type = 3) (o0 : f0.offset = 0) (o1 : f1.offset = 1)
    {v : Value} {cs : List Value} {b0 : Nat} {sp : Nat → Bool} {hd : Bool} {fuel : Nat} {x : DataW H × List MemPlace} (hcs : cs = [v]) (h : DataW.trod enc Try.prog w b0 sp hd fuel t cs = some x) : ∃ l, RV w noA noHv (.s 2 (prsA l)) v := by
  rcases open_slice ht h with ⟨h1, _⟩ | ⟨a, len, cap, m, n, D, Pl, h1, _, hl, hm, hmm, _, hi⟩
  · rw [hcs] at h1
    injection h1 with h1
    refine ⟨[], ?_⟩
    rw [h1]
    simp only [RV, R]
    exact ⟨none, 0, [], rfl, Nat.le_refl _, Nat.zero_le _, by simp [prsA], by simp [prsA, RL], fun h => absurd rfl h⟩
  · rw [hcs] at h1
    injection h1 with h1
    subst h1
    have hml : len ≤ m := by rw [hmm]; split <;> omega
    obtain ⟨zs, hzl, hzs⟩ := list_of (fun i (z : Int × Int) => w.cell? (a.add (i * 2)) = some (.int .i64 z.1) ∧ w.cell? (a.add (i * 2 + 1)) = some (.int .i64 z.2)) len fun i hil => by
      obtain ⟨cs', hc, htr⟩ := hi i (by omega)
      rw [hC] at hc
      obtain ⟨_, hcl, hat⟩ := World.cells?_some hc
      obtain ⟨y0, y1, n', _, _, t0, t1⟩ := trod_struct2 he htr
      match cs', hcl with
      | [c0, c1], _ =>
        rw [e0, o0, Try.c3] at t0
        rw [e1, o1, Try.c3] at t1
        obtain ⟨n0, g0, _, _⟩ := DataW.trod_int Try.u3 t0
        obtain ⟨n1, g1, _, _⟩ := DataW.trod_int Try.u3 t1
        simp at g0 g1
        subst g0; subst g1
        refine ⟨(n0, n1), ?_, ?_⟩
        · have := hat 0 (by omega)
          rw [Go.Deep.add_add] at this
          simpa using this
        · have := hat 1 (by omega)
          rw [Go.Deep.add_add] at this
          simpa using this
    refine ⟨zs, s_of_cells (k := 2) (us := zs.flatMap fun z => [Value.int .i64 z.1, Value.int .i64 z.2]) (by simp [prsA, hzl]) hl hm (by intro y hy; simp only [prsA, List.mem_map] at hy; obtain ⟨q, _, rfl⟩ := hy; rfl) (rl_prs _) (by decide) fun j u hu => ?_⟩
    obtain ⟨i, hi', hh⟩ := prs_at zs j u hu
    have := hzs i hi'
    rcases hh with ⟨rfl, rfl⟩ | ⟨rfl, rfl⟩
    · exact this.1
    · exact this.2

theorem Try.u22 : Try.prog.underlying 22 = some (.slice 57) := by kernel_rfl
theorem Try.u42 : Try.prog.underlying 42 = some (.slice 64) := by kernel_rfl
theorem Try.c57 : Try.prog.cellsOf 57 = 2 := by kernel_rfl
theorem Try.c64 : Try.prog.cellsOf 64 = 2 := by kernel_rfl
theorem Try.c24 : Try.prog.cellsOf 24 = 2 := by kernel_rfl
theorem Try.u4 : Try.prog.underlying 4 = some .bool := by kernel_rfl

set_option maxRecDepth 100000 in
theorem sa_trap {v : Value} {r : Reach} {b1 b0 : Nat} {sp : Nat → Bool} {hd : Bool} {d : DataW H} {p : List MemPlace} (hv : Value.okWide Try.prog w r b1 24 v) (h : DataW.Trod enc Try.prog w b0 sp hd 24 v d p) : ∃ n ls, RV w noA noHv (trapA n ls) v := by
  obtain ⟨c0, c1, y0, y1, m, rfl, _, _, h0, h1⟩ := open_agg2 Try.underlying24 (by kernel_rfl) Try.c24 hv h
  obtain ⟨n, g0, _, _⟩ := DataW.trod_int Try.u3 h0
  simp at g0
  subst g0
  obtain ⟨ls, hls⟩ := sa_prs Try.u22 Try.underlying57 Try.c57 rfl rfl rfl rfl rfl h1
  refine ⟨n, ls, ?_⟩
  simp only [trapA, RV, RL]
  simp only [RV] at hls
  exact ⟨_, rfl, [.int .i64 n], [c1], rfl, ⟨rfl, rfl⟩, [c1], [], rfl, hls, rfl⟩

set_option maxRecDepth 100000 in
theorem sa_list {v : Value} {r : Reach} {b1 b0 : Nat} {sp : Nat → Bool} {hd : Bool} {d : DataW H} {p : List MemPlace} (hv : Value.okWide Try.prog w r b1 25 v) (h : DataW.Trod enc Try.prog w b0 sp hd 25 v d p) : ∃ l, RV w noA noHv (.s 1 (intsA l)) v := by
  obtain ⟨a0, len, cap, rfl⟩ := okWide_slice Try.u25 hv
  obtain ⟨fuel, hf⟩ := h
  exact sa_ints (cs := [.slice a0 len cap]) rfl hf

set_option maxRecDepth 100000 in
theorem sa_plan {v : Value} {r : Reach} {b1 b0 : Nat} {sp : Nat → Bool} {hd : Bool} {d : DataW H} {p : List MemPlace} (hv : Value.okWide Try.prog w r b1 42 v) (h : DataW.Trod enc Try.prog w b0 sp hd 42 v d p) : ∃ l, RV w noA noHv (.s 2 (prsA l)) v := by
  obtain ⟨a0, len, cap, rfl⟩ := okWide_slice Try.u42 hv
  obtain ⟨fuel, hf⟩ := h
  exact sa_prs (cs := [.slice a0 len cap]) Try.u42 Try.underlying64 Try.c64 rfl rfl rfl rfl rfl hf

/-- an argument reads as it did. -/
theorem arg_stays {P : Program} {t : TypeId} (hl : laidOutB P = true) (hr : P.readableRec t = true) (hrow : t < P.types.size) {W W' : World} {v : Value} {d : DataW H} {ps : List MemPlace} {sp : Nat → Bool}
    (h : DataW.Trod enc P W 0 (fun _ => true) true t v d ps) (hb : Below W.heap.size W W') (hlt : ∀ x ∈ ps, x.block < W.heap.size) (hsp : ∀ x ∈ ps, sp x.block = true) : DataW.Trod enc P W' 0 sp true t v d ps :=
  WideElems.Trod_stays hl hr hrow h (fun x hx => hb.same (hlt x hx)) hsp

theorem rr24 : Try.prog.readableRec 24 = true := by kernel_rfl
theorem rr25 : Try.prog.readableRec 25 = true := by kernel_rfl
theorem rr42 : Try.prog.readableRec 42 = true := by kernel_rfl
theorem lt24 : 24 < Try.prog.types.size := of_decide_eq_true (by kernel_rfl)
theorem lt25 : 25 < Try.prog.types.size := of_decide_eq_true (by kernel_rfl)
theorem lt42 : 42 < Try.prog.types.size := of_decide_eq_true (by kernel_rfl)

/-- a call that answers true. -/
theorem calls_true {f : FuncId} {xs : List AV} {vs : List Value} (h : ASpec Try.prog f xs (fun r Ms => r = B true ∧ Ms = [])) (hv : RVL w noA noHv xs vs) :
    Calls Try.prog f vs.toArray w fun e w' => e = .returned (.bool true) ∧ Below w.heap.size w w' := by
  refine (h.2 w vs noA (fun _ h => h.elim) hv).mono ?_
  rintro e w' ⟨r, Ms, v, hv', rfl, ⟨rfl, rfl⟩, _, hr, _, hb⟩
  simp only [RV] at hr
  subst hr
  exact ⟨rfl, hb.toBelow⟩
end
end Go.Proofs.Ytkolpijhgcijbaa

namespace Go.Proofs.Ytkolpijhgcijbaa
open Aw Go.ChangeShapes Go.WideShapes Go.ChangeAt Go.RowKit Go.Deep Go.Joins

set_option maxRecDepth 100000 in
theorem renames_lifted (os : Os) (started : os.Started) (H : Type) (enc : TypeId × Value → H) :
    ReturnsInHanded {} Try.checked os 15 .any (Rows.zoneRenamesSpec.pre6 enc Try.prog Try.f15 Rows.zoneRenamesRow.domain false) (Rows.zoneRenamesSpec.post enc Try.prog Try.f15 false true false false) := by
  refine returnsInHanded_of_change (C := Try.checked) Try.own started (by kernel_rfl) Try.func15
    (ChangeSpec.witness6 (enc := enc) (C := Try.checked) false ⟨#[], #[.agg #[.int .i64 0, .slice none 0 0], .slice none 0 0, .slice none 0 0], []⟩ 8 (by kernel_rfl) (by kernel_rfl) (by kernel_rfl) (by kernel_rfl)) ?_
  intro W base args ds gs before hval0 hW hcnd _
  have hval : ∀ (j : Nat) t v, Try.f15.params[j]? = some t → args[j]? = some v → Value.okWide Try.prog W .any base t v := hval0
  have hW' := hW
  obtain ⟨p, q, hA0, hV, rfl, hfz, hnd⟩ := hW
  have hA : DataW.TrodAll enc Try.prog W 0 (fun _ => true) true Try.f15.params.toList args.toList ds p := hA0
  rw [Try.params15] at hA hval
  obtain ⟨v0, v1, v2, d0, d1, d2, p0, p1, p2, rfl, rfl, rfl, h0, h1, h2⟩ := trodAll_three hA
  obtain ⟨rfl, rfl⟩ := trodVars_none hV
  obtain ⟨n, ls, r0⟩ := sa_trap (hval 0 24 v0 rfl rfl) h0
  obtain ⟨l1, r1⟩ := sa_list (hval 1 25 v1 rfl rfl) h1
  obtain ⟨l2, r2⟩ := sa_list (hval 2 25 v2 rfl rfl) h2
  clear hA0 hval0
  simp only [List.append_nil] at hW'
  have hlt : ∀ x ∈ p0 ++ p1 ++ p2, x.block < W.heap.size := fun x hx => hW'.lt x (by simpa using hx)
  refine (calls_true (s15 n ls l1 l2) (vs := [v0, v1, v2]) (by simp only [RVL]; exact ⟨_, _, rfl, r0, _, _, rfl, r1, _, _, rfl, r2, rfl⟩)).mono fun e W' ⟨he, hb⟩ => ?_
  subst he
  refine ⟨_, rfl, law_shut hW' hb rfl (fun _ _ _ => trodAll_mk1 (shut_bool Try.u4 true)) (fun sp hsp => ?_) rfl (ok_one (by kernel_rfl) rfl (okWide_bool_mk Try.u4 true))⟩
  have g := trodAll_mk3 (arg_stays Try.laidOut rr24 lt24 h0 hb (fun x hx => hlt x (by simp [hx])) (sp := sp) (fun x hx => hsp x (by simp [hx])))
    (arg_stays Try.laidOut rr25 lt25 h1 hb (fun x hx => hlt x (by simp [hx])) (sp := sp) (fun x hx => hsp x (by simp [hx])))
    (arg_stays Try.laidOut rr25 lt25 h2 hb (fun x hx => hlt x (by simp [hx])) (sp := sp) (fun x hx => hsp x (by simp [hx])))
  rw [← List.append_assoc] at g
  exact g

theorem renames_holds : Rows.ZoneRenamesSaid :=
  OpenClaim.holds_of_wide 15 Try.f15 rfl rfl rfl rfl rfl rfl rfl ⟨rfl, rfl, rfl, rfl, rfl⟩ rfl rfl rfl rfl rfl (by kernel_rfl) Try.func15 (by kernel_rfl)
    (of_decide_eq_true (by kernel_rfl)) (by unfold Func.isWrapper; rw [if_neg (of_decide_eq_false (by kernel_rfl))]; exact ⟨rfl, rfl⟩)
    (fun os started H enc _ => renames_lifted os started H enc)
end Go.Proofs.Ytkolpijhgcijbaa
