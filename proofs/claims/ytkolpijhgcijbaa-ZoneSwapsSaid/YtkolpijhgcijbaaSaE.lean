/-
  The law ZoneSwaps: for every input it answers true.
-/
import Derived.Test.YtkolpijhgcijbaaSaA
import Derived.Test.YtkolpijhgcijbaaFnY
namespace Go.Proofs.Ytkolpijhgcijbaa
open Aw Go.ChangeShapes Go.WideShapes Go.ChangeAt Go.RowKit Go.Deep Go.Joins

theorem Try.c27 : Try.prog.cellsOf 27 = 2 := by kernel_rfl
theorem rr27 : Try.prog.readableRec 27 = true := by kernel_rfl
theorem lt27 : 27 < Try.prog.types.size := of_decide_eq_true (by kernel_rfl)

set_option maxRecDepth 100000 in
theorem sa_two {H : Type} {enc : TypeId × Value → H} {w : World} {v : Value} {r : Reach} {b1 b0 : Nat} {sp : Nat → Bool} {hd : Bool} {d : DataW H} {p : List MemPlace} (hv : Value.okWide Try.prog w r b1 27 v) (h : DataW.Trod enc Try.prog w b0 sp hd 27 v d p) : ∃ i j, RV w noA noHv (.g [I i, I j]) v := by
  obtain ⟨c0, c1, y0, y1, m, rfl, _, _, h0, h1⟩ := open_agg2 Try.underlying27 (by kernel_rfl) Try.c27 hv h
  obtain ⟨i, g0, _, _⟩ := DataW.trod_int Try.u3 h0
  obtain ⟨j, g1, _, _⟩ := DataW.trod_int Try.u3 h1
  simp at g0 g1
  subst g0; subst g1
  refine ⟨i, j, ?_⟩
  simp only [RV, RL]
  exact ⟨_, rfl, [.int .i64 i], [.int .i64 j], rfl, ⟨rfl, rfl⟩, [.int .i64 j], [], rfl, ⟨rfl, rfl⟩, rfl⟩

set_option maxRecDepth 100000 in
theorem swaps_lifted (os : Os) (started : os.Started) (H : Type) (enc : TypeId × Value → H) :
    ReturnsInHanded {} Try.checked os 3 .any (Rows.zoneSwapsSpec.pre6 enc Try.prog Try.f3 Rows.zoneSwapsRow.domain false) (Rows.zoneSwapsSpec.post enc Try.prog Try.f3 false true false false) := by
  refine returnsInHanded_of_change (C := Try.checked) Try.own started (by kernel_rfl) Try.func3
    (ChangeSpec.witness6 (enc := enc) (C := Try.checked) false ⟨#[], #[.agg #[.int .i64 0, .slice none 0 0], .slice none 0 0, .agg #[.int .i64 0, .int .i64 0]], []⟩ 8 (by kernel_rfl) (by kernel_rfl) (by kernel_rfl) (by kernel_rfl)) ?_
  intro W base args ds gs before hval0 hW hcnd _
  have hval : ∀ (j : Nat) t v, Try.f3.params[j]? = some t → args[j]? = some v → Value.okWide Try.prog W .any base t v := hval0
  have hW' := hW
  obtain ⟨p, q, hA0, hV, rfl, hfz, hnd⟩ := hW
  have hA : DataW.TrodAll enc Try.prog W 0 (fun _ => true) true Try.f3.params.toList args.toList ds p := hA0
  rw [Try.params3] at hA hval
  obtain ⟨v0, v1, v2, d0, d1, d2, p0, p1, p2, rfl, rfl, rfl, h0, h1, h2⟩ := trodAll_three hA
  obtain ⟨rfl, rfl⟩ := trodVars_none hV
  obtain ⟨n, ls, r0⟩ := sa_trap (hval 0 24 v0 rfl rfl) h0
  obtain ⟨l, r1⟩ := sa_list (hval 1 25 v1 rfl rfl) h1
  obtain ⟨i, j, r2⟩ := sa_two (hval 2 27 v2 rfl rfl) h2
  clear hA0 hval0
  simp only [List.append_nil] at hW'
  have hlt : ∀ x ∈ p0 ++ p1 ++ p2, x.block < W.heap.size := fun x hx => hW'.lt x (by simpa using hx)
  refine (calls_true (s3 n ls l i j) (vs := [v0, v1, v2]) (by simp only [RVL]; exact ⟨_, _, rfl, r0, _, _, rfl, r1, _, _, rfl, r2, rfl⟩)).mono fun e W' ⟨he, hb⟩ => ?_
  subst he
  refine ⟨_, rfl, law_shut hW' hb rfl (fun _ _ _ => trodAll_mk1 (shut_bool Try.u4 true)) (fun sp hsp => ?_) rfl (ok_one (by kernel_rfl) rfl (okWide_bool_mk Try.u4 true))⟩
  have g := trodAll_mk3 (arg_stays Try.laidOut rr24 lt24 h0 hb (fun x hx => hlt x (by simp [hx])) (sp := sp) (fun x hx => hsp x (by simp [hx])))
    (arg_stays Try.laidOut rr25 lt25 h1 hb (fun x hx => hlt x (by simp [hx])) (sp := sp) (fun x hx => hsp x (by simp [hx])))
    (arg_stays Try.laidOut rr27 lt27 h2 hb (fun x hx => hlt x (by simp [hx])) (sp := sp) (fun x hx => hsp x (by simp [hx])))
  rw [← List.append_assoc] at g
  exact g

theorem swaps_holds : Rows.ZoneSwapsSaid :=
  OpenClaim.holds_of_wide 3 Try.f3 rfl rfl rfl rfl rfl rfl rfl ⟨rfl, rfl, rfl, rfl, rfl⟩ rfl rfl rfl rfl rfl (by kernel_rfl) Try.func3 (by kernel_rfl)
    (of_decide_eq_true (by kernel_rfl)) (by unfold Func.isWrapper; rw [if_neg (of_decide_eq_false (by kernel_rfl))]; exact ⟨rfl, rfl⟩)
    (fun os started H enc _ => swaps_lifted os started H enc)
end Go.Proofs.Ytkolpijhgcijbaa
