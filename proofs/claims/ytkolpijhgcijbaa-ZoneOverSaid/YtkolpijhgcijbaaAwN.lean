/-
  The calculus: operations that can be taken first.
-/
import Derived.Test.YtkolpijhgcijbaaAwM
namespace Go.Proofs.Ytkolpijhgcijbaa
namespace Aw
open Go.RowKit

section
variable {P : Program} {own : List Nat}

def det (P : Program) (own : List Nat) (o : Oper) : Bool :=
  match o.op with
  | .move _ | .pick _ _ _ | .load _ _ | .fieldAddr _ _ _ | .indexAddr _ _ _ | .build _ _ | .extract _ _ | .field _ _ _ | .nilCheck _ | .lookup _ _ _ _ | .unOp .not _ _ | .unOp .neg _ _ | .slice _ _ _ _ none => true
  | .assign _ => !own.contains (o.dst.getD 0)
  | .buildSlice _ _ _ => !own.contains (o.dst.getD 0)
  | .binOp _ ty _ _ _ => (match tiOf P ty with | some ti => ti.elem.isNone | none => true)
  | .call c => (match c.callee with | .builtin .len | .builtin .min | .builtin .max => true | _ => false)
  | _ => false

def Dt (Φ : AV → Prop) (M0 : Mem) (G : Mem → HK Kont → Prop) : Prop := ∃ r, Φ r ∧ ∀ M, MLe M0 M → ∀ K : HK Kont, K.k r [] M → G M K

section
variable {Φ : AV → Prop} {M0 : Mem}
theorem dt_pure {r : AV} (h : Φ r) : Dt Φ M0 (fun M K => K.k r [] M) := ⟨r, h, fun _ _ _ hk => hk⟩
theorem dt_opt {α : Type} {x : Option α} {F : HK (α → Prop)} {G : α → Mem → HK Kont → Prop} (h : ∀ a, x = some a → F.k a → Dt Φ M0 (G a)) (hc : @AOpt α x F) : Dt Φ M0 (fun M K => @AOpt α x ⟨fun a => G a M K⟩) := by
  obtain ⟨a, rfl, hk⟩ := AOpt_elim hc
  exact h a rfl hk
theorem dt_optM {α : Type} {x : Mem → Option α} {F : HK (α → Prop)} {G : α → Mem → HK Kont → Prop} (hx : ∀ M a, MLe M0 M → x M0 = some a → x M = some a) (h : ∀ a, F.k a → Dt Φ M0 (G a)) (hc : @AOpt α (x M0) F) : Dt Φ M0 (fun M K => @AOpt α (x M) ⟨fun a => G a M K⟩) := by
  obtain ⟨a, ha, hk⟩ := AOpt_elim hc
  obtain ⟨r, h1, h2⟩ := h a hk
  exact ⟨r, h1, fun M hM K hK => by show @AOpt α (x M) ⟨fun a => G a M K⟩; rw [hx M a hM ha]; exact h2 M hM K hK⟩
theorem dt_alt {α : Type} {x : Option α} {F : HK (α → Prop)} {L : HK Prop} {G : α → Mem → HK Kont → Prop} {H : Mem → HK Kont → Prop} (h : ∀ a, F.k a → Dt Φ M0 (G a)) (hl : L.k → Dt Φ M0 H) (hc : @AAlt α x F L) :
    Dt Φ M0 (fun M K => @AAlt α x ⟨fun a => G a M K⟩ ⟨H M K⟩) := by
  rcases AAlt_elim hc with ⟨a, rfl, hk⟩ | ⟨rfl, hk⟩
  · exact h a hk
  · exact hl hk
theorem dt_cond {b : Bool} {x y : HK Prop} {G H : Mem → HK Kont → Prop} (h : x.k → Dt Φ M0 G) (hl : y.k → Dt Φ M0 H) (hc : @ACond b x y) : Dt Φ M0 (fun M K => @ACond b ⟨G M K⟩ ⟨H M K⟩) := by
  cases b with
  | true =>
    obtain ⟨r, h1, h2⟩ := h (hc.1 rfl)
    exact ⟨r, h1, fun M hM K hK => ⟨fun _ => h2 M hM K hK, fun e => by cases e⟩⟩
  | false =>
    obtain ⟨r, h1, h2⟩ := hl (hc.2 rfl)
    exact ⟨r, h1, fun M hM K hK => ⟨fun e => (by cases e), fun _ => h2 M hM K hK⟩⟩
theorem dt_get {xs : List AV} {j : Nat} {F : HK (AV → Prop)} {G : AV → Mem → HK Kont → Prop} (h : ∀ a, F.k a → Dt Φ M0 (G a)) (hc : @AGet xs j F) : Dt Φ M0 (fun M K => @AGet xs j ⟨fun a => G a M K⟩) := by
  obtain ⟨x, hx, hk⟩ := hc
  obtain ⟨r, h1, h2⟩ := h x hk
  exact ⟨r, h1, fun M hM K hK => ⟨x, hx, h2 M hM K hK⟩⟩
theorem dt_and {p q : Prop} {G : Mem → HK Kont → Prop} (h : q → Dt Φ M0 G) (hc : p ∧ q) : Dt Φ M0 (fun M K => p ∧ G M K) := by
  obtain ⟨r, h1, h2⟩ := h hc.2
  exact ⟨r, h1, fun M hM K hK => ⟨hc.1, h2 M hM K hK⟩⟩

theorem dt_find {kt : TypeId} {ks : List Value} {v : Value} {F : HK (Nat → Prop)} {L : HK Prop} {G : Nat → Mem → HK Kont → Prop} {H : Mem → HK Kont → Prop} (h : ∀ j, F.k j → Dt Φ M0 (G j)) (hl : L.k → Dt Φ M0 H) (hc : AFind P kt ks v (K := F) (L := L)) :
    Dt Φ M0 (fun M K => AFind P kt ks v (K := ⟨fun j => G j M K⟩) (L := ⟨H M K⟩)) := by
  obtain ⟨h1, h2⟩ := hc
  rcases h2 with ⟨j, h3, h4⟩ | ⟨h3, h4⟩
  · obtain ⟨r, g1, g2⟩ := h j h4
    exact ⟨r, g1, fun M hM K hK => ⟨h1, .inl ⟨j, h3, g2 M hM K hK⟩⟩⟩
  · obtain ⟨r, g1, g2⟩ := hl h4
    exact ⟨r, g1, fun M hM K hK => ⟨h1, .inr ⟨h3, g2 M hM K hK⟩⟩⟩

theorem arithC_dt {op : BinOp} {a b : Int} {F : HK (AV → Prop)} (hF : ∀ r, F.k r → Φ r) (hc : arithC op a b (K := F)) : Dt Φ M0 (fun M K => arithC op a b (K := ⟨fun r => K.k r [] M⟩)) := by
  cases op <;> first | exact hc.elim | exact dt_and (fun h => dt_pure (hF _ h)) hc

theorem binC_dt {op : BinOp} {ty : TypeId} {x y : AV} {F : HK (AV → Prop)} (hd : (match tiOf P ty with | some ti => ti.elem.isNone | none => true) = true) (hF : ∀ r, F.k r → Φ r) (hc : binC P op ty x y (K := F)) :
    Dt Φ M0 (fun M K => binC P op ty x y (K := ⟨fun r => K.k r [] M⟩)) := by
  unfold binC at hc ⊢
  revert hc
  refine dt_alt (fun kx => dt_opt fun ky _ => dt_alt (fun b => dt_and fun h => dt_pure (hF _ h)) (dt_and (arithC_dt hF))) ?_
  refine dt_alt (fun a => dt_opt fun b _ => dt_opt fun ti _ => dt_and (dt_opt fun r _ h => dt_pure (hF _ h))) ?_
  refine dt_alt (fun xs => dt_opt fun ys _ => dt_opt fun ti _ => dt_opt fun as _ => dt_opt fun bs _ => dt_and (dt_opt fun r _ h => dt_pure (hF _ h))) ?_
  refine dt_opt fun kxs _ => dt_opt fun _ _ => dt_opt fun ti hti => fun h => ?_
  rw [hti] at hd
  have := h.1.2
  simp only [Option.isNone_iff_eq_none] at hd
  rw [hd] at this
  cases this

theorem idxC_dt {t : TypeId} {x : AV} {i : Int} {F : HK (AV → Prop)} (hF : ∀ r, F.k r → Φ r) (hc : idxC P t M0 x i (K := F)) : Dt Φ M0 (fun M K => idxC P t M x i (K := ⟨fun r => K.k r [] M⟩)) := by
  unfold idxC at hc ⊢
  revert hc
  refine dt_opt fun ti _ => dt_alt (fun e => dt_opt fun te _ => dt_alt (fun kxs => dt_and (dt_get fun x h => dt_pure (hF _ h))) ?_) ?_
  · exact dt_opt fun id _ => dt_optM (fun M a hM ha => hM _ _ ha) fun ob => dt_and fun h => dt_pure (hF _ h)
  · exact dt_opt fun ne _ => dt_opt fun te _ => dt_and (dt_alt (fun yo h => dt_pure (hF _ h)) (dt_opt fun q _ h => dt_pure (hF _ h)))

theorem lenA_mle {M : Mem} {x : AV} {n : Int} (hM : MLe M0 M) (h : lenA M0 x = some n) : lenA M x = some n := by
  cases x with
  | o i =>
    simp only [lenA] at h ⊢
    have := hM i
    unfold obA at this
    split at h
    · rename_i ob he
      rw [he] at this
      have := this ob rfl
      split at this
      · rename_i ob' he'
        rw [he']
        simp only [Option.some.injEq] at this
        subst this
        exact h
      · cases this
    · cases h
  | s k xs => exact h
  | v a => cases a <;> first | exact h | (rename_i b c d; revert h; cases b <;> simp only [lenA] <;> intro h <;> first | exact h | (split at h <;> simp_all))
  | _ => exact h
end

theorem lenM_mle {M0 M : Mem} {x : AV} {n : Int} (hM : MLe M0 M) (h : lenM M0 x = some n) : lenA M x = none ∧ lenM M x = some n := by
  cases x with
  | o i =>
    simp only [lenM, lenA] at h ⊢
    split at h
    · rename_i ob he
      have := hM i ob (by unfold obA; rw [he])
      rw [obA_eq this]
      split at h
      · rename_i ks hks
        simp only [hks]
        exact ⟨trivial, h⟩
      · cases h
    · cases h
  | _ => simp [lenM] at h

theorem coreC_det {o : Oper} {ρ : Operand → AV} {M0 : Mem} {Φ : AV → Prop} (hd : det P own o = true) (hc : coreC P own o ρ M0 (K := ⟨fun r _ _ => Φ r⟩)) : Dt Φ M0 (fun M K => coreC P own o ρ M (K := K)) := by
  obtain ⟨dst, op, ty, pos, aft, gd⟩ := o
  cases op <;> simp only [det] at hd <;> try (cases hd; done)
  case call c =>
    obtain ⟨callee, args, tys⟩ := c
    simp only at hd
    split at hd
    · simp only [coreC, callC] at hc ⊢
      split at hc
      · rename_i x t hx ht
        revert hc
        refine dt_opt fun ti _ => fun hc => ?_
        rcases AAlt_elim hc with ⟨n, hn, h⟩ | ⟨hn, h⟩
        · obtain ⟨r, g1, g2⟩ := dt_and (Φ := Φ) (M0 := M0) (fun h => dt_pure h) h
          refine ⟨r, g1, fun M hM K hK => ?_⟩
          simp only [lenA_mle hM hn, AAlt_some]
          exact g2 M hM K hK
        · obtain ⟨ke, hke, h⟩ := AOpt_elim h
          obtain ⟨n, hn', h⟩ := AOpt_elim h
          refine ⟨I n, h, fun M hM K hK => ?_⟩
          obtain ⟨e1, e2⟩ := lenM_mle hM hn'
          simp only [e1, AAlt_none, hke, AOpt_some, e2]
          exact hK
      · exact hc.elim
    · simp only [coreC, callC] at hc ⊢
      split at hc
      · revert hc
        exact dt_opt fun n _ h => dt_pure h
      · exact hc.elim
    · simp only [coreC, callC] at hc ⊢
      split at hc
      · revert hc
        exact dt_opt fun n _ h => dt_pure h
      · exact hc.elim
    · cases hd
  all_goals simp only [coreC] at hc ⊢
  case move x => exact dt_pure hc
  case assign x =>
    simp only [Bool.not_eq_true'] at hd
    simp only [hd, Bool.false_eq_true, if_false, AAlt_none] at hc ⊢
    exact dt_pure hc
  case pick c a b => revert hc; exact dt_opt fun c _ => dt_cond (fun h => dt_pure h) (fun h => dt_pure h)
  case load t x =>
    revert hc
    exact dt_opt fun ti _ => dt_alt (fun yo => dt_opt fun r _ h => dt_pure h) (dt_opt fun q _ => dt_optM (fun M a hM ha => hM _ _ ha) fun ob => dt_and (dt_get fun y => dt_opt fun r _ h => dt_pure h))
  case fieldAddr t x f => revert hc; exact dt_opt fun ti _ => dt_opt fun fo _ => dt_and (dt_alt (fun yo h => dt_pure h) (dt_opt fun q _ h => dt_pure h))
  case indexAddr t x i => revert hc; exact dt_opt fun n _ => idxC_dt fun r h => h
  case binOp op ty x y r => exact binC_dt hd (fun r h => h) hc
  case unOp op t x =>
    cases op <;> simp only [coreC] at hc ⊢ <;> try (cases hd; done)
    case not => revert hc; exact dt_opt fun b _ h => dt_pure h
    case neg => revert hc; exact dt_opt fun b _ => dt_and fun h => dt_pure h
  case build t parts => revert hc; exact dt_opt fun ti _ => dt_opt fun cells _ => dt_and fun h => dt_pure h
  case buildSlice t n parts =>
    simp only [Bool.not_eq_true'] at hd
    revert hc
    exact dt_opt fun ti _ => dt_opt fun e _ => dt_opt fun te _ => dt_and fun h => by
      rw [hd] at h ⊢
      rw [ACond_false] at h
      obtain ⟨r, h1, h2⟩ := dt_and (Φ := Φ) (M0 := M0) (fun h => dt_pure h) h
      exact ⟨r, h1, fun M hM K hK => ⟨fun e => (by cases e), fun _ => h2 M hM K hK⟩⟩
  case extract x i => revert hc; exact dt_opt fun xs _ => dt_opt fun r _ h => dt_pure h
  case field t x f => revert hc; exact dt_opt fun ti _ => dt_opt fun xs _ => dt_opt fun fo _ => dt_opt fun ft _ => dt_opt fun tf _ => dt_opt fun r _ h => dt_pure h
  case slice t x lo hi mx =>
    cases mx <;> simp only [coreC] at hc ⊢ <;> try (cases hd; done)
    revert hc
    exact dt_opt fun ti _ => dt_opt fun kxs _ => dt_opt fun lo _ => dt_opt fun hi _ => dt_opt fun e _ => dt_opt fun te _ => dt_and fun h => dt_pure h
  case nilCheck x => revert hc; exact dt_alt (fun yo h => dt_pure h) (dt_opt fun q _ h => dt_pure h)
  case lookup t m x ok =>
    revert hc
    exact dt_opt fun ke _ => dt_opt fun id _ => dt_opt fun kv _ => dt_optM (fun M a hM ha => hM _ _ ha) fun ob => dt_opt fun ks _ => dt_opt fun z _ => dt_and (dt_find (fun j => dt_get fun y h => dt_pure h) (fun h => dt_pure h))
end
end Aw
end Go.Proofs.Ytkolpijhgcijbaa
