/-
  The calculus: what 'coreC' looks at, and what it changes.
-/
import Derived.Test.YtkolpijhgcijbaaAwJ
namespace Go.Proofs.Ytkolpijhgcijbaa
namespace Aw
open Go.RowKit

section
variable {P : Program} {own : List Nat}

theorem callC_congr {c : Call} {ρ ρ' : Operand → AV} {M : Mem} {K : HK Kont} (h : ∀ x ∈ c.operands, ρ x = ρ' x) (hc : callC P c ρ M (K := K)) : callC P c ρ' M (K := K) := by
  obtain ⟨callee, args, tys⟩ := c
  have ha : ∀ x ∈ args.toList, ρ x = ρ' x := fun x hx => h x (by simp only [Call.operands]; exact Array.mem_append_right _ (by simpa using hx))
  have hm : args.toList.map ρ = args.toList.map ρ' := List.map_congr_left ha
  cases callee with
  | value f =>
    have hf : ρ f = ρ' f := h f (by simp [Call.operands])
    cases f <;> simp only [callC] at hc ⊢
    case func f => rw [← hm]; exact hc
    all_goals rw [← hm, ← hf]; exact hc
  | invoke r m => simp only [callC] at hc
  | builtin b =>
    cases b <;> simp only [callC] at hc <;> dsimp only [callC]
    case len =>
      split at hc
      · rename_i x t hx ht
        rw [hx] at ha
        rw [ha x (by simp)] at hc
        exact hc
      · exact hc.elim
    case min =>
      split at hc
      · rename_i x y hx
        rw [hx] at ha
        rw [ha x (by simp), ha y (by simp)] at hc
        exact hc
      · exact hc.elim
    case max =>
      split at hc
      · rename_i x y hx
        rw [hx] at ha
        rw [ha x (by simp), ha y (by simp)] at hc
        exact hc
      · exact hc.elim
    case append =>
      split at hc
      · rename_i x y t t' hx ht
        rw [hx] at ha
        rw [ha x (by simp), ha y (by simp)] at hc
        exact hc
      · exact hc.elim

theorem coreC_congr {o : Oper} {ρ ρ' : Operand → AV} {M : Mem} {K : HK Kont} (h : ∀ x ∈ o.op.operands, ρ x = ρ' x) (hc : coreC P own o ρ M (K := K)) : coreC P own o ρ' M (K := K) := by
  obtain ⟨dst, op, ty, pos, aft, gd⟩ := o
  cases op <;> simp only [Op.operands] at h <;> simp only [coreC] at hc ⊢
  case move x => rw [← h x (by simp)]; exact hc
  case assign x => rw [← h x (by simp)]; exact hc
  case pick c a b => rw [← h c (by simp), ← h a (by simp), ← h b (by simp)]; exact hc
  case box t x => rw [← h x (by simp)]; exact hc
  case alloc t => exact hc
  case load t x => rw [← h x (by simp)]; exact hc
  case store t x y => rw [← h x (by simp), ← h y (by simp)]; exact hc
  case fieldAddr t x f => rw [← h x (by simp)]; exact hc
  case indexAddr t x i => rw [← h x (by simp), ← h i (by simp)]; exact hc
  case binOp op ty x y r => rw [← h x (by simp), ← h y (by simp)]; exact hc
  case unOp op t x => cases op <;> simp only [coreC] at hc ⊢ <;> (rw [← h x (by simp)]; exact hc)
  case build t parts =>
    rw [← List.map_congr_left (f := fun ix : Nat × Operand => (ix.1, ρ ix.2)) (g := fun ix => (ix.1, ρ' ix.2)) fun x hx => by
      simp only [h x.2 (by simpa using ⟨x.1, by simpa using hx⟩)]]
    exact hc
  case buildSlice t n parts =>
    have hp : ∀ x ∈ parts.toList, ρ x.2 = ρ' x.2 := fun x hx => h x.2 (by simpa using ⟨x.1, by simpa using hx⟩)
    have e1 : (parts.toList.map fun ix => ρ ix.2) = (parts.toList.map fun ix => ρ' ix.2) := List.map_congr_left hp
    have e2 : ∀ n : Nat, (parts.toList.all fun ix => (ρ ix.2).cellular && (ρ ix.2).flat && (ρ ix.2).size == n) = (parts.toList.all fun ix => (ρ' ix.2).cellular && (ρ' ix.2).flat && (ρ' ix.2).size == n) := fun n => by
      rw [Bool.eq_iff_iff, List.all_eq_true, List.all_eq_true]
      exact ⟨fun H x hx => by rw [← hp x hx]; exact H x hx, fun H x hx => by rw [hp x hx]; exact H x hx⟩
    obtain ⟨ti, hti, hc⟩ := AOpt_elim hc
    obtain ⟨e, he, hc⟩ := AOpt_elim hc
    obtain ⟨te, hte, hc⟩ := AOpt_elim hc
    simp only [hti, he, hte, AOpt_some, ← e2]
    rw [← e1]
    exact hc
  case extract x i => rw [← h x (by simp)]; exact hc
  case field t x f => rw [← h x (by simp)]; exact hc
  case slice t x lo hi mx =>
    have hb : ∀ y : Option Operand, (∀ z, y = some z → ρ z = ρ' z) → bndA ρ y = bndA ρ' y := by
      intro y hy
      cases y with
      | none => rfl
      | some z => simp only [bndA, hy z rfl]
    have e1 := hb lo (fun z hz => h z (by subst hz; simp))
    have e2 := hb hi (fun z hz => h z (by subst hz; simp))
    cases mx <;> simp only [coreC] at hc ⊢
    rw [← h x (by simp), ← e1, ← e2]
    exact hc
  case makeFunc fn first cap =>
    have hp : ∀ x ∈ cap.toList, ρ x = ρ' x := fun x hx => h x (Array.mem_append_right _ (by simpa using hx))
    have e1 : cap.toList.map ρ = cap.toList.map ρ' := List.map_congr_left hp
    have e2 : (cap.toList.all fun x => (ρ x).cellular && (ρ x).single) = (cap.toList.all fun x => (ρ' x).cellular && (ρ' x).single) := by
      rw [Bool.eq_iff_iff, List.all_eq_true, List.all_eq_true]
      exact ⟨fun H x hx => by rw [← hp x hx]; exact H x hx, fun H x hx => by rw [hp x hx]; exact H x hx⟩
    rw [← e1, ← e2]
    exact hc
  case nilCheck x => rw [← h x (by simp)]; exact hc
  case makeMap t r => cases r with | none => exact hc | some r => exact False.elim hc
  case lookup t m x ok => rw [← h m (by simp), ← h x (by simp)]; exact hc
  case mapUpdate t m x y => rw [← h m (by simp), ← h x (by simp), ← h y (by simp)]; exact hc
  case insert t m x y => rw [← h m (by simp), ← h x (by simp), ← h y (by simp)]; exact hc
  case makeSlice t l c => rw [← h l (by simp), ← h c (by simp)]; exact hc
  case call c => exact callC_congr h hc

/-- what an operation can change. -/
def Op.cls : Op → Nat
  | .store .. => 1
  | .mapUpdate .. => 1
  | .insert .. => 1
  | .call c => (match c.callee with | .builtin .append => 2 | _ => 0)
  | _ => 0

def MLe (M0 M : Mem) : Prop := ∀ i ob, obA M0 i = some ob → obA M i = some ob

theorem MLe.refl (M : Mem) : MLe M M := fun _ _ h => h
theorem MLe.trans {M M' M'' : Mem} (h : MLe M M') (k : MLe M' M'') : MLe M M'' := fun i ob hi => k i ob (h i ob hi)
theorem MLe.app (M N : Mem) : MLe M (M ++ N) := fun i ob h => by
  have := obA_eq h
  have hlt := (List.getElem?_eq_some_iff.1 this).1
  unfold obA
  rw [List.getElem?_append_left hlt, this]
theorem MLe.nil (M : Mem) : MLe [] M := fun i ob h => by simp [obA] at h

def Cls (o : Oper) (M : Mem) (Z : List Nat) (M' : Mem) : Prop := (Op.cls o.op < 2 → Z = []) ∧ (Op.cls o.op < 1 → MLe M M')

theorem AOpt_mono {α : Type} {x : Option α} {K K' : HK (α → Prop)} (h : ∀ a, x = some a → K.k a → K'.k a) (hc : @AOpt α x K) : @AOpt α x K' := by
  obtain ⟨a, ha, hk⟩ := AOpt_elim hc
  have := h a ha hk
  subst ha
  exact this
theorem AAlt_mono {α : Type} {x : Option α} {K K' : HK (α → Prop)} {L L' : HK Prop} (h : ∀ a, x = some a → K.k a → K'.k a) (hl : L.k → L'.k) (hc : @AAlt α x K L) : @AAlt α x K' L' := by
  rcases AAlt_elim hc with ⟨a, ha, hk⟩ | ⟨ha, hk⟩
  · have := h a ha hk
    subst ha
    exact this
  · have := hl hk
    subst ha
    exact this
theorem ACond_mono {b : Bool} {x y x' y' : HK Prop} (h : x.k → x'.k) (hl : y.k → y'.k) (hc : @ACond b x y) : @ACond b x' y' := ⟨fun e => h (hc.1 e), fun e => hl (hc.2 e)⟩
theorem AGet_mono {xs : List AV} {j : Nat} {K K' : HK (AV → Prop)} (h : ∀ x, K.k x → K'.k x) (hc : @AGet xs j K) : @AGet xs j K' := by
  obtain ⟨x, hx, hk⟩ := hc
  exact ⟨x, hx, h x hk⟩
theorem AFind_mono {kt : TypeId} {ks : List Value} {v : Value} {K K' : HK (Nat → Prop)} {L L' : HK Prop} (h : ∀ j, K.k j → K'.k j) (hl : L.k → L'.k) (hc : AFind P kt ks v (K := K) (L := L)) : AFind P kt ks v (K := K') (L := L') := by
  obtain ⟨h1, h2⟩ := hc
  refine ⟨h1, ?_⟩
  rcases h2 with ⟨j, h3, h4⟩ | ⟨h3, h4⟩
  · exact .inl ⟨j, h3, h _ h4⟩
  · exact .inr ⟨h3, hl h4⟩
theorem andM {a b c : Prop} (h : b → c) (hc : a ∧ b) : a ∧ c := ⟨hc.1, h hc.2⟩
theorem ACall_mono {f : FuncId} {as : List AV} {M : Mem} {K K' : HK (AV → Mem → Prop)} (h : ∀ r N, K.k r (M ++ N) → K'.k r (M ++ N)) (hc : ACall P f as M (K := K)) : ACall P f as M (K := K') := by
  obtain ⟨lend, bs, post, h1, h2, h3⟩ := hc
  exact ⟨lend, bs, post, h1, h2, fun r Ms hp => ⟨(h3 r Ms hp).1, h _ _ (h3 r Ms hp).2⟩⟩

theorem callC_mono {c : Call} {ρ : Operand → AV} {M : Mem} {K K' : HK Kont} (h : ∀ r Z M', (Op.cls (.call c) < 2 → Z = []) → (Op.cls (.call c) < 1 → MLe M M') → K.k r Z M' → K'.k r Z M') (hc : callC P c ρ M (K := K)) : callC P c ρ M (K := K') := by
  obtain ⟨callee, args, tys⟩ := c
  cases callee with
  | value f =>
    have hk : ∀ r N, K.k r [] (M ++ N) → K'.k r [] (M ++ N) := fun r N => h r [] _ (fun _ => rfl) (fun _ => MLe.app M N)
    cases f <;> simp only [callC] at hc ⊢
    case func f => revert hc; exact ACall_mono hk
    all_goals revert hc; exact AOpt_mono (fun a _ => ACall_mono hk)
  | invoke r m => simp only [callC] at hc
  | builtin b =>
    cases b <;> simp only [callC] at hc <;> dsimp only [callC]
    case len =>
      have hk : ∀ r, K.k r [] M → K'.k r [] M := fun r => h r [] _ (fun _ => rfl) (fun _ => MLe.refl M)
      split at hc
      · revert hc; exact AOpt_mono (fun a _ => AAlt_mono (fun b _ => andM (hk _)) (AOpt_mono fun _ _ => AOpt_mono fun _ _ => hk _))
      · exact hc.elim
    case min =>
      have hk : ∀ r, K.k r [] M → K'.k r [] M := fun r => h r [] _ (fun _ => rfl) (fun _ => MLe.refl M)
      split at hc
      · revert hc; exact AOpt_mono (fun a _ => hk a)
      · exact hc.elim
    case max =>
      have hk : ∀ r, K.k r [] M → K'.k r [] M := fun r => h r [] _ (fun _ => rfl) (fun _ => MLe.refl M)
      split at hc
      · revert hc; exact AOpt_mono (fun a _ => hk a)
      · exact hc.elim
    case append =>
      have hk : ∀ r Z M', K.k r Z M' → K'.k r Z M' := fun r Z M' => h r Z M' (fun hh => by simp [Op.cls] at hh) (fun hh => by simp [Op.cls] at hh)
      split at hc
      · revert hc; refine AOpt_mono (fun a _ => AOpt_mono fun b _ => AOpt_mono fun c _ => AOpt_mono fun i _ => AOpt_mono fun ob _ => ?_)
        refine AAlt_mono (fun a _ => andM (hk _ _ _)) ?_
        refine AAlt_mono (fun a _ => andM (hk _ _ _)) ?_
        exact AOpt_mono (fun a _ => AOpt_mono fun b _ => andM (hk _ _ _))
      · exact hc.elim

theorem arithC_mono {op : BinOp} {a b : Int} {K K' : HK (AV → Prop)} (h : ∀ r, K.k r → K'.k r) (hc : arithC op a b (K := K)) : arithC op a b (K := K') := by
  cases op <;> first | exact hc.elim | exact ⟨hc.1, h _ hc.2⟩

theorem binC_mono {op : BinOp} {ty : TypeId} {x y : AV} {K K' : HK (AV → Prop)} (h : ∀ r, K.k r → K'.k r) (hc : binC P op ty x y (K := K)) : binC P op ty x y (K := K') := by
  unfold binC at hc ⊢
  revert hc; refine AAlt_mono (fun kx _ => AOpt_mono fun ky _ => AAlt_mono (fun b _ => andM (h _)) (andM (arithC_mono h))) ?_
  refine AAlt_mono (fun a _ => AOpt_mono fun b _ => AOpt_mono fun ti _ => andM (AOpt_mono fun r _ => h _)) ?_
  refine AAlt_mono (fun xs _ => AOpt_mono fun ys _ => AOpt_mono fun ti _ => AOpt_mono fun as _ => AOpt_mono fun bs _ => andM (AOpt_mono fun r _ => h _)) ?_
  exact AOpt_mono fun kxs _ => AOpt_mono fun _ _ => AOpt_mono fun ti _ => andM fun h2 b hb => h _ (h2 b hb)

theorem idxC_mono {t : TypeId} {M : Mem} {x : AV} {i : Int} {K K' : HK (AV → Prop)} (h : ∀ r, K.k r → K'.k r) (hc : idxC P t M x i (K := K)) : idxC P t M x i (K := K') := by
  unfold idxC at hc ⊢
  revert hc; refine AOpt_mono (fun ti _ => AAlt_mono (fun e _ => AOpt_mono fun te _ => AAlt_mono (fun kxs _ => andM (AGet_mono fun x => h _)) ?_) ?_)
  · exact AOpt_mono fun id _ => AOpt_mono fun ob _ => andM (h _)
  · exact AOpt_mono fun ne _ => AOpt_mono fun te _ => andM (AAlt_mono (fun yo _ => h _) (AOpt_mono fun q _ => h _))

theorem coreC_mono {o : Oper} {ρ : Operand → AV} {M : Mem} {K K' : HK Kont} (h : ∀ r Z M', Cls o M Z M' → K.k r Z M' → K'.k r Z M') (hc : coreC P own o ρ M (K := K)) : coreC P own o ρ M (K := K') := by
  obtain ⟨dst, op, ty, pos, aft, gd⟩ := o
  cases op
  case call c => exact callC_mono (fun r Z M' h1 h2 => h r Z M' ⟨h1, h2⟩) hc
  case mapUpdate t m x y =>
    simp only [coreC, putC] at hc ⊢
    have hk : ∀ r M', K.k r [] M' → K'.k r [] M' := fun r M' => h r [] M' ⟨fun _ => rfl, fun hh => by simp [Op.cls] at hh⟩
    revert hc; exact AOpt_mono fun ke _ => AOpt_mono fun id _ => AOpt_mono fun kv _ => AOpt_mono fun ob _ => AOpt_mono fun ks _ => andM (AFind_mono (fun j => hk _ _) (hk _ _))
  case insert t m x y =>
    simp only [coreC, putC] at hc ⊢
    have hk : ∀ r M', K.k r [] M' → K'.k r [] M' := fun r M' => h r [] M' ⟨fun _ => rfl, fun hh => by simp [Op.cls] at hh⟩
    revert hc; exact AOpt_mono fun ke _ => AOpt_mono fun id _ => AOpt_mono fun kv _ => AOpt_mono fun ob _ => AOpt_mono fun ks _ => andM (AFind_mono (fun j => hk _ _) (hk _ _))
  case store t x y =>
    simp only [coreC] at hc ⊢
    have hk : ∀ r M', K.k r [] M' → K'.k r [] M' := fun r M' => h r [] M' ⟨fun _ => rfl, fun hh => by simp [Op.cls] at hh⟩
    revert hc; exact AOpt_mono (fun ti _ => AOpt_mono fun q _ => AOpt_mono fun ob _ => andM (AGet_mono fun z => AOpt_mono fun r _ => hk _ _))
  all_goals
    have hk : ∀ r, K.k r [] M → K'.k r [] M := fun r => h r [] M ⟨fun _ => rfl, fun _ => MLe.refl M⟩
    have hn : ∀ r N, K.k r [] (M ++ N) → K'.k r [] (M ++ N) := fun r N => h r [] _ ⟨fun _ => rfl, fun _ => MLe.app M N⟩
    simp only [coreC] at hc ⊢
  case move x => exact hk _ hc
  case assign x => revert hc; exact AAlt_mono (fun _ _ => AOpt_mono fun ti _ => AOpt_mono fun e _ => AOpt_mono fun te _ => hn _ _) (hk _)
  case pick c a b => revert hc; exact AOpt_mono (fun c _ => ACond_mono (hk _) (hk _))
  case box t x => revert hc; exact andM (ACond_mono (hn _ _) (andM (hk _)))
  case alloc t => revert hc; exact AOpt_mono (fun ti _ => andM (hn _ _))
  case load t x => revert hc; exact AOpt_mono (fun ti _ => AAlt_mono (fun yo _ => AOpt_mono fun r _ => hk _) (AOpt_mono fun q _ => AOpt_mono fun ob _ => andM (AGet_mono fun y => AOpt_mono fun r _ => hk _)))
  case fieldAddr t x f => revert hc; exact AOpt_mono (fun ti _ => AOpt_mono fun fo _ => andM (AAlt_mono (fun yo _ => hk _) (AOpt_mono fun q _ => hk _)))
  case indexAddr t x i => revert hc; exact AOpt_mono (fun n _ => idxC_mono fun r => hk r)
  case binOp op ty x y r => revert hc; exact binC_mono (fun r => hk r)
  case unOp op t x =>
    cases op <;> simp only [coreC] at hc ⊢
    case not => revert hc; exact AOpt_mono (fun b _ => hk _)
    case neg => revert hc; exact AOpt_mono (fun n _ => andM (hk _))
  case build t parts => revert hc; exact AOpt_mono (fun ti _ => AOpt_mono fun cells _ => andM (hk _))
  case buildSlice t n parts => revert hc; exact AOpt_mono (fun ti _ => AOpt_mono fun e _ => AOpt_mono fun te _ => andM (ACond_mono (hn _ _) (andM (hk _))))
  case extract x i => revert hc; exact AOpt_mono (fun xs _ => AOpt_mono fun r _ => hk _)
  case field t x f => revert hc; exact AOpt_mono (fun ti _ => AOpt_mono fun xs _ => AOpt_mono fun fo _ => AOpt_mono fun ft _ => AOpt_mono fun tf _ => AOpt_mono fun r _ => hk _)
  case slice t x lo hi mx =>
    cases mx <;> simp only [coreC] at hc ⊢
    revert hc; exact AOpt_mono (fun ti _ => AOpt_mono fun kxs _ => AOpt_mono fun lo _ => AOpt_mono fun hi _ => AOpt_mono fun e _ => AOpt_mono fun te _ => andM (hk _))
  case makeFunc fn first cap => exact ⟨hc.1, hk _ hc.2⟩
  case nilCheck x => revert hc; exact AAlt_mono (fun yo _ => hk _) (AOpt_mono fun q _ => hk _)
  case makeMap t r =>
    cases r <;> simp only [coreC] at hc ⊢
    revert hc; exact andM (hn _ _)
  case lookup t m x ok => revert hc; exact AOpt_mono fun ke _ => AOpt_mono fun id _ => AOpt_mono fun kv _ => AOpt_mono fun ob _ => AOpt_mono fun ks _ => AOpt_mono fun z _ => andM (AFind_mono (fun j => AGet_mono fun y => hk _) (hk _))
  case makeSlice t l c => revert hc; exact AOpt_mono fun ti _ => AOpt_mono fun e _ => AOpt_mono fun te _ => AOpt_mono fun z _ => AOpt_mono fun kn _ => AOpt_mono fun kn' _ => andM (hn _ _)
end
end Aw
end Go.Proofs.Ytkolpijhgcijbaa
