/-
  The calculus: 'coreC': 'core', said so that simp never looks ahead.
-/
import Derived.Test.YtkolpijhgcijbaaAwF
namespace Go.Proofs.Ytkolpijhgcijbaa
namespace Aw
open Go.RowKit

def AOpt {α : Type} (x : Option α) [K : HK (α → Prop)] : Prop := match x with | some a => K.k a | none => False
def AAlt {α : Type} (x : Option α) [K : HK (α → Prop)] [L : HK Prop] : Prop := match x with | some a => K.k a | none => L.k
theorem AOpt_some {α : Type} (a : α) (K : HK (α → Prop)) : @AOpt α (some a) K = K.k a := rfl
theorem AAlt_some {α : Type} (a : α) (K : HK (α → Prop)) (L : HK Prop) : @AAlt α (some a) K L = K.k a := rfl
theorem AAlt_none {α : Type} (K : HK (α → Prop)) (L : HK Prop) : @AAlt α none K L = L.k := rfl
/-- a condition, and what comes next. -/
def ANeed (p : Prop) [K : HK Prop] : Prop := p ∧ K.k

def asP : AV → Option (AV × Nat) | .p y off => some (y, off) | _ => none
def asQ : AV → Option (Nat × Nat × Nat × Nat) | .q i k j off => some (i, k, j, off) | _ => none
def asO : AV → Option Nat | .o i => some i | _ => none
def asS : AV → Option (Nat × List AV) | .s k xs => some (k, xs) | _ => none
def asT : AV → Option (List AV) | .t xs => some xs | _ => none
def asG : AV → Option (List AV) | .g xs => some xs | _ => none
def asF : AV → Option (FuncId × List AV) | .f (.func f) cap => some (f, cap) | _ => none
def asB : AV → Option Bool | .v (.bool b) => some b | _ => none
def asI : AV → Option (IntKind × Int) | .v (.int k n) => some (k, n) | _ => none
def asN : AV → Option Unit | .v (.slice none 0 0) => some () | _ => none
def asE : AV → Option Unit | .v (.slice none _ _) => some () | _ => none
/-- an object. -/
def obA (M : Mem) (i : Nat) : Option Ob := match M[i]? with | some (some ob) => some ob | _ => none

/-- a number's operation. -/
def arithC (op : BinOp) (a b : Int) [K : HK (AV → Prop)] : Prop :=
  match op with
  | .add => lim (a + b) ∧ K.k (I (a + b))
  | .sub => lim (a - b) ∧ K.k (I (a - b))
  | .mul => lim (a * b) ∧ K.k (I (a * b))
  | .quo => (b ≠ 0 ∧ lim (a.tdiv b)) ∧ K.k (I (a.tdiv b))
  | .rem => b ≠ 0 ∧ K.k (I (a.tmod b))
  | _ => False

def cmpC (op : BinOp) (a b : Int) : Option Bool :=
  match op with
  | .lss => some (decide (a < b))
  | .leq => some (decide (a ≤ b))
  | .gtr => some (decide (b < a))
  | .geq => some (decide (b ≤ a))
  | .eql => some (decide (a = b))
  | .neq => some (!decide (a = b))
  | _ => none

/-- '==' and '!='. -/
def eqC (op : BinOp) (r : Bool) : Option Bool := match op with | .eql => some r | .neq => some (!r) | _ => none

def binC (P : Program) (op : BinOp) (ty : TypeId) (x y : AV) [K : HK (AV → Prop)] : Prop :=
  AAlt (asI x) (K := ⟨fun kx => AOpt (asI y) (K := ⟨fun ky => AAlt (cmpC op kx.2 ky.2) (K := ⟨fun b => kx.1 = ky.1 ∧ K.k (B b)⟩) (L := ⟨(kx.1 = .i64 ∧ ky.1 = .i64) ∧ arithC op kx.2 ky.2 (K := K)⟩)⟩)⟩) (L := ⟨
  AAlt (asB x) (K := ⟨fun a => AOpt (asB y) (K := ⟨fun b => AOpt (tiOf P ty) (K := ⟨fun ti => ti.bool = true ∧ AOpt (eqC op (a == b)) (K := ⟨fun r => K.k (B r)⟩)⟩)⟩)⟩) (L := ⟨
  AAlt (asG x) (K := ⟨fun xs => AOpt (asG y) (K := ⟨fun ys => AOpt (tiOf P ty) (K := ⟨fun ti => AOpt (ints xs) (K := ⟨fun as => AOpt (ints ys) (K := ⟨fun bs =>
    (ti.eqn = true ∧ as.length = ti.flds.length ∧ bs.length = ti.flds.length) ∧ AOpt (eqC op (decide (as = bs))) (K := ⟨fun r => K.k (B r)⟩)⟩)⟩)⟩)⟩)⟩) (L := ⟨
  AOpt (asS x) (K := ⟨fun kxs => AOpt (asE y) (K := ⟨fun _ => AOpt (tiOf P ty) (K := ⟨fun ti => (op = .eql ∧ ti.elem.isSome = true) ∧ ∀ b : Bool, (b = true → kxs.2 = []) → K.k (B b)⟩)⟩)⟩)⟩)⟩)⟩)

theorem binC_binA {P : Program} {op : BinOp} {ty : TypeId} {x y : AV} {K : HK (AV → Prop)} (h : binC P op ty x y (K := K)) : binA P op ty x y (K := K) := by
  unfold binC at h
  cases hx : asI x with
  | some kx =>
    obtain ⟨k, a⟩ := kx
    have ex : x = .v (.int k a) := by unfold asI at hx; split at hx <;> simp_all
    subst ex
    simp only [hx, AAlt_some] at h
    cases hy : asI y with
    | some ky =>
      obtain ⟨k', b⟩ := ky
      have ey : y = .v (.int k' b) := by unfold asI at hy; split at hy <;> simp_all
      subst ey
      simp only [hy, AOpt_some] at h
      cases op <;> simp only [cmpC, AAlt_some, AAlt_none, arithC] at h <;> first
        | exact h
        | (obtain ⟨⟨rfl, rfl⟩, h⟩ := h; exact h)
        | exact h.2.elim
    | none => rw [hy] at h; exact h.elim
  | none =>
    simp only [hx, AAlt_none] at h
    cases hb : asB x with
    | some a =>
      have ex : x = .v (.bool a) := by unfold asB at hb; split at hb <;> simp_all
      subst ex
      simp only [hb, AAlt_some] at h
      cases hy : asB y with
      | some b =>
        have ey : y = .v (.bool b) := by unfold asB at hy; split at hy <;> simp_all
        subst ey
        simp only [hy, AOpt_some] at h
        cases ht : tiOf P ty with
        | none => rw [ht] at h; exact h.elim
        | some ti =>
          rw [ht] at h
          simp only [AOpt_some] at h
          obtain ⟨h1, h2⟩ := h
          cases op <;> first | exact h2.elim | (simp only [binA, ht]; exact ⟨h1, h2⟩)
      | none => rw [hy] at h; exact h.elim
    | none =>
      simp only [hb, AAlt_none] at h
      cases hg : asG x with
      | some xs =>
        have ex : x = .g xs := by unfold asG at hg; split at hg <;> simp_all
        subst ex
        simp only [hg, AAlt_some] at h
        cases hy : asG y with
        | some ys =>
          have ey : y = .g ys := by unfold asG at hy; split at hy <;> simp_all
          subst ey
          simp only [hy, AOpt_some] at h
          cases ht : tiOf P ty with
          | none => rw [ht] at h; exact h.elim
          | some ti =>
            rw [ht] at h
            simp only [AOpt_some] at h
            cases ha : ints xs with
            | none => rw [ha] at h; exact h.elim
            | some as =>
              rw [ha] at h
              simp only [AOpt_some] at h
              cases hbs : ints ys with
              | none => rw [hbs] at h; exact h.elim
              | some bs =>
                rw [hbs] at h
                simp only [AOpt_some] at h
                obtain ⟨h1, h2⟩ := h
                cases op <;> first | exact h2.elim | (simp only [binA, ht, ha, hbs]; exact ⟨h1, h2⟩)
        | none => rw [hy] at h; exact h.elim
      | none =>
        simp only [hg, AAlt_none] at h
        cases hs : asS x with
        | none => rw [hs] at h; exact h.elim
        | some kxs =>
          obtain ⟨k, xs⟩ := kxs
          have ex : x = .s k xs := by unfold asS at hs; split at hs <;> simp_all
          subst ex
          simp only [hs, AOpt_some] at h
          cases hy : asE y with
          | none => rw [hy] at h; exact h.elim
          | some u =>
            rw [hy] at h
            simp only [AOpt_some] at h
            cases ht : tiOf P ty with
            | none => rw [ht] at h; exact h.elim
            | some ti =>
              rw [ht] at h
              simp only [AOpt_some] at h
              obtain ⟨⟨rfl, h1⟩, h2⟩ := h
              unfold asE at hy
              split at hy
              · simp only [binA, ht]; exact ⟨h1, h2⟩
              · cases hy

theorem AOpt_elim {α : Type} {x : Option α} {K : HK (α → Prop)} (h : @AOpt α x K) : ∃ a, x = some a ∧ K.k a := by
  cases x with
  | none => exact h.elim
  | some a => exact ⟨a, rfl, h⟩
theorem AAlt_elim {α : Type} {x : Option α} {K : HK (α → Prop)} {L : HK Prop} (h : @AAlt α x K L) : (∃ a, x = some a ∧ K.k a) ∨ (x = none ∧ L.k) := by
  cases x with
  | none => exact .inr ⟨rfl, h⟩
  | some a => exact .inl ⟨a, rfl, h⟩

theorem asP_eq {a y : AV} {off : Nat} (h : asP a = some (y, off)) : a = .p y off := by unfold asP at h; split at h <;> simp_all
theorem asQ_eq {a : AV} {i k j off : Nat} (h : asQ a = some (i, k, j, off)) : a = .q i k j off := by unfold asQ at h; split at h <;> simp_all
theorem asO_eq {a : AV} {i : Nat} (h : asO a = some i) : a = .o i := by unfold asO at h; split at h <;> simp_all
theorem asS_eq {a : AV} {k : Nat} {xs : List AV} (h : asS a = some (k, xs)) : a = .s k xs := by unfold asS at h; split at h <;> simp_all
theorem asT_eq {a : AV} {xs : List AV} (h : asT a = some xs) : a = .t xs := by unfold asT at h; split at h <;> simp_all
theorem asG_eq {a : AV} {xs : List AV} (h : asG a = some xs) : a = .g xs := by unfold asG at h; split at h <;> simp_all
theorem asF_eq {a : AV} {f : FuncId} {cap : List AV} (h : asF a = some (f, cap)) : a = .f (.func f) cap := by unfold asF at h; split at h <;> simp_all
theorem asB_eq {a : AV} {b : Bool} (h : asB a = some b) : a = .v (.bool b) := by unfold asB at h; split at h <;> simp_all
theorem asI_eq {a : AV} {k : IntKind} {n : Int} (h : asI a = some (k, n)) : a = .v (.int k n) := by unfold asI at h; split at h <;> simp_all
theorem asN_eq {a : AV} {u : Unit} (h : asN a = some u) : a = .v (.slice none 0 0) := by unfold asN at h; split at h <;> simp_all
theorem obA_eq {M : Mem} {i : Nat} {ob : Ob} (h : obA M i = some ob) : M[i]? = some (some ob) := by unfold obA at h; split at h <;> simp_all

def idxC (P : Program) (t : TypeId) (M : Mem) (x : AV) (i : Int) [K : HK (AV → Prop)] : Prop :=
  AOpt (tiOf P t) (K := ⟨fun ti => AAlt ti.elem (K := ⟨fun e => AOpt (tiOf P e) (K := ⟨fun te =>
    AAlt (asS x) (K := ⟨fun kxs => (kxs.1 = te.size ∧ 0 ≤ i) ∧ AGet kxs.2 i.toNat (K := ⟨fun x => K.k (.p x 0)⟩)⟩) (L := ⟨
    AOpt (asO x) (K := ⟨fun id => AOpt (obA M id) (K := ⟨fun ob => (ob.mp = none ∧ ob.k = te.size ∧ 0 ≤ i ∧ i < ob.xs.length) ∧ K.k (.q id ob.k i.toNat 0)⟩)⟩)⟩)⟩)⟩)
   (L := ⟨AOpt ti.arr (K := ⟨fun ne => AOpt (tiOf P ne.2) (K := ⟨fun te => (0 ≤ i ∧ i < ne.1) ∧
    AAlt (asP x) (K := ⟨fun yo => K.k (.p yo.1 (yo.2 + i.toNat * te.size))⟩) (L := ⟨AOpt (asQ x) (K := ⟨fun q => K.k (.q q.1 q.2.1 q.2.2.1 (q.2.2.2 + i.toNat * te.size))⟩)⟩)⟩)⟩)⟩)⟩)

theorem idxC_idxA {P : Program} {t : TypeId} {M : Mem} {x : AV} {i : Int} {K : HK (AV → Prop)} (h : idxC P t M x i (K := K)) : idxA P t M x i (K := K) := by
  obtain ⟨ti, hti, h⟩ := AOpt_elim h
  unfold idxA
  simp only [hti]
  rcases AAlt_elim h with ⟨e, he, h⟩ | ⟨he, h⟩
  · obtain ⟨te, hte, h⟩ := AOpt_elim h
    simp only [he, hte]
    rcases AAlt_elim h with ⟨⟨k, xs⟩, hs, h⟩ | ⟨_, h⟩
    · rw [asS_eq hs]; exact h
    · obtain ⟨id, ho, h⟩ := AOpt_elim h
      obtain ⟨ob, hob, h⟩ := AOpt_elim h
      rw [asO_eq ho]
      simp only [obA_eq hob]
      exact h
  · obtain ⟨⟨n, e⟩, ha, h⟩ := AOpt_elim h
    obtain ⟨te, hte, h1, h⟩ := AOpt_elim h
    simp only [he, ha, hte]
    rcases AAlt_elim h with ⟨⟨y, off⟩, hp, h⟩ | ⟨_, h⟩
    · rw [asP_eq hp]; exact ⟨h1, h⟩
    · obtain ⟨⟨id, k, j, off⟩, hq, h⟩ := AOpt_elim h
      rw [asQ_eq hq]; exact ⟨h1, h⟩

def oneOf : List Value → Option Value | [z] => some z | _ => none
theorem oneOf_eq {l : List Value} {z : Value} (h : oneOf l = some z) : l = [z] := by unfold oneOf at h; split at h <;> simp_all

def putC (P : Program) (t : TypeId) (m x y : AV) (M : Mem) [K : HK Kont] : Prop :=
  AOpt (mapOf P t) (K := ⟨fun ke => AOpt (asO m) (K := ⟨fun id => AOpt (valOf x) (K := ⟨fun kv => AOpt (obA M id) (K := ⟨fun ob => AOpt ob.mp (K := ⟨fun ks => ob.k = 0 ∧
    AFind P ke.1 ks kv (K := ⟨fun j => K.k .bot [] (M.set id (some { ob with xs := ob.xs.set j y }))⟩) (L := ⟨K.k .bot [] (M.set id (some { ob with mp := some (ks ++ [kv]), xs := ob.xs ++ [y] }))⟩)⟩)⟩)⟩)⟩)⟩)

theorem putC_mapPut {P : Program} {t : TypeId} {m x y : AV} {M : Mem} {K : HK Kont} (h : putC P t m x y M (K := K)) : mapPut P t m x y M (K := K) := by
  obtain ⟨ke, h1, h⟩ := AOpt_elim h
  obtain ⟨id, h2, h⟩ := AOpt_elim h
  obtain ⟨kv, h3, h⟩ := AOpt_elim h
  obtain ⟨ob, h4, h⟩ := AOpt_elim h
  obtain ⟨ks, h5, h0, h⟩ := AOpt_elim h
  exact ⟨ke, id, kv, ob, ks, h1, asO_eq h2, h3, obA_eq h4, h5, h0, h⟩

def callC (P : Program) (c : Call) (ρ : Operand → AV) (M : Mem) [K : HK Kont] : Prop :=
  match c.callee with
  | .value (.func f) => ACall P f (c.args.toList.map ρ) M (K := ⟨fun r M' => K.k r [] M'⟩)
  | .value x => AOpt (asF (ρ x)) (K := ⟨fun fc => ACall P fc.1 (c.args.toList.map ρ ++ fc.2) M (K := ⟨fun r M' => K.k r [] M'⟩)⟩)
  | .builtin .len => (match c.args.toList, c.argTypes.toList with
    | [x], [t] => AOpt (tiOf P t) (K := ⟨fun ti => AAlt (lenA M (ρ x)) (K := ⟨fun n => ti.elem.isSome = true ∧ K.k (I n) [] M⟩) (L := ⟨AOpt (mapOf P t) (K := ⟨fun _ => AOpt (lenM M (ρ x)) (K := ⟨fun n => K.k (I n) [] M⟩)⟩)⟩)⟩)
    | _, _ => False)
  | .builtin .min => (match c.args.toList with
    | [x, y] => AOpt (minmaxA false (ρ x) (ρ y)) (K := ⟨fun r => K.k r [] M⟩)
    | _ => False)
  | .builtin .max => (match c.args.toList with
    | [x, y] => AOpt (minmaxA true (ρ x) (ρ y)) (K := ⟨fun r => K.k r [] M⟩)
    | _ => False)
  | .builtin .append => (match c.args.toList, c.argTypes.toList with
    | [x, y], [t, t'] => AOpt (tiOf P t) (K := ⟨fun ti => AOpt ti.elem (K := ⟨fun e => AOpt (tiOf P e) (K := ⟨fun te => AOpt (asO (ρ x)) (K := ⟨fun i => AOpt (obA M i) (K := ⟨fun ob =>
        AAlt (asS (ρ y)) (K := ⟨fun kys => (t = t' ∧ ob.mp = none ∧ ob.ty = e ∧ ob.k = te.size ∧ kys.1 = te.size ∧ 0 < te.size ∧ ob.xs.length + kys.2.length ≤ 1000000 ∧ te.bytes ≤ 1000) ∧
            K.k (.o i) [i] ((M.kill [i]).set i (some { ob with xs := AV.killL [i] ob.xs ++ kys.2 }))⟩) (L := ⟨
        AAlt (asN (ρ y)) (K := ⟨fun _ => (t = t' ∧ ob.mp = none) ∧ K.k (.o i) [] M⟩) (L := ⟨
        AOpt (asO (ρ y)) (K := ⟨fun j => AOpt (obA M j) (K := ⟨fun ob' => (i ≠ j ∧ t = t' ∧ ob.mp = none ∧ ob'.mp = none ∧ ob.ty = e ∧ ob.k = te.size ∧ ob'.k = te.size ∧ 0 < te.size ∧ ob.xs.length + ob'.xs.length ≤ 1000000 ∧ te.bytes ≤ 1000) ∧
            K.k (.o i) [i] ((M.kill [i]).set i (some { ob with xs := AV.killL [i] ob.xs ++ AV.killL [i] ob'.xs }))⟩)⟩)⟩)⟩)⟩)⟩)⟩)⟩)⟩)
    | _, _ => False)
  | _ => False

theorem callC_callA {P : Program} {c : Call} {ρ : Operand → AV} {M : Mem} {K : HK Kont} (h : callC P c ρ M (K := K)) : callA P c ρ M (K := K) := by
  obtain ⟨callee, args, argTypes⟩ := c
  unfold callC at h
  unfold callA
  split at h
  · rename_i f hc
    simp only at hc
    subst hc
    exact h
  · rename_i x hne hc
    simp only at hc
    subst hc
    obtain ⟨⟨f, cap⟩, hf, h⟩ := AOpt_elim h
    cases x with
    | func f => exact (hne f rfl).elim
    | tmp t => simp only [asF_eq hf]; exact h
    | const t => simp only [asF_eq hf]; exact h
    | global t => simp only [asF_eq hf]; exact h
  · rename_i hc
    simp only at hc
    subst hc
    simp only
    split at h
    · rename_i x t hx ht
      obtain ⟨ti, hti, h⟩ := AOpt_elim h
      simp only at hx ht
      rcases AAlt_elim h with ⟨n, hn, h⟩ | ⟨hn, h⟩
      · simp only [hx, ht, hti, hn]
        exact h
      · obtain ⟨ke, hke, h⟩ := AOpt_elim h
        obtain ⟨n, hn', h⟩ := AOpt_elim h
        simp only [hx, ht, hti, hn, hke, hn']
        exact h
    · exact h.elim
  · rename_i hc
    simp only at hc
    subst hc
    simp only
    split at h
    · rename_i x y hx
      obtain ⟨r, hr, h⟩ := AOpt_elim h
      simp only at hx
      simp only [hx, hr]
      exact h
    · exact h.elim
  · rename_i hc
    simp only at hc
    subst hc
    simp only
    split at h
    · rename_i x y hx
      obtain ⟨r, hr, h⟩ := AOpt_elim h
      simp only at hx
      simp only [hx, hr]
      exact h
    · exact h.elim
  · rename_i hc
    simp only at hc
    subst hc
    simp only
    split at h
    · rename_i x y t t' hx ht
      obtain ⟨ti, hti, h⟩ := AOpt_elim h
      obtain ⟨e, he, h⟩ := AOpt_elim h
      obtain ⟨te, hte, h⟩ := AOpt_elim h
      obtain ⟨i, hi, h⟩ := AOpt_elim h
      obtain ⟨ob, hob, h⟩ := AOpt_elim h
      simp only at hx ht
      simp only [hx, ht, hti, he, hte, asO_eq hi]
      rcases AAlt_elim h with ⟨⟨k, ys⟩, hs, h⟩ | ⟨_, h⟩
      · simp only [asS_eq hs, obA_eq hob]; exact h
      · rcases AAlt_elim h with ⟨u, hn, h⟩ | ⟨_, h⟩
        · simp only [asN_eq hn, obA_eq hob]; exact h
        · obtain ⟨j, hj, h⟩ := AOpt_elim h
          obtain ⟨ob', hob', h⟩ := AOpt_elim h
          simp only [asO_eq hj, obA_eq hob, obA_eq hob']; exact h
    · exact h.elim
  · exact h.elim

end Aw
end Go.Proofs.Ytkolpijhgcijbaa
