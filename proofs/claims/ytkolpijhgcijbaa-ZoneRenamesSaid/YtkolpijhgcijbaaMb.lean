/-
  Several texts in one: AwK, AwL, AwG, AwH, AwI, AwJ, AwM, AwN, AwO, AwP, AwQ, AwR, AwS, AwU.
-/
import Derived.Test.YtkolpijhgcijbaaMa
import Derived.Scope
set_option linter.unusedSimpArgs false
set_option linter.unusedVariables false
namespace Go.Proofs.Ytkolpijhgcijbaa
namespace Aw
open Go.RowKit

def AOpt {α : Type} (x : Option α) [K : HK (α → Prop)] : Prop := match x with | some a => K.k a | none => False
def AAlt {α : Type} (x : Option α) [K : HK (α → Prop)] [L : HK Prop] : Prop := match x with | some a => K.k a | none => L.k
theorem AOpt_some {α : Type} (a : α) (K : HK (α → Prop)) : @AOpt α (some a) K = K.k a := rfl
theorem AAlt_some {α : Type} (a : α) (K : HK (α → Prop)) (L : HK Prop) : @AAlt α (some a) K L = K.k a := rfl
theorem AAlt_none {α : Type} (K : HK (α → Prop)) (L : HK Prop) : @AAlt α none K L = L.k := rfl
/-- a condition, and what comes next. -/
def ANeed (p : Prop) [K : HK Prop] : Prop := p ∧ K.k

def asP : AV → Option (AV × Nat) | .p y off => some (y, off) | _ => none
def asQ : AV → Option (Nat × Nat × Nat × Nat) | .q i k j off => some (i, k, j, off) | _ => none
def asO : AV → Option Nat | .o i => some i | _ => none
def asS : AV → Option (Nat × List AV) | .s k xs => some (k, xs) | _ => none
def asT : AV → Option (List AV) | .t xs => some xs | _ => none
def asG : AV → Option (List AV) | .g xs => some xs | _ => none
def asF : AV → Option (FuncId × List AV) | .f (.func f) cap => some (f, cap) | _ => none
def asB : AV → Option Bool | .v (.bool b) => some b | _ => none
def asI : AV → Option (IntKind × Int) | .v (.int k n) => some (k, n) | _ => none
def asN : AV → Option Unit | .v (.slice none 0 0) => some () | _ => none
def asE : AV → Option Unit | .v (.slice none _ _) => some () | _ => none
/-- an object. -/
def obA (M : Mem) (i : Nat) : Option Ob := match M[i]? with | some (some ob) => some ob | _ => none

/-- a number's operation. -/
def arithC (op : BinOp) (a b : Int) [K : HK (AV → Prop)] : Prop :=
  match op with
  | .add => lim (a + b) ∧ K.k (I (a + b))
  | .sub => lim (a - b) ∧ K.k (I (a - b))
  | .mul => lim (a * b) ∧ K.k (I (a * b))
  | .quo => (b ≠ 0 ∧ lim (a.tdiv b)) ∧ K.k (I (a.tdiv b))
  | .rem => b ≠ 0 ∧ K.k (I (a.tmod b))
  | .shl => (0 ≤ b ∧ b ≤ 62 ∧ lim (a * 2 ^ b.toNat)) ∧ K.k (I (a * 2 ^ b.toNat))
  | .shr => (0 ≤ b ∧ b ≤ 62) ∧ K.k (I (a / 2 ^ b.toNat))
  | .and => (0 ≤ a ∧ 0 ≤ b ∧ lim a ∧ lim b) ∧ K.k (I ((a.toNat &&& b.toNat : Nat) : Int))
  | .or => (0 ≤ a ∧ 0 ≤ b ∧ lim a ∧ lim b) ∧ K.k (I ((a.toNat ||| b.toNat : Nat) : Int))
  | _ => False

def cmpC (op : BinOp) (a b : Int) : Option Bool :=
  match op with
  | .lss => some (decide (a < b))
  | .leq => some (decide (a ≤ b))
  | .gtr => some (decide (b < a))
  | .geq => some (decide (b ≤ a))
  | .eql => some (decide (a = b))
  | .neq => some (!decide (a = b))
  | _ => none

/-- '==' and '!='. -/
def eqC (op : BinOp) (r : Bool) : Option Bool := match op with | .eql => some r | .neq => some (!r) | _ => none

def binC (P : Program) (op : BinOp) (ty : TypeId) (x y : AV) [K : HK (AV → Prop)] : Prop :=
  AAlt (asI x) (K := ⟨fun kx => AOpt (asI y) (K := ⟨fun ky => AAlt (cmpC op kx.2 ky.2) (K := ⟨fun b => kx.1 = ky.1 ∧ K.k (B b)⟩) (L := ⟨(kx.1 = .i64 ∧ ky.1 = (match op with | .shl => ky.1 | .shr => ky.1 | _ => .i64)) ∧ arithC op kx.2 ky.2 (K := K)⟩)⟩)⟩) (L := ⟨
  AAlt (asB x) (K := ⟨fun a => AOpt (asB y) (K := ⟨fun b => AOpt (tiOf P ty) (K := ⟨fun ti => ti.bool = true ∧ AOpt (eqC op (a == b)) (K := ⟨fun r => K.k (B r)⟩)⟩)⟩)⟩) (L := ⟨
  AAlt (asG x) (K := ⟨fun xs => AOpt (asG y) (K := ⟨fun ys => AOpt (tiOf P ty) (K := ⟨fun ti => AOpt (ints xs) (K := ⟨fun as => AOpt (ints ys) (K := ⟨fun bs =>
    (ti.eqn = true ∧ as.length = ti.flds.length ∧ bs.length = ti.flds.length) ∧ AOpt (eqC op (decide (as = bs))) (K := ⟨fun r => K.k (B r)⟩)⟩)⟩)⟩)⟩)⟩) (L := ⟨
  AOpt (asS x) (K := ⟨fun kxs => AOpt (asE y) (K := ⟨fun _ => AOpt (tiOf P ty) (K := ⟨fun ti => (op = .eql ∧ ti.elem.isSome = true) ∧ ∀ b : Bool, (b = true → kxs.2 = []) → K.k (B b)⟩)⟩)⟩)⟩)⟩)⟩)

theorem binC_binA {P : Program} {op : BinOp} {ty : TypeId} {x y : AV} {K : HK (AV → Prop)} (h : binC P op ty x y (K := K)) : binA P op ty x y (K := K) := by
  unfold binC at h
  cases hx : asI x with
  | some kx =>
    obtain ⟨k, a⟩ := kx
    have ex : x = .v (.int k a) := by unfold asI at hx; split at hx <;> simp_all
    subst ex
    simp only [hx, AAlt_some] at h
    cases hy : asI y with
    | some ky =>
      obtain ⟨k', b⟩ := ky
      have ey : y = .v (.int k' b) := by unfold asI at hy; split at hy <;> simp_all
      subst ey
      simp only [hy, AOpt_some] at h
      cases op <;> simp only [cmpC, AAlt_some, AAlt_none, arithC] at h <;> first
        | exact h
        | (obtain ⟨⟨rfl, rfl⟩, h⟩ := h; exact h)
        | (obtain ⟨⟨rfl, _⟩, h⟩ := h; exact h)
        | exact h.2.elim
    | none => rw [hy] at h; exact h.elim
  | none =>
    simp only [hx, AAlt_none] at h
    cases hb : asB x with
    | some a =>
      have ex : x = .v (.bool a) := by unfold asB at hb; split at hb <;> simp_all
      subst ex
      simp only [hb, AAlt_some] at h
      cases hy : asB y with
      | some b =>
        have ey : y = .v (.bool b) := by unfold asB at hy; split at hy <;> simp_all
        subst ey
        simp only [hy, AOpt_some] at h
        cases ht : tiOf P ty with
        | none => rw [ht] at h; exact h.elim
        | some ti =>
          rw [ht] at h
          simp only [AOpt_some] at h
          obtain ⟨h1, h2⟩ := h
          cases op <;> first | exact h2.elim | (simp only [binA, ht]; exact ⟨h1, h2⟩)
      | none => rw [hy] at h; exact h.elim
    | none =>
      simp only [hb, AAlt_none] at h
      cases hg : asG x with
      | some xs =>
        have ex : x = .g xs := by unfold asG at hg; split at hg <;> simp_all
        subst ex
        simp only [hg, AAlt_some] at h
        cases hy : asG y with
        | some ys =>
          have ey : y = .g ys := by unfold asG at hy; split at hy <;> simp_all
          subst ey
          simp only [hy, AOpt_some] at h
          cases ht : tiOf P ty with
          | none => rw [ht] at h; exact h.elim
          | some ti =>
            rw [ht] at h
            simp only [AOpt_some] at h
            cases ha : ints xs with
            | none => rw [ha] at h; exact h.elim
            | some as =>
              rw [ha] at h
              simp only [AOpt_some] at h
              cases hbs : ints ys with
              | none => rw [hbs] at h; exact h.elim
              | some bs =>
                rw [hbs] at h
                simp only [AOpt_some] at h
                obtain ⟨h1, h2⟩ := h
                cases op <;> first | exact h2.elim | (simp only [binA, ht, ha, hbs]; exact ⟨h1, h2⟩)
        | none => rw [hy] at h; exact h.elim
      | none =>
        simp only [hg, AAlt_none] at h
        cases hs : asS x with
        | none => rw [hs] at h; exact h.elim
        | some kxs =>
          obtain ⟨k, xs⟩ := kxs
          have ex : x = .s k xs := by unfold asS at hs; split at hs <;> simp_all
          subst ex
          simp only [hs, AOpt_some] at h
          cases hy : asE y with
          | none => rw [hy] at h; exact h.elim
          | some u =>
            rw [hy] at h
            simp only [AOpt_some] at h
            cases ht : tiOf P ty with
            | none => rw [ht] at h; exact h.elim
            | some ti =>
              rw [ht] at h
              simp only [AOpt_some] at h
              obtain ⟨⟨rfl, h1⟩, h2⟩ := h
              unfold asE at hy
              split at hy
              · simp only [binA, ht]; exact ⟨h1, h2⟩
              · cases hy

theorem AOpt_elim {α : Type} {x : Option α} {K : HK (α → Prop)} (h : @AOpt α x K) : ∃ a, x = some a ∧ K.k a := by
  cases x with
  | none => exact h.elim
  | some a => exact ⟨a, rfl, h⟩
theorem AAlt_elim {α : Type} {x : Option α} {K : HK (α → Prop)} {L : HK Prop} (h : @AAlt α x K L) : (∃ a, x = some a ∧ K.k a) ∨ (x = none ∧ L.k) := by
  cases x with
  | none => exact .inr ⟨rfl, h⟩
  | some a => exact .inl ⟨a, rfl, h⟩

theorem asP_eq {a y : AV} {off : Nat} (h : asP a = some (y, off)) : a = .p y off := by unfold asP at h; split at h <;> simp_all
theorem asQ_eq {a : AV} {i k j off : Nat} (h : asQ a = some (i, k, j, off)) : a = .q i k j off := by unfold asQ at h; split at h <;> simp_all
theorem asO_eq {a : AV} {i : Nat} (h : asO a = some i) : a = .o i := by unfold asO at h; split at h <;> simp_all
theorem asS_eq {a : AV} {k : Nat} {xs : List AV} (h : asS a = some (k, xs)) : a = .s k xs := by unfold asS at h; split at h <;> simp_all
theorem asT_eq {a : AV} {xs : List AV} (h : asT a = some xs) : a = .t xs := by unfold asT at h; split at h <;> simp_all
theorem asG_eq {a : AV} {xs : List AV} (h : asG a = some xs) : a = .g xs := by unfold asG at h; split at h <;> simp_all
theorem asF_eq {a : AV} {f : FuncId} {cap : List AV} (h : asF a = some (f, cap)) : a = .f (.func f) cap := by unfold asF at h; split at h <;> simp_all
theorem asB_eq {a : AV} {b : Bool} (h : asB a = some b) : a = .v (.bool b) := by unfold asB at h; split at h <;> simp_all
theorem asI_eq {a : AV} {k : IntKind} {n : Int} (h : asI a = some (k, n)) : a = .v (.int k n) := by unfold asI at h; split at h <;> simp_all
theorem asN_eq {a : AV} {u : Unit} (h : asN a = some u) : a = .v (.slice none 0 0) := by unfold asN at h; split at h <;> simp_all
theorem obA_eq {M : Mem} {i : Nat} {ob : Ob} (h : obA M i = some ob) : M[i]? = some (some ob) := by unfold obA at h; split at h <;> simp_all

def idxC (P : Program) (t : TypeId) (M : Mem) (x : AV) (i : Int) [K : HK (AV → Prop)] : Prop :=
  AOpt (tiOf P t) (K := ⟨fun ti => AAlt ti.elem (K := ⟨fun e => AOpt (tiOf P e) (K := ⟨fun te =>
    AAlt (asS x) (K := ⟨fun kxs => (kxs.1 = te.size ∧ 0 ≤ i) ∧ AGet kxs.2 i.toNat (K := ⟨fun x => K.k (.p x 0)⟩)⟩) (L := ⟨
    AOpt (asO x) (K := ⟨fun id => AOpt (obA M id) (K := ⟨fun ob => (ob.mp = none ∧ ob.k = te.size ∧ 0 ≤ i ∧ i < ob.xs.length) ∧ K.k (.q id ob.k i.toNat 0)⟩)⟩)⟩)⟩)⟩)
   (L := ⟨AOpt ti.arr (K := ⟨fun ne => AOpt (tiOf P ne.2) (K := ⟨fun te => (0 ≤ i ∧ i < ne.1) ∧
    AAlt (asP x) (K := ⟨fun yo => K.k (.p yo.1 (yo.2 + i.toNat * te.size))⟩) (L := ⟨AOpt (asQ x) (K := ⟨fun q => K.k (.q q.1 q.2.1 q.2.2.1 (q.2.2.2 + i.toNat * te.size))⟩)⟩)⟩)⟩)⟩)⟩)

theorem idxC_idxA {P : Program} {t : TypeId} {M : Mem} {x : AV} {i : Int} {K : HK (AV → Prop)} (h : idxC P t M x i (K := K)) : idxA P t M x i (K := K) := by
  obtain ⟨ti, hti, h⟩ := AOpt_elim h
  unfold idxA
  simp only [hti]
  rcases AAlt_elim h with ⟨e, he, h⟩ | ⟨he, h⟩
  · obtain ⟨te, hte, h⟩ := AOpt_elim h
    simp only [he, hte]
    rcases AAlt_elim h with ⟨⟨k, xs⟩, hs, h⟩ | ⟨_, h⟩
    · rw [asS_eq hs]; exact h
    · obtain ⟨id, ho, h⟩ := AOpt_elim h
      obtain ⟨ob, hob, h⟩ := AOpt_elim h
      rw [asO_eq ho]
      simp only [obA_eq hob]
      exact h
  · obtain ⟨⟨n, e⟩, ha, h⟩ := AOpt_elim h
    obtain ⟨te, hte, h1, h⟩ := AOpt_elim h
    simp only [he, ha, hte]
    rcases AAlt_elim h with ⟨⟨y, off⟩, hp, h⟩ | ⟨_, h⟩
    · rw [asP_eq hp]; exact ⟨h1, h⟩
    · obtain ⟨⟨id, k, j, off⟩, hq, h⟩ := AOpt_elim h
      rw [asQ_eq hq]; exact ⟨h1, h⟩

def oneOf : List Value → Option Value | [z] => some z | _ => none
theorem oneOf_eq {l : List Value} {z : Value} (h : oneOf l = some z) : l = [z] := by unfold oneOf at h; split at h <;> simp_all

def putC (P : Program) (t : TypeId) (m x y : AV) (M : Mem) [K : HK Kont] : Prop :=
  AOpt (mapOf P t) (K := ⟨fun ke => AOpt (asO m) (K := ⟨fun id => AOpt (valOf x) (K := ⟨fun kv => AOpt (obA M id) (K := ⟨fun ob => AOpt ob.mp (K := ⟨fun ks => ob.k = 0 ∧
    AFind P ke.1 ks kv (K := ⟨fun j => K.k .bot [] (M.set id (some { ob with xs := ob.xs.set j y }))⟩) (L := ⟨K.k .bot [] (M.set id (some { ob with mp := some (ks ++ [kv]), xs := ob.xs ++ [y] }))⟩)⟩)⟩)⟩)⟩)⟩)

theorem putC_mapPut {P : Program} {t : TypeId} {m x y : AV} {M : Mem} {K : HK Kont} (h : putC P t m x y M (K := K)) : mapPut P t m x y M (K := K) := by
  obtain ⟨ke, h1, h⟩ := AOpt_elim h
  obtain ⟨id, h2, h⟩ := AOpt_elim h
  obtain ⟨kv, h3, h⟩ := AOpt_elim h
  obtain ⟨ob, h4, h⟩ := AOpt_elim h
  obtain ⟨ks, h5, h0, h⟩ := AOpt_elim h
  exact ⟨ke, id, kv, ob, ks, h1, asO_eq h2, h3, obA_eq h4, h5, h0, h⟩

def callC (P : Program) (c : Call) (ρ : Operand → AV) (M : Mem) [K : HK Kont] : Prop :=
  match c.callee with
  | .value (.func f) => ACall P f (c.args.toList.map ρ) M (K := ⟨fun r M' => K.k r [] M'⟩)
  | .value x => AOpt (asF (ρ x)) (K := ⟨fun fc => ACall P fc.1 (c.args.toList.map ρ ++ fc.2) M (K := ⟨fun r M' => K.k r [] M'⟩)⟩)
  | .builtin .len => (match c.args.toList, c.argTypes.toList with
    | [x], [t] => AOpt (tiOf P t) (K := ⟨fun ti => AAlt (lenA M (ρ x)) (K := ⟨fun n => ti.elem.isSome = true ∧ K.k (I n) [] M⟩) (L := ⟨AOpt (mapOf P t) (K := ⟨fun _ => AOpt (lenM M (ρ x)) (K := ⟨fun n => K.k (I n) [] M⟩)⟩)⟩)⟩)
    | _, _ => False)
  | .builtin .min => (match c.args.toList with
    | [x, y] => AOpt (minmaxA false (ρ x) (ρ y)) (K := ⟨fun r => K.k r [] M⟩)
    | _ => False)
  | .builtin .max => (match c.args.toList with
    | [x, y] => AOpt (minmaxA true (ρ x) (ρ y)) (K := ⟨fun r => K.k r [] M⟩)
    | _ => False)
  | .builtin .append => (match c.args.toList, c.argTypes.toList with
    | [x, y], [t, t'] => AOpt (tiOf P t) (K := ⟨fun ti => AOpt ti.elem (K := ⟨fun e => AOpt (tiOf P e) (K := ⟨fun te => AOpt (asO (ρ x)) (K := ⟨fun i => AOpt (obA M i) (K := ⟨fun ob =>
        AAlt (asS (ρ y)) (K := ⟨fun kys => (t = t' ∧ ob.mp = none ∧ ob.ty = e ∧ ob.k = te.size ∧ kys.1 = te.size ∧ 0 < te.size ∧ ob.xs.length + kys.2.length ≤ 1000000 ∧ te.bytes ≤ 1000) ∧
            K.k (.o i) [i] ((M.kill [i]).set i (some { ob with xs := AV.killL [i] ob.xs ++ kys.2 }))⟩) (L := ⟨
        AAlt (asN (ρ y)) (K := ⟨fun _ => (t = t' ∧ ob.mp = none) ∧ K.k (.o i) [] M⟩) (L := ⟨
        AOpt (asO (ρ y)) (K := ⟨fun j => AOpt (obA M j) (K := ⟨fun ob' => (i ≠ j ∧ t = t' ∧ ob.mp = none ∧ ob'.mp = none ∧ ob.ty = e ∧ ob.k = te.size ∧ ob'.k = te.size ∧ 0 < te.size ∧ ob.xs.length + ob'.xs.length ≤ 1000000 ∧ te.bytes ≤ 1000) ∧
            K.k (.o i) [i] ((M.kill [i]).set i (some { ob with xs := AV.killL [i] ob.xs ++ AV.killL [i] ob'.xs }))⟩)⟩)⟩)⟩)⟩)⟩)⟩)⟩)⟩)
    | _, _ => False)
  | _ => False

theorem callC_callA {P : Program} {c : Call} {ρ : Operand → AV} {M : Mem} {K : HK Kont} (h : callC P c ρ M (K := K)) : callA P c ρ M (K := K) := by
  obtain ⟨callee, args, argTypes⟩ := c
  unfold callC at h
  unfold callA
  split at h
  · rename_i f hc
    simp only at hc
    subst hc
    exact h
  · rename_i x hne hc
    simp only at hc
    subst hc
    obtain ⟨⟨f, cap⟩, hf, h⟩ := AOpt_elim h
    cases x with
    | func f => exact (hne f rfl).elim
    | tmp t => simp only [asF_eq hf]; exact h
    | const t => simp only [asF_eq hf]; exact h
    | global t => simp only [asF_eq hf]; exact h
  · rename_i hc
    simp only at hc
    subst hc
    simp only
    split at h
    · rename_i x t hx ht
      obtain ⟨ti, hti, h⟩ := AOpt_elim h
      simp only at hx ht
      rcases AAlt_elim h with ⟨n, hn, h⟩ | ⟨hn, h⟩
      · simp only [hx, ht, hti, hn]
        exact h
      · obtain ⟨ke, hke, h⟩ := AOpt_elim h
        obtain ⟨n, hn', h⟩ := AOpt_elim h
        simp only [hx, ht, hti, hn, hke, hn']
        exact h
    · exact h.elim
  · rename_i hc
    simp only at hc
    subst hc
    simp only
    split at h
    · rename_i x y hx
      obtain ⟨r, hr, h⟩ := AOpt_elim h
      simp only at hx
      simp only [hx, hr]
      exact h
    · exact h.elim
  · rename_i hc
    simp only at hc
    subst hc
    simp only
    split at h
    · rename_i x y hx
      obtain ⟨r, hr, h⟩ := AOpt_elim h
      simp only at hx
      simp only [hx, hr]
      exact h
    · exact h.elim
  · rename_i hc
    simp only at hc
    subst hc
    simp only
    split at h
    · rename_i x y t t' hx ht
      obtain ⟨ti, hti, h⟩ := AOpt_elim h
      obtain ⟨e, he, h⟩ := AOpt_elim h
      obtain ⟨te, hte, h⟩ := AOpt_elim h
      obtain ⟨i, hi, h⟩ := AOpt_elim h
      obtain ⟨ob, hob, h⟩ := AOpt_elim h
      simp only at hx ht
      simp only [hx, ht, hti, he, hte, asO_eq hi]
      rcases AAlt_elim h with ⟨⟨k, ys⟩, hs, h⟩ | ⟨_, h⟩
      · simp only [asS_eq hs, obA_eq hob]; exact h
      · rcases AAlt_elim h with ⟨u, hn, h⟩ | ⟨_, h⟩
        · simp only [asN_eq hn, obA_eq hob]; exact h
        · obtain ⟨j, hj, h⟩ := AOpt_elim h
          obtain ⟨ob', hob', h⟩ := AOpt_elim h
          simp only [asO_eq hj, obA_eq hob, obA_eq hob']; exact h
    · exact h.elim
  · exact h.elim

end Aw
end Go.Proofs.Ytkolpijhgcijbaa

namespace Go.Proofs.Ytkolpijhgcijbaa
namespace Aw
open Go.RowKit

def coreC (P : Program) (own : List Nat) (o : Oper) (ρ : Operand → AV) (M : Mem) [K : HK Kont] : Prop :=
  match o.op with
  | .move x => K.k (ρ x) [] M
  | .assign x => AAlt (if own.contains (o.dst.getD 0) then asN (ρ x) else none) (K := ⟨fun _ => AOpt (tiOf P o.type) (K := ⟨fun ti => AOpt ti.elem (K := ⟨fun e => AOpt (tiOf P e) (K := ⟨fun te => K.k (.o M.length) [] (newRow M e te.size [])⟩)⟩)⟩)⟩) (L := ⟨K.k (ρ x) [] M⟩)
  | .pick c a b => AOpt (asB (ρ c)) (K := ⟨fun c => @ACond c ⟨K.k (ρ a) [] M⟩ ⟨K.k (ρ b) [] M⟩⟩)
  | .box t x => (ρ x).cellular = true ∧ @ACond (own.contains (o.dst.getD 0)) ⟨K.k (.q M.length (ρ x).size 0 0) [] (newRow M t (ρ x).size [ρ x])⟩ ⟨(ρ x).pure = true ∧ K.k (.p (ρ x) 0) [] M⟩
  | .alloc t => AOpt (tiOf P t) (K := ⟨fun ti => (ti.agg || ti.zero.length == 1) = true ∧ K.k (.q M.length ti.size 0 0) [] (newRow M t ti.size [mkA ti.agg (ti.zero.map .v)])⟩)
  | .load t x => AOpt (tiOf P t) (K := ⟨fun ti => AAlt (asP (ρ x)) (K := ⟨fun yo => AOpt (loadA ti yo.1 yo.2) (K := ⟨fun r => K.k r [] M⟩)⟩) (L := ⟨
      AOpt (asQ (ρ x)) (K := ⟨fun q => AOpt (obA M q.1) (K := ⟨fun ob => ob.k = q.2.1 ∧ AGet ob.xs q.2.2.1 (K := ⟨fun y => AOpt (loadA ti y q.2.2.2) (K := ⟨fun r => K.k r [] M⟩)⟩)⟩)⟩)⟩)⟩)
  | .store t x y => AOpt (tiOf P t) (K := ⟨fun ti => AOpt (asQ (ρ x)) (K := ⟨fun q => AOpt (obA M q.1) (K := ⟨fun ob => ob.k = q.2.1 ∧ AGet ob.xs q.2.2.1 (K := ⟨fun z =>
      AOpt (storeA ti z q.2.2.2 (ρ y)) (K := ⟨fun r => K.k .bot [] (M.set q.1 (some { ob with xs := ob.xs.set q.2.2.1 r }))⟩)⟩)⟩)⟩)⟩)
  | .fieldAddr t x f => AOpt (tiOf P t) (K := ⟨fun ti => AOpt ti.flds[f]? (K := ⟨fun fo => fo.2 ≠ 0 ∧ AAlt (asP (ρ x)) (K := ⟨fun yo => K.k (.p yo.1 (yo.2 + fo.1)) [] M⟩) (L := ⟨
      AOpt (asQ (ρ x)) (K := ⟨fun q => K.k (.q q.1 q.2.1 q.2.2.1 (q.2.2.2 + fo.1)) [] M⟩)⟩)⟩)⟩)
  | .indexAddr t x i => AOpt (asI (ρ i)) (K := ⟨fun n => idxC P t M (ρ x) n.2 (K := ⟨fun r => K.k r [] M⟩)⟩)
  | .binOp op ty x y _ => binC P op ty (ρ x) (ρ y) (K := ⟨fun r => K.k r [] M⟩)
  | .convert s d x => AOpt (asI (ρ x)) (K := ⟨fun n => AOpt (intOf P s) (K := ⟨fun _ => AOpt (intOf P d) (K := ⟨fun k => (k = .u64 ∧ 0 ≤ n.2 ∧ lim n.2) ∧ K.k (.v (.int .u64 n.2)) [] M⟩)⟩)⟩)
  | .unOp .not _ x => AOpt (asB (ρ x)) (K := ⟨fun b => K.k (B (!b)) [] M⟩)
  | .unOp .neg _ x => AOpt (asI (ρ x)) (K := ⟨fun n => (n.1 = .i64 ∧ lim (-n.2)) ∧ K.k (I (-n.2)) [] M⟩)
  | .build t parts => AOpt (tiOf P t) (K := ⟨fun ti => AOpt (fillA (fun i => ti.flds[i]?) (ti.zero.map .v) (parts.toList.map fun ix => (ix.1, ρ ix.2))) (K := ⟨fun cells => (ti.agg = true ∧ ti.arr = none) ∧ K.k (.g cells) [] M⟩)⟩)
  | .buildSlice t n parts => AOpt (tiOf P t) (K := ⟨fun ti => AOpt ti.elem (K := ⟨fun e => AOpt (tiOf P e) (K := ⟨fun te =>
      (0 < te.size ∧ n * te.size ≤ 16777216 ∧ parts.toList.map (·.1) = List.range n ∧ parts.toList.all (fun ix => (ρ ix.2).cellular && (ρ ix.2).flat && (ρ ix.2).size == te.size) = true) ∧
      @ACond (own.contains (o.dst.getD 0)) ⟨K.k (.o M.length) [] (newRow M e te.size (parts.toList.map fun ix => ρ ix.2))⟩ ⟨AV.pureL (parts.toList.map fun ix => ρ ix.2) = true ∧ K.k (.s te.size (parts.toList.map fun ix => ρ ix.2)) [] M⟩⟩)⟩)⟩)
  | .extract x i => AOpt (asT (ρ x)) (K := ⟨fun xs => AOpt xs[i]? (K := ⟨fun r => K.k r [] M⟩)⟩)
  | .field t x f => AOpt (tiOf P t) (K := ⟨fun ti => AOpt (asG (ρ x)) (K := ⟨fun xs => AOpt ti.flds[f]? (K := ⟨fun fo => AOpt ti.ftys[f]? (K := ⟨fun ft => AOpt (tiOf P ft) (K := ⟨fun tf => AOpt (loadA tf (.g xs) fo.1) (K := ⟨fun r => K.k r [] M⟩)⟩)⟩)⟩)⟩)⟩)
  | .slice t x lo hi none => AOpt (tiOf P t) (K := ⟨fun ti => AOpt (asS (ρ x)) (K := ⟨fun kxs => AOpt (bndA ρ lo) (K := ⟨fun lo => AOpt (bndA ρ hi) (K := ⟨fun hi => AOpt ti.elem (K := ⟨fun e => AOpt (tiOf P e) (K := ⟨fun te =>
      (kxs.1 = te.size ∧ 0 ≤ lo.getD 0 ∧ lo.getD 0 ≤ hi.getD kxs.2.length ∧ hi.getD kxs.2.length ≤ kxs.2.length) ∧ K.k (.s kxs.1 ((kxs.2.take (hi.getD kxs.2.length).toNat).drop (lo.getD 0).toNat)) [] M⟩)⟩)⟩)⟩)⟩)⟩)
  | .makeFunc fn first cap => (first.size = 0 ∧ (cap.toList.all fun x => (ρ x).cellular && (ρ x).single) = true) ∧ K.k (.f fn (cap.toList.map ρ)) [] M
  | .nilCheck x => AAlt (asP (ρ x)) (K := ⟨fun yo => K.k (.p yo.1 yo.2) [] M⟩) (L := ⟨AOpt (asQ (ρ x)) (K := ⟨fun q => K.k (.q q.1 q.2.1 q.2.2.1 q.2.2.2) [] M⟩)⟩)
  | .makeMap t none => (mapOf P t).isSome = true ∧ K.k (.o M.length) [] (M ++ [some ⟨some [], t, 0, []⟩])
  | .lookup t m x ok => AOpt (mapOf P t) (K := ⟨fun ke => AOpt (asO (ρ m)) (K := ⟨fun id => AOpt (valOf (ρ x)) (K := ⟨fun kv => AOpt (obA M id) (K := ⟨fun ob => AOpt ob.mp (K := ⟨fun ks => AOpt (zeroA P ke.2) (K := ⟨fun z => ob.k = 0 ∧
      AFind P ke.1 ks kv (K := ⟨fun j => AGet ob.xs j (K := ⟨fun y => K.k (if ok then .t [y, B true] else y) [] M⟩)⟩) (L := ⟨K.k (if ok then .t [z, B false] else z) [] M⟩)⟩)⟩)⟩)⟩)⟩)⟩)
  | .mapUpdate t m x y => putC P t (ρ m) (ρ x) (ρ y) M (K := K)
  | .insert t m x y => putC P t (ρ m) (ρ x) (ρ y) M (K := K)
  | .makeSlice t l c => AOpt (tiOf P t) (K := ⟨fun ti => AOpt ti.elem (K := ⟨fun e => AOpt (tiOf P e) (K := ⟨fun te => AOpt (oneOf te.zero) (K := ⟨fun z => AOpt (asI (ρ l)) (K := ⟨fun kn => AOpt (asI (ρ c)) (K := ⟨fun kn' =>
      (kn'.2 = kn.2 ∧ te.agg = false ∧ 0 ≤ kn.2 ∧ kn.2 ≤ 1000000 ∧ te.size = 1 ∧ te.bytes ≤ 1000) ∧ K.k (.o M.length) [] (newRow M e 1 (List.replicate kn.2.toNat (.v z)))⟩)⟩)⟩)⟩)⟩)⟩)
  | .call c => callC P c ρ M (K := K)
  | _ => False

theorem coreC_core {P : Program} {own : List Nat} {o : Oper} {ρ : Operand → AV} {M : Mem} {K : HK Kont} (h : coreC P own o ρ M (K := K)) : core P own o ρ M (K := K) := by
  obtain ⟨dst, op, ty0, pos, aft, gd⟩ := o
  unfold coreC at h
  unfold core
  dsimp only at h ⊢
  split at h
  · exact h
  · dsimp only
    rcases AAlt_elim h with ⟨u, hc, h⟩ | ⟨hc, h⟩
    · obtain ⟨ti, hti, h⟩ := AOpt_elim h
      obtain ⟨e, he, h⟩ := AOpt_elim h
      obtain ⟨te, hte, h⟩ := AOpt_elim h
      split at hc
      · rename_i hown
        rw [asN_eq hc, hown]
        simp only [hti, he, hte]
        exact h
      · cases hc
    · split
      · rename_i hx hown
        rw [hown] at hc
        rw [hx] at hc
        simp [asN] at hc
      · exact h
  · obtain ⟨b, hb, h⟩ := AOpt_elim h
    simp only [asB_eq hb]
    exact h
  · obtain ⟨h1, h2⟩ := h
    dsimp only
    refine ⟨h1, ?_⟩
    split
    · rename_i hc; exact h2.1 hc
    · rename_i hc; exact h2.2 (by simpa using hc)
  · obtain ⟨ti, hti, h⟩ := AOpt_elim h
    simp only [hti]; exact h
  · obtain ⟨ti, hti, h⟩ := AOpt_elim h
    rcases AAlt_elim h with ⟨⟨y, off⟩, hp, h⟩ | ⟨_, h⟩
    · obtain ⟨r, hr, h⟩ := AOpt_elim h
      simp only at hr
      simp only [hti, asP_eq hp, hr]; exact h
    · obtain ⟨⟨id, k, j, off⟩, hq, h⟩ := AOpt_elim h
      obtain ⟨ob, hob, h1, y, hy, h⟩ := AOpt_elim h
      obtain ⟨r, hr, h⟩ := AOpt_elim h
      simp only at hob hr h1 hy
      simp only [hti, asQ_eq hq, obA_eq hob]
      exact ⟨h1, y, hy, by simp only [hr]; exact h⟩
  · obtain ⟨ti, hti, h⟩ := AOpt_elim h
    obtain ⟨⟨id, k, j, off⟩, hq, h⟩ := AOpt_elim h
    obtain ⟨ob, hob, h1, z, hz, h⟩ := AOpt_elim h
    obtain ⟨r, hr, h⟩ := AOpt_elim h
    simp only at hob hr h1 hz
    simp only [hti, asQ_eq hq, obA_eq hob]
    exact ⟨h1, z, hz, by simp only [hr]; exact h⟩
  · obtain ⟨ti, hti, h⟩ := AOpt_elim h
    obtain ⟨⟨fo, fs⟩, hf, h1, h⟩ := AOpt_elim h
    rcases AAlt_elim h with ⟨⟨y, off⟩, hp, h⟩ | ⟨_, h⟩
    · simp only [hti, asP_eq hp, hf]; exact ⟨h1, h⟩
    · obtain ⟨⟨id, k, j, off⟩, hq, h⟩ := AOpt_elim h
      simp only [hti, asQ_eq hq, hf]; exact ⟨h1, h⟩
  · obtain ⟨⟨k, n⟩, hn, h⟩ := AOpt_elim h
    simp only [asI_eq hn]
    exact idxC_idxA h
  · exact binC_binA h
  · obtain ⟨⟨k, n⟩, hn, h⟩ := AOpt_elim h
    obtain ⟨k1, h1, h⟩ := AOpt_elim h
    obtain ⟨k2, h2, h⟩ := AOpt_elim h
    obtain ⟨⟨hk, h3⟩, h⟩ := h
    subst hk
    simp only [asI_eq hn, h1, h2]; exact ⟨h3, h⟩
  · obtain ⟨b, hb, h⟩ := AOpt_elim h
    simp only [asB_eq hb]; exact h
  · obtain ⟨⟨k, n⟩, hn, h⟩ := AOpt_elim h
    obtain ⟨⟨hk, h1⟩, h⟩ := h
    simp only at hk
    subst hk
    simp only [asI_eq hn]; exact ⟨h1, h⟩
  · obtain ⟨ti, hti, h⟩ := AOpt_elim h
    obtain ⟨cells, hc, h⟩ := AOpt_elim h
    simp only [hti, hc]; exact h
  · obtain ⟨ti, hti, h⟩ := AOpt_elim h
    obtain ⟨e, he, h⟩ := AOpt_elim h
    obtain ⟨te, hte, h1, h2⟩ := AOpt_elim h
    simp only [hti, he, hte]
    refine ⟨h1, ?_⟩
    split
    · rename_i hc; exact h2.1 hc
    · rename_i hc; exact h2.2 (by simpa using hc)
  · obtain ⟨xs, hx, h⟩ := AOpt_elim h
    obtain ⟨r, hr, h⟩ := AOpt_elim h
    simp only [asT_eq hx, hr]; exact h
  · obtain ⟨ti, hti, h⟩ := AOpt_elim h
    obtain ⟨xs, hx, h⟩ := AOpt_elim h
    obtain ⟨⟨fo, fs⟩, hf, h⟩ := AOpt_elim h
    obtain ⟨ft, hft, h⟩ := AOpt_elim h
    obtain ⟨tf, htf, h⟩ := AOpt_elim h
    obtain ⟨r, hr, h⟩ := AOpt_elim h
    simp only at hr
    simp only [hti, asG_eq hx, hf, hft, htf, hr]; exact h
  · obtain ⟨ti, hti, h⟩ := AOpt_elim h
    obtain ⟨⟨k, xs⟩, hx, h⟩ := AOpt_elim h
    obtain ⟨lo, hlo, h⟩ := AOpt_elim h
    obtain ⟨hi, hhi, h⟩ := AOpt_elim h
    obtain ⟨e, he, h⟩ := AOpt_elim h
    obtain ⟨te, hte, h⟩ := AOpt_elim h
    simp only [sliceA, hti, asS_eq hx, hlo, hhi, he, hte]; exact h
  · exact h
  · rcases AAlt_elim h with ⟨⟨y, off⟩, hp, h⟩ | ⟨_, h⟩
    · simp only [asP_eq hp]; exact h
    · obtain ⟨⟨id, k, j, off⟩, hq, h⟩ := AOpt_elim h
      simp only [asQ_eq hq]; exact h
  · exact h
  · obtain ⟨ke, h1, h⟩ := AOpt_elim h
    obtain ⟨id, h2, h⟩ := AOpt_elim h
    obtain ⟨kv, h3, h⟩ := AOpt_elim h
    obtain ⟨ob, h4, h⟩ := AOpt_elim h
    obtain ⟨ks, h5, h⟩ := AOpt_elim h
    obtain ⟨z, h6, h0, h⟩ := AOpt_elim h
    exact ⟨ke, id, kv, ob, ks, z, h1, asO_eq h2, h3, obA_eq h4, h5, h6, h0, h⟩
  · exact putC_mapPut h
  · exact putC_mapPut h
  · obtain ⟨ti, h1, h⟩ := AOpt_elim h
    obtain ⟨e, h2, h⟩ := AOpt_elim h
    obtain ⟨te, h3, h⟩ := AOpt_elim h
    obtain ⟨z, h4, h⟩ := AOpt_elim h
    obtain ⟨⟨k, n⟩, h5, h⟩ := AOpt_elim h
    obtain ⟨⟨k', n'⟩, h6, ⟨g1, g2, g3, g4, g5, g6⟩, h⟩ := AOpt_elim h
    simp only at g1 g2 g3 g4 g5 g6
    subst g1
    exact ⟨ti, e, te, z, k, k', _, h1, h2, h3, oneOf_eq h4, g2, asI_eq h5, asI_eq h6, ⟨g3, g4, g5, g6⟩, h⟩
  · exact callC_callA h
  · exact h.elim

end Aw
end Go.Proofs.Ytkolpijhgcijbaa

namespace Go.Proofs.Ytkolpijhgcijbaa
namespace Aw
open Go.RowKit

structure St where
  sl : List AV
  M : Mem

def St.ev (σ : St) : Operand → AV
  | .tmp t => σ.sl.getD t .bot
  | .const v => .v v
  | .func f => .f (.func f) []
  | .global _ => .bot

def killS (Z : List Nat) (l : List AV) : List AV := if Z.isEmpty then l else AV.killL Z l

def setS (l : List AV) (d : Option Tmp) (r : AV) : List AV := match d with | some d => l.set d r | none => l

def St.step (σ : St) (d : Option Tmp) (r : AV) (Z : List Nat) (M' : Mem) : St := ⟨setS (killS Z σ.sl) d r, M'⟩

/-- the call that is walked: the world in which it began, and the blocks that it was handed. -/
structure Ctx where
  w0 : World
  In : Nat → Prop
  A : Nat → Prop
  /-- the calls that are put off. -/
  dl : List Deferred

structure Frm (C : Ctx) (w : World) (hv : Nat → Option Value) : Prop where
  os : w.os = C.w0.os
  tape : w.tape = C.w0.tape
  output : w.output = C.w0.output
  drawn : C.w0.drawn ≤ w.drawn
  size : C.w0.heap.size ≤ w.heap.size
  block : ∀ b, b < C.w0.heap.size → ¬ C.In b → w.heap[b]? = C.w0.heap[b]?
  own : ∀ b, Own hv b → C.In b ∨ C.w0.heap.size ≤ b
  aold : ∀ b, C.A b → b < C.w0.heap.size
  dis : ∀ b, C.A b → ¬ C.In b

theorem Frm.sep {C : Ctx} {w : World} {hv : Nat → Option Value} (h : Frm C w hv) {b : Nat} (hb : Own hv b) : ¬ C.A b := fun hA => by
  rcases h.own b hb with h1 | h1
  · exact h.dis b hA h1
  · have := h.aold b hA; omega

theorem Frm.step {C : Ctx} {w w' : World} {hv hv' : Nat → Option Value} {Z : List Nat} (h : Frm C w hv) (s : StepR C.A w hv Z w' hv') : Frm C w' hv' := by
  refine ⟨s.os.trans h.os, s.tape.trans h.tape, s.output.trans h.output, Nat.le_trans h.drawn s.drawn, Nat.le_trans h.size s.kp.size, fun b hb hn => ?_, fun b hb => ?_, h.aold, h.dis⟩
  · refine (s.kp.block b (Nat.lt_of_lt_of_le hb h.size) (fun ho => ?_)).trans (h.block b hb hn)
    rcases h.own b ho with h1 | h1
    · exact hn h1
    · omega
  · rcases Nat.lt_or_ge b w.heap.size with hlt | hge
    · exact h.own b (s.kp.own b hlt hb)
    · exact .inr (Nat.le_trans h.size hge)

def StR (C : Ctx) (σ : St) (a : Act) (w : World) : Prop :=
  ∃ hv, a.defers = C.dl ∧ a.tmps.size = σ.sl.length ∧ (∀ (i : Nat) (x : AV), σ.sl[i]? = some x → ∃ v, a.tmps[i]? = some v ∧ RV w (OwnA C.A hv) hv x v) ∧ MemR C.A w hv σ.M ∧ Frm C w hv

section
variable {P : Program} {C : Ctx} {σ : St} {a : Act} {w : World} {Q : Exit → Act → World → Prop}

theorem ev_ok {hv : Nat → Option Value} (h : ∀ (i : Nat) (x : AV), σ.sl[i]? = some x → ∃ v, a.tmps[i]? = some v ∧ RV w (OwnA C.A hv) hv x v) (x : Operand) : RV w (OwnA C.A hv) hv (σ.ev x) (a.eval x) := by
  cases x with
  | tmp t =>
    simp only [St.ev, Act.eval, List.getD_eq_getElem?_getD]
    cases ht : σ.sl[t]? with
    | none => simp [RV]
    | some y =>
      obtain ⟨v, h1, h2⟩ := h t y ht
      simp only [Option.getD_some, Array.getD_eq_getD_getElem?, h1]
      exact h2
  | const v => simp only [St.ev, Act.eval, RV]
  | global g => simp [St.ev, RV]
  | func f => simp only [St.ev, Act.eval, RV, R]; exact ⟨#[], rfl, by simp, by simp [RL]⟩

theorem killS_get (Z : List Nat) (l : List AV) (i : Nat) : (killS Z l)[i]? = (l[i]?).map (AV.kill Z) := by
  unfold killS
  split
  · rename_i h
    have : Z = [] := by simpa using h
    subst this
    cases l[i]? <;> simp [AV.kill_nil]
  · rw [AV.killL_map, List.getElem?_map]

theorem setS_get (l : List AV) (d : Option Tmp) (r : AV) (i : Nat) {x : AV} (h : (setS l d r)[i]? = some x) : (d = some i ∧ x = r ∧ i < l.length) ∨ (d ≠ some i ∧ l[i]? = some x) := by
  cases d with
  | none => exact .inr ⟨by simp, h⟩
  | some d =>
    simp only [setS, List.getElem?_set] at h
    by_cases hd : d = i
    · subst hd
      rw [if_pos rfl] at h
      split at h
      · rename_i hlt; injection h with h; exact .inl ⟨rfl, h.symm, hlt⟩
      · cases h
    · rw [if_neg hd] at h
      exact .inr ⟨by simpa using hd, h⟩

theorem setS_len (l : List AV) (d : Option Tmp) (r : AV) : (setS l d r).length = l.length := by cases d <;> simp [setS]
theorem killS_len (Z : List Nat) (l : List AV) : (killS Z l).length = l.length := by unfold killS; split <;> simp [AV.killL_map]
theorem put_size (a : Act) (d : Option Tmp) (v : Value) : (a.put d v).tmps.size = a.tmps.size := by cases d <;> simp [Act.put]
theorem put_get (a : Act) (d : Option Tmp) (v : Value) (i : Nat) (h : d ≠ some i) : (a.put d v).tmps[i]? = a.tmps[i]? := by
  cases d with
  | none => rfl
  | some d => simp only [Act.put]; exact Array.getElem?_setIfInBounds_ne (by simpa using h)

/-- one step of the state. -/
theorem StR.next {hv hv' : Nat → Option Value} {w' : World} {Z : List Nat} {M' : Mem} {r : AV} {v : Value} {d : Option Tmp} (hd : a.defers = C.dl) (hsz : a.tmps.size = σ.sl.length)
    (hsl : ∀ (i : Nat) (x : AV), σ.sl[i]? = some x → ∃ v, a.tmps[i]? = some v ∧ RV w (OwnA C.A hv) hv x v) (hF : Frm C w hv) (hM' : MemR C.A w' hv' M') (hr : RV w' (OwnA C.A hv') hv' r v) (hs : StepR C.A w hv Z w' hv') :
    StR C (σ.step d r Z M') (a.put d v) w' := by
  refine ⟨hv', by cases d <;> exact hd, ?_, fun i x hx => ?_, hM', hF.step hs⟩
  · rw [put_size, hsz]; simp only [St.step, setS_len, killS_len]
  · rcases setS_get _ _ _ _ hx with ⟨rfl, rfl, hlt⟩ | ⟨hne, hx⟩
    · refine ⟨v, ?_, hr⟩
      rw [killS_len] at hlt
      simp [Act.put, hsz, hlt]
    · rw [killS_get] at hx
      simp only [Option.map_eq_some_iff] at hx
      obtain ⟨y, hy, rfl⟩ := hx
      obtain ⟨u, h1, h2⟩ := hsl i y hy
      exact ⟨u, by rw [put_get _ _ _ _ hne]; exact h1, hs.rv h2⟩

/-- whether a guarded operation is done: the guard's value is known, or its own operation has not been done. -/
def gd : AV → Bool → Option Bool
  | .v (.bool b), want => some (b == want)
  | .t [], _ => some false
  | _, _ => none
theorem gd_b (b want : Bool) : gd (.v (.bool b)) want = some (b == want) := rfl
theorem gd_u (want : Bool) : gd (.t []) want = some false := rfl
theorem gd_spec {x : AV} {want c : Bool} (h : gd x want = some c) : (∃ b, x = .v (.bool b) ∧ c = (b == want)) ∨ (x = .t [] ∧ c = false) := by
  unfold gd at h
  split at h
  · injection h with h; exact .inl ⟨_, rfl, h.symm⟩
  · injection h with h; exact .inr ⟨rfl, h.symm⟩
  · cases h

/-- an operation, with its guard. -/
def aop (P : Program) (own : List Nat) (ops : List Oper) (o : Oper) (σ : St) [N : HK (St → Prop)] : Prop :=
  match o.guard with
  | none => coreC P own o σ.ev σ.M (K := ⟨fun r Z M' => N.k (σ.step o.dst r Z M')⟩)
  | some (j, want) => AOpt ((ops[j]?).bind (·.dst)) (K := ⟨fun d => AOpt (gd (σ.sl.getD d .bot) want) (K := ⟨fun b =>
      @ACond b ⟨coreC P own o σ.ev σ.M (K := ⟨fun r Z M' => N.k (σ.step o.dst r Z M')⟩)⟩ ⟨N.k (σ.step o.dst (.t []) [] σ.M)⟩⟩)⟩)

theorem wanted_none {o : Oper} (h : o.guard = none) (y : Nat → Option Bool) : Region.wanted o y = true := by simp [Region.wanted, h]

theorem aop_sound {own : List Nat} {ops : Array Oper} {i : Nat} {o : Oper} {N : HK (St → Prop)} (ho : ops[i]? = some o) (h : aop P own ops.toList o σ (N := N)) (hS : StR C σ a w) :
    wpOp P ops Q i (fun a' w' => ∃ σ', N.k σ' ∧ StR C σ' a' w') a w := by
  obtain ⟨hv, hd, hsz, hsl, hM, hF⟩ := hS
  have hρ := ev_ok hsl
  have run : coreC P own o σ.ev σ.M (K := ⟨fun r Z M' => N.k (σ.step o.dst r Z M')⟩) → o.wp P a w (fun a' w' => ∃ σ', N.k σ' ∧ StR C σ' a' w') Q := fun hc =>
    Oper.wp_mono (fun a' w' => by
      rintro ⟨r, Z, M', hv', v, hK, rfl, hM', hr, hs⟩
      exact ⟨_, hK, StR.next hd hsz hsl hF hM' hr hs⟩) (core_sound hρ hM (coreC_core hc))
  have skip : N.k (σ.step o.dst (.t []) [] σ.M) → ∃ σ', N.k σ' ∧ StR C σ' (a.put o.dst undef) w := fun hN =>
    ⟨_, hN, StR.next hd hsz hsl hF hM (by simp only [RV, RVL]; exact ⟨#[], rfl, rfl⟩) (StepR.refl C.A w hv)⟩
  unfold wpOp
  simp only [ho]
  unfold aop at h
  split at h
  · rename_i hg
    rw [if_pos (wanted_none hg _)]
    exact .inl (run h)
  · rename_i j want hg
    obtain ⟨d, hdst, h⟩ := AOpt_elim h
    obtain ⟨c, hc, h⟩ := AOpt_elim h
    have hdst' : (ops[j]?).bind (·.dst) = some d := by simpa using hdst
    have hval : ∀ y, σ.sl.getD d .bot = y → y ≠ .bot → ∃ u, a.tmps[d]? = some u ∧ RV w (OwnA C.A hv) hv y u := by
      intro y hy hne
      rw [List.getD_eq_getElem?_getD] at hy
      cases hx : σ.sl[d]? with
      | none => rw [hx] at hy; exact absurd hy.symm hne
      | some x =>
        rw [hx] at hy
        simp only [Option.getD_some] at hy
        subst hy
        exact hsl d _ hx
    have hw : Region.wanted o (yielded ops a.tmps) = c := by
      rcases gd_spec hc with ⟨b, hb, rfl⟩ | ⟨hb, rfl⟩
      · obtain ⟨u, h1, h2⟩ := hval _ hb (by simp)
        simp only [RV] at h2
        subst h2
        have hy : yielded ops a.tmps j = some b := by
          unfold yielded
          rw [hdst']
          simp [h1]
        simp only [Region.wanted, hg, hy]
        cases b <;> cases want <;> rfl
      · obtain ⟨u, h1, h2⟩ := hval _ hb (by simp)
        simp only [RV, RVL] at h2
        obtain ⟨vs, rfl, _⟩ := h2
        have hy : yielded ops a.tmps j = none := by
          unfold yielded
          rw [hdst']
          simp [h1]
        simp only [Region.wanted, hg, hy]
        cases want <;> rfl
    rw [hw]
    obtain ⟨h1, h2⟩ := h
    cases hbw : c with
    | true => simp only [if_true]; exact .inl (run (h1 hbw))
    | false => simp only [Bool.false_eq_true, if_false]; exact skip (h2 hbw)

/-- a region, in the order of the text. -/
def AOps (P : Program) (own : List Nat) (ops : List Oper) : List Oper → St → [HK (St → Prop)] → Prop
  | [], σ, N => N.k σ
  | o :: rest, σ, N => aop P own ops o σ (N := ⟨fun σ' => @AOps P own ops rest σ' N⟩)

theorem aops_sound {own : List Nat} {ops : Array Oper} {N : HK (St → Prop)} (hQ : ∀ σ a w, N.k σ → StR C σ a w → Q .normal a w) : ∀ (l : List Oper) (k : Nat) (σ : St) (a : Act) (w : World), ops.toList.drop k = l → @AOps P own ops.toList l σ N → StR C σ a w →
    wpOps P ops Q (List.range' k l.length) a w
  | [], k, σ, a, w, _, h, hS => by simp only [List.length_nil, List.range'_zero, wpOps]; exact hQ σ a w h hS
  | o :: l, k, σ, a, w, hk, h, hS => by
    have ho : ops[k]? = some o := by
      have : (ops.toList.drop k)[0]? = some o := by rw [hk]; rfl
      rw [List.getElem?_drop] at this
      simpa using this
    have hk' : ops.toList.drop (k + 1) = l := by rw [← List.drop_drop, hk]; rfl
    rw [List.length_cons, List.range'_succ, wpOps_cons]
    refine wpOp_mono (fun a' w' => ?_) (aop_sound ho h hS)
    rintro ⟨σ', h1, h2⟩
    exact aops_sound hQ l (k + 1) σ' a' w' hk' h1 h2

theorem region_sound {own : List Nat} {id : Nat} {ops : Array Oper} {N : HK (St → Prop)} (hQ : ∀ σ a w, N.k σ → StR C σ a w → Q .normal a w) (h : @AOps P own ops.toList ops.toList σ N) (hS : StR C σ a w) : (Code.region id ops false).wp P Q a w := by
  refine wp_region ?_
  have := aops_sound (P := P) (own := own) (ops := ops) hQ ops.toList 0 σ a w rfl h hS
  rw [List.range_eq_range']
  simpa using this
end

end Aw
end Go.Proofs.Ytkolpijhgcijbaa

namespace Go.Proofs.Ytkolpijhgcijbaa
namespace Aw
open Go.RowKit

/-- what holds at an exit. -/
def APost (C : Ctx) (N : St → Prop) (E : Nat → St → Prop) (Rt : St → Prop) : Exit → Act → World → Prop
  | .normal, a, w => ∃ σ, N σ ∧ StR C σ a w
  | .exit id, a, w => ∃ σ, E id σ ∧ StR C σ a w
  | .ret, a, w => ∃ σ, Rt σ ∧ StR C σ a w
  | _, _, _ => False

/-- what a piece of code does, said of states. -/
def SWp (P : Program) (c : Code) (σ : St) [N : HK (St → Prop)] [E : HK (Nat → St → Prop)] [Rt : HK (St → Unit → Prop)] : Prop :=
  ∀ C a w, StR C σ a w → c.wp P (APost C N.k E.k (fun σ => Rt.k σ ())) a w

/-- all that fits σ fits σ'. -/
def Le (σ σ' : St) : Prop := ∀ C a w, StR C σ a w → StR C σ' a w

abbrev HN := HK (St → Prop)
abbrev HE := HK (Nat → St → Prop)
abbrev HR := HK (St → Unit → Prop)

def awp (P : Program) (own : List Nat) : Code → St → [HN] → [HE] → [HR] → Prop
  | .skip, σ, N, _, _ => N.k σ
  | .label _, σ, N, _, _ => N.k σ
  | .region id ops true, σ, N, E, Rt => @SWp P (.region id ops true) σ N E Rt
  | .region id ops false, σ, N, E, Rt => @ACond (own.contains (1000 + id)) ⟨@SWp P (.region id ops false) σ N E Rt⟩ ⟨@AOps P own ops.toList ops.toList σ N⟩
  | .seq a b, σ, N, E, Rt => @awp P own a σ ⟨fun σ' => @awp P own b σ' N E Rt⟩ E Rt
  | .cond c x y, σ, N, E, Rt => AOpt (asB (σ.ev c)) (K := ⟨fun b => @ACond b ⟨@awp P own x σ N E Rt⟩ ⟨@awp P own y σ N E Rt⟩⟩)
  | .block id c, σ, N, E, Rt => @awp P own c σ N ⟨fun id' σ' => if id' = id then N.k σ' else E.k id' σ'⟩ Rt
  | .scope c, σ, N, E, Rt => @awp P own c σ N E Rt
  | .loop c, σ, N, E, Rt => @SWp P (.loop c) σ N E Rt
  | .exit id, σ, _, E, _ => E.k id σ
  | .ret, σ, _, _, Rt => Rt.k σ ()
  | _, _, _, _, _ => False

section
variable {P : Program} {own : List Nat}

theorem awp_sound : ∀ (c : Code) (N : HN) (E : HE) (Rt : HR) (σ : St), @awp P own c σ N E Rt → @SWp P c σ N E Rt := by
  intro c
  induction c with
  | skip => intro N E Rt σ h C a w hS; exact wp_skip ⟨σ, h, hS⟩
  | label l => intro N E Rt σ h C a w hS; exact wp_label ⟨σ, h, hS⟩
  | region id ops draw =>
    intro N E Rt σ h C a w hS
    cases draw with
    | true => unfold awp at h; exact h C a w hS
    | false =>
      unfold awp at h
      cases hc : own.contains (1000 + id) with
      | true => exact h.1 hc C a w hS
      | false => exact region_sound (own := own) (fun σ a w hN hS => ⟨σ, hN, hS⟩) (h.2 hc) hS
  | seq x y ihx ihy =>
    intro N E Rt σ h C a w hS
    unfold awp at h
    refine wp_seq (wp_mono (ihx _ _ _ _ h C a w hS) fun e a' w' hq => ?_)
    cases e with
    | normal => obtain ⟨σ', h1, h2⟩ := hq; exact ihy _ _ _ _ h1 C a' w' h2
    | exit id => exact hq
    | ret => exact hq
    | goto l => exact hq.elim
    | panic ch => exact hq.elim
    | outgrown => exact hq.elim
  | cond c x y ihx ihy =>
    intro N E Rt σ h C a w hS
    unfold awp at h
    obtain ⟨b, hb, h⟩ := AOpt_elim h
    have hb := asB_eq hb
    · obtain ⟨hv, hd, hsz, hsl, hM, hF⟩ := id hS
      have hc := ev_ok hsl c
      rw [hb] at hc
      simp only [RV] at hc
      exact wp_cond_split hc (fun ht => ihx _ _ _ _ (h.1 ht) C a w hS) (fun hf => ihy _ _ _ _ (h.2 hf) C a w hS)
  | block id c ih =>
    intro N E Rt σ h C a w hS
    unfold awp at h
    refine wp_block (wp_mono (ih _ _ _ _ h C a w hS) fun e a' w' hq => ?_)
    cases e with
    | normal => exact hq
    | exit id' =>
      obtain ⟨σ', h1, h2⟩ := hq
      simp only at h1
      simp only [Exit.inBlock]
      split
      · rename_i he; rw [if_pos he] at h1; exact ⟨σ', h1, h2⟩
      · rename_i he; rw [if_neg he] at h1; exact ⟨σ', h1, h2⟩
    | ret => exact hq
    | goto l => exact hq.elim
    | panic ch => exact hq.elim
    | outgrown => exact hq.elim
  | loop c _ => intro N E Rt σ h; unfold awp at h; exact h
  | scope c ih =>
    intro N E Rt σ h C a w hS
    unfold awp at h
    refine wp_scope_straight (wp_mono (ih _ _ _ _ h C a w hS) fun e a' w' hq => ?_)
    cases e with
    | normal => exact hq
    | exit id => exact hq
    | ret => exact hq
    | goto l => exact hq.elim
    | panic ch => exact hq.elim
    | outgrown => exact hq.elim
  | exit id => intro N E Rt σ h C a w hS; exact wp_exit ⟨σ, h, hS⟩
  | ret => intro N E Rt σ h C a w hS; exact wp_ret ⟨σ, h, hS⟩
  | _ => intro N E Rt σ h; simp [awp] at h

theorem least (J : Nat → Prop) (h : ∃ n, J n) : ∃ m, J m ∧ ∀ n, J n → m ≤ n := by
  obtain ⟨n, hn⟩ := h
  induction n using Nat.strongRecOn with
  | _ n ih =>
    by_cases h : ∃ k, k < n ∧ J k
    · obtain ⟨k, hk, hJ⟩ := h; exact ih k hk hJ
    · exact ⟨n, hn, fun k hk => by
        rcases Nat.lt_or_ge k n with hlt | hge
        · exact absurd ⟨k, hlt, hk⟩ h
        · exact hge⟩

/-- the state may be weakened. -/
theorem swp_le {c : Code} {N : HN} {E : HE} {Rt : HR} {σ σ' : St} (h : Le σ σ') (hs : @SWp P c σ' N E Rt) : @SWp P c σ N E Rt := fun C a w hS => hs C a w (h C a w hS)

theorem Le.refl (σ : St) : Le σ σ := fun _ _ _ h => h
theorem Le.trans {σ σ' σ'' : St} (h : Le σ σ') (k : Le σ' σ'') : Le σ σ'' := fun C a w hS => k C a w (h C a w hS)

/-- slots may be forgotten. -/
def leSl : List AV → List AV → Prop
  | [], [] => True
  | a :: as, b :: bs => (b = .bot ∨ b = a) ∧ leSl as bs
  | _, _ => False

theorem leSl_get : ∀ (as bs : List AV), leSl as bs → as.length = bs.length ∧ ∀ (i : Nat) (x : AV), bs[i]? = some x → x = .bot ∧ i < as.length ∨ as[i]? = some x
  | [], [], _ => by simp
  | a :: as, b :: bs, h => by
    obtain ⟨h1, h2⟩ := h
    obtain ⟨h3, h4⟩ := leSl_get as bs h2
    refine ⟨by simp [h3], fun i x hx => ?_⟩
    cases i with
    | zero =>
      simp at hx
      subst hx
      rcases h1 with rfl | rfl
      · exact .inl ⟨rfl, by simp⟩
      · exact .inr (by simp)
    | succ i =>
      simp at hx
      rcases h4 i x hx with ⟨e, hl⟩ | hl
      · exact .inl ⟨e, by simpa using hl⟩
      · exact .inr (by simpa using hl)
  | [], _ :: _, h => by cases h
  | _ :: _, [], h => by cases h

/-- objects of the end may be forgotten, if no slot that is kept names them. -/
theorem le_of {sl sl' : List AV} {M M' Mx : Mem} (h : leSl sl sl') (hM : M = M' ++ Mx) (hf : AV.freeL ((List.range Mx.length).map (· + M'.length)) sl' = true)
    (hm : ∀ ob, some ob ∈ M' → AV.freeL ((List.range Mx.length).map (· + M'.length)) ob.xs = true) : Le ⟨sl, M⟩ ⟨sl', M'⟩ := by
  intro C a w hS
  obtain ⟨hv, hd, hsz, hsl, hMR, hF⟩ := hS
  subst hM
  let Z := (List.range Mx.length).map (· + M'.length)
  have hZ : ∀ i, i ∈ Z ↔ M'.length ≤ i ∧ i < M'.length + Mx.length := by
    intro i
    simp only [Z, List.mem_map, List.mem_range]
    constructor
    · rintro ⟨j, hj, rfl⟩; omega
    · rintro ⟨h1, h2⟩; exact ⟨i - M'.length, by omega, by omega⟩
  let hv' : Nat → Option Value := fun i => if i < M'.length then hv i else none
  have hown : ∀ b, Own hv' b → Own hv b := by
    rintro b ⟨i, v, hi, hb⟩
    simp only [hv'] at hi
    split at hi
    · exact ⟨i, v, hi, hb⟩
    · cases hi
  have hs : StepR C.A w hv Z w hv' := by
    refine ⟨⟨Nat.le_refl _, fun _ _ _ => rfl, fun b _ hb => hown b hb⟩, fun i u hi h => ?_, rfl, rfl, rfl, Nat.le_refl _⟩
    have hlt : i < M'.length := by
      obtain ⟨ob, hob⟩ := hMR.dom i u h
      have := (List.getElem?_eq_some_iff.1 hob).1
      rw [List.length_append] at this
      rcases Nat.lt_or_ge i M'.length with h' | h'
      · exact h'
      · exact absurd ((hZ i).2 ⟨h', this⟩) hi
    simp only [hv', if_pos hlt]
    exact h
  have hfree : ∀ (l : List AV), AV.freeL Z l = true → ∀ x ∈ l, x.free Z = true := by
    intro l
    induction l with
    | nil => intro _ x hx; cases hx
    | cons y l ih =>
      intro h x hx
      simp only [AV.freeL, Bool.and_eq_true] at h
      rcases List.mem_cons.1 hx with rfl | hx
      · exact h.1
      · exact ih h.2 x hx
  obtain ⟨hlen, hget⟩ := leSl_get sl sl' h
  refine ⟨hv', hd, by rw [hsz]; exact hlen, fun i x hx => ?_, ⟨fun i ob hi => ?_, fun i v hi => ?_, fun i j vi vj b hi hj => ?_, hMR.old⟩, hF.step hs⟩
  · rcases hget i x hx with ⟨rfl, hl⟩ | hl
    · simp only at hsz hl
      exact ⟨a.tmps[i]'(by omega), Array.getElem?_eq_getElem (by omega), by simp [RV]⟩
    · obtain ⟨v, h1, h2⟩ := hsl i x hl
      have := hs.rv h2
      rw [AV.kill_free Z x (hfree sl' hf x (List.mem_of_getElem? hx))] at this
      exact ⟨v, h1, this⟩
  · have hlt : i < M'.length := (List.getElem?_eq_some_iff.1 hi).1
    obtain ⟨v, h1, h2, h3⟩ := live_step hMR hs (fun v b h1 h2 => rfl) (fun h => by have := (hZ i).1 h; omega) (by rw [List.getElem?_append_left hlt]; exact hi)
    have hk : Ob.kill Z ob = ob := by
      have := hm ob (List.mem_of_getElem? hi)
      cases ob
      simp only [Ob.kill, Ob.mk.injEq, true_and]
      rw [AV.killL_map]
      have h' := hfree _ this
      rw [List.map_congr_left (fun x hx => AV.kill_free Z x (h' x hx))]
      simp
    rw [hk] at h3
    exact ⟨v, h2, h3⟩
  · simp only [hv'] at hi
    split at hi
    · rename_i hlt
      obtain ⟨ob, hob⟩ := hMR.dom i v hi
      rw [List.getElem?_append_left hlt] at hob
      exact ⟨ob, hob⟩
    · cases hi
  · simp only [hv'] at hi hj
    split at hi
    · split at hj
      · exact hMR.inj i j vi vj b hi hj
      · cases hj
    · cases hi
end

end Aw
end Go.Proofs.Ytkolpijhgcijbaa

namespace Go.Proofs.Ytkolpijhgcijbaa
namespace Aw
open Go.RowKit

section
variable {w : World} {T T' : Nat → Prop} {hv hv' : Nat → Option Value} {F : Nat → AV} {G : Nat → Nat → Nat → Nat → AV}

theorem single_sub (hF1 : ∀ i, (F i).single = true) (hG1 : ∀ i k j off, (G i k j off).single = true) (a : AV) (h : a.single = true) : (a.sub F G).single = true := by
  cases a <;> simp_all [AV.single, AV.sub]

theorem R_sub (hT : ∀ b, T' b → T b) (hF : ∀ i v, hv i = some v → R w T' hv' (F i) [v]) (hF1 : ∀ i, (F i).single = true) (hG : ∀ i k j off us, R w T hv (.q i k j off) us → R w T' hv' (G i k j off) us) (hG1 : ∀ i k j off, (G i k j off).single = true) :
    ∀ (a : AV) (us : List Value), R w T hv a us → R w T' hv' (a.sub F G) us := by
  have hk : Keeps w T w T' := ⟨Nat.le_refl _, fun _ _ _ => rfl, fun b _ h => hT b h⟩
  intro a
  refine AV.rec (motive_1 := fun a => ∀ us, R w T hv a us → R w T' hv' (a.sub F G) us) (motive_2 := fun l => ∀ us, RL w T hv l us → RL w T' hv' (AV.subL F G l) us)
    ?_ ?_ ?_ ?_ ?_ ?_ ?_ ?_ ?_ ?_ ?_ a
  · intro us h; simpa only [R, AV.sub] using h
  · intro x us h; simpa only [R, AV.sub] using h
  · intro k xs _ us h
    have := R_keep hk (.s k xs) [] hv hv us (fun _ _ _ h => h) h
    rw [AV.kill_nil] at this
    simpa only [R, AV.sub] using this
  · intro xs ih us h; simp only [R, AV.sub] at h ⊢; exact ih us h
  · intro xs _ us h; simp [R] at h
  · intro x off _ us h
    have := R_keep hk (.p x off) [] hv hv us (fun _ _ _ h => h) h
    rw [AV.kill_nil] at this
    simpa only [R, AV.sub] using this
  · intro i us h
    simp only [R] at h
    obtain ⟨v, h1, rfl, _⟩ := h
    simp only [AV.sub]
    exact hF i v h1
  · intro i k j off us h
    simp only [AV.sub]
    exact hG i k j off us h
  · intro fn cap ih us h
    simp only [R, AV.sub] at h ⊢
    obtain ⟨cs, h1, h2, h3⟩ := h
    exact ⟨cs, h1, fun x hx => by rw [AV.subL_map] at hx; obtain ⟨y, hy, rfl⟩ := List.mem_map.1 hx; exact single_sub hF1 hG1 y (h2 y hy), ih _ h3⟩
  · intro us h; simpa only [RL, AV.subL] using h
  · intro x xs ih1 ih2 us h
    simp only [RL, AV.subL] at h ⊢
    obtain ⟨u1, u2, rfl, h1, h2⟩ := h
    exact ⟨u1, u2, rfl, ih1 u1 h1, ih2 u2 h2⟩

theorem RL_sub (hT : ∀ b, T' b → T b) (hF : ∀ i v, hv i = some v → R w T' hv' (F i) [v]) (hF1 : ∀ i, (F i).single = true) (hG : ∀ i k j off us, R w T hv (.q i k j off) us → R w T' hv' (G i k j off) us) (hG1 : ∀ i k j off, (G i k j off).single = true) :
    ∀ (l : List AV) (us : List Value), RL w T hv l us → RL w T' hv' (AV.subL F G l) us
  | [], us, h => by simpa only [RL, AV.subL] using h
  | x :: xs, us, h => by
    simp only [RL, AV.subL] at h ⊢
    obtain ⟨u1, u2, rfl, h1, h2⟩ := h
    exact ⟨u1, u2, rfl, R_sub hT hF hF1 hG hG1 x u1 h1, RL_sub hT hF hF1 hG hG1 xs u2 h2⟩

theorem RV_sub (hT : ∀ b, T' b → T b) (hF : ∀ i v, hv i = some v → R w T' hv' (F i) [v]) (hF1 : ∀ i, (F i).single = true) (hG : ∀ i k j off us, R w T hv (.q i k j off) us → R w T' hv' (G i k j off) us) (hG1 : ∀ i k j off, (G i k j off).single = true) :
    ∀ (a : AV) (v : Value), RV w T hv a v → RV w T' hv' (a.sub F G) v := by
  intro a
  refine AV.rec (motive_1 := fun a => ∀ v, RV w T hv a v → RV w T' hv' (a.sub F G) v) (motive_2 := fun l => ∀ vs, RVL w T hv l vs → RVL w T' hv' (AV.subL F G l) vs)
    ?_ ?_ ?_ ?_ ?_ ?_ ?_ ?_ ?_ ?_ ?_ a
  · intro v _; simp [RV, AV.sub]
  · intro x v h; simpa only [RV, AV.sub] using h
  · intro k xs _ v h; have := R_sub hT hF hF1 hG hG1 (.s k xs) [v] (by simpa only [RV] using h); simpa only [RV, AV.sub] using this
  · intro xs _ v h
    simp only [RV, AV.sub] at h ⊢
    obtain ⟨cs, rfl, h⟩ := h
    exact ⟨cs, rfl, RL_sub hT hF hF1 hG hG1 xs _ h⟩
  · intro xs ih v h
    simp only [RV, AV.sub] at h ⊢
    obtain ⟨vs, rfl, h⟩ := h
    exact ⟨vs, rfl, ih _ h⟩
  · intro x off _ v h; have := R_sub hT hF hF1 hG hG1 (.p x off) [v] (by simpa only [RV] using h); simpa only [RV, AV.sub] using this
  · intro i v h
    have h' : R w T hv (.o i) [v] := by simpa only [RV] using h
    exact R_RV (hF1 i) (R_sub hT hF hF1 hG hG1 (.o i) [v] h')
  · intro i k j off v h
    have h' : R w T hv (.q i k j off) [v] := by simpa only [RV] using h
    exact R_RV (hG1 i k j off) (R_sub hT hF hF1 hG hG1 (.q i k j off) [v] h')
  · intro fn cap _ v h; have := R_sub hT hF hF1 hG hG1 (.f fn cap) [v] (by simpa only [RV] using h); simpa only [RV, AV.sub] using this
  · intro vs h; simpa only [RVL, AV.subL] using h
  · intro x xs ih1 ih2 vs h
    simp only [RVL, AV.subL] at h ⊢
    obtain ⟨u, us, rfl, h1, h2⟩ := h
    exact ⟨u, us, rfl, ih1 u h1, ih2 us h2⟩
end

/-- the objects are read, and no longer written. -/
def frz (M : Mem) : AV → AV := AV.sub (fun i => match M[i]? with | some (some ob) => if (ob.mp.isNone && AV.pureL ob.xs) = true then .s ob.k ob.xs else .bot | _ => .bot) (fun _ _ _ _ => .bot)

/-- one object is handed on. -/
def exp1 (i : Nat) : AV → AV := AV.sub (fun j => if j = i then .o 0 else .bot) (fun j k jj off => if j = i then .q 0 k jj off else .bot)

/-- what is returned: x, told as r, with the objects Ms. -/
def Ret (M : Mem) (x : AV) (r : AV) (Ms : List Ob) : Prop :=
  ∀ A w hv v, MemR A w hv M → (∀ b, Own hv b → ¬ A b) → RV w (OwnA A hv) hv x v → ∃ hv', MemR A w hv' (Ms.map some) ∧ RV w (OwnA A hv') hv' r v ∧ ∀ b, Own hv' b → Own hv b

theorem R_botq {w : World} {T : Nat → Prop} {hv hv' : Nat → Option Value} {i k j off : Nat} {us : List Value} (h : R w T hv (.q i k j off) us) : R w T hv' .bot us := by
  simp only [R] at h
  obtain ⟨b, n, c, _, rfl⟩ := h
  exact ⟨_, rfl, rfl⟩

theorem row_one {w : World} {e : TypeId} {k n : Nat} {v : Value} {us : List Value} (h : w.ownsRow 0 e k v n us) : v.oneCell' = true := by
  rcases h.2 with ⟨rfl, _⟩ | ⟨g, cap, cur, rfl, _⟩ <;> rfl

theorem ret_frz (M : Mem) (x : AV) : Ret M x (frz M x) [] := by
  intro A w hv v hM hA hx
  refine ⟨noHv, ⟨fun i ob h => by simp at h, fun i v h => by simp [noHv] at h, fun i j vi vj b h => by simp [noHv] at h, hM.old⟩, ?_, fun b h => by obtain ⟨i, v, h, _⟩ := h; simp [noHv] at h⟩
  have hown : ∀ b, ¬ Own noHv b := fun b h => by obtain ⟨i, v, h, _⟩ := h; simp [noHv] at h
  refine RV_sub (T := OwnA A hv) (T' := OwnA A noHv) (hv := hv) (hv' := noHv) (fun b h => h.elim .inl (fun h => absurd h (hown b))) (fun i v h => ?_) (fun i => ?_) (fun i k j off us h => R_botq h) (fun _ _ _ _ => rfl) x v hx
  · obtain ⟨ob, hob⟩ := hM.dom i v h
    simp only [hob]
    split
    · rename_i hp
      simp only [Bool.and_eq_true, Option.isNone_iff_eq_none] at hp
      obtain ⟨hm, hp⟩ := hp
      obtain ⟨us, hrow, hk, hus⟩ := (hM_ob hM hob h).row hm
      have hus' := RL_pure ob.xs hv noHv us hp hus
      have hkeep : Keeps w (OwnA A hv) w (OwnA A noHv) := ⟨Nat.le_refl _, fun _ _ _ => rfl, fun b _ h => h.elim .inl (fun h => absurd h (hown b))⟩
      have hus2 := RL_keep hkeep (Z := []) (hv := noHv) (hv' := noHv) (fun _ _ _ h => h) _ _ hus'
      rw [AV.killL_nil] at hus2
      simp only [R]
      rcases hrow.2 with ⟨rfl, h0⟩ | ⟨g, cap, cur, rfl, _, hg, hnc, hcm, hcs, htk⟩
      · have he : ob.xs = [] := List.eq_nil_of_length_eq_zero h0
        rw [he]
        exact ⟨none, 0, [], by simp, Nat.le_refl _, Nat.zero_le _, by simp, by simp [RL], fun h => absurd rfl h⟩
      · refine ⟨_, cap, us, rfl, hnc, hcm, hk, hus2, fun _ => ⟨g, 0, rfl, (Array.getElem?_eq_some_iff.1 hg).1, fun h' => ?_, fun j u hu => ?_⟩⟩
        · rcases h' with h' | h'
          · exact hA g ⟨i, _, h, rfl⟩ h'
          · exact hown g h'
        · have := hrow.cells (g := g) rfl j u hu
          rw [Addr.add_lit] at this
          exact this
    · simp only [R]; exact ⟨v, rfl, (hM_ob hM hob h).one⟩
  · split
    · split <;> rfl
    · rfl

theorem ret_exp1 (M : Mem) (x : AV) (i : Nat) (ob : Ob) (hi : M[i]? = some (some ob)) (hp : AV.pureL ob.xs = true) : Ret M x (exp1 i x) [ob] := by
  intro A w hv v hM hA hx
  obtain ⟨v0, hv0, hob⟩ := hM.live i ob hi
  let hv' : Nat → Option Value := fun j => if j = 0 then some v0 else none
  have hown : ∀ b, Own hv' b → Own hv b := by
    rintro b ⟨j, u, hj, hb⟩
    simp only [hv'] at hj
    split at hj
    · injection hj with hj; subst hj; exact ⟨i, _, hv0, hb⟩
    · cases hj
  have hkeep : Keeps w (OwnA A hv) w (OwnA A hv') := ⟨Nat.le_refl _, fun _ _ _ => rfl, fun b _ h => h.elim .inl (fun h => .inr (hown b h))⟩
  refine ⟨hv', ⟨fun j o h => ?_, fun j u h => ?_, fun j1 j2 v1 v2 b h1 h2 _ _ => ?_, hM.old⟩, ?_, hown⟩
  · cases j with
    | zero =>
      simp at h
      subst h
      refine ⟨v0, rfl, ?_⟩
      cases hm : ob.mp with
      | some ks =>
        obtain ⟨vals, g1, g3⟩ := hob.map hm
        have h1 := RVL_pure ob.xs hv hv' _ hp g3
        have := RVL_keep hkeep (Z := []) (hv := hv') (hv' := hv') (fun _ _ _ h => h) _ _ h1
        rw [AV.killL_nil] at this
        exact ObR.of_map hm ⟨vals, g1, this⟩
      | none =>
      obtain ⟨us, hrow, hk, hus⟩ := hob.row hm
      refine ObR.of_row hm ⟨us, hrow, hk, ?_⟩
      have h1 := RL_pure ob.xs hv hv' us hp hus
      have := RL_keep hkeep (Z := []) (hv := hv') (hv' := hv') (fun _ _ _ h => h) _ _ h1
      rwa [AV.killL_nil] at this
    | succ j => simp at h
  · simp only [hv'] at h
    split at h
    · rename_i hj; subst hj; exact ⟨ob, rfl⟩
    · cases h
  · simp only [hv'] at h1 h2
    split at h1
    · split at h2
      · omega
      · cases h2
    · cases h1
  · refine RV_sub (T := OwnA A hv) (T' := OwnA A hv') (hv := hv) (hv' := hv') (fun b h => h.elim .inl (fun h => .inr (hown b h))) (fun j u h => ?_) (fun j => by split <;> rfl) (fun j k jj off us h => ?_) (fun j _ _ _ => by split <;> rfl) x v hx
    · split
      · rename_i hj
        subst hj
        rw [hv0] at h
        injection h with h
        subst h
        exact ⟨v0, rfl, rfl, hob.one⟩
      · obtain ⟨o, ho⟩ := hM.dom j u h
        exact ⟨u, rfl, (hM_ob hM ho h).one⟩
    · split
      · rename_i hj
        subst hj
        simp only [R] at h ⊢
        obtain ⟨b, n, c, h1, h2⟩ := h
        rw [hv0] at h1
        injection h1 with h1
        exact ⟨b, n, c, by simp [hv', h1], h2⟩
      · exact R_botq h

def resOne (P : Program) (σ : St) : ResultVar → Option AV
  | .tmp t => some (σ.sl.getD t .bot)
  | .cell t ty => match tiOf P ty, σ.sl.getD t .bot with
    | some ti, .q id k j off => (match σ.M[id]? with
      | some (some ob) => if ob.k = k ∧ j < ob.xs.length then loadA ti (ob.xs.getD j .bot) off else none
      | _ => none)
    | _, _ => none

def resL (P : Program) (σ : St) : List ResultVar → Option (List AV)
  | [] => some []
  | r :: rs => match resOne P σ r, resL P σ rs with
    | some x, some xs => some (x :: xs)
    | _, _ => none

def resA (P : Program) (rs : List ResultVar) (σ : St) : Option AV :=
  match resL P σ rs with
  | some [x] => some x
  | some xs => some (.t xs)
  | none => none

/-- what holds where a function ends. -/
def AEnd (P : Program) (rs : List ResultVar) (post : AV → List Ob → Prop) (σ : St) : Prop :=
  ∃ x, resA P rs σ = some x ∧ ∃ r Ms, Ret σ.M x r Ms ∧ post r Ms

section
variable {P : Program}

theorem res_ok {C : Ctx} {σ : St} {a : Act} {w : World} {fn : Func} {hv : Nat → Option Value} {x : AV} (hsl : ∀ (i : Nat) (x : AV), σ.sl[i]? = some x → ∃ v, a.tmps[i]? = some v ∧ RV w (OwnA C.A hv) hv x v) (hM : MemR C.A w hv σ.M)
    (h : resA P fn.results.toList σ = some x) : ∃ v, (results fn a.tmps).run P w = .ok v w ∧ RV w (OwnA C.A hv) hv x v := by
  have hget : ∀ t, RV w (OwnA C.A hv) hv (σ.sl.getD t .bot) (a.tmps.getD t undef) := fun t => ev_ok (σ := σ) (C := C) hsl (.tmp t)
  have one : ∀ (r : ResultVar) (y : AV), resOne P σ r = some y → ∃ v, (match r with | .tmp t => pure (a.tmps.getD t undef) | .cell q t => do loadVar t (← asAddr (a.tmps.getD q undef)) : Sem Value).run P w = .ok v w ∧ RV w (OwnA C.A hv) hv y v := by
    intro r y hr
    cases r with
    | tmp t => simp only [resOne, Option.some.injEq] at hr; subst hr; exact ⟨_, rfl, hget t⟩
    | cell t ty =>
      simp only [resOne] at hr
      split at hr
      · rename_i ti id k j off hti hq
        split at hr
        · rename_i ob hob
          split at hr
          · rename_i hc
            obtain ⟨rfl, hj⟩ := hc
            have hxv := hget t
            rw [hq] at hxv
            simp only [RV, R] at hxv
            obtain ⟨b, n, c, hb, e1⟩ := hxv
            injection e1 with e1
            obtain ⟨g, cap, ws, e2, h1, hc⟩ := ob_cells (hM_ob hM hob hb) (hM_ob hM hob hb).slice hj
            injection e2 with e2
            injection e2 with e2
            injection e2 with e2
            subst e2
            obtain ⟨u, hu, hru⟩ := load_ok hti h1 hc hr
            exact ⟨u, by simp [e1, asAddr, hu], hru⟩
          · cases hr
        · cases hr
      · cases hr
  have many : ∀ (rs : List ResultVar) (ys : List AV), resL P σ rs = some ys → ∃ vs, (rs.mapM (m := Sem) fun r => match r with | .tmp t => pure (a.tmps.getD t undef) | .cell q t => do loadVar t (← asAddr (a.tmps.getD q undef))).run P w = .ok vs w ∧ RVL w (OwnA C.A hv) hv ys vs := by
    intro rs
    induction rs with
    | nil => intro ys h; simp only [resL, Option.some.injEq] at h; subst h; exact ⟨[], rfl, by simp [RVL]⟩
    | cons r rs ih =>
      intro ys h
      simp only [resL] at h
      split at h
      · rename_i y ys' hy hys
        injection h with h
        subst h
        obtain ⟨v, hv1, hv2⟩ := one r y hy
        obtain ⟨vs, hvs1, hvs2⟩ := ih ys' hys
        refine ⟨v :: vs, ?_, by simp only [RVL]; exact ⟨v, vs, rfl, hv2, hvs2⟩⟩
        simp only [List.mapM_cons, Sem.run_bind, hv1, Result.andThen_ok, hvs1, Sem.run_pure]
      · cases h
  have hres : ∀ vs : List Value, (fn.results.toList.mapM (m := Sem) fun r => match r with | .tmp t => pure (a.tmps.getD t undef) | .cell q t => do loadVar t (← asAddr (a.tmps.getD q undef))).run P w = .ok vs w →
      (results fn a.tmps).run P w = .ok (if h : vs.toArray.size = 1 then vs.toArray[0] else .tuple vs.toArray) w := by
    intro vs h
    unfold results
    rw [Array.mapM_eq_mapM_toList]
    simp only [Sem.run_bind, Sem.run_map, Sem.run_pure]
    exact (congrArg (fun z : Result (List Value) => (z.andThen fun a w' => Result.ok a.toArray w').andThen fun a w' => Result.ok (if h : a.size = 1 then a[0] else Value.tuple a) w') h)
  unfold resA at h
  split at h
  · rename_i y hy
    injection h with h
    subst h
    obtain ⟨vs, h1, h2⟩ := many _ _ hy
    simp only [RVL] at h2
    obtain ⟨v, us, rfl, h3, rfl⟩ := h2
    exact ⟨v, by rw [hres _ h1]; rfl, h3⟩
  · rename_i ys hne hy
    injection h with h
    subst h
    obtain ⟨vs, h1, h2⟩ := many _ _ hy
    refine ⟨.tuple vs.toArray, ?_, by simp only [RV]; exact ⟨_, rfl, by simpa using h2⟩⟩
    rw [hres _ h1]
    have hl : ∀ (l : List AV) (us : List Value), RVL w (OwnA C.A hv) hv l us → us.length = l.length := by
      intro l
      induction l with
      | nil => intro us h; simp only [RVL] at h; subst h; rfl
      | cons x l ih => intro us h; simp only [RVL] at h; obtain ⟨u, us, rfl, _, h⟩ := h; simp [ih us h]
    rw [dif_neg]
    intro h1
    have := hl _ _ h2
    simp only [List.size_toArray] at h1
    rw [h1] at this
    match ys, this with
    | [y], _ => exact hne y rfl
  · cases h

theorem rvl_get {w : World} {T : Nat → Prop} {hv : Nat → Option Value} : ∀ (l : List AV) (us : List Value), RVL w T hv l us → us.length = l.length ∧ ∀ (i : Nat) (x : AV), l[i]? = some x → ∃ v, us[i]? = some v ∧ RV w T hv x v
  | [], us, h => by simp only [RVL] at h; subst h; simp
  | x :: l, us, h => by
    simp only [RVL] at h
    obtain ⟨u, us, rfl, h1, h2⟩ := h
    obtain ⟨h3, h4⟩ := rvl_get l us h2
    refine ⟨by simp [h3], fun i y hy => ?_⟩
    cases i with
    | zero => simp at hy; subst hy; exact ⟨u, by simp, h1⟩
    | succ i => simp at hy; obtain ⟨v, h5, h6⟩ := h4 i y hy; exact ⟨v, by simpa using h5, h6⟩

/-- A FUNCTION's contract, from its body. -/
theorem aspec_of {f : FuncId} {fn : Func} {c : Code} {own : List Nat} {as : List AV} {post : AV → List Ob → Prop} (hf : P.funcs[f]? = some fn) (hb : fn.body = some c) (hok : okFn P f = true)
    (h : @awp P own c ⟨as ++ List.replicate (fn.ntmps - as.length) .bot, []⟩ ⟨AEnd P fn.results.toList post⟩ ⟨fun _ _ => False⟩ ⟨fun σ _ => AEnd P fn.results.toList post σ⟩) : ASpec P f as post := by
  refine ⟨hok, fun w vs A hA hvs => calls_of_wp hf hb ?_⟩
  have hown : ∀ b, ¬ Own noHv b := fun b h => by obtain ⟨i, v, h, _⟩ := h; simp [noHv] at h
  obtain ⟨hlen, hget⟩ := rvl_get as vs hvs
  have hk : Keeps w A w (OwnA A noHv) := ⟨Nat.le_refl _, fun _ _ _ => rfl, fun b _ h => h.elim id (fun h => absurd h (hown b))⟩
  have hS : StR ⟨w, fun _ => False, A, []⟩ ⟨as ++ List.replicate (fn.ntmps - as.length) .bot, []⟩ { tmps := vs.toArray ++ Array.replicate (fn.ntmps - vs.toArray.size) undef, defers := [] } w := by
    refine ⟨noHv, rfl, by simp [hlen], fun i x hx => ?_, ⟨fun i ob h => by simp at h, fun i v h => by simp [noHv] at h, fun i j vi vj b h => by simp [noHv] at h, hA⟩, ⟨rfl, rfl, rfl, Nat.le_refl _, Nat.le_refl _, fun _ _ _ => rfl, fun b h => absurd h (hown b), hA, fun _ _ h => h⟩⟩
    rcases Nat.lt_or_ge i as.length with hlt | hge
    · simp only [List.getElem?_append_left hlt] at hx
      obtain ⟨v, h1, h2⟩ := hget i x hx
      refine ⟨v, ?_, ?_⟩
      · rw [Array.getElem?_append_left (by simp; omega)]; simpa using h1
      · have := RV_keep hk x [] noHv noHv v (fun _ _ _ h => h) h2
        rwa [AV.kill_nil] at this
    · simp only [List.getElem?_append_right hge, List.getElem?_replicate] at hx
      split at hx
      · rename_i hr
        injection hx with hx
        subst hx
        refine ⟨undef, ?_, by simp [RV]⟩
        rw [Array.getElem?_append_right (by simp; omega)]
        simp [hlen, hr]
      · cases hx
  have fin : ∀ (σ : St) (a' : Act) (w' : World), AEnd P fn.results.toList post σ → StR ⟨w, fun _ => False, A, []⟩ σ a' w' → a'.defers = [] ∧ ∃ v, (results fn a'.tmps).run P w' = .ok v w' ∧
      ∃ r Ms v' hv, Ending.returned v = .returned v' ∧ post r Ms ∧ MemR A w' hv (Ms.map some) ∧ RV w' (OwnA A hv) hv r v' ∧ (∀ b, Own hv b → w.heap.size ≤ b) ∧ Bel w.heap.size w w' := by
    rintro σ a' w' ⟨x, hx, r, Ms, hret, hp⟩ ⟨hv, hd, _, hsl, hM, hF⟩
    obtain ⟨v, h1, h2⟩ := res_ok (C := ⟨w, fun _ => False, A, []⟩) hsl hM hx
    have hfr : ∀ b, Own hv b → w.heap.size ≤ b := fun b h => (hF.own b h).elim (fun h => h.elim) id
    obtain ⟨hv', m1, m2, m3⟩ := hret A w' hv v hM (fun b hb hAb => by have := hfr b hb; have := hA b hAb; omega) h2
    exact ⟨hd, v, h1, r, Ms, v, hv', rfl, hp, m1, m2, fun b hb => hfr b (m3 b hb), ⟨⟨hF.os, hF.tape, hF.output, hF.size, fun b hb => hF.block b hb (fun h => h)⟩, hF.drawn⟩⟩
  refine wp_mono (awp_sound c _ _ _ _ h _ _ _ hS) fun e a' w' hq => ?_
  cases e with
  | normal => obtain ⟨σ, h1, h2⟩ := hq; exact fin σ a' w' h1 h2
  | ret => obtain ⟨σ, h1, h2⟩ := hq; exact fin σ a' w' h1 h2
  | exit id => obtain ⟨σ, h1, h2⟩ := hq; exact h1.elim
  | goto l => exact hq.elim
  | panic ch => exact hq.elim
  | outgrown => exact hq.elim
end

end Aw
end Go.Proofs.Ytkolpijhgcijbaa

namespace Go.Proofs.Ytkolpijhgcijbaa
namespace Aw
open Go.RowKit

theorem nbeq (a b : Nat) : (a == b) = decide (a = b) := by
  by_cases h : a = b <;> simp [h]

theorem getD_nil (i : Nat) (d : AV) : List.getD [] i d = d := by simp
theorem getD_zero (x : AV) (l : List AV) (d : AV) : List.getD (x :: l) 0 d = x := rfl
theorem getD_succ (x : AV) (l : List AV) (i : Nat) (d : AV) : List.getD (x :: l) (i + 1) d = l.getD i d := rfl

/-- A LOOP whose states are told by an index. -/
theorem swp_loop' {P : Program} {c : Code} {N : HN} {E : HE} {Rt : HR} {σ : St} {ι : Type} (S : ι → St) (J : ι → Prop) (μ : ι → Nat) (i0 : ι) (h0 : Le σ (S i0)) (hJ : J i0)
    (round : ∀ i, J i → @SWp P c (S i) ⟨fun σ' => ∃ i', Le σ' (S i') ∧ J i' ∧ μ i' < μ i⟩ E Rt) : @SWp P (.loop c) σ N E Rt := by
  have key : @SWp P (.loop c) σ N E Rt := by
    intro C a w hS
    let m : Act → World → Nat := fun a w => by
      classical exact if h : ∃ n, ∃ i, J i ∧ StR C (S i) a w ∧ μ i = n then Classical.choose (least (fun n => ∃ i, J i ∧ StR C (S i) a w ∧ μ i = n) h) else 0
    have hm : ∀ a w n, (∃ i, J i ∧ StR C (S i) a w ∧ μ i = n) → (∃ i, J i ∧ StR C (S i) a w ∧ μ i = m a w) ∧ m a w ≤ n := by
      intro a w n hn
      have hex : ∃ n, ∃ i, J i ∧ StR C (S i) a w ∧ μ i = n := ⟨n, hn⟩
      simp only [m, dif_pos hex]
      exact ⟨(Classical.choose_spec (least _ hex)).1, (Classical.choose_spec (least _ hex)).2 n hn⟩
    refine wp_loop (fun a w => ∃ n, ∃ i, J i ∧ StR C (S i) a w ∧ μ i = n) m ⟨_, i0, hJ, h0 C a w hS, rfl⟩ ?_
    rintro a w ⟨n, hn⟩
    obtain ⟨⟨i, h1, h2, h3⟩, _⟩ := hm a w n hn
    refine wp_mono (round i h1 C a w h2) fun e a' w' hq => ?_
    cases e with
    | normal =>
      obtain ⟨σ', ⟨i', hle, hI', hlt⟩, hS'⟩ := hq
      have hJ' : ∃ i, J i ∧ StR C (S i) a' w' ∧ μ i = μ i' := ⟨i', hI', hle C a' w' hS', rfl⟩
      exact ⟨⟨_, hJ'⟩, by have := (hm a' w' _ hJ').2; omega⟩
    | exit id => exact hq
    | ret => exact hq
    | goto l => exact hq.elim
    | panic ch => exact hq.elim
    | outgrown => exact hq.elim
  exact key

theorem le_sl {sl sl' : List AV} {M : Mem} (h : leSl sl sl') : Le ⟨sl, M⟩ ⟨sl', M⟩ :=
  le_of (Mx := []) h (by simp) (by
    have : ∀ l : List AV, AV.freeL [] l = true := fun l => by induction l <;> simp_all [AV.freeL, AV.free_nil]
    exact this sl') (fun ob _ => by
    have : ∀ l : List AV, AV.freeL [] l = true := fun l => by induction l <;> simp_all [AV.freeL, AV.free_nil]
    exact this ob.xs)

theorem aend_frz {P : Program} {rs : List ResultVar} {post : AV → List Ob → Prop} {σ : St} {x : AV} (hx : resA P rs σ = some x) (hp : post (frz σ.M x) []) : AEnd P rs post σ := ⟨x, hx, _, _, ret_frz σ.M x, hp⟩
theorem aend_exp {P : Program} {rs : List ResultVar} {post : AV → List Ob → Prop} {σ : St} {x : AV} (i : Nat) {ob : Ob} (hx : resA P rs σ = some x) (hi : σ.M[i]? = some (some ob)) (hb : AV.pureL ob.xs = true) (hp : post (exp1 i x) [ob]) : AEnd P rs post σ := ⟨x, hx, _, _, ret_exp1 σ.M x i ob hi hb, hp⟩

def intsA (l : List Int) : List AV := l.map fun n => I n
theorem intsA_len (l : List Int) : (intsA l).length = l.length := by simp [intsA]
theorem aget_ints {l : List Int} {j : Nat} (h : j < l.length) (K : HK (AV → Prop)) : @AGet (intsA l) j K = K.k (I l[j]) := by simp [AGet, intsA, h]
theorem intsA_at (l : List Int) {i : Nat} (h : i < l.length) : (intsA l).getD i .bot = I l[i] := by simp [intsA, h]

end Aw
end Go.Proofs.Ytkolpijhgcijbaa

namespace Go.Proofs.Ytkolpijhgcijbaa
namespace Aw
open Go.RowKit

section
variable {P : Program} {own : List Nat}

theorem callC_congr {c : Call} {ρ ρ' : Operand → AV} {M : Mem} {K : HK Kont} (h : ∀ x ∈ c.operands, ρ x = ρ' x) (hc : callC P c ρ M (K := K)) : callC P c ρ' M (K := K) := by
  obtain ⟨callee, args, tys⟩ := c
  have ha : ∀ x ∈ args.toList, ρ x = ρ' x := fun x hx => h x (by simp only [Call.operands]; exact Array.mem_append_right _ (by simpa using hx))
  have hm : args.toList.map ρ = args.toList.map ρ' := List.map_congr_left ha
  cases callee with
  | value f =>
    have hf : ρ f = ρ' f := h f (by simp [Call.operands])
    cases f <;> simp only [callC] at hc ⊢
    case func f => rw [← hm]; exact hc
    all_goals rw [← hm, ← hf]; exact hc
  | invoke r m => simp only [callC] at hc
  | builtin b =>
    cases b <;> simp only [callC] at hc <;> dsimp only [callC]
    case len =>
      split at hc
      · rename_i x t hx ht
        rw [hx] at ha
        rw [ha x (by simp)] at hc
        exact hc
      · exact hc.elim
    case min =>
      split at hc
      · rename_i x y hx
        rw [hx] at ha
        rw [ha x (by simp), ha y (by simp)] at hc
        exact hc
      · exact hc.elim
    case max =>
      split at hc
      · rename_i x y hx
        rw [hx] at ha
        rw [ha x (by simp), ha y (by simp)] at hc
        exact hc
      · exact hc.elim
    case append =>
      split at hc
      · rename_i x y t t' hx ht
        rw [hx] at ha
        rw [ha x (by simp), ha y (by simp)] at hc
        exact hc
      · exact hc.elim

theorem coreC_congr {o : Oper} {ρ ρ' : Operand → AV} {M : Mem} {K : HK Kont} (h : ∀ x ∈ o.op.operands, ρ x = ρ' x) (hc : coreC P own o ρ M (K := K)) : coreC P own o ρ' M (K := K) := by
  obtain ⟨dst, op, ty, pos, aft, gd⟩ := o
  cases op <;> simp only [Op.operands] at h <;> simp only [coreC] at hc ⊢
  case move x => rw [← h x (by simp)]; exact hc
  case assign x => rw [← h x (by simp)]; exact hc
  case pick c a b => rw [← h c (by simp), ← h a (by simp), ← h b (by simp)]; exact hc
  case box t x => rw [← h x (by simp)]; exact hc
  case alloc t => exact hc
  case load t x => rw [← h x (by simp)]; exact hc
  case store t x y => rw [← h x (by simp), ← h y (by simp)]; exact hc
  case fieldAddr t x f => rw [← h x (by simp)]; exact hc
  case indexAddr t x i => rw [← h x (by simp), ← h i (by simp)]; exact hc
  case binOp op ty x y r => rw [← h x (by simp), ← h y (by simp)]; exact hc
  case convert s d x => rw [← h x (by simp)]; exact hc
  case unOp op t x => cases op <;> simp only [coreC] at hc ⊢ <;> (rw [← h x (by simp)]; exact hc)
  case build t parts =>
    rw [← List.map_congr_left (f := fun ix : Nat × Operand => (ix.1, ρ ix.2)) (g := fun ix => (ix.1, ρ' ix.2)) fun x hx => by
      simp only [h x.2 (by simpa using ⟨x.1, by simpa using hx⟩)]]
    exact hc
  case buildSlice t n parts =>
    have hp : ∀ x ∈ parts.toList, ρ x.2 = ρ' x.2 := fun x hx => h x.2 (by simpa using ⟨x.1, by simpa using hx⟩)
    have e1 : (parts.toList.map fun ix => ρ ix.2) = (parts.toList.map fun ix => ρ' ix.2) := List.map_congr_left hp
    have e2 : ∀ n : Nat, (parts.toList.all fun ix => (ρ ix.2).cellular && (ρ ix.2).flat && (ρ ix.2).size == n) = (parts.toList.all fun ix => (ρ' ix.2).cellular && (ρ' ix.2).flat && (ρ' ix.2).size == n) := fun n => by
      rw [Bool.eq_iff_iff, List.all_eq_true, List.all_eq_true]
      exact ⟨fun H x hx => by rw [← hp x hx]; exact H x hx, fun H x hx => by rw [hp x hx]; exact H x hx⟩
    obtain ⟨ti, hti, hc⟩ := AOpt_elim hc
    obtain ⟨e, he, hc⟩ := AOpt_elim hc
    obtain ⟨te, hte, hc⟩ := AOpt_elim hc
    simp only [hti, he, hte, AOpt_some, ← e2]
    rw [← e1]
    exact hc
  case extract x i => rw [← h x (by simp)]; exact hc
  case field t x f => rw [← h x (by simp)]; exact hc
  case slice t x lo hi mx =>
    have hb : ∀ y : Option Operand, (∀ z, y = some z → ρ z = ρ' z) → bndA ρ y = bndA ρ' y := by
      intro y hy
      cases y with
      | none => rfl
      | some z => simp only [bndA, hy z rfl]
    have e1 := hb lo (fun z hz => h z (by subst hz; simp))
    have e2 := hb hi (fun z hz => h z (by subst hz; simp))
    cases mx <;> simp only [coreC] at hc ⊢
    rw [← h x (by simp), ← e1, ← e2]
    exact hc
  case makeFunc fn first cap =>
    have hp : ∀ x ∈ cap.toList, ρ x = ρ' x := fun x hx => h x (Array.mem_append_right _ (by simpa using hx))
    have e1 : cap.toList.map ρ = cap.toList.map ρ' := List.map_congr_left hp
    have e2 : (cap.toList.all fun x => (ρ x).cellular && (ρ x).single) = (cap.toList.all fun x => (ρ' x).cellular && (ρ' x).single) := by
      rw [Bool.eq_iff_iff, List.all_eq_true, List.all_eq_true]
      exact ⟨fun H x hx => by rw [← hp x hx]; exact H x hx, fun H x hx => by rw [hp x hx]; exact H x hx⟩
    rw [← e1, ← e2]
    exact hc
  case nilCheck x => rw [← h x (by simp)]; exact hc
  case makeMap t r => cases r with | none => exact hc | some r => exact False.elim hc
  case lookup t m x ok => rw [← h m (by simp), ← h x (by simp)]; exact hc
  case mapUpdate t m x y => rw [← h m (by simp), ← h x (by simp), ← h y (by simp)]; exact hc
  case insert t m x y => rw [← h m (by simp), ← h x (by simp), ← h y (by simp)]; exact hc
  case makeSlice t l c => rw [← h l (by simp), ← h c (by simp)]; exact hc
  case call c => exact callC_congr h hc

/-- what an operation can change. -/
def Op.cls : Op → Nat
  | .store .. => 1
  | .mapUpdate .. => 1
  | .insert .. => 1
  | .call c => (match c.callee with | .builtin .append => 2 | _ => 0)
  | _ => 0

def MLe (M0 M : Mem) : Prop := ∀ i ob, obA M0 i = some ob → obA M i = some ob

theorem MLe.refl (M : Mem) : MLe M M := fun _ _ h => h
theorem MLe.trans {M M' M'' : Mem} (h : MLe M M') (k : MLe M' M'') : MLe M M'' := fun i ob hi => k i ob (h i ob hi)
theorem MLe.app (M N : Mem) : MLe M (M ++ N) := fun i ob h => by
  have := obA_eq h
  have hlt := (List.getElem?_eq_some_iff.1 this).1
  unfold obA
  rw [List.getElem?_append_left hlt, this]
theorem MLe.nil (M : Mem) : MLe [] M := fun i ob h => by simp [obA] at h

def Cls (o : Oper) (M : Mem) (Z : List Nat) (M' : Mem) : Prop := (Op.cls o.op < 2 → Z = []) ∧ (Op.cls o.op < 1 → MLe M M')

theorem AOpt_mono {α : Type} {x : Option α} {K K' : HK (α → Prop)} (h : ∀ a, x = some a → K.k a → K'.k a) (hc : @AOpt α x K) : @AOpt α x K' := by
  obtain ⟨a, ha, hk⟩ := AOpt_elim hc
  have := h a ha hk
  subst ha
  exact this
theorem AAlt_mono {α : Type} {x : Option α} {K K' : HK (α → Prop)} {L L' : HK Prop} (h : ∀ a, x = some a → K.k a → K'.k a) (hl : L.k → L'.k) (hc : @AAlt α x K L) : @AAlt α x K' L' := by
  rcases AAlt_elim hc with ⟨a, ha, hk⟩ | ⟨ha, hk⟩
  · have := h a ha hk
    subst ha
    exact this
  · have := hl hk
    subst ha
    exact this
theorem ACond_mono {b : Bool} {x y x' y' : HK Prop} (h : x.k → x'.k) (hl : y.k → y'.k) (hc : @ACond b x y) : @ACond b x' y' := ⟨fun e => h (hc.1 e), fun e => hl (hc.2 e)⟩
theorem AGet_mono {xs : List AV} {j : Nat} {K K' : HK (AV → Prop)} (h : ∀ x, K.k x → K'.k x) (hc : @AGet xs j K) : @AGet xs j K' := by
  obtain ⟨x, hx, hk⟩ := hc
  exact ⟨x, hx, h x hk⟩
theorem AFind_mono {kt : TypeId} {ks : List Value} {v : Value} {K K' : HK (Nat → Prop)} {L L' : HK Prop} (h : ∀ j, K.k j → K'.k j) (hl : L.k → L'.k) (hc : AFind P kt ks v (K := K) (L := L)) : AFind P kt ks v (K := K') (L := L') := by
  obtain ⟨h1, h2⟩ := hc
  refine ⟨h1, ?_⟩
  rcases h2 with ⟨j, h3, h4⟩ | ⟨h3, h4⟩
  · exact .inl ⟨j, h3, h _ h4⟩
  · exact .inr ⟨h3, hl h4⟩
theorem andM {a b c : Prop} (h : b → c) (hc : a ∧ b) : a ∧ c := ⟨hc.1, h hc.2⟩
theorem ACall_mono {f : FuncId} {as : List AV} {M : Mem} {K K' : HK (AV → Mem → Prop)} (h : ∀ r N, K.k r (M ++ N) → K'.k r (M ++ N)) (hc : ACall P f as M (K := K)) : ACall P f as M (K := K') := by
  obtain ⟨lend, bs, post, h1, h2, h3⟩ := hc
  exact ⟨lend, bs, post, h1, h2, fun r Ms hp => ⟨(h3 r Ms hp).1, h _ _ (h3 r Ms hp).2⟩⟩

theorem callC_mono {c : Call} {ρ : Operand → AV} {M : Mem} {K K' : HK Kont} (h : ∀ r Z M', (Op.cls (.call c) < 2 → Z = []) → (Op.cls (.call c) < 1 → MLe M M') → K.k r Z M' → K'.k r Z M') (hc : callC P c ρ M (K := K)) : callC P c ρ M (K := K') := by
  obtain ⟨callee, args, tys⟩ := c
  cases callee with
  | value f =>
    have hk : ∀ r N, K.k r [] (M ++ N) → K'.k r [] (M ++ N) := fun r N => h r [] _ (fun _ => rfl) (fun _ => MLe.app M N)
    cases f <;> simp only [callC] at hc ⊢
    case func f => revert hc; exact ACall_mono hk
    all_goals revert hc; exact AOpt_mono (fun a _ => ACall_mono hk)
  | invoke r m => simp only [callC] at hc
  | builtin b =>
    cases b <;> simp only [callC] at hc <;> dsimp only [callC]
    case len =>
      have hk : ∀ r, K.k r [] M → K'.k r [] M := fun r => h r [] _ (fun _ => rfl) (fun _ => MLe.refl M)
      split at hc
      · revert hc; exact AOpt_mono (fun a _ => AAlt_mono (fun b _ => andM (hk _)) (AOpt_mono fun _ _ => AOpt_mono fun _ _ => hk _))
      · exact hc.elim
    case min =>
      have hk : ∀ r, K.k r [] M → K'.k r [] M := fun r => h r [] _ (fun _ => rfl) (fun _ => MLe.refl M)
      split at hc
      · revert hc; exact AOpt_mono (fun a _ => hk a)
      · exact hc.elim
    case max =>
      have hk : ∀ r, K.k r [] M → K'.k r [] M := fun r => h r [] _ (fun _ => rfl) (fun _ => MLe.refl M)
      split at hc
      · revert hc; exact AOpt_mono (fun a _ => hk a)
      · exact hc.elim
    case append =>
      have hk : ∀ r Z M', K.k r Z M' → K'.k r Z M' := fun r Z M' => h r Z M' (fun hh => by simp [Op.cls] at hh) (fun hh => by simp [Op.cls] at hh)
      split at hc
      · revert hc; refine AOpt_mono (fun a _ => AOpt_mono fun b _ => AOpt_mono fun c _ => AOpt_mono fun i _ => AOpt_mono fun ob _ => ?_)
        refine AAlt_mono (fun a _ => andM (hk _ _ _)) ?_
        refine AAlt_mono (fun a _ => andM (hk _ _ _)) ?_
        exact AOpt_mono (fun a _ => AOpt_mono fun b _ => andM (hk _ _ _))
      · exact hc.elim

theorem arithC_mono {op : BinOp} {a b : Int} {K K' : HK (AV → Prop)} (h : ∀ r, K.k r → K'.k r) (hc : arithC op a b (K := K)) : arithC op a b (K := K') := by
  cases op <;> first | exact hc.elim | exact ⟨hc.1, h _ hc.2⟩

theorem binC_mono {op : BinOp} {ty : TypeId} {x y : AV} {K K' : HK (AV → Prop)} (h : ∀ r, K.k r → K'.k r) (hc : binC P op ty x y (K := K)) : binC P op ty x y (K := K') := by
  unfold binC at hc ⊢
  revert hc; refine AAlt_mono (fun kx _ => AOpt_mono fun ky _ => AAlt_mono (fun b _ => andM (h _)) (andM (arithC_mono h))) ?_
  refine AAlt_mono (fun a _ => AOpt_mono fun b _ => AOpt_mono fun ti _ => andM (AOpt_mono fun r _ => h _)) ?_
  refine AAlt_mono (fun xs _ => AOpt_mono fun ys _ => AOpt_mono fun ti _ => AOpt_mono fun as _ => AOpt_mono fun bs _ => andM (AOpt_mono fun r _ => h _)) ?_
  exact AOpt_mono fun kxs _ => AOpt_mono fun _ _ => AOpt_mono fun ti _ => andM fun h2 b hb => h _ (h2 b hb)

theorem idxC_mono {t : TypeId} {M : Mem} {x : AV} {i : Int} {K K' : HK (AV → Prop)} (h : ∀ r, K.k r → K'.k r) (hc : idxC P t M x i (K := K)) : idxC P t M x i (K := K') := by
  unfold idxC at hc ⊢
  revert hc; refine AOpt_mono (fun ti _ => AAlt_mono (fun e _ => AOpt_mono fun te _ => AAlt_mono (fun kxs _ => andM (AGet_mono fun x => h _)) ?_) ?_)
  · exact AOpt_mono fun id _ => AOpt_mono fun ob _ => andM (h _)
  · exact AOpt_mono fun ne _ => AOpt_mono fun te _ => andM (AAlt_mono (fun yo _ => h _) (AOpt_mono fun q _ => h _))

theorem coreC_mono {o : Oper} {ρ : Operand → AV} {M : Mem} {K K' : HK Kont} (h : ∀ r Z M', Cls o M Z M' → K.k r Z M' → K'.k r Z M') (hc : coreC P own o ρ M (K := K)) : coreC P own o ρ M (K := K') := by
  obtain ⟨dst, op, ty, pos, aft, gd⟩ := o
  cases op
  case call c => exact callC_mono (fun r Z M' h1 h2 => h r Z M' ⟨h1, h2⟩) hc
  case mapUpdate t m x y =>
    simp only [coreC, putC] at hc ⊢
    have hk : ∀ r M', K.k r [] M' → K'.k r [] M' := fun r M' => h r [] M' ⟨fun _ => rfl, fun hh => by simp [Op.cls] at hh⟩
    revert hc; exact AOpt_mono fun ke _ => AOpt_mono fun id _ => AOpt_mono fun kv _ => AOpt_mono fun ob _ => AOpt_mono fun ks _ => andM (AFind_mono (fun j => hk _ _) (hk _ _))
  case insert t m x y =>
    simp only [coreC, putC] at hc ⊢
    have hk : ∀ r M', K.k r [] M' → K'.k r [] M' := fun r M' => h r [] M' ⟨fun _ => rfl, fun hh => by simp [Op.cls] at hh⟩
    revert hc; exact AOpt_mono fun ke _ => AOpt_mono fun id _ => AOpt_mono fun kv _ => AOpt_mono fun ob _ => AOpt_mono fun ks _ => andM (AFind_mono (fun j => hk _ _) (hk _ _))
  case store t x y =>
    simp only [coreC] at hc ⊢
    have hk : ∀ r M', K.k r [] M' → K'.k r [] M' := fun r M' => h r [] M' ⟨fun _ => rfl, fun hh => by simp [Op.cls] at hh⟩
    revert hc; exact AOpt_mono (fun ti _ => AOpt_mono fun q _ => AOpt_mono fun ob _ => andM (AGet_mono fun z => AOpt_mono fun r _ => hk _ _))
  all_goals
    have hk : ∀ r, K.k r [] M → K'.k r [] M := fun r => h r [] M ⟨fun _ => rfl, fun _ => MLe.refl M⟩
    have hn : ∀ r N, K.k r [] (M ++ N) → K'.k r [] (M ++ N) := fun r N => h r [] _ ⟨fun _ => rfl, fun _ => MLe.app M N⟩
    simp only [coreC] at hc ⊢
  case move x => exact hk _ hc
  case assign x => revert hc; exact AAlt_mono (fun _ _ => AOpt_mono fun ti _ => AOpt_mono fun e _ => AOpt_mono fun te _ => hn _ _) (hk _)
  case pick c a b => revert hc; exact AOpt_mono (fun c _ => ACond_mono (hk _) (hk _))
  case box t x => revert hc; exact andM (ACond_mono (hn _ _) (andM (hk _)))
  case alloc t => revert hc; exact AOpt_mono (fun ti _ => andM (hn _ _))
  case load t x => revert hc; exact AOpt_mono (fun ti _ => AAlt_mono (fun yo _ => AOpt_mono fun r _ => hk _) (AOpt_mono fun q _ => AOpt_mono fun ob _ => andM (AGet_mono fun y => AOpt_mono fun r _ => hk _)))
  case fieldAddr t x f => revert hc; exact AOpt_mono (fun ti _ => AOpt_mono fun fo _ => andM (AAlt_mono (fun yo _ => hk _) (AOpt_mono fun q _ => hk _)))
  case indexAddr t x i => revert hc; exact AOpt_mono (fun n _ => idxC_mono fun r => hk r)
  case binOp op ty x y r => revert hc; exact binC_mono (fun r => hk r)
  case convert s d x => revert hc; exact AOpt_mono (fun n _ => AOpt_mono fun _ _ => AOpt_mono fun _ _ => andM (hk _))
  case unOp op t x =>
    cases op <;> simp only [coreC] at hc ⊢
    case not => revert hc; exact AOpt_mono (fun b _ => hk _)
    case neg => revert hc; exact AOpt_mono (fun n _ => andM (hk _))
  case build t parts => revert hc; exact AOpt_mono (fun ti _ => AOpt_mono fun cells _ => andM (hk _))
  case buildSlice t n parts => revert hc; exact AOpt_mono (fun ti _ => AOpt_mono fun e _ => AOpt_mono fun te _ => andM (ACond_mono (hn _ _) (andM (hk _))))
  case extract x i => revert hc; exact AOpt_mono (fun xs _ => AOpt_mono fun r _ => hk _)
  case field t x f => revert hc; exact AOpt_mono (fun ti _ => AOpt_mono fun xs _ => AOpt_mono fun fo _ => AOpt_mono fun ft _ => AOpt_mono fun tf _ => AOpt_mono fun r _ => hk _)
  case slice t x lo hi mx =>
    cases mx <;> simp only [coreC] at hc ⊢
    revert hc; exact AOpt_mono (fun ti _ => AOpt_mono fun kxs _ => AOpt_mono fun lo _ => AOpt_mono fun hi _ => AOpt_mono fun e _ => AOpt_mono fun te _ => andM (hk _))
  case makeFunc fn first cap => exact ⟨hc.1, hk _ hc.2⟩
  case nilCheck x => revert hc; exact AAlt_mono (fun yo _ => hk _) (AOpt_mono fun q _ => hk _)
  case makeMap t r =>
    cases r <;> simp only [coreC] at hc ⊢
    revert hc; exact andM (hn _ _)
  case lookup t m x ok => revert hc; exact AOpt_mono fun ke _ => AOpt_mono fun id _ => AOpt_mono fun kv _ => AOpt_mono fun ob _ => AOpt_mono fun ks _ => AOpt_mono fun z _ => andM (AFind_mono (fun j => AGet_mono fun y => hk _) (hk _))
  case makeSlice t l c => revert hc; exact AOpt_mono fun ti _ => AOpt_mono fun e _ => AOpt_mono fun te _ => AOpt_mono fun z _ => AOpt_mono fun kn _ => AOpt_mono fun kn' _ => andM (hn _ _)
end
end Aw
end Go.Proofs.Ytkolpijhgcijbaa

namespace Go.Proofs.Ytkolpijhgcijbaa
namespace Aw
open Go.RowKit

section
variable {P : Program} {own : List Nat}

def det (P : Program) (own : List Nat) (o : Oper) : Bool :=
  match o.op with
  | .convert _ _ _ | .move _ | .pick _ _ _ | .load _ _ | .fieldAddr _ _ _ | .indexAddr _ _ _ | .build _ _ | .extract _ _ | .field _ _ _ | .nilCheck _ | .lookup _ _ _ _ | .unOp .not _ _ | .unOp .neg _ _ | .slice _ _ _ _ none => true
  | .assign _ => !own.contains (o.dst.getD 0)
  | .buildSlice _ _ _ => !own.contains (o.dst.getD 0)
  | .binOp _ ty _ _ _ => (match tiOf P ty with | some ti => ti.elem.isNone | none => true)
  | .call c => (match c.callee with | .builtin .len | .builtin .min | .builtin .max => true | _ => false)
  | _ => false

def Dt (Φ : AV → Prop) (M0 : Mem) (G : Mem → HK Kont → Prop) : Prop := ∃ r, Φ r ∧ ∀ M, MLe M0 M → ∀ K : HK Kont, K.k r [] M → G M K

section
variable {Φ : AV → Prop} {M0 : Mem}
theorem dt_pure {r : AV} (h : Φ r) : Dt Φ M0 (fun M K => K.k r [] M) := ⟨r, h, fun _ _ _ hk => hk⟩
theorem dt_opt {α : Type} {x : Option α} {F : HK (α → Prop)} {G : α → Mem → HK Kont → Prop} (h : ∀ a, x = some a → F.k a → Dt Φ M0 (G a)) (hc : @AOpt α x F) : Dt Φ M0 (fun M K => @AOpt α x ⟨fun a => G a M K⟩) := by
  obtain ⟨a, rfl, hk⟩ := AOpt_elim hc
  exact h a rfl hk
theorem dt_optM {α : Type} {x : Mem → Option α} {F : HK (α → Prop)} {G : α → Mem → HK Kont → Prop} (hx : ∀ M a, MLe M0 M → x M0 = some a → x M = some a) (h : ∀ a, F.k a → Dt Φ M0 (G a)) (hc : @AOpt α (x M0) F) : Dt Φ M0 (fun M K => @AOpt α (x M) ⟨fun a => G a M K⟩) := by
  obtain ⟨a, ha, hk⟩ := AOpt_elim hc
  obtain ⟨r, h1, h2⟩ := h a hk
  exact ⟨r, h1, fun M hM K hK => by show @AOpt α (x M) ⟨fun a => G a M K⟩; rw [hx M a hM ha]; exact h2 M hM K hK⟩
theorem dt_alt {α : Type} {x : Option α} {F : HK (α → Prop)} {L : HK Prop} {G : α → Mem → HK Kont → Prop} {H : Mem → HK Kont → Prop} (h : ∀ a, F.k a → Dt Φ M0 (G a)) (hl : L.k → Dt Φ M0 H) (hc : @AAlt α x F L) :
    Dt Φ M0 (fun M K => @AAlt α x ⟨fun a => G a M K⟩ ⟨H M K⟩) := by
  rcases AAlt_elim hc with ⟨a, rfl, hk⟩ | ⟨rfl, hk⟩
  · exact h a hk
  · exact hl hk
theorem dt_cond {b : Bool} {x y : HK Prop} {G H : Mem → HK Kont → Prop} (h : x.k → Dt Φ M0 G) (hl : y.k → Dt Φ M0 H) (hc : @ACond b x y) : Dt Φ M0 (fun M K => @ACond b ⟨G M K⟩ ⟨H M K⟩) := by
  cases b with
  | true =>
    obtain ⟨r, h1, h2⟩ := h (hc.1 rfl)
    exact ⟨r, h1, fun M hM K hK => ⟨fun _ => h2 M hM K hK, fun e => by cases e⟩⟩
  | false =>
    obtain ⟨r, h1, h2⟩ := hl (hc.2 rfl)
    exact ⟨r, h1, fun M hM K hK => ⟨fun e => (by cases e), fun _ => h2 M hM K hK⟩⟩
theorem dt_get {xs : List AV} {j : Nat} {F : HK (AV → Prop)} {G : AV → Mem → HK Kont → Prop} (h : ∀ a, F.k a → Dt Φ M0 (G a)) (hc : @AGet xs j F) : Dt Φ M0 (fun M K => @AGet xs j ⟨fun a => G a M K⟩) := by
  obtain ⟨x, hx, hk⟩ := hc
  obtain ⟨r, h1, h2⟩ := h x hk
  exact ⟨r, h1, fun M hM K hK => ⟨x, hx, h2 M hM K hK⟩⟩
theorem dt_and {p q : Prop} {G : Mem → HK Kont → Prop} (h : q → Dt Φ M0 G) (hc : p ∧ q) : Dt Φ M0 (fun M K => p ∧ G M K) := by
  obtain ⟨r, h1, h2⟩ := h hc.2
  exact ⟨r, h1, fun M hM K hK => ⟨hc.1, h2 M hM K hK⟩⟩

theorem dt_find {kt : TypeId} {ks : List Value} {v : Value} {F : HK (Nat → Prop)} {L : HK Prop} {G : Nat → Mem → HK Kont → Prop} {H : Mem → HK Kont → Prop} (h : ∀ j, F.k j → Dt Φ M0 (G j)) (hl : L.k → Dt Φ M0 H) (hc : AFind P kt ks v (K := F) (L := L)) :
    Dt Φ M0 (fun M K => AFind P kt ks v (K := ⟨fun j => G j M K⟩) (L := ⟨H M K⟩)) := by
  obtain ⟨h1, h2⟩ := hc
  rcases h2 with ⟨j, h3, h4⟩ | ⟨h3, h4⟩
  · obtain ⟨r, g1, g2⟩ := h j h4
    exact ⟨r, g1, fun M hM K hK => ⟨h1, .inl ⟨j, h3, g2 M hM K hK⟩⟩⟩
  · obtain ⟨r, g1, g2⟩ := hl h4
    exact ⟨r, g1, fun M hM K hK => ⟨h1, .inr ⟨h3, g2 M hM K hK⟩⟩⟩

theorem arithC_dt {op : BinOp} {a b : Int} {F : HK (AV → Prop)} (hF : ∀ r, F.k r → Φ r) (hc : arithC op a b (K := F)) : Dt Φ M0 (fun M K => arithC op a b (K := ⟨fun r => K.k r [] M⟩)) := by
  cases op <;> first | exact hc.elim | exact dt_and (fun h => dt_pure (hF _ h)) hc

theorem binC_dt {op : BinOp} {ty : TypeId} {x y : AV} {F : HK (AV → Prop)} (hd : (match tiOf P ty with | some ti => ti.elem.isNone | none => true) = true) (hF : ∀ r, F.k r → Φ r) (hc : binC P op ty x y (K := F)) :
    Dt Φ M0 (fun M K => binC P op ty x y (K := ⟨fun r => K.k r [] M⟩)) := by
  unfold binC at hc ⊢
  revert hc
  refine dt_alt (fun kx => dt_opt fun ky _ => dt_alt (fun b => dt_and fun h => dt_pure (hF _ h)) (dt_and (arithC_dt hF))) ?_
  refine dt_alt (fun a => dt_opt fun b _ => dt_opt fun ti _ => dt_and (dt_opt fun r _ h => dt_pure (hF _ h))) ?_
  refine dt_alt (fun xs => dt_opt fun ys _ => dt_opt fun ti _ => dt_opt fun as _ => dt_opt fun bs _ => dt_and (dt_opt fun r _ h => dt_pure (hF _ h))) ?_
  refine dt_opt fun kxs _ => dt_opt fun _ _ => dt_opt fun ti hti => fun h => ?_
  rw [hti] at hd
  have := h.1.2
  simp only [Option.isNone_iff_eq_none] at hd
  rw [hd] at this
  cases this

theorem idxC_dt {t : TypeId} {x : AV} {i : Int} {F : HK (AV → Prop)} (hF : ∀ r, F.k r → Φ r) (hc : idxC P t M0 x i (K := F)) : Dt Φ M0 (fun M K => idxC P t M x i (K := ⟨fun r => K.k r [] M⟩)) := by
  unfold idxC at hc ⊢
  revert hc
  refine dt_opt fun ti _ => dt_alt (fun e => dt_opt fun te _ => dt_alt (fun kxs => dt_and (dt_get fun x h => dt_pure (hF _ h))) ?_) ?_
  · exact dt_opt fun id _ => dt_optM (fun M a hM ha => hM _ _ ha) fun ob => dt_and fun h => dt_pure (hF _ h)
  · exact dt_opt fun ne _ => dt_opt fun te _ => dt_and (dt_alt (fun yo h => dt_pure (hF _ h)) (dt_opt fun q _ h => dt_pure (hF _ h)))

theorem lenA_mle {M : Mem} {x : AV} {n : Int} (hM : MLe M0 M) (h : lenA M0 x = some n) : lenA M x = some n := by
  cases x with
  | o i =>
    simp only [lenA] at h ⊢
    have := hM i
    unfold obA at this
    split at h
    · rename_i ob he
      rw [he] at this
      have := this ob rfl
      split at this
      · rename_i ob' he'
        rw [he']
        simp only [Option.some.injEq] at this
        subst this
        exact h
      · cases this
    · cases h
  | s k xs => exact h
  | v a => cases a <;> first | exact h | (rename_i b c d; revert h; cases b <;> simp only [lenA] <;> intro h <;> first | exact h | (split at h <;> simp_all))
  | _ => exact h
end

theorem lenM_mle {M0 M : Mem} {x : AV} {n : Int} (hM : MLe M0 M) (h : lenM M0 x = some n) : lenA M x = none ∧ lenM M x = some n := by
  cases x with
  | o i =>
    simp only [lenM, lenA] at h ⊢
    split at h
    · rename_i ob he
      have := hM i ob (by unfold obA; rw [he])
      rw [obA_eq this]
      split at h
      · rename_i ks hks
        simp only [hks]
        exact ⟨trivial, h⟩
      · cases h
    · cases h
  | _ => simp [lenM] at h

theorem coreC_det {o : Oper} {ρ : Operand → AV} {M0 : Mem} {Φ : AV → Prop} (hd : det P own o = true) (hc : coreC P own o ρ M0 (K := ⟨fun r _ _ => Φ r⟩)) : Dt Φ M0 (fun M K => coreC P own o ρ M (K := K)) := by
  obtain ⟨dst, op, ty, pos, aft, gd⟩ := o
  cases op <;> simp only [det] at hd <;> try (cases hd; done)
  case call c =>
    obtain ⟨callee, args, tys⟩ := c
    simp only at hd
    split at hd
    · simp only [coreC, callC] at hc ⊢
      split at hc
      · rename_i x t hx ht
        revert hc
        refine dt_opt fun ti _ => fun hc => ?_
        rcases AAlt_elim hc with ⟨n, hn, h⟩ | ⟨hn, h⟩
        · obtain ⟨r, g1, g2⟩ := dt_and (Φ := Φ) (M0 := M0) (fun h => dt_pure h) h
          refine ⟨r, g1, fun M hM K hK => ?_⟩
          simp only [lenA_mle hM hn, AAlt_some]
          exact g2 M hM K hK
        · obtain ⟨ke, hke, h⟩ := AOpt_elim h
          obtain ⟨n, hn', h⟩ := AOpt_elim h
          refine ⟨I n, h, fun M hM K hK => ?_⟩
          obtain ⟨e1, e2⟩ := lenM_mle hM hn'
          simp only [e1, AAlt_none, hke, AOpt_some, e2]
          exact hK
      · exact hc.elim
    · simp only [coreC, callC] at hc ⊢
      split at hc
      · revert hc
        exact dt_opt fun n _ h => dt_pure h
      · exact hc.elim
    · simp only [coreC, callC] at hc ⊢
      split at hc
      · revert hc
        exact dt_opt fun n _ h => dt_pure h
      · exact hc.elim
    · cases hd
  all_goals simp only [coreC] at hc ⊢
  case move x => exact dt_pure hc
  case assign x =>
    simp only [Bool.not_eq_true'] at hd
    simp only [hd, Bool.false_eq_true, if_false, AAlt_none] at hc ⊢
    exact dt_pure hc
  case pick c a b => revert hc; exact dt_opt fun c _ => dt_cond (fun h => dt_pure h) (fun h => dt_pure h)
  case load t x =>
    revert hc
    exact dt_opt fun ti _ => dt_alt (fun yo => dt_opt fun r _ h => dt_pure h) (dt_opt fun q _ => dt_optM (fun M a hM ha => hM _ _ ha) fun ob => dt_and (dt_get fun y => dt_opt fun r _ h => dt_pure h))
  case fieldAddr t x f => revert hc; exact dt_opt fun ti _ => dt_opt fun fo _ => dt_and (dt_alt (fun yo h => dt_pure h) (dt_opt fun q _ h => dt_pure h))
  case indexAddr t x i => revert hc; exact dt_opt fun n _ => idxC_dt fun r h => h
  case binOp op ty x y r => exact binC_dt hd (fun r h => h) hc
  case convert s d x => revert hc; exact dt_opt fun n _ => dt_opt fun _ _ => dt_opt fun _ _ => dt_and fun h => dt_pure h
  case unOp op t x =>
    cases op <;> simp only [coreC] at hc ⊢ <;> try (cases hd; done)
    case not => revert hc; exact dt_opt fun b _ h => dt_pure h
    case neg => revert hc; exact dt_opt fun b _ => dt_and fun h => dt_pure h
  case build t parts => revert hc; exact dt_opt fun ti _ => dt_opt fun cells _ => dt_and fun h => dt_pure h
  case buildSlice t n parts =>
    simp only [Bool.not_eq_true'] at hd
    revert hc
    exact dt_opt fun ti _ => dt_opt fun e _ => dt_opt fun te _ => dt_and fun h => by
      rw [hd] at h ⊢
      rw [ACond_false] at h
      obtain ⟨r, h1, h2⟩ := dt_and (Φ := Φ) (M0 := M0) (fun h => dt_pure h) h
      exact ⟨r, h1, fun M hM K hK => ⟨fun e => (by cases e), fun _ => h2 M hM K hK⟩⟩
  case extract x i => revert hc; exact dt_opt fun xs _ => dt_opt fun r _ h => dt_pure h
  case field t x f => revert hc; exact dt_opt fun ti _ => dt_opt fun xs _ => dt_opt fun fo _ => dt_opt fun ft _ => dt_opt fun tf _ => dt_opt fun r _ h => dt_pure h
  case slice t x lo hi mx =>
    cases mx <;> simp only [coreC] at hc ⊢ <;> try (cases hd; done)
    revert hc
    exact dt_opt fun ti _ => dt_opt fun kxs _ => dt_opt fun lo _ => dt_opt fun hi _ => dt_opt fun e _ => dt_opt fun te _ => dt_and fun h => dt_pure h
  case nilCheck x => revert hc; exact dt_alt (fun yo h => dt_pure h) (dt_opt fun q _ h => dt_pure h)
  case lookup t m x ok =>
    revert hc
    exact dt_opt fun ke _ => dt_opt fun id _ => dt_opt fun kv _ => dt_optM (fun M a hM ha => hM _ _ ha) fun ob => dt_opt fun ks _ => dt_opt fun z _ => dt_and (dt_find (fun j => dt_get fun y h => dt_pure h) (fun h => dt_pure h))
end
end Aw
end Go.Proofs.Ytkolpijhgcijbaa

namespace Go.Proofs.Ytkolpijhgcijbaa
namespace Aw
open Go.RowKit

theorem AV.kill_pure (Z : List Nat) (a : AV) : a.pure = true → a.kill Z = a := by
  refine AV.rec (motive_1 := fun a => a.pure = true → a.kill Z = a) (motive_2 := fun l => AV.pureL l = true → AV.killL Z l = l) ?_ ?_ ?_ ?_ ?_ ?_ ?_ ?_ ?_ ?_ ?_ a <;> intros <;> simp_all [AV.pure, AV.pureL, AV.kill, AV.killL]

section
variable {P : Program} {own : List Nat} {ops : Array Oper}

def St.put (σ : St) (d : Option Tmp) (r : AV) : St := ⟨setS σ.sl d r, σ.M⟩

theorem killS_nil (l : List AV) : killS [] l = l := by simp [killS]
theorem killS_map (Z : List Nat) (l : List AV) : killS Z l = l.map (AV.kill Z) := by
  apply List.ext_getElem?
  intro i
  rw [killS_get, List.getElem?_map]
theorem killS_setS (Z : List Nat) (l : List AV) (d : Option Tmp) (r : AV) : killS Z (setS l d r) = setS (killS Z l) d (r.kill Z) := by
  cases d with
  | none => rfl
  | some d => simp only [killS_map, setS, List.map_set]
theorem setS_comm (l : List AV) {d e : Option Tmp} (r s : AV) (h : ∀ t, d = some t → e ≠ some t) : setS (setS l d r) e s = setS (setS l e s) d r := by
  cases d with
  | none => rfl
  | some d =>
    cases e with
    | none => rfl
    | some e =>
      have hne : d ≠ e := fun he => h d rfl (he ▸ rfl)
      simp only [setS]
      exact List.set_comm _ _ hne
theorem setS_getD (l : List AV) {d : Option Tmp} (r : AV) {t : Nat} (h : d ≠ some t) : (setS l d r).getD t .bot = l.getD t .bot := by
  cases d with
  | none => rfl
  | some d =>
    simp only [setS, List.getD_eq_getElem?_getD]
    rw [List.getElem?_set_ne (by simpa using h)]
theorem killS_getD (Z : List Nat) (l : List AV) (t : Nat) : (killS Z l).getD t .bot = (l.getD t .bot).kill Z := by
  simp only [List.getD_eq_getElem?_getD, killS_get]
  cases l[t]? <;> simp [AV.kill]

def Seen (ops : Array Oper) (oi : Oper) (M0 : Mem) (σ0 σ : St) : Prop := (∀ t ∈ oi.looksAt ops, σ.sl.getD t .bot = σ0.sl.getD t .bot) ∧ MLe M0 σ.M

theorem ev_seen {o : Oper} {σ σ0 : St} (h : ∀ t ∈ o.looksAt ops, σ.sl.getD t .bot = σ0.sl.getD t .bot) : ∀ x ∈ o.op.operands, σ.ev x = σ0.ev x := by
  intro x hx
  cases x with
  | tmp t => exact h t (List.mem_append_left _ (List.mem_filterMap.2 ⟨.tmp t, by simpa using hx, rfl⟩))
  | const v => rfl
  | func f => rfl
  | global g => rfl

def PureC (ops : Array Oper) (oi : Oper) (σ0 : St) (r : AV) : Prop := (∀ t ∈ oi.looksAt ops, (σ0.sl.getD t .bot).pure = true) ∧ r.pure = true

theorem aop_mono {o : Oper} {σ : St} {N N' : HN} (h : ∀ r Z M', Cls o σ.M Z M' → N.k (σ.step o.dst r Z M') → N'.k (σ.step o.dst r Z M')) (hc : @aop P own ops.toList o σ N) : @aop P own ops.toList o σ N' := by
  have hb : N.k (σ.step o.dst (.t []) [] σ.M) → N'.k (σ.step o.dst (.t []) [] σ.M) := h _ _ _ ⟨fun _ => rfl, fun _ => MLe.refl _⟩
  unfold aop at hc ⊢
  split
  · rename_i hg
    simp only [hg] at hc
    exact coreC_mono h hc
  · rename_i j want hg
    simp only [hg] at hc
    revert hc
    exact AOpt_mono fun d _ => AOpt_mono fun b _ => ACond_mono (coreC_mono h) hb

theorem aop_swap {oi oj : Oper} {σ0 σ : St} {M0 : Mem} {r : AV} {N : HN} (hap : oi.apart ops oj = true) (hs : Seen ops oi M0 σ0 σ) (h2 : Op.cls oj.op < 2 ∨ PureC ops oi σ0 r) (h1 : Op.cls oj.op < 1 ∨ M0 = [])
    (h : @aop P own ops.toList oj (σ.put oi.dst r) N) : @aop P own ops.toList oj σ ⟨fun σ' => Seen ops oi M0 σ0 σ' ∧ N.k (σ'.put oi.dst r)⟩ := by
  obtain ⟨a1, a2, a3⟩ := Oper.apart_spec hap
  have step : ∀ r' Z M', Cls oj σ.M Z M' → N.k ((σ.put oi.dst r).step oj.dst r' Z M') → Seen ops oi M0 σ0 (σ.step oj.dst r' Z M') ∧ N.k ((σ.step oj.dst r' Z M').put oi.dst r) := by
    intro r' Z M' hcls hN
    have hk : ∀ x : AV, (PureC ops oi σ0 r → x.pure = true) → x.kill Z = x := fun x hx => by
      rcases h2 with h2 | h2
      · rw [hcls.1 h2, AV.kill_nil]
      · exact AV.kill_pure Z x (hx h2)
    refine ⟨⟨fun t ht => ?_, ?_⟩, ?_⟩
    · have hne : oj.dst ≠ some t := fun e => a3 t e ht
      simp only [St.step]
      rw [setS_getD _ _ hne, killS_getD, hs.1 t ht]
      exact hk _ fun hp => hp.1 t ht
    · rcases h1 with h1 | h1
      · exact hs.2.trans (hcls.2 h1)
      · subst h1; exact MLe.nil _
    · have : (σ.put oi.dst r).step oj.dst r' Z M' = (σ.step oj.dst r' Z M').put oi.dst r := by
        simp only [St.put, St.step, killS_setS]
        rw [hk r fun hp => hp.2, setS_comm _ _ _ a2]
      rw [← this]
      exact hN
  have hev : ∀ x ∈ oj.op.operands, (σ.put oi.dst r).ev x = σ.ev x := ev_seen (ops := ops) fun t ht => setS_getD _ _ fun e => a1 t e ht
  have hM : (σ.put oi.dst r).M = σ.M := rfl
  unfold aop at h ⊢
  split
  · rename_i hg
    simp only [hg] at h
    exact coreC_mono step (coreC_congr hev h)
  · rename_i j want hg
    simp only [hg] at h
    obtain ⟨d, hd, h⟩ := AOpt_elim h
    have hl : d ∈ oj.looksAt ops := by
      refine List.mem_append_right _ ?_
      have hd' : (ops[j]?).bind (·.dst) = some d := by simpa using hd
      simp only [hg, hd', Option.toList_some, List.mem_singleton]
    have hsl : (σ.put oi.dst r).sl.getD d .bot = σ.sl.getD d .bot := setS_getD _ _ fun e => a1 d e hl
    obtain ⟨b, hb, h⟩ := AOpt_elim (α := Bool) h
    rw [hsl] at hb
    simp only [hd, AOpt_some, hb]
    revert h
    exact ACond_mono (fun h => coreC_mono step (coreC_congr hev h)) (fun h => step _ _ _ ⟨fun _ => rfl, fun _ => MLe.refl _⟩ h)

/-- every order. -/
def AAny (P : Program) (own : List Nat) (ops : Array Oper) (N : St → Prop) : Nat → Array Bool → St → Prop
  | 0, listed, σ => Region.ready .any ops listed = [] ∧ N σ
  | n + 1, listed, σ => (Region.ready .any ops listed = [] → N σ) ∧ ∀ i ∈ Region.ready .any ops listed, ∀ o, ops[i]? = some o → @aop P own ops.toList o σ ⟨AAny P own ops N n (listed.setIfInBounds i true)⟩

theorem aany_sound {C : Ctx} {Q : Exit → Act → World → Prop} {N : St → Prop} (hQ : ∀ σ a w, N σ → StR C σ a w → Q .normal a w) : ∀ (n : Nat) (listed : Array Bool) (σ : St) (a : Act) (w : World), AAny P own ops N n listed σ → StR C σ a w →
    wpAny P .any ops Q n listed a w
  | 0, listed, σ, a, w, h, hS => ⟨h.1, hQ σ a w h.2 hS⟩
  | n + 1, listed, σ, a, w, h, hS => ⟨fun h0 => hQ σ a w (h.1 h0) hS, fun i hi => by
      obtain ⟨_, o, ho, _⟩ := mem_ready.1 hi
      refine wpOp_mono (fun a' w' => ?_) (aop_sound ho (h.2 i hi o ho) hS)
      rintro ⟨σ', h1, h2⟩
      exact aany_sound hQ n _ σ' a' w' h1 h2⟩

theorem aany_first {i : Nat} {oi : Oper} {r : AV} {M0 : Mem} {σ0 : St} {N : St → Prop} {dep : Nat → Bool} (hi : ops[i]? = some oi)
    (hY : ∀ σ, Seen ops oi M0 σ0 σ → ∀ N : HN, N.k (σ.put oi.dst r) → @aop P own ops.toList oi σ N)
    (hdep : ∀ j oj, ops[j]? = some oj → dep j = true → j = i ∨ ∃ e ∈ oj.after, Region.binds .any e = true ∧ dep e.on = true) :
    ∀ (n : Nat) (listed : Array Bool) (σ : St), Seen ops oi M0 σ0 σ →
      (∀ j, listed.getD j false = true → dep j = false) →
      (∀ j oj, ops[j]? = some oj → j ≠ i → dep j = false → listed.getD j true = false → oi.apart ops oj = true ∧ (Op.cls oj.op < 2 ∨ PureC ops oi σ0 r) ∧ (Op.cls oj.op < 1 ∨ M0 = [])) →
      i ∈ Region.ready .any ops listed → AAny P own ops N n (listed.setIfInBounds i true) (σ.put oi.dst r) → AAny P own ops N (n + 1) listed σ := by
  intro n
  induction n with
  | zero =>
    intro listed σ hs _ _ hr H
    refine ⟨fun h => (by rw [h] at hr; cases hr), fun j hj o ho => ?_⟩
    by_cases hji : j = i
    · subst hji
      rw [hi] at ho
      injection ho with ho
      subst ho
      exact hY σ hs ⟨AAny P own ops N 0 _⟩ H
    · have := ready_mono hj hji
      rw [H.1] at this
      cases this
  | succ n ih =>
    intro listed σ hs hlist hfree hr H
    refine ⟨fun h => (by rw [h] at hr; cases hr), fun j hj oj hoj => ?_⟩
    by_cases hji : j = i
    · subst hji
      rw [hi] at hoj
      injection hoj with ho
      subst ho
      exact hY σ hs ⟨AAny P own ops N (n + 1) _⟩ H
    · have g1 := H.2 j (ready_mono hj hji) oj hoj
      obtain ⟨hjun, oj', hoj', hall⟩ := mem_ready.1 hj
      rw [hoj] at hoj'
      injection hoj' with ho
      subst ho
      have hjd : dep j = false := by
        cases hd : dep j with
        | false => rfl
        | true =>
          rcases hdep j oj hoj hd with h | ⟨e, he, hb, hde⟩
          · exact absurd h hji
          · have := hlist e.on (hall e he hb)
            rw [hde] at this
            cases this
      obtain ⟨f1, f2, f3⟩ := hfree j oj hoj hji hjd hjun
      have g2 := aop_swap f1 hs f2 f3 g1
      refine aop_mono (fun r' Z M' hcls h => ?_) g2
      refine ih (listed.setIfInBounds j true) _ h.1 (fun k hk => ?_) (fun k ok hk hki hkd hun => ?_) (ready_mono hr (Ne.symm hji)) ?_
      · by_cases hjk : j = k
        · subst hjk; exact hjd
        · rw [getD_set_ne false hjk] at hk; exact hlist k hk
      · refine hfree k ok hk hki hkd ?_
        by_cases hjk : j = k
        · subst hjk; exact hjun
        · rw [getD_set_ne true hjk] at hun; exact hun
      · rw [Array.setIfInBounds_comm _ _ hji]
        exact h.2

inductive Md | reads | plain | over

def Md.mem : Md → Mem → Mem | .reads, M => M | _, _ => []
def Md.need : Md → List Nat → List AV → AV → Prop
  | .over, ts, sl, r => (ts.all fun t => (sl.getD t .bot).pure) = true ∧ r.pure = true
  | _, _, _, _ => True

/-- an operation that is taken first. -/
def atake (P : Program) (own : List Nat) (ops : List Oper) (o : Oper) (m : Md) (ts : List Nat) (σ : St) [N : HN] : Prop :=
  match o.guard with
  | none => coreC P own o σ.ev (m.mem σ.M) (K := ⟨fun r _ _ => m.need ts σ.sl r ∧ N.k (σ.put o.dst r)⟩)
  | some (j, want) => AOpt ((ops[j]?).bind (·.dst)) (K := ⟨fun d => AOpt (gd (σ.sl.getD d .bot) want) (K := ⟨fun b =>
      @ACond b ⟨coreC P own o σ.ev (m.mem σ.M) (K := ⟨fun r _ _ => m.need ts σ.sl r ∧ N.k (σ.put o.dst r)⟩)⟩ ⟨m.need ts σ.sl (.t []) ∧ N.k (σ.put o.dst (.t []))⟩⟩)⟩)

inductive Sch
  | done
  | take (i : Nat) (m : Md) (ts : List Nat) (s : Sch)
  | nil
  | alt (i : Nat) (s : Sch) (more : Sch)

def ASch (P : Program) (own : List Nat) (ops : List Oper) : Sch → St → [HN] → Prop
  | .done, σ, N => N.k σ
  | .take i m ts s, σ, N => AOpt (ops[i]?) (K := ⟨fun o => @atake P own ops o m ts σ ⟨fun σ' => @ASch P own ops s σ' N⟩⟩)
  | .nil, _, _ => True
  | .alt i s more, σ, N => AOpt (ops[i]?) (K := ⟨fun o => @aop P own ops o σ ⟨fun σ' => @ASch P own ops s σ' N⟩⟩) ∧ @ASch P own ops more σ N

/-- what is asked of an operation by the check of a schedule: its slot (and 1), the slots that it looks at, what it comes after, its class, whether it can be taken first. -/
structure Inf where
  dst : Nat
  lk : Nat
  af : Nat
  cls : Nat
  det : Bool

def maskOf : List Nat → Nat
  | [] => 0
  | t :: l => (1 <<< t) ||| maskOf l

theorem one_bit {k : Nat} (h : k ≠ 0) : Nat.testBit 1 k = false := by
  obtain ⟨m, rfl⟩ : ∃ m, k = m + 1 := ⟨k - 1, by omega⟩
  simp [Nat.testBit_succ]

theorem maskOf_bit (t : Nat) : ∀ l : List Nat, (maskOf l).testBit t = l.contains t
  | [] => by simp [maskOf]
  | u :: l => by
    rw [maskOf, Nat.testBit_or, maskOf_bit t l, List.contains_cons, Nat.testBit_shiftLeft]
    by_cases h : t = u
    · subst h; simp
    · have h' : (t == u) = false := by simpa using h
      rw [h']
      by_cases hge : u ≤ t
      · have : t - u ≠ 0 := by omega
        simp [hge, one_bit this]
      · simp [hge]

def infOf (P : Program) (own : List Nat) (ops : Array Oper) (o : Oper) : Inf :=
  ⟨match o.dst with | none => 0 | some t => t + 1, maskOf (o.looksAt ops), maskOf ((o.after.toList.filter (Region.binds .any)).map (·.on)), Op.cls o.op, det P own o⟩

def Inf.eqb (x y : Inf) : Bool := Nat.beq x.dst y.dst && Nat.beq x.lk y.lk && Nat.beq x.af y.af && Nat.beq x.cls y.cls && (x.det == y.det)
theorem Inf.eqb_eq {x y : Inf} (h : x.eqb y = true) : x = y := by
  obtain ⟨a, b, c, d, e⟩ := x
  obtain ⟨a', b', c', d', e'⟩ := y
  simp only [Inf.eqb, Bool.and_eq_true, Nat.beq_eq, beq_iff_eq] at h
  obtain ⟨⟨⟨⟨h1, h2⟩, h3⟩, h4⟩, h5⟩ := h
  subst h1; subst h2; subst h3; subst h4; subst h5; rfl

def tbOk (P : Program) (own : List Nat) (ops : Array Oper) : List Oper → List Inf → Bool
  | [], [] => true
  | o :: l, x :: tb => (infOf P own ops o).eqb x && tbOk P own ops l tb
  | _, _ => false
theorem tbOk_eq {P : Program} {own : List Nat} {ops : Array Oper} : ∀ (l : List Oper) (tb : List Inf), tbOk P own ops l tb = true → tb = l.map (infOf P own ops)
  | [], [], _ => rfl
  | o :: l, x :: tb, h => by
    simp only [tbOk, Bool.and_eq_true] at h
    rw [List.map_cons, tbOk_eq l tb h.2, Inf.eqb_eq h.1]
  | [], _ :: _, h => by simp [tbOk] at h
  | _ :: _, [], h => by simp [tbOk] at h

def Inf.apart (x y : Inf) : Bool :=
  (match x.dst with | 0 => true | d + 1 => !(y.lk.testBit d) && !(Nat.beq y.dst (d + 1))) && (match y.dst with | 0 => true | d + 1 => !(x.lk.testBit d))

theorem Inf.apart_eq (P : Program) (own : List Nat) (ops : Array Oper) (o o' : Oper) : (infOf P own ops o).apart (infOf P own ops o') = o.apart ops o' := by
  unfold Inf.apart Oper.apart infOf
  congr 1
  · cases o.dst with
    | none => rfl
    | some d =>
      have : (!(Nat.beq (match o'.dst with | none => 0 | some t => t + 1) (d + 1))) = (o'.dst != some d) := by
        cases o'.dst with
        | none => rfl
        | some e =>
          by_cases h : e = d
          · subst h; simp
          · have hb : Nat.beq (e + 1) (d + 1) = false := by
              cases hb : Nat.beq (e + 1) (d + 1) with
              | false => rfl
              | true => exact absurd (Nat.succ.inj (Nat.eq_of_beq_eq_true hb)) h
            simp only [hb]
            simp [h]
      simp only [maskOf_bit, this]
  · cases o'.dst with
    | none => rfl
    | some d => simp only [maskOf_bit]

/-- what may come next, when the operations of the mask are done. -/
def readyI : List Inf → Nat → Nat → List Nat
  | [], _, _ => []
  | x :: tb, k, lm => if !(lm.testBit k) && Nat.beq (x.af &&& lm) x.af then k :: readyI tb (k + 1) lm else readyI tb (k + 1) lm

/-- what comes after i. -/
def depsI (i : Nat) : List Inf → Nat → Nat → Nat
  | [], _, m => m
  | x :: tb, k, m => depsI i tb (k + 1) (if Nat.beq k i || !(Nat.beq (x.af &&& m) 0) then m ||| (1 <<< k) else m)

def depOkI (i d : Nat) : List Inf → Nat → Bool
  | [], _ => true
  | x :: tb, k => (!(d.testBit k) || Nat.beq k i || !(Nat.beq (x.af &&& d) 0)) && depOkI i d tb (k + 1)

def freeI (i : Nat) (xi : Inf) (m : Md) (lm d : Nat) : List Inf → Nat → Bool
  | [], _ => true
  | x :: tb, k => (Nat.beq k i || d.testBit k || lm.testBit k || (xi.apart x && (match m with | .reads => Nat.blt x.cls 1 | .plain => Nat.blt x.cls 2 | .over => true))) && freeI i xi m lm d tb (k + 1)

def takeI (tb : List Inf) (i : Nat) (m : Md) (ts : List Nat) (lm d : Nat) : Bool :=
  match tb[i]? with
  | none => false
  | some x => x.det && depOkI i d tb 0 && Nat.beq (lm &&& d) 0 && freeI i x m lm d tb 0 && (match m with | .over => Nat.beq (x.lk &&& maskOf ts) x.lk | _ => true)

def Sch.alts : Sch → List Nat
  | .alt i _ more => i :: more.alts
  | _ => []

def Sch.ok (tb : List Inf) : Sch → Bool → Nat → Nat → Bool
  | .done, top, _, lm => top && (readyI tb 0 lm).isEmpty
  | .take i m ts s, top, n, lm => top && !(Nat.beq n 0) && (readyI tb 0 lm).contains i && takeI tb i m ts lm (depsI i tb 0 0) && s.ok tb true (n - 1) (lm ||| (1 <<< i))
  | .nil, top, _, _ => !top
  | .alt i s more, top, n, lm => !(Nat.beq n 0) && (!top || (!(readyI tb 0 lm).isEmpty && (readyI tb 0 lm).all (i :: more.alts).contains)) && s.ok tb true (n - 1) (lm ||| (1 <<< i)) && more.ok tb false n lm

/-- the schedule fits the region. -/
def Sch.fits (P : Program) (own : List Nat) (ops : Array Oper) (s : Sch) (tb : List Inf) : Bool := tbOk P own ops ops.toList tb && s.ok tb true tb.length 0

end
end Aw
end Go.Proofs.Ytkolpijhgcijbaa

namespace Go.Proofs.Ytkolpijhgcijbaa
namespace Aw
open Go.RowKit

section
variable {P : Program} {own : List Nat} {ops : Array Oper}

theorem step_put (σ : St) (d : Option Tmp) (r : AV) : σ.step d r [] σ.M = σ.put d r := by simp only [St.step, St.put, killS_nil]

theorem atake_yields {o : Oper} {m : Md} {ts : List Nat} {σ : St} {N : HN} (hd : det P own o = true) (h : @atake P own ops.toList o m ts σ N) :
    ∃ r, m.need ts σ.sl r ∧ N.k (σ.put o.dst r) ∧ ∀ σ', Seen ops o (m.mem σ.M) σ σ' → ∀ N' : HN, N'.k (σ'.put o.dst r) → @aop P own ops.toList o σ' N' := by
  unfold atake at h
  split at h
  · rename_i hg
    obtain ⟨r, ⟨h1, h2⟩, h3⟩ := coreC_det (M0 := m.mem σ.M) hd h
    refine ⟨r, h1, h2, fun σ' hs N' hN => ?_⟩
    unfold aop
    simp only [hg]
    exact coreC_congr (fun x hx => (ev_seen (ops := ops) hs.1 x hx).symm) (h3 _ hs.2 ⟨fun r Z M' => N'.k (σ'.step o.dst r Z M')⟩ (by rw [← step_put] at hN; exact hN))
  · rename_i j want hg
    obtain ⟨d, hdd, h⟩ := AOpt_elim h
    obtain ⟨b, hb, h⟩ := AOpt_elim (α := Bool) h
    have hl : d ∈ o.looksAt ops := by
      refine List.mem_append_right _ ?_
      have hd' : (ops[j]?).bind (·.dst) = some d := by simpa using hdd
      simp only [hg, hd', Option.toList_some, List.mem_singleton]
    cases hbw : b with
    | true =>
      obtain ⟨r, ⟨h1, h2⟩, h3⟩ := coreC_det (M0 := m.mem σ.M) hd (h.1 hbw)
      refine ⟨r, h1, h2, fun σ' hs N' hN => ?_⟩
      unfold aop
      simp only [hg, hdd, AOpt_some]
      rw [hs.1 d hl, hb, AOpt_some]
      refine ⟨fun _ => ?_, fun e => by rw [hbw] at e; cases e⟩
      exact coreC_congr (fun x hx => (ev_seen (ops := ops) hs.1 x hx).symm) (h3 _ hs.2 ⟨fun r Z M' => N'.k (σ'.step o.dst r Z M')⟩ (by rw [← step_put] at hN; exact hN))
    | false =>
      obtain ⟨h1, h2⟩ := h.2 hbw
      refine ⟨.t [], h1, h2, fun σ' hs N' hN => ?_⟩
      unfold aop
      simp only [hg, hdd, AOpt_some]
      rw [hs.1 d hl, hb, AOpt_some]
      refine ⟨fun e => (by rw [hbw] at e; cases e), fun _ => ?_⟩
      rw [← step_put] at hN
      exact hN

/-- the list of what is done, and its mask. -/
def Fits (ops : Array Oper) (listed : Array Bool) (lm : Nat) : Prop := listed.size = ops.size ∧ ∀ j, listed.getD j false = lm.testBit j

theorem Fits.getT {listed : Array Bool} {lm : Nat} (h : Fits ops listed lm) {j : Nat} (hj : j < ops.size) : listed.getD j true = lm.testBit j := by
  rw [← h.2 j]
  have : j < listed.size := by rw [h.1]; exact hj
  simp [this]

theorem Fits.set {listed : Array Bool} {lm : Nat} (h : Fits ops listed lm) {i : Nat} (hi : i < ops.size) : Fits ops (listed.setIfInBounds i true) (lm ||| (1 <<< i)) := by
  refine ⟨by simpa using h.1, fun j => ?_⟩
  rw [Nat.testBit_or, Nat.testBit_shiftLeft]
  have hil : i < listed.size := by rw [h.1]; exact hi
  by_cases hij : i = j
  · subst hij
    simp [hil]
  · rw [← h.2 j]
    have e : (listed.setIfInBounds i true).getD j false = listed.getD j false := by
      simp [Array.getD_eq_getD_getElem?, Array.getElem?_setIfInBounds_ne hij]
    rw [e]
    by_cases hge : i ≤ j
    · have : j - i ≠ 0 := by omega
      simp [one_bit this]
    · simp [hge]

theorem sub_mask {a lm : Nat} (h : Nat.beq (a &&& lm) a = true) {t : Nat} (ht : a.testBit t = true) : lm.testBit t = true := by
  have h := Nat.eq_of_beq_eq_true h
  rw [← h, Nat.testBit_and, Bool.and_eq_true] at ht
  exact ht.2
theorem mem_mask {l : List Nat} {t : Nat} : (maskOf l).testBit t = true ↔ t ∈ l := by rw [maskOf_bit]; simp
theorem disj_mask {a b : Nat} (h : Nat.beq (a &&& b) 0 = true) {t : Nat} (ha : a.testBit t = true) (hb : b.testBit t = true) : False := by
  have h := Nat.eq_of_beq_eq_true h
  have : (a &&& b).testBit t = true := by rw [Nat.testBit_and, ha, hb]; rfl
  rw [h] at this
  simp at this
theorem meet_mask {l : List Nat} {b : Nat} (h : (!(Nat.beq (maskOf l &&& b) 0)) = true) : ∃ t ∈ l, b.testBit t = true := by
  have h1 : maskOf l &&& b ≠ 0 := by
    intro e
    rw [e] at h
    simp at h
  obtain ⟨t, ht⟩ := Nat.exists_testBit_of_ne_zero h1
  rw [Nat.testBit_and, Bool.and_eq_true] at ht
  exact ⟨t, mem_mask.1 ht.1, ht.2⟩
theorem super_mask {l : List Nat} {b : Nat} : Nat.beq (maskOf l &&& b) (maskOf l) = true ↔ ∀ t ∈ l, b.testBit t = true := by
  constructor
  · intro h t ht
    exact sub_mask h (mem_mask.2 ht)
  · intro h
    rw [Nat.beq_eq]
    apply Nat.eq_of_testBit_eq
    intro t
    rw [Nat.testBit_and]
    cases ht : (maskOf l).testBit t with
    | false => rfl
    | true => rw [h t (mem_mask.1 ht)]; rfl

theorem readyI_mem {listed : Array Bool} {lm : Nat} (h : Fits ops listed lm) : ∀ (l : List Oper) (k : Nat), ops.toList.drop k = l → ∀ i, i ∈ readyI (l.map (infOf P own ops)) k lm ↔ k ≤ i ∧ i ∈ Region.ready .any ops listed
  | [], k, hk, i => by
    simp only [List.map_nil, readyI, List.not_mem_nil, false_iff]
    rintro ⟨h1, h2⟩
    obtain ⟨_, o, ho, _⟩ := mem_ready.1 h2
    have := (Array.getElem?_eq_some_iff.1 ho).1
    have h3 : ops.toList.length ≤ k := List.drop_eq_nil_iff.1 hk
    simp at h3
    omega
  | o :: l, k, hk, i => by
    have ho : ops[k]? = some o := by
      have : (ops.toList.drop k)[0]? = some o := by rw [hk]; rfl
      rw [List.getElem?_drop] at this
      simpa using this
    have hkl := (Array.getElem?_eq_some_iff.1 ho).1
    have hk' : ops.toList.drop (k + 1) = l := by rw [← List.drop_drop, hk]; rfl
    have ih := readyI_mem h l (k + 1) hk' i
    have hself : (!(lm.testBit k) && Nat.beq ((infOf P own ops o).af &&& lm) (infOf P own ops o).af) = true ↔ k ∈ Region.ready .any ops listed := by
      rw [mem_ready, h.getT hkl, Bool.and_eq_true, Bool.not_eq_true']
      refine and_congr Iff.rfl ?_
      simp only [infOf]
      rw [super_mask]
      constructor
      · intro hh
        refine ⟨o, ho, fun e he hb => ?_⟩
        have := hh e.on (List.mem_map.2 ⟨e, List.mem_filter.2 ⟨by simpa using he, hb⟩, rfl⟩)
        rw [h.2]; exact this
      · rintro ⟨o', ho', hh⟩ t ht
        rw [ho] at ho'
        injection ho' with ho'
        subst ho'
        obtain ⟨e, he, rfl⟩ := List.mem_map.1 ht
        obtain ⟨he1, he2⟩ := List.mem_filter.1 he
        have := hh e (by simpa using he1) he2
        rw [← h.2]; exact this
    simp only [List.map_cons, readyI]
    split
    · rename_i hc
      rw [List.mem_cons, ih]
      constructor
      · rintro (rfl | ⟨h1, h2⟩)
        · exact ⟨Nat.le_refl _, hself.1 hc⟩
        · exact ⟨by omega, h2⟩
      · rintro ⟨h1, h2⟩
        by_cases hik : i = k
        · exact .inl hik
        · exact .inr ⟨by omega, h2⟩
    · rename_i hc
      rw [ih]
      constructor
      · rintro ⟨h1, h2⟩; exact ⟨by omega, h2⟩
      · rintro ⟨h1, h2⟩
        by_cases hik : i = k
        · subst hik; exact absurd (hself.2 h2) hc
        · exact ⟨by omega, h2⟩

theorem readyI_eq {listed : Array Bool} {lm : Nat} (h : Fits ops listed lm) (i : Nat) : i ∈ readyI (ops.toList.map (infOf P own ops)) 0 lm ↔ i ∈ Region.ready .any ops listed := by
  rw [readyI_mem h ops.toList 0 rfl]
  simp

theorem depOkI_get {i d : Nat} : ∀ (l : List Oper) (k : Nat), depOkI i d (l.map (infOf P own ops)) k = true → ∀ (j : Nat) (oj : Oper), l[j]? = some oj → d.testBit (k + j) = true → k + j = i ∨ ∃ e ∈ oj.after, Region.binds .any e = true ∧ d.testBit e.on = true
  | [], _, _, j, oj, hj, _ => by simp at hj
  | o :: l, k, h, j, oj, hj, hd => by
    simp only [List.map_cons, depOkI, Bool.and_eq_true] at h
    cases j with
    | zero =>
      simp at hj
      subst hj
      have h1 := h.1
      rw [Nat.add_zero] at hd ⊢
      rw [hd] at h1
      simp only [Bool.not_true, Bool.false_or, Bool.or_eq_true] at h1
      rcases h1 with h1 | h1
      · exact .inl (Nat.eq_of_beq_eq_true h1)
      · obtain ⟨t, ht, hb⟩ := meet_mask h1
        obtain ⟨e, he, rfl⟩ := List.mem_map.1 ht
        obtain ⟨he1, he2⟩ := List.mem_filter.1 he
        exact .inr ⟨e, by simpa using he1, he2, hb⟩
    | succ j =>
      simp at hj
      have := depOkI_get l (k + 1) h.2 j oj hj (by rw [show k + 1 + j = k + (j + 1) by omega]; exact hd)
      rw [show k + 1 + j = k + (j + 1) by omega] at this
      exact this

theorem freeI_get {i : Nat} {oi : Oper} {m : Md} {lm d : Nat} : ∀ (l : List Oper) (k : Nat), freeI i (infOf P own ops oi) m lm d (l.map (infOf P own ops)) k = true → ∀ (j : Nat) (oj : Oper), l[j]? = some oj → k + j ≠ i → d.testBit (k + j) = false → lm.testBit (k + j) = false →
    oi.apart ops oj = true ∧ (match m with | .reads => Op.cls oj.op < 1 | .plain => Op.cls oj.op < 2 | .over => True)
  | [], _, _, j, oj, hj, _, _, _ => by simp at hj
  | o :: l, k, h, j, oj, hj, hne, hd, hl => by
    simp only [List.map_cons, freeI, Bool.and_eq_true] at h
    cases j with
    | zero =>
      simp at hj
      subst hj
      have h1 := h.1
      rw [Nat.add_zero] at hd hl hne
      have hb : Nat.beq k i = false := by
        cases hb : Nat.beq k i with
        | false => rfl
        | true => exact absurd (Nat.eq_of_beq_eq_true hb) hne
      rw [hd, hl, hb] at h1
      simp only [Bool.false_or, Bool.and_eq_true, Inf.apart_eq] at h1
      refine ⟨h1.1, ?_⟩
      have h2 := h1.2
      cases m with
      | reads => simpa [infOf, Nat.blt_eq] using h2
      | plain => simpa [infOf, Nat.blt_eq] using h2
      | over => trivial
    | succ j =>
      simp at hj
      exact freeI_get l (k + 1) h.2 j oj hj (by omega) (by rw [show k + 1 + j = k + (j + 1) by omega]; exact hd) (by rw [show k + 1 + j = k + (j + 1) by omega]; exact hl)

theorem asch_any {N : HN} : ∀ (s : Sch) (top : Bool) (n : Nat) (listed : Array Bool) (lm : Nat) (σ : St), Fits ops listed lm → s.ok (ops.toList.map (infOf P own ops)) top n lm = true → @ASch P own ops.toList s σ N →
    (top = true → AAny P own ops N.k n listed σ) ∧ (top = false → ∀ k, n = k + 1 → ∀ i ∈ s.alts, ∀ o, ops[i]? = some o → @aop P own ops.toList o σ ⟨AAny P own ops N.k k (listed.setIfInBounds i true)⟩) := by
  intro s
  induction s with
  | done =>
    intro top n listed lm σ hf hok h
    simp only [Sch.ok, Bool.and_eq_true, List.isEmpty_iff] at hok
    have h0 : Region.ready .any ops listed = [] := by
      rw [List.eq_nil_iff_forall_not_mem]
      intro i hi
      have := (readyI_eq (P := P) (own := own) hf i).2 hi
      rw [hok.2] at this
      cases this
    refine ⟨fun _ => ?_, fun e => (by rw [hok.1] at e; cases e)⟩
    cases n with
    | zero => exact ⟨h0, h⟩
    | succ n => exact ⟨fun _ => h, fun i hi => by rw [h0] at hi; cases hi⟩
  | take i m ts s ih =>
    intro top n listed lm σ hf hok h
    simp only [Sch.ok, Bool.and_eq_true] at hok
    obtain ⟨⟨⟨⟨ht, hn⟩, hr⟩, htk⟩, hok⟩ := hok
    refine ⟨fun _ => ?_, fun e => by rw [ht] at e; cases e⟩
    cases n with
    | zero => simp at hn
    | succ n =>
      simp only [Nat.add_sub_cancel] at hok
      unfold ASch at h
      obtain ⟨o, ho, h⟩ := AOpt_elim h
      have ho : ops[i]? = some o := by simpa using ho
      have hil := (Array.getElem?_eq_some_iff.1 ho).1
      unfold takeI at htk
      have hoi : (ops.toList.map (infOf P own ops))[i]? = some (infOf P own ops o) := by simp [ho]
      simp only [hoi, Bool.and_eq_true] at htk
      obtain ⟨⟨⟨⟨hdet, hdep⟩, hlist⟩, hfree⟩, hseen⟩ := htk
      generalize depsI i (ops.toList.map (infOf P own ops)) 0 0 = d at *
      obtain ⟨r, h1, h2, h3⟩ := atake_yields hdet h
      have hr : i ∈ Region.ready .any ops listed := (readyI_eq (P := P) (own := own) hf i).1 (by simpa using hr)
      have hlt : ∀ j oj, ops[j]? = some oj → j < ops.size := fun j oj hj => (Array.getElem?_eq_some_iff.1 hj).1
      refine aany_first (dep := fun j => d.testBit j) ho h3 (fun j oj hj hd => ?_) n listed σ ⟨fun _ _ => rfl, by cases m <;> first | exact MLe.refl _ | exact MLe.nil _⟩ (fun j hj => ?_) (fun j oj hj hne hd hun => ?_) hr ((ih true n _ _ _ (hf.set hil) hok h2).1 rfl)
      · have := depOkI_get ops.toList 0 hdep j oj (by simpa using hj) (by simpa using hd)
        simpa using this
      · rw [hf.2 j] at hj
        cases hdj : d.testBit j with
        | false => rfl
        | true => exact (disj_mask hlist hj hdj).elim
      · rw [hf.getT (hlt j oj hj)] at hun
        have := freeI_get ops.toList 0 hfree j oj (by simpa using hj) (by simpa using hne) (by simpa using hd) (by simpa using hun)
        refine ⟨this.1, ?_, ?_⟩
        · cases m with
          | reads => exact .inl (by have := this.2; simp only at this; omega)
          | plain => exact .inl this.2
          | over =>
            refine .inr ⟨fun t ht => ?_, h1.2⟩
            simp only [infOf] at hseen
            have := mem_mask.1 (sub_mask hseen (mem_mask.2 ht))
            exact List.all_eq_true.1 h1.1 t this
        · cases m with
          | reads => exact .inl this.2
          | plain => exact .inr rfl
          | over => exact .inr rfl
  | nil =>
    intro top n listed lm σ hf hok h
    simp only [Sch.ok, Bool.not_eq_true'] at hok
    exact ⟨fun e => (by rw [hok] at e; cases e), fun _ k _ i hi => by simp [Sch.alts] at hi⟩
  | alt i s more ih1 ih2 =>
    intro top n listed lm σ hf hok h
    simp only [Sch.ok, Bool.and_eq_true] at hok
    obtain ⟨⟨⟨hn, hall⟩, hs⟩, hm⟩ := hok
    unfold ASch at h
    obtain ⟨hi, hmo⟩ := h
    have key : ∀ k, n = k + 1 → ∀ j ∈ i :: more.alts, ∀ o, ops[j]? = some o → @aop P own ops.toList o σ ⟨AAny P own ops N.k k (listed.setIfInBounds j true)⟩ := by
      intro k hk j hj o ho
      rcases List.mem_cons.1 hj with rfl | hj
      · obtain ⟨o', ho', hi⟩ := AOpt_elim hi
        have ho' : ops[j]? = some o' := by simpa using ho'
        rw [ho] at ho'
        injection ho' with e
        subst e
        subst hk
        exact aop_mono (N := ⟨fun σ' => @ASch P own ops.toList s σ' N⟩) (fun r Z M' _ h => (ih1 true k _ _ (σ.step o.dst r Z M') (hf.set (Array.getElem?_eq_some_iff.1 ho).1) hs h).1 rfl) hi
      · exact (ih2 false n listed lm σ hf hm hmo).2 rfl k hk j hj o ho
    refine ⟨fun ht => ?_, fun _ => key⟩
    cases n with
    | zero => simp at hn
    | succ n =>
      subst ht
      simp only [Bool.not_true, Bool.false_or, Bool.and_eq_true, List.all_eq_true] at hall
      refine ⟨fun h0 => ?_, fun j hj o ho => key n rfl j ?_ o ho⟩
      · have h1 := hall.1
        have : readyI (ops.toList.map (infOf P own ops)) 0 lm = [] := by
          rw [List.eq_nil_iff_forall_not_mem]
          intro q hq
          have := (readyI_eq (P := P) (own := own) hf q).1 hq
          rw [h0] at this
          cases this
        rw [this] at h1
        simp at h1
      · have := hall.2 j ((readyI_eq (P := P) (own := own) hf j).2 hj)
        simpa using this

theorem StR.drawn {C : Ctx} {σ : St} {a : Act} {w : World} (h : StR C σ a w) : StR C σ a { w with drawn := w.drawn + 1 } := by
  obtain ⟨hv, hd, hsz, hsl, hM, hF⟩ := h
  have hs : StepR C.A w hv [] { w with drawn := w.drawn + 1 } hv := ⟨⟨Nat.le_refl _, fun _ _ _ => rfl, fun b _ hb => hb⟩, fun i u _ h => h, rfl, rfl, rfl, Nat.le_succ _⟩
  refine ⟨hv, hd, hsz, fun i x hx => ?_, ⟨fun i ob hi => ?_, hM.dom, hM.inj, hM.old⟩, hF.step hs⟩
  · obtain ⟨v, h1, h2⟩ := hsl i x hx
    have := hs.rv h2
    rw [AV.kill_nil] at this
    exact ⟨v, h1, this⟩
  · obtain ⟨v, h1, h2, h3⟩ := live_step hM hs (fun v b h1 h2 => rfl) (by simp) hi
    rw [show Ob.kill [] ob = ob by cases ob; simp [Ob.kill, AV.killL_nil]] at h3
    exact ⟨v, h2, h3⟩

/-- a region whose order is drawn. -/
theorem swp_draw {id : Nat} {σ : St} {N : HN} {E : HE} {Rt : HR} (s : Sch) (tb : List Inf) (hm : P.follows .mixedOrders = true) (hok : s.fits P own ops tb = true) (h : @ASch P own ops.toList s σ N) :
    @SWp P (.region id ops true) σ N E Rt := by
  intro C a w hS
  unfold Sch.fits at hok
  rw [Bool.and_eq_true] at hok
  obtain ⟨h1, h2⟩ := hok
  have htb := tbOk_eq ops.toList tb h1
  subst htb
  rw [show (ops.toList.map (infOf P own ops)).length = ops.size by simp] at h2
  have hf : Fits ops (Array.replicate ops.size false) 0 := ⟨by simp, fun j => by
    simp only [Array.getD_eq_getD_getElem?, Array.getElem?_replicate, Nat.zero_testBit]
    split <;> rfl⟩
  exact wp_region_any hm (aany_sound (own := own) (fun σ a w hN hS => ⟨σ, hN, hS⟩) _ _ σ _ _ ((asch_any s true _ _ _ σ hf h2 h).1 rfl) hS.drawn)
end
end Aw
end Go.Proofs.Ytkolpijhgcijbaa

namespace Go.Proofs.Ytkolpijhgcijbaa
namespace Aw
open Go.RowKit

section
variable {P : Program} {own : List Nat}

theorem AV.sub_pure (F : Nat → AV) (G : Nat → Nat → Nat → Nat → AV) (a : AV) : a.pure = true → a.sub F G = a := by
  refine AV.rec (motive_1 := fun a => a.pure = true → a.sub F G = a) (motive_2 := fun l => AV.pureL l = true → AV.subL F G l = l) ?_ ?_ ?_ ?_ ?_ ?_ ?_ ?_ ?_ ?_ ?_ a <;> intros <;> simp_all [AV.pure, AV.pureL, AV.sub, AV.subL]

theorem coe_pure {M : Mem} {a : AV} (h : a.pure = true) : Coe false M a a := by
  intro A w hv v hM hx
  have := RV_sub (T := OwnA A hv) (T' := OwnA A hv) (hv := hv) (hv' := noHv) (F := fun _ => .bot) (G := fun _ _ _ _ => .bot) (fun b h => h) (fun i v h => ?_) (fun i => rfl) (fun i k j off us h => R_botq h) (fun _ _ _ _ => rfl) a v hx
  · rw [AV.sub_pure _ _ a h] at this
    simpa using this
  · obtain ⟨ob, hob⟩ := hM.dom i v h
    simp only [R]; exact ⟨v, rfl, (hM_ob hM hob h).one⟩

theorem coe_frz (M : Mem) (x : AV) : Coe true M x (frz M x) := by
  intro A w hv v hM hx
  have hown : ∀ b, ¬ Own noHv b := fun b h => by obtain ⟨i, v, h, _⟩ := h; simp [noHv] at h
  refine RV_sub (T := OwnA A hv) (T' := fun _ => False) (hv := hv) (hv' := noHv) (fun b h => h.elim) (fun i v h => ?_) (fun i => ?_) (fun i k j off us h => R_botq h) (fun _ _ _ _ => rfl) x v hx
  · obtain ⟨ob, hob⟩ := hM.dom i v h
    simp only [hob]
    split
    · rename_i hp
      simp only [Bool.and_eq_true, Option.isNone_iff_eq_none] at hp
      obtain ⟨hm, hp⟩ := hp
      obtain ⟨us, hrow, hk, hus⟩ := (hM_ob hM hob h).row hm
      have hus' := RL_pure ob.xs hv noHv us hp hus
      have hkeep : Keeps w (OwnA A hv) w (fun _ => False) := ⟨Nat.le_refl _, fun _ _ _ => rfl, fun b _ h => h.elim⟩
      have hus2 := RL_keep hkeep (Z := []) (hv := noHv) (hv' := noHv) (fun _ _ _ h => h) _ _ hus'
      rw [AV.killL_nil] at hus2
      simp only [R]
      rcases hrow.2 with ⟨rfl, h0⟩ | ⟨g, cap, cur, rfl, _, hg, hnc, hcm, hcs, htk⟩
      · have he : ob.xs = [] := List.eq_nil_of_length_eq_zero h0
        rw [he]
        exact ⟨none, 0, [], by simp, Nat.le_refl _, Nat.zero_le _, by simp, by simp [RL], fun h => absurd rfl h⟩
      · refine ⟨_, cap, us, rfl, hnc, hcm, hk, hus2, fun _ => ⟨g, 0, rfl, (Array.getElem?_eq_some_iff.1 hg).1, fun h' => h', fun j u hu => ?_⟩⟩
        have := hrow.cells (g := g) rfl j u hu
        rw [Addr.add_lit] at this
        exact this
    · simp only [R]; exact ⟨v, rfl, (hM_ob hM hob h).one⟩
  · split
    · split <;> rfl
    · rfl

/-- the nil slice reads as the empty list. -/
theorem coe_nil (lend : Bool) (M : Mem) (k : Nat) : Coe lend M (.v (.slice none 0 0)) (.s k []) := by
  intro A w hv v hM hx
  simp only [RV] at hx
  subst hx
  simp only [RV, R]
  exact ⟨none, 0, [], by simp, Nat.le_refl _, Nat.zero_le _, by simp, by simp [RL], fun h => absurd rfl h⟩

theorem coel_pure {M : Mem} : ∀ {as : List AV}, AV.pureL as = true → CoeL false M as as
  | [], _ => trivial
  | a :: as, h => by
    simp only [AV.pureL, Bool.and_eq_true] at h
    exact ⟨coe_pure h.1, coel_pure h.2⟩

theorem coel_frz (M : Mem) : ∀ (as : List AV), CoeL true M as (as.map (frz M))
  | [] => trivial
  | a :: as => ⟨coe_frz M a, coel_frz M as⟩

theorem Ob.up_pure (ob : Ob) (m : Nat) (h : AV.pureL ob.xs = true) : ob.up m = ob := by
  cases ob with
  | mk mp ty k xs =>
    simp only [Ob.up, Ob.mk.injEq, true_and]
    simp only at h
    have : ∀ l : List AV, AV.pureL l = true → l.map (AV.up m) = l := by
      intro l
      induction l with
      | nil => intro _; rfl
      | cons x l ih =>
        intro h
        simp only [AV.pureL, Bool.and_eq_true] at h
        rw [List.map_cons, ih h.2, AV.up, AV.sub_pure _ _ x h.1]
    exact this xs h

/-- a call whose result is a value. -/
theorem acall_v {f : FuncId} {as : List AV} {M : Mem} {K : HK (AV → Mem → Prop)} {x : AV} (spec : ASpec P f as (fun r Ms => r = x ∧ Ms = [])) (ha : AV.pureL as = true) (hx : x.pure = true) (h : K.k x M) : ACall P f as M (K := K) := by
  refine ⟨false, as, _, coel_pure ha, spec, ?_⟩
  rintro r Ms ⟨rfl, rfl⟩
  refine ⟨fun e => (by cases e), ?_⟩
  rw [AV.up, AV.sub_pure _ _ _ hx]
  simpa using h

/-- the same; objects are lent. -/
theorem acall_l {f : FuncId} {as bs : List AV} {M : Mem} {K : HK (AV → Mem → Prop)} {x : AV} (spec : ASpec P f bs (fun r Ms => r = x ∧ Ms = [])) (hb : as.map (frz M) = bs) (hx : x.pure = true) (ht : x.tfree = true) (h : K.k x M) : ACall P f as M (K := K) := by
  refine ⟨true, bs, _, hb ▸ coel_frz M as, spec, ?_⟩
  rintro r Ms ⟨rfl, rfl⟩
  refine ⟨fun e => ⟨ht, by simp⟩, ?_⟩
  rw [AV.up, AV.sub_pure _ _ _ hx]
  simpa using h

/-- a call that brings a new object. -/
theorem acall_o {f : FuncId} {as : List AV} {M : Mem} {K : HK (AV → Mem → Prop)} {x : AV} {ob : Ob} (spec : ASpec P f as (fun r Ms => r = x ∧ Ms = [ob])) (ha : AV.pureL as = true) (hob : AV.pureL ob.xs = true) (h : K.k (x.up M.length) (M ++ [some ob])) : ACall P f as M (K := K) := by
  refine ⟨false, as, _, coel_pure ha, spec, ?_⟩
  rintro r Ms ⟨rfl, rfl⟩
  refine ⟨fun e => (by cases e), ?_⟩
  simpa [Ob.up_pure ob _ hob] using h

theorem acall_lo {f : FuncId} {as bs : List AV} {M : Mem} {K : HK (AV → Mem → Prop)} {x : AV} {ob : Ob} (spec : ASpec P f bs (fun r Ms => r = x ∧ Ms = [ob])) (hb : as.map (frz M) = bs) (hob : AV.pureL ob.xs = true) (hx : x.tfree = true) (ht : AV.tfreeL ob.xs = true) (h : K.k (x.up M.length) (M ++ [some ob])) : ACall P f as M (K := K) := by
  refine ⟨true, bs, _, hb ▸ coel_frz M as, spec, ?_⟩
  rintro r Ms ⟨rfl, rfl⟩
  refine ⟨fun e => ⟨hx, by simpa using ht⟩, ?_⟩
  simpa [Ob.up_pure ob _ hob] using h

theorem pureL_map {α : Type} (f : α → AV) (h : ∀ a, (f a).pure = true) (l : List α) : AV.pureL (l.map f) = true := by
  induction l with
  | nil => rfl
  | cons x l ih => simp [AV.pureL, h, ih]
theorem tfreeL_map {α : Type} (f : α → AV) (h : ∀ a, (f a).tfree = true) (l : List α) : AV.tfreeL (l.map f) = true := by
  induction l with
  | nil => rfl
  | cons x l ih => simp [AV.tfreeL, h, ih]
theorem killL_pure (Z : List Nat) (l : List AV) (h : AV.pureL l = true) : AV.killL Z l = l := by
  induction l with
  | nil => rfl
  | cons x l ih =>
    simp only [AV.pureL, Bool.and_eq_true] at h
    simp only [AV.killL, AV.kill_pure Z x h.1, ih h.2]

/-- a struct of two numbers. -/
def prA (l : Int × Int) : AV := .g [I l.1, I l.2]
def prsA (l : List (Int × Int)) : List AV := l.map prA
theorem prsA_len (l : List (Int × Int)) : (prsA l).length = l.length := by simp [prsA]
theorem aget_prs {l : List (Int × Int)} {j : Nat} (h : j < l.length) (K : HK (AV → Prop)) : @AGet (prsA l) j K = K.k (.g [I l[j].1, I l[j].2]) := by simp [AGet, prsA, prA, h]
theorem prsA_pure (l : List (Int × Int)) : AV.pureL (prsA l) = true := pureL_map prA (fun _ => rfl) l
theorem intsA_pure (l : List Int) : AV.pureL (intsA l) = true := pureL_map _ (fun _ => rfl) l
theorem prsA_tfree (l : List (Int × Int)) : AV.tfreeL (prsA l) = true := tfreeL_map prA (fun _ => rfl) l
theorem intsA_tfree (l : List Int) : AV.tfreeL (intsA l) = true := tfreeL_map _ (fun _ => rfl) l
theorem intsA_kill (Z : List Nat) (l : List Int) : AV.killL Z (intsA l) = intsA l := killL_pure Z _ (intsA_pure l)
theorem prsA_kill (Z : List Nat) (l : List (Int × Int)) : AV.killL Z (prsA l) = prsA l := killL_pure Z _ (prsA_pure l)
theorem intsA_app (l : List Int) (x : Int) : intsA l ++ [I x] = intsA (l ++ [x]) := by simp [intsA]
theorem prsA_app (l : List (Int × Int)) (a b : Int) : prsA l ++ [.g [I a, I b]] = prsA (l ++ [(a, b)]) := by simp [prsA, prA]
end
end Aw
end Go.Proofs.Ytkolpijhgcijbaa

namespace Go.Proofs.Ytkolpijhgcijbaa
namespace Aw
open Go.RowKit

section
variable {P : Program} {own : List Nat} {d : Option Tmp} {t : TypeId} {p : String} {af : Array Edge} {g : Option (Nat × Bool)} {ρ : Operand → AV} {M : Mem} {K : HK Kont}

theorem pe {a b : Prop} (h : a = b) : a = b := propext ⟨fun x => h ▸ x, fun x => h ▸ x⟩

theorem w_move {x : Operand} : coreC P own ⟨d, .move x, t, p, af, g⟩ ρ M (K := K) = K.k (ρ x) [] M := pe rfl
theorem w_assign {x : Operand} : coreC P own ⟨d, .assign x, t, p, af, g⟩ ρ M (K := K) = AAlt (if own.contains (d.getD 0) then asN (ρ x) else none) (K := ⟨fun _ => AOpt (tiOf P t) (K := ⟨fun ti => AOpt ti.elem (K := ⟨fun e => AOpt (tiOf P e) (K := ⟨fun te => K.k (.o M.length) [] (newRow M e te.size [])⟩)⟩)⟩)⟩) (L := ⟨K.k (ρ x) [] M⟩) := pe rfl
theorem w_pick {c a b : Operand} : coreC P own ⟨d, .pick c a b, t, p, af, g⟩ ρ M (K := K) = AOpt (asB (ρ c)) (K := ⟨fun c => @ACond c ⟨K.k (ρ a) [] M⟩ ⟨K.k (ρ b) [] M⟩⟩) := pe rfl
theorem w_box {y : TypeId} {x : Operand} : coreC P own ⟨d, .box y x, t, p, af, g⟩ ρ M (K := K) = ((ρ x).cellular = true ∧ @ACond (own.contains (d.getD 0)) ⟨K.k (.q M.length (ρ x).size 0 0) [] (newRow M y (ρ x).size [ρ x])⟩ ⟨(ρ x).pure = true ∧ K.k (.p (ρ x) 0) [] M⟩) := pe rfl
theorem w_alloc {y : TypeId} : coreC P own ⟨d, .alloc y, t, p, af, g⟩ ρ M (K := K) = AOpt (tiOf P y) (K := ⟨fun ti => (ti.agg || ti.zero.length == 1) = true ∧ K.k (.q M.length ti.size 0 0) [] (newRow M y ti.size [mkA ti.agg (ti.zero.map .v)])⟩) := pe rfl
theorem w_load {y : TypeId} {x : Operand} : coreC P own ⟨d, .load y x, t, p, af, g⟩ ρ M (K := K) = AOpt (tiOf P y) (K := ⟨fun ti => AAlt (asP (ρ x)) (K := ⟨fun yo => AOpt (loadA ti yo.1 yo.2) (K := ⟨fun r => K.k r [] M⟩)⟩) (L := ⟨
      AOpt (asQ (ρ x)) (K := ⟨fun q => AOpt (obA M q.1) (K := ⟨fun ob => ob.k = q.2.1 ∧ AGet ob.xs q.2.2.1 (K := ⟨fun y => AOpt (loadA ti y q.2.2.2) (K := ⟨fun r => K.k r [] M⟩)⟩)⟩)⟩)⟩)⟩) := pe rfl
theorem w_store {y : TypeId} {x v : Operand} : coreC P own ⟨d, .store y x v, t, p, af, g⟩ ρ M (K := K) = AOpt (tiOf P y) (K := ⟨fun ti => AOpt (asQ (ρ x)) (K := ⟨fun q => AOpt (obA M q.1) (K := ⟨fun ob => ob.k = q.2.1 ∧ AGet ob.xs q.2.2.1 (K := ⟨fun z =>
      AOpt (storeA ti z q.2.2.2 (ρ v)) (K := ⟨fun r => K.k .bot [] (M.set q.1 (some { ob with xs := ob.xs.set q.2.2.1 r }))⟩)⟩)⟩)⟩)⟩) := pe rfl
theorem w_fieldAddr {y : TypeId} {x : Operand} {f : Nat} : coreC P own ⟨d, .fieldAddr y x f, t, p, af, g⟩ ρ M (K := K) = AOpt (tiOf P y) (K := ⟨fun ti => AOpt ti.flds[f]? (K := ⟨fun fo => fo.2 ≠ 0 ∧ AAlt (asP (ρ x)) (K := ⟨fun yo => K.k (.p yo.1 (yo.2 + fo.1)) [] M⟩) (L := ⟨
      AOpt (asQ (ρ x)) (K := ⟨fun q => K.k (.q q.1 q.2.1 q.2.2.1 (q.2.2.2 + fo.1)) [] M⟩)⟩)⟩)⟩) := pe rfl
theorem w_indexAddr {y : TypeId} {x i : Operand} : coreC P own ⟨d, .indexAddr y x i, t, p, af, g⟩ ρ M (K := K) = AOpt (asI (ρ i)) (K := ⟨fun n => idxC P y M (ρ x) n.2 (K := ⟨fun r => K.k r [] M⟩)⟩) := pe rfl
theorem w_binOp {op : BinOp} {y z : TypeId} {a b : Operand} : coreC P own ⟨d, .binOp op y a b z, t, p, af, g⟩ ρ M (K := K) = binC P op y (ρ a) (ρ b) (K := ⟨fun r => K.k r [] M⟩) := pe rfl
theorem w_convert {y z : TypeId} {a : Operand} : coreC P own ⟨d, .convert y z a, t, p, af, g⟩ ρ M (K := K) = AOpt (asI (ρ a)) (K := ⟨fun n => AOpt (intOf P y) (K := ⟨fun _ => AOpt (intOf P z) (K := ⟨fun k => (k = .u64 ∧ 0 ≤ n.2 ∧ lim n.2) ∧ K.k (.v (.int .u64 n.2)) [] M⟩)⟩)⟩) := pe rfl
theorem w_not {y : TypeId} {x : Operand} : coreC P own ⟨d, .unOp .not y x, t, p, af, g⟩ ρ M (K := K) = AOpt (asB (ρ x)) (K := ⟨fun b => K.k (B (!b)) [] M⟩) := pe rfl
theorem w_neg {y : TypeId} {x : Operand} : coreC P own ⟨d, .unOp .neg y x, t, p, af, g⟩ ρ M (K := K) = AOpt (asI (ρ x)) (K := ⟨fun n => (n.1 = .i64 ∧ lim (-n.2)) ∧ K.k (I (-n.2)) [] M⟩) := pe rfl
theorem w_build {y : TypeId} {parts : Array (Nat × Operand)} : coreC P own ⟨d, .build y parts, t, p, af, g⟩ ρ M (K := K) = AOpt (tiOf P y) (K := ⟨fun ti => AOpt (fillA (fun i => ti.flds[i]?) (ti.zero.map .v) (parts.toList.map fun ix => (ix.1, ρ ix.2))) (K := ⟨fun cells => (ti.agg = true ∧ ti.arr = none) ∧ K.k (.g cells) [] M⟩)⟩) := pe rfl
theorem w_buildSlice {y : TypeId} {n : Nat} {parts : Array (Nat × Operand)} : coreC P own ⟨d, .buildSlice y n parts, t, p, af, g⟩ ρ M (K := K) = AOpt (tiOf P y) (K := ⟨fun ti => AOpt ti.elem (K := ⟨fun e => AOpt (tiOf P e) (K := ⟨fun te =>
      (0 < te.size ∧ n * te.size ≤ 16777216 ∧ parts.toList.map (·.1) = List.range n ∧ parts.toList.all (fun ix => (ρ ix.2).cellular && (ρ ix.2).flat && (ρ ix.2).size == te.size) = true) ∧
      @ACond (own.contains (d.getD 0)) ⟨K.k (.o M.length) [] (newRow M e te.size (parts.toList.map fun ix => ρ ix.2))⟩ ⟨AV.pureL (parts.toList.map fun ix => ρ ix.2) = true ∧ K.k (.s te.size (parts.toList.map fun ix => ρ ix.2)) [] M⟩⟩)⟩)⟩) := pe rfl
theorem w_extract {x : Operand} {i : Nat} : coreC P own ⟨d, .extract x i, t, p, af, g⟩ ρ M (K := K) = AOpt (asT (ρ x)) (K := ⟨fun xs => AOpt xs[i]? (K := ⟨fun r => K.k r [] M⟩)⟩) := pe rfl
theorem w_field {y : TypeId} {x : Operand} {f : Nat} : coreC P own ⟨d, .field y x f, t, p, af, g⟩ ρ M (K := K) = AOpt (tiOf P y) (K := ⟨fun ti => AOpt (asG (ρ x)) (K := ⟨fun xs => AOpt ti.flds[f]? (K := ⟨fun fo => AOpt ti.ftys[f]? (K := ⟨fun ft => AOpt (tiOf P ft) (K := ⟨fun tf => AOpt (loadA tf (.g xs) fo.1) (K := ⟨fun r => K.k r [] M⟩)⟩)⟩)⟩)⟩)⟩) := pe rfl
theorem w_slice {y : TypeId} {x : Operand} {lo hi : Option Operand} : coreC P own ⟨d, .slice y x lo hi none, t, p, af, g⟩ ρ M (K := K) = AOpt (tiOf P y) (K := ⟨fun ti => AOpt (asS (ρ x)) (K := ⟨fun kxs => AOpt (bndA ρ lo) (K := ⟨fun lo => AOpt (bndA ρ hi) (K := ⟨fun hi => AOpt ti.elem (K := ⟨fun e => AOpt (tiOf P e) (K := ⟨fun te =>
      (kxs.1 = te.size ∧ 0 ≤ lo.getD 0 ∧ lo.getD 0 ≤ hi.getD kxs.2.length ∧ hi.getD kxs.2.length ≤ kxs.2.length) ∧ K.k (.s kxs.1 ((kxs.2.take (hi.getD kxs.2.length).toNat).drop (lo.getD 0).toNat)) [] M⟩)⟩)⟩)⟩)⟩)⟩) := pe rfl
theorem w_makeFunc {fn : Fn} {first cap : Array Operand} : coreC P own ⟨d, .makeFunc fn first cap, t, p, af, g⟩ ρ M (K := K) = ((first.size = 0 ∧ (cap.toList.all fun x => (ρ x).cellular && (ρ x).single) = true) ∧ K.k (.f fn (cap.toList.map ρ)) [] M) := pe rfl
theorem w_nilCheck {x : Operand} : coreC P own ⟨d, .nilCheck x, t, p, af, g⟩ ρ M (K := K) = AAlt (asP (ρ x)) (K := ⟨fun yo => K.k (.p yo.1 yo.2) [] M⟩) (L := ⟨AOpt (asQ (ρ x)) (K := ⟨fun q => K.k (.q q.1 q.2.1 q.2.2.1 q.2.2.2) [] M⟩)⟩) := pe rfl
theorem w_makeMap {y : TypeId} : coreC P own ⟨d, .makeMap y none, t, p, af, g⟩ ρ M (K := K) = ((mapOf P y).isSome = true ∧ K.k (.o M.length) [] (M ++ [some ⟨some [], y, 0, []⟩])) := pe rfl
theorem w_lookup {y : TypeId} {m x : Operand} {ok : Bool} : coreC P own ⟨d, .lookup y m x ok, t, p, af, g⟩ ρ M (K := K) = AOpt (mapOf P y) (K := ⟨fun ke => AOpt (asO (ρ m)) (K := ⟨fun id => AOpt (valOf (ρ x)) (K := ⟨fun kv => AOpt (obA M id) (K := ⟨fun ob => AOpt ob.mp (K := ⟨fun ks => AOpt (zeroA P ke.2) (K := ⟨fun z => ob.k = 0 ∧
      AFind P ke.1 ks kv (K := ⟨fun j => AGet ob.xs j (K := ⟨fun y => K.k (if ok then .t [y, B true] else y) [] M⟩)⟩) (L := ⟨K.k (if ok then .t [z, B false] else z) [] M⟩)⟩)⟩)⟩)⟩)⟩)⟩) := pe rfl
theorem w_mapUpdate {y : TypeId} {m x v : Operand} : coreC P own ⟨d, .mapUpdate y m x v, t, p, af, g⟩ ρ M (K := K) = putC P y (ρ m) (ρ x) (ρ v) M (K := K) := pe rfl
theorem w_insert {y : TypeId} {m x v : Operand} : coreC P own ⟨d, .insert y m x v, t, p, af, g⟩ ρ M (K := K) = putC P y (ρ m) (ρ x) (ρ v) M (K := K) := pe rfl
theorem w_put {y : TypeId} {m x v : AV} : putC P y m x v M (K := K) = AOpt (mapOf P y) (K := ⟨fun ke => AOpt (asO m) (K := ⟨fun id => AOpt (valOf x) (K := ⟨fun kv => AOpt (obA M id) (K := ⟨fun ob => AOpt ob.mp (K := ⟨fun ks => ob.k = 0 ∧
    AFind P ke.1 ks kv (K := ⟨fun j => K.k .bot [] (M.set id (some { ob with xs := ob.xs.set j v }))⟩) (L := ⟨K.k .bot [] (M.set id (some { ob with mp := some (ks ++ [kv]), xs := ob.xs ++ [v] }))⟩)⟩)⟩)⟩)⟩)⟩) := pe rfl
theorem w_makeSlice {y : TypeId} {l c : Operand} : coreC P own ⟨d, .makeSlice y l c, t, p, af, g⟩ ρ M (K := K) = AOpt (tiOf P y) (K := ⟨fun ti => AOpt ti.elem (K := ⟨fun e => AOpt (tiOf P e) (K := ⟨fun te => AOpt (oneOf te.zero) (K := ⟨fun z => AOpt (asI (ρ l)) (K := ⟨fun kn => AOpt (asI (ρ c)) (K := ⟨fun kn' =>
      (kn'.2 = kn.2 ∧ te.agg = false ∧ 0 ≤ kn.2 ∧ kn.2 ≤ 1000000 ∧ te.size = 1 ∧ te.bytes ≤ 1000) ∧ K.k (.o M.length) [] (newRow M e 1 (List.replicate kn.2.toNat (.v z)))⟩)⟩)⟩)⟩)⟩)⟩) := pe rfl
theorem w_callF {f : FuncId} {args : Array Operand} {tys : Array TypeId} : coreC P own ⟨d, .call ⟨.value (.func f), args, tys⟩, t, p, af, g⟩ ρ M (K := K) = ACall P f (args.toList.map ρ) M (K := ⟨fun r M' => K.k r [] M'⟩) := pe rfl
theorem w_callT {f : Tmp} {args : Array Operand} {tys : Array TypeId} : coreC P own ⟨d, .call ⟨.value (.tmp f), args, tys⟩, t, p, af, g⟩ ρ M (K := K) = AOpt (asF (ρ (.tmp f))) (K := ⟨fun fc => ACall P fc.1 (args.toList.map ρ ++ fc.2) M (K := ⟨fun r M' => K.k r [] M'⟩)⟩) := pe rfl
theorem w_len {x : Operand} {y : TypeId} : coreC P own ⟨d, .call ⟨.builtin .len, #[x], #[y]⟩, t, p, af, g⟩ ρ M (K := K) = AOpt (tiOf P y) (K := ⟨fun ti => AAlt (lenA M (ρ x)) (K := ⟨fun n => ti.elem.isSome = true ∧ K.k (I n) [] M⟩) (L := ⟨AOpt (mapOf P y) (K := ⟨fun _ => AOpt (lenM M (ρ x)) (K := ⟨fun n => K.k (I n) [] M⟩)⟩)⟩)⟩) := pe rfl
theorem w_min {x y : Operand} {tys : Array TypeId} : coreC P own ⟨d, .call ⟨.builtin .min, #[x, y], tys⟩, t, p, af, g⟩ ρ M (K := K) = AOpt (minmaxA false (ρ x) (ρ y)) (K := ⟨fun r => K.k r [] M⟩) := pe rfl
theorem w_max {x y : Operand} {tys : Array TypeId} : coreC P own ⟨d, .call ⟨.builtin .max, #[x, y], tys⟩, t, p, af, g⟩ ρ M (K := K) = AOpt (minmaxA true (ρ x) (ρ y)) (K := ⟨fun r => K.k r [] M⟩) := pe rfl
theorem w_append {x y : Operand} {ty ty' : TypeId} : coreC P own ⟨d, .call ⟨.builtin .append, #[x, y], #[ty, ty']⟩, t, p, af, g⟩ ρ M (K := K) = AOpt (tiOf P ty) (K := ⟨fun ti => AOpt ti.elem (K := ⟨fun e => AOpt (tiOf P e) (K := ⟨fun te => AOpt (asO (ρ x)) (K := ⟨fun i => AOpt (obA M i) (K := ⟨fun ob =>
        AAlt (asS (ρ y)) (K := ⟨fun kys => (ty = ty' ∧ ob.mp = none ∧ ob.ty = e ∧ ob.k = te.size ∧ kys.1 = te.size ∧ 0 < te.size ∧ ob.xs.length + kys.2.length ≤ 1000000 ∧ te.bytes ≤ 1000) ∧
            K.k (.o i) [i] ((M.kill [i]).set i (some { ob with xs := AV.killL [i] ob.xs ++ kys.2 }))⟩) (L := ⟨
        AAlt (asN (ρ y)) (K := ⟨fun _ => (ty = ty' ∧ ob.mp = none) ∧ K.k (.o i) [] M⟩) (L := ⟨
        AOpt (asO (ρ y)) (K := ⟨fun j => AOpt (obA M j) (K := ⟨fun ob' => (i ≠ j ∧ ty = ty' ∧ ob.mp = none ∧ ob'.mp = none ∧ ob.ty = e ∧ ob.k = te.size ∧ ob'.k = te.size ∧ 0 < te.size ∧ ob.xs.length + ob'.xs.length ≤ 1000000 ∧ te.bytes ≤ 1000) ∧
            K.k (.o i) [i] ((M.kill [i]).set i (some { ob with xs := AV.killL [i] ob.xs ++ AV.killL [i] ob'.xs }))⟩)⟩)⟩)⟩)⟩)⟩)⟩)⟩)⟩) := pe rfl
end

section
variable {P : Program} {own : List Nat} {ops : List Oper} {d : Option Tmp} {op : Op} {t : TypeId} {p : String} {af : Array Edge} {σ : St} {N : HN}
theorem w_aop : @aop P own ops ⟨d, op, t, p, af, none⟩ σ N = coreC P own ⟨d, op, t, p, af, none⟩ σ.ev σ.M (K := ⟨fun r Z M' => N.k (σ.step d r Z M')⟩) := pe rfl
theorem w_aopg {j : Nat} {want : Bool} : @aop P own ops ⟨d, op, t, p, af, some (j, want)⟩ σ N = AOpt ((ops[j]?).bind (·.dst)) (K := ⟨fun e => AOpt (gd (σ.sl.getD e .bot) want) (K := ⟨fun b =>
      @ACond b ⟨coreC P own ⟨d, op, t, p, af, some (j, want)⟩ σ.ev σ.M (K := ⟨fun r Z M' => N.k (σ.step d r Z M')⟩)⟩ ⟨N.k (σ.step d (.t []) [] σ.M)⟩⟩)⟩) := pe rfl
theorem w_take {m : Md} {ts : List Nat} : @atake P own ops ⟨d, op, t, p, af, none⟩ m ts σ N = coreC P own ⟨d, op, t, p, af, none⟩ σ.ev (m.mem σ.M) (K := ⟨fun r _ _ => m.need ts σ.sl r ∧ N.k (σ.put d r)⟩) := pe rfl
theorem w_takeg {m : Md} {ts : List Nat} {j : Nat} {want : Bool} : @atake P own ops ⟨d, op, t, p, af, some (j, want)⟩ m ts σ N = AOpt ((ops[j]?).bind (·.dst)) (K := ⟨fun e => AOpt (gd (σ.sl.getD e .bot) want) (K := ⟨fun b =>
      @ACond b ⟨coreC P own ⟨d, op, t, p, af, some (j, want)⟩ σ.ev (m.mem σ.M) (K := ⟨fun r _ _ => m.need ts σ.sl r ∧ N.k (σ.put d r)⟩)⟩ ⟨m.need ts σ.sl (.t []) ∧ N.k (σ.put d (.t []))⟩⟩)⟩) := pe rfl
theorem w_gdb (b want : Bool) : gd (.v (.bool b)) want = some (b == want) := rfl
theorem w_gdu (want : Bool) : gd (.t []) want = some false := rfl
theorem w_some {α : Type} (a : α) (K : HK (α → Prop)) : @AOpt α (some a) K = K.k a := pe rfl
theorem w_asome {α : Type} (a : α) (K : HK (α → Prop)) (L : HK Prop) : @AAlt α (some a) K L = K.k a := pe rfl
theorem w_anone {α : Type} (K : HK (α → Prop)) (L : HK Prop) : @AAlt α none K L = L.k := pe rfl
theorem w_bt (b : Bool) : (b == true) = b := by cases b <;> rfl
theorem w_bf (b : Bool) : (b == false) = !b := by cases b <;> rfl
theorem w_nil {σ : St} : @AOps P own ops [] σ N = N.k σ := pe rfl
theorem w_cons {o : Oper} {rest : List Oper} : @AOps P own ops (o :: rest) σ N = @aop P own ops o σ ⟨fun σ' => @AOps P own ops rest σ' N⟩ := pe rfl
end
end Aw
end Go.Proofs.Ytkolpijhgcijbaa

namespace Go.Proofs.Ytkolpijhgcijbaa
namespace Aw
open Go.RowKit

def AV.isO (i : Nat) : AV → Bool | .o j => j == i | _ => false
def AV.isQ (i k j off : Nat) : AV → Bool | .q i' k' j' off' => i' == i && k' == k && j' == j && off' == off | _ => false
theorem AV.isO_eq {i : Nat} {a : AV} (h : a.isO i = true) : a = .o i := by
  cases a <;> simp [AV.isO] at h
  subst h; rfl
theorem AV.isQ_eq {i k j off : Nat} {a : AV} (h : a.isQ i k j off = true) : a = .q i k j off := by
  cases a <;> simp [AV.isQ] at h
  obtain ⟨⟨⟨rfl, rfl⟩, rfl⟩, rfl⟩ := h; rfl

/-- what is left of an abstract value behind a call that was handed 'as'. -/
def keepQ (as : List AV) : AV → AV := AV.sub (fun i => if as.any (AV.isO i) = true then .o i else .bot) (fun i k j off => if as.any (AV.isQ i k j off) = true then .q i k j off else .bot)

section
variable {w w' : World} {T T' : Nat → Prop} {hv hv' : Nat → Option Value} {F : Nat → AV} {G : Nat → Nat → Nat → Nat → AV}

theorem R_subk (hk : Keeps w T w' T') (hF : ∀ i v, hv i = some v → v.oneCell' = true → R w' T' hv' (F i) [v]) (hF1 : ∀ i, (F i).single = true) (hG : ∀ i k j off us, R w T hv (.q i k j off) us → R w' T' hv' (G i k j off) us) (hG1 : ∀ i k j off, (G i k j off).single = true) :
    ∀ (a : AV) (us : List Value), R w T hv a us → R w' T' hv' (a.sub F G) us := by
  intro a
  refine AV.rec (motive_1 := fun a => ∀ us, R w T hv a us → R w' T' hv' (a.sub F G) us) (motive_2 := fun l => ∀ us, RL w T hv l us → RL w' T' hv' (AV.subL F G l) us)
    ?_ ?_ ?_ ?_ ?_ ?_ ?_ ?_ ?_ ?_ ?_ a
  · intro us h; simpa only [R, AV.sub] using h
  · intro x us h; simpa only [R, AV.sub] using h
  · intro k xs _ us h
    have := R_keep hk (.s k xs) [] hv hv us (fun _ _ _ h => h) h
    rw [AV.kill_nil] at this
    simpa only [R, AV.sub] using this
  · intro xs ih us h; simp only [R, AV.sub] at h ⊢; exact ih us h
  · intro xs _ us h; simp [R] at h
  · intro x off _ us h
    have := R_keep hk (.p x off) [] hv hv us (fun _ _ _ h => h) h
    rw [AV.kill_nil] at this
    simpa only [R, AV.sub] using this
  · intro i us h
    simp only [R] at h
    obtain ⟨v, h1, rfl, h2⟩ := h
    simp only [AV.sub]
    exact hF i v h1 h2
  · intro i k j off us h
    simp only [AV.sub]
    exact hG i k j off us h
  · intro fn cap ih us h
    simp only [R, AV.sub] at h ⊢
    obtain ⟨cs, h1, h2, h3⟩ := h
    exact ⟨cs, h1, fun x hx => by rw [AV.subL_map] at hx; obtain ⟨y, hy, rfl⟩ := List.mem_map.1 hx; exact single_sub hF1 hG1 y (h2 y hy), ih _ h3⟩
  · intro us h; simpa only [RL, AV.subL] using h
  · intro x xs ih1 ih2 us h
    simp only [RL, AV.subL] at h ⊢
    obtain ⟨u1, u2, rfl, h1, h2⟩ := h
    exact ⟨u1, u2, rfl, ih1 u1 h1, ih2 u2 h2⟩

theorem RL_subk (hk : Keeps w T w' T') (hF : ∀ i v, hv i = some v → v.oneCell' = true → R w' T' hv' (F i) [v]) (hF1 : ∀ i, (F i).single = true) (hG : ∀ i k j off us, R w T hv (.q i k j off) us → R w' T' hv' (G i k j off) us) (hG1 : ∀ i k j off, (G i k j off).single = true) :
    ∀ (l : List AV) (us : List Value), RL w T hv l us → RL w' T' hv' (AV.subL F G l) us
  | [], us, h => by simpa only [RL, AV.subL] using h
  | x :: xs, us, h => by
    simp only [RL, AV.subL] at h ⊢
    obtain ⟨u1, u2, rfl, h1, h2⟩ := h
    exact ⟨u1, u2, rfl, R_subk hk hF hF1 hG hG1 x u1 h1, RL_subk hk hF hF1 hG hG1 xs u2 h2⟩

theorem RV_subk (hk : Keeps w T w' T') (hF : ∀ i v, hv i = some v → v.oneCell' = true → R w' T' hv' (F i) [v]) (hF1 : ∀ i, (F i).single = true) (hG : ∀ i k j off us, R w T hv (.q i k j off) us → R w' T' hv' (G i k j off) us) (hG1 : ∀ i k j off, (G i k j off).single = true) :
    ∀ (a : AV) (v : Value), RV w T hv a v → RV w' T' hv' (a.sub F G) v := by
  intro a
  refine AV.rec (motive_1 := fun a => ∀ v, RV w T hv a v → RV w' T' hv' (a.sub F G) v) (motive_2 := fun l => ∀ vs, RVL w T hv l vs → RVL w' T' hv' (AV.subL F G l) vs)
    ?_ ?_ ?_ ?_ ?_ ?_ ?_ ?_ ?_ ?_ ?_ a
  · intro v _; simp [RV, AV.sub]
  · intro x v h; simpa only [RV, AV.sub] using h
  · intro k xs _ v h; have := R_subk hk hF hF1 hG hG1 (.s k xs) [v] (by simpa only [RV] using h); simpa only [RV, AV.sub] using this
  · intro xs _ v h
    simp only [RV, AV.sub] at h ⊢
    obtain ⟨cs, rfl, h⟩ := h
    exact ⟨cs, rfl, RL_subk hk hF hF1 hG hG1 xs _ h⟩
  · intro xs ih v h
    simp only [RV, AV.sub] at h ⊢
    obtain ⟨vs, rfl, h⟩ := h
    exact ⟨vs, rfl, ih _ h⟩
  · intro x off _ v h; have := R_subk hk hF hF1 hG hG1 (.p x off) [v] (by simpa only [RV] using h); simpa only [RV, AV.sub] using this
  · intro i v h
    have h' : R w T hv (.o i) [v] := by simpa only [RV] using h
    exact R_RV (hF1 i) (R_subk hk hF hF1 hG hG1 (.o i) [v] h')
  · intro i k j off v h
    have h' : R w T hv (.q i k j off) [v] := by simpa only [RV] using h
    exact R_RV (hG1 i k j off) (R_subk hk hF hF1 hG hG1 (.q i k j off) [v] h')
  · intro fn cap _ v h; have := R_subk hk hF hF1 hG hG1 (.f fn cap) [v] (by simpa only [RV] using h); simpa only [RV, AV.sub] using this
  · intro vs h; simpa only [RVL, AV.subL] using h
  · intro x xs ih1 ih2 vs h
    simp only [RVL, AV.subL] at h ⊢
    obtain ⟨u, us, rfl, h1, h2⟩ := h
    exact ⟨u, us, rfl, ih1 u h1, ih2 us h2⟩

theorem RVL_subk (hk : Keeps w T w' T') (hF : ∀ i v, hv i = some v → v.oneCell' = true → R w' T' hv' (F i) [v]) (hF1 : ∀ i, (F i).single = true) (hG : ∀ i k j off us, R w T hv (.q i k j off) us → R w' T' hv' (G i k j off) us) (hG1 : ∀ i k j off, (G i k j off).single = true) :
    ∀ (l : List AV) (us : List Value), RVL w T hv l us → RVL w' T' hv' (AV.subL F G l) us
  | [], us, h => by simpa only [RVL, AV.subL] using h
  | x :: xs, us, h => by
    simp only [RVL, AV.subL] at h ⊢
    obtain ⟨u, u2, rfl, h1, h2⟩ := h
    exact ⟨u, u2, rfl, RV_subk hk hF hF1 hG hG1 x u h1, RVL_subk hk hF hF1 hG hG1 xs u2 h2⟩

theorem size_sub (hF1 : ∀ i, (F i).single = true) (hG1 : ∀ i k j off, (G i k j off).single = true) (a : AV) : (a.sub F G).size = a.size := by
  refine AV.rec (motive_1 := fun a => (a.sub F G).size = a.size) (motive_2 := fun l => AV.sizeL (AV.subL F G l) = AV.sizeL l) ?_ ?_ ?_ ?_ ?_ ?_ ?_ ?_ ?_ ?_ ?_ a
  case refine_7 => intro i; simp only [AV.sub]; rw [AV.size_single (hF1 i)]; rfl
  case refine_8 => intro i k j off; simp only [AV.sub]; rw [AV.size_single (hG1 i k j off)]; rfl
  all_goals intros; simp_all [AV.sub, AV.subL, AV.size, AV.sizeL]
end

/-- A CONTRACT of a function that is handed objects: they are M before, M' behind. -/
def MSpec (P : Program) (f : FuncId) (as : List AV) (M : Mem) (post : AV → Mem → Prop) : Prop :=
  okFn P f = true ∧ ∀ (w : World) (vs : List Value) (A : Nat → Prop) (hv : Nat → Option Value), MemR A w hv M → (∀ b, Own hv b → ¬ A b) → RVL w (OwnA A hv) hv as vs → Calls P f vs.toArray w fun e w' =>
    ∃ r M' v hv', e = .returned v ∧ post r M' ∧ MemR A w' hv' M' ∧ RV w' (OwnA A hv') hv' r v ∧ RVL w' (OwnA A hv') hv' as vs ∧ Keeps w (Own hv) w' (Own hv') ∧ w'.os = w.os ∧ w'.tape = w.tape ∧ w'.output = w.output ∧ w.drawn ≤ w'.drawn

def ACallM (P : Program) (f : FuncId) (as : List AV) (M : Mem) [K : HK (AV → Mem → Prop)] : Prop := ∃ post, MSpec P f as M post ∧ ∀ r M', post r M' → K.k r M'

/-- an operation that is such a call. -/
def amc (P : Program) (o : Oper) (σ : St) [N : HK (St → Prop)] : Prop :=
  match o.op, o.guard with
  | .call ⟨.value (.func f), args, _⟩, none => ACallM P f (args.toList.map σ.ev) σ.M (K := ⟨fun r M' => N.k ⟨setS (σ.sl.map (keepQ (args.toList.map σ.ev))) o.dst r, M'⟩⟩)
  | .call ⟨.value (.tmp t), args, _⟩, none => AOpt (asF (σ.ev (.tmp t))) (K := ⟨fun fc => ACallM P fc.1 (args.toList.map σ.ev ++ fc.2) σ.M (K := ⟨fun r M' => N.k ⟨setS (σ.sl.map (keepQ (args.toList.map σ.ev ++ fc.2))) o.dst r, M'⟩⟩)⟩)
  | _, _ => False

/-- a region in the order of the text; the operation m is such a call. -/
def AOpsM (P : Program) (own : List Nat) (ops : List Oper) (m : Nat) : Nat → List Oper → St → [HK (St → Prop)] → Prop
  | _, [], σ, N => N.k σ
  | k, o :: rest, σ, N => @ACond (k == m) ⟨@amc P o σ ⟨fun σ' => @AOpsM P own ops m (k + 1) rest σ' N⟩⟩ ⟨@aop P own ops o σ ⟨fun σ' => @AOpsM P own ops m (k + 1) rest σ' N⟩⟩

section
variable {P : Program} {C : Ctx} {σ : St} {a : Act} {w : World} {Q : Exit → Act → World → Prop}

theorem keepQ_single_o (as : List AV) (i : Nat) : (if as.any (AV.isO i) = true then AV.o i else .bot).single = true := by split <;> rfl
theorem keepQ_single_q (as : List AV) (i k j off : Nat) : (if as.any (AV.isQ i k j off) = true then AV.q i k j off else .bot).single = true := by split <;> rfl

theorem rvl_mem {T : Nat → Prop} {hv : Nat → Option Value} : ∀ (l : List AV) (us : List Value) (x : AV), RVL w T hv l us → x ∈ l → ∃ (i : Nat) (u : Value), l[i]? = some x ∧ us[i]? = some u ∧ RV w T hv x u
  | y :: l, us, x, h, hx => by
    simp only [RVL] at h
    obtain ⟨v, vs, rfl, h1, h2⟩ := h
    rcases List.mem_cons.1 hx with rfl | hx
    · exact ⟨0, v, rfl, rfl, h1⟩
    · obtain ⟨i, u, h3, h4, h5⟩ := rvl_mem l vs x h2 hx
      exact ⟨i + 1, u, by simpa using h3, by simpa using h4, h5⟩

theorem amc_call {o : Oper} {f : FuncId} {as : List AV} {vs : List Value} {N : HN} (hS : StR C σ a w) (hrun : okFn P f = true → (execOp a.eval o).run P w = .ok (.enter f vs.toArray) w)
    (has : ∀ hv, (∀ (i : Nat) (x : AV), σ.sl[i]? = some x → ∃ v, a.tmps[i]? = some v ∧ RV w (OwnA C.A hv) hv x v) → RVL w (OwnA C.A hv) hv as vs)
    (h : ACallM P f as σ.M (K := ⟨fun r M' => N.k ⟨setS (σ.sl.map (keepQ as)) o.dst r, M'⟩⟩)) : o.wp P a w (fun a' w' => ∃ σ', N.k σ' ∧ StR C σ' a' w') Q := by
  obtain ⟨post, ⟨hok, hspec⟩, hK⟩ := h
  obtain ⟨hv, hd, hsz, hsl, hM, hF⟩ := hS
  have hvs := has hv hsl
  unfold Oper.wp
  rw [hrun hok]
  refine (hspec w vs C.A hv hM (fun b hb => hF.sep hb) hvs).mono ?_
  rintro e w' ⟨r, M', v, hv', rfl, hp, hM', hr, has', hkp, h1, h2, h3, h4⟩
  refine ⟨_, hK r M' hp, hv', by cases o.dst <;> exact hd, ?_, fun i x hx => ?_, hM', ?_⟩
  · rw [put_size, hsz]; simp only [setS_len, List.length_map]
  · rcases setS_get _ _ _ _ hx with ⟨e1, rfl, hlt⟩ | ⟨hne, hx⟩
    · refine ⟨v, ?_, hr⟩
      rw [List.length_map] at hlt
      rw [e1]
      simp [Act.put, hsz, hlt]
    · rw [List.getElem?_map] at hx
      simp only [Option.map_eq_some_iff] at hx
      obtain ⟨y, hy, rfl⟩ := hx
      obtain ⟨u, g1, g2⟩ := hsl i y hy
      refine ⟨u, by rw [put_get _ _ _ _ hne]; exact g1, ?_⟩
      have hkA : Keeps w (OwnA C.A hv) w' (OwnA C.A hv') := ⟨hkp.size, fun b hb hn => hkp.block b hb (fun ho => hn (.inr ho)), fun b hb ho => ho.elim .inl (fun ho => .inr (hkp.own b hb ho))⟩
      refine RV_subk hkA (fun i v hiv h1c => ?_) (keepQ_single_o as) (fun i k j off us hus => ?_) (keepQ_single_q as) y u g2
      · split
        · rename_i hany
          obtain ⟨z, hz, hzi⟩ := List.any_eq_true.1 hany
          obtain rfl := AV.isO_eq hzi
          obtain ⟨p, u1, q1, q2, q3⟩ := rvl_mem _ _ _ hvs hz
          have q4 := rvl_at _ _ p _ u1 has' q1 q2
          simp only [RV, R] at q3 q4
          obtain ⟨u2, s1, s2, _⟩ := q3
          obtain ⟨u3, s3, s4, s5⟩ := q4
          injection s2 with s2
          injection s4 with s4
          rw [hiv] at s1
          injection s1 with s1
          simp only [R]
          exact ⟨v, by rw [s3, ← s4, s2, s1], rfl, h1c⟩
        · simp only [R]; exact ⟨v, rfl, h1c⟩
      · split
        · rename_i hany
          obtain ⟨z, hz, hzi⟩ := List.any_eq_true.1 hany
          obtain rfl := AV.isQ_eq hzi
          obtain ⟨p, u1, q1, q2, q3⟩ := rvl_mem _ _ _ hvs hz
          have q4 := rvl_at _ _ p _ u1 has' q1 q2
          simp only [RV, R] at q3 q4 hus ⊢
          obtain ⟨b, n, c, s1, s2⟩ := q3
          obtain ⟨b', n', c', s3, s4⟩ := q4
          obtain ⟨b'', n'', c'', s5, s6⟩ := hus
          rw [s1] at s5
          injection s5 with s5
          injection s5 with s5 _ _
          injection s5 with s5
          injection s5 with s5
          injection s2 with s2
          injection s4 with s4
          rw [s2] at s4
          injection s4 with s4
          injection s4 with s4
          injection s4 with s4
          exact ⟨b', n', c', s3, by rw [s6, ← s5, s4]⟩
        · exact R_botq hus
  · refine ⟨h1.trans hF.os, h2.trans hF.tape, h3.trans hF.output, Nat.le_trans hF.drawn h4, Nat.le_trans hF.size hkp.size, fun b hb hn => ?_, fun b hb => ?_, hF.aold, hF.dis⟩
    · refine (hkp.block b (Nat.lt_of_lt_of_le hb hF.size) (fun ho => ?_)).trans (hF.block b hb hn)
      rcases hF.own b ho with g | g
      · exact hn g
      · omega
    · rcases Nat.lt_or_ge b w.heap.size with hlt | hge
      · exact hF.own b (hkp.own b hlt hb)
      · exact .inr (Nat.le_trans hF.size hge)

theorem ok_enter {o : Oper} {c : Operand} {args : Array Operand} {tys : Array TypeId} {f : FuncId} {cs : Array Value} (ho : o.op = .call ⟨.value c, args, tys⟩) (hc : a.eval c = .func (.func f) #[] cs) (hok : okFn P f = true) :
    (execOp a.eval o).run P w = .ok (.enter f (args.toList.map a.eval ++ cs.toList).toArray) w := by
  unfold okFn at hok
  cases hf : P.funcs[f]? with
  | none => rw [hf] at hok; simp at hok
  | some fn =>
    rw [hf] at hok
    simp only [Bool.and_eq_true, Bool.not_eq_true'] at hok
    have h1 : ¬ fn.name = "runtime.NumGoroutine" := by simpa using hok.1
    have hb : ¬ fn.body = none := by intro e; rw [e] at hok; simp at hok
    have e : (args.toList.map a.eval ++ cs.toList).toArray = args.map a.eval ++ cs := by rw [← Array.toList_map, ← Array.toList_append]
    rw [e]
    simp [execOp, ho, resolve, Deferred.ofValue, hc, invoke, callFunc, hf, h1, hb]

theorem amc_sound {ops : Array Oper} {i : Nat} {o : Oper} {N : HK (St → Prop)} (ho : ops[i]? = some o) (h : amc P o σ (N := N)) (hS : StR C σ a w) :
    wpOp P ops Q i (fun a' w' => ∃ σ', N.k σ' ∧ StR C σ' a' w') a w := by
  unfold wpOp
  simp only [ho]
  unfold amc at h
  split at h
  · rename_i f args tys hop hg
    rw [if_pos (wanted_none hg _)]
    refine .inl (amc_call (vs := args.toList.map a.eval) hS (fun hok => ?_) (fun hv hsl => rvl_map (fun x => ev_ok hsl x) args.toList) h)
    have := ok_enter (w := w) (a := a) (c := .func f) (cs := #[]) hop rfl hok
    simpa using this
  · rename_i t args tys hop hg
    rw [if_pos (wanted_none hg _)]
    obtain ⟨⟨f, cap⟩, hf, h⟩ := AOpt_elim h
    have hfc := asF_eq hf
    obtain ⟨hv0, _, _, hsl0, _, _⟩ := id hS
    have hx0 := ev_ok hsl0 (.tmp t)
    rw [hfc] at hx0
    simp only [RV, R] at hx0
    obtain ⟨cs, e1, _⟩ := hx0
    injection e1 with e1
    refine .inl (amc_call (vs := args.toList.map a.eval ++ cs.toList) hS (fun hok => ok_enter hop e1 hok) (fun hv hsl => ?_) h)
    have hx := ev_ok hsl (.tmp t)
    rw [hfc] at hx
    simp only [RV, R] at hx
    obtain ⟨cs', e2, hcl, hcs⟩ := hx
    injection e2 with e2
    rw [e1] at e2
    injection e2 with _ _ e2
    subst e2
    exact rvl_app _ _ _ _ (rvl_map (fun x => ev_ok hsl x) args.toList) (rvl_of_rl cap cs.toList hcl hcs)
  · exact h.elim

theorem aopsm_sound {own : List Nat} {ops : Array Oper} {m : Nat} {N : HK (St → Prop)} (hQ : ∀ σ a w, N.k σ → StR C σ a w → Q .normal a w) : ∀ (l : List Oper) (k : Nat) (σ : St) (a : Act) (w : World), ops.toList.drop k = l → @AOpsM P own ops.toList m k l σ N → StR C σ a w →
    wpOps P ops Q (List.range' k l.length) a w
  | [], k, σ, a, w, _, h, hS => by simp only [List.length_nil, List.range'_zero, wpOps]; exact hQ σ a w h hS
  | o :: l, k, σ, a, w, hk, h, hS => by
    have ho : ops[k]? = some o := by
      have : (ops.toList.drop k)[0]? = some o := by rw [hk]; rfl
      rw [List.getElem?_drop] at this
      simpa using this
    have hk' : ops.toList.drop (k + 1) = l := by rw [← List.drop_drop, hk]; rfl
    rw [List.length_cons, List.range'_succ, wpOps_cons]
    cases hm : (k == m) with
    | true =>
      refine wpOp_mono (fun a' w' => ?_) (amc_sound ho (h.1 hm) hS)
      rintro ⟨σ', h1, h2⟩
      exact aopsm_sound hQ l (k + 1) σ' a' w' hk' h1 h2
    | false =>
      refine wpOp_mono (fun a' w' => ?_) (aop_sound ho (h.2 hm) hS)
      rintro ⟨σ', h1, h2⟩
      exact aopsm_sound hQ l (k + 1) σ' a' w' hk' h1 h2

/-- A REGION in the order of the text with a call that is handed objects: the operation m. -/
theorem swp_m {own : List Nat} {id : Nat} {ops : Array Oper} {N : HN} {E : HE} {Rt : HR} (m : Nat) (h : @AOpsM P own ops.toList m 0 ops.toList σ N) : @SWp P (.region id ops false) σ N E Rt := by
  intro C a w hS
  refine wp_region ?_
  have := aopsm_sound (P := P) (own := own) (ops := ops) (m := m) (N := N) (Q := APost C N.k E.k (fun σ => Rt.k σ ())) (fun σ a w h1 h2 => ⟨σ, h1, h2⟩) ops.toList 0 σ a w rfl h hS
  rw [List.range_eq_range']
  simpa using this

/-- a region in the order of the text. -/
theorem swp_text {own : List Nat} {id : Nat} {ops : Array Oper} {N : HN} {E : HE} {Rt : HR} (h : @AOps P own ops.toList ops.toList σ N) : @SWp P (.region id ops false) σ N E Rt := fun _ _ _ hS => region_sound (own := own) (fun σ _ _ hN hS => ⟨σ, hN, hS⟩) h hS

theorem acall_m {f : FuncId} {as : List AV} {M : Mem} {K : HK (AV → Mem → Prop)} {x : AV} {M' : Mem} (spec : MSpec P f as M (fun r N => r = x ∧ N = M')) (h : K.k x M') : ACallM P f as M (K := K) := ⟨_, spec, by rintro r N ⟨rfl, rfl⟩; exact h⟩

/-- the values of the arguments, remembered. -/
def ghost (vs : List Value) (as : List AV) : Ob := ⟨some vs, 0, 1, as⟩

def freeM (Z : List Nat) (M : Mem) : Bool := M.all fun o => match o with | some ob => AV.freeL Z ob.xs | none => true

/-- where a function ends that was handed objects. -/
def MEnd (P : Program) (rs : List ResultVar) (as : List AV) (vs : List Value) (post : AV → Mem → Prop) (σ : St) : Prop :=
  ∃ σ' x M', Le σ σ' ∧ resA P rs σ' = some x ∧ σ'.M = M' ++ [some (ghost vs as)] ∧ x.free [M'.length] = true ∧ AV.freeL [M'.length] as = true ∧ freeM [M'.length] M' = true ∧ post x M'

theorem freeL_mem {Z : List Nat} : ∀ (l : List AV), AV.freeL Z l = true → ∀ x ∈ l, x.free Z = true
  | y :: l, h, x, hx => by
    simp only [AV.freeL, Bool.and_eq_true] at h
    rcases List.mem_cons.1 hx with rfl | hx
    · exact h.1
    · exact freeL_mem l h.2 x hx
theorem killL_free {Z : List Nat} {l : List AV} (h : AV.freeL Z l = true) : AV.killL Z l = l := by
  rw [AV.killL_map, List.map_congr_left (fun x hx => AV.kill_free Z x (freeL_mem l h x hx))]
  simp

theorem mspec_of {f : FuncId} {fn : Func} {c : Code} {own : List Nat} {as : List AV} {M : Mem} {post : AV → Mem → Prop} (hf : P.funcs[f]? = some fn) (hb : fn.body = some c) (hok : okFn P f = true)
    (h : ∀ vs : List Value, @awp P own c ⟨as ++ List.replicate (fn.ntmps - as.length) .bot, M ++ [some (ghost vs as)]⟩ ⟨MEnd P fn.results.toList as vs post⟩ ⟨fun _ _ => False⟩ ⟨fun σ _ => MEnd P fn.results.toList as vs post σ⟩) : MSpec P f as M post := by
  refine ⟨hok, fun w vs A hv hM0 hsep hvs0 => calls_of_wp hf hb ?_⟩
  obtain ⟨hM, hs0⟩ := mem_add hM0 (Bel.refl _ w) (ob := ghost vs as) (v := .map none) (fun b hb => by simp [blk] at hb) (fun hs => ObR.of_map (ob := ghost vs as) (ks := vs) rfl ⟨vs, .inr ⟨by simp [ghost], rfl, rfl⟩, by
    have := RVL_keep hs.keeps hs.hv _ _ hvs0
    rwa [AV.killL_nil] at this⟩)
  have hvs : RVL w (OwnA A (hvAdd hv M.length (.map none))) (hvAdd hv M.length (.map none)) as vs := by
    have := RVL_keep hs0.keeps hs0.hv _ _ hvs0
    rwa [AV.killL_nil] at this
  have hoeq : ∀ b, Own (hvAdd hv M.length (.map none)) b → Own hv b := fun b hb => by
    rcases (own_add (mem_none hM0 (Nat.le_refl _))).1 hb with h | h
    · exact h
    · simp [blk] at h
  obtain ⟨hlen, hget⟩ := rvl_get as vs hvs
  have hS : StR ⟨w, Own hv, A, []⟩ ⟨as ++ List.replicate (fn.ntmps - as.length) .bot, M ++ [some (ghost vs as)]⟩ { tmps := vs.toArray ++ Array.replicate (fn.ntmps - vs.toArray.size) undef, defers := [] } w := by
    refine ⟨_, rfl, by simp [hlen], fun i x hx => ?_, hM, ⟨rfl, rfl, rfl, Nat.le_refl _, Nat.le_refl _, fun _ _ _ => rfl, fun b h => .inl (hoeq b h), hM0.old, fun b hA ho => hsep b ho hA⟩⟩
    rcases Nat.lt_or_ge i as.length with hlt | hge
    · simp only [List.getElem?_append_left hlt] at hx
      obtain ⟨v, h1, h2⟩ := hget i x hx
      refine ⟨v, ?_, h2⟩
      rw [Array.getElem?_append_left (by simp; omega)]; simpa using h1
    · simp only [List.getElem?_append_right hge, List.getElem?_replicate] at hx
      split at hx
      · rename_i hr
        injection hx with hx
        subst hx
        refine ⟨undef, ?_, by simp [RV]⟩
        rw [Array.getElem?_append_right (by simp; omega)]
        simp [hlen, hr]
      · cases hx
  have fin : ∀ (σ : St) (a' : Act) (w' : World), MEnd P fn.results.toList as vs post σ → StR ⟨w, Own hv, A, []⟩ σ a' w' → a'.defers = [] ∧ ∃ v, (results fn a'.tmps).run P w' = .ok v w' ∧
      ∃ r M' v' hv', Ending.returned v = .returned v' ∧ post r M' ∧ MemR A w' hv' M' ∧ RV w' (OwnA A hv') hv' r v' ∧ RVL w' (OwnA A hv') hv' as vs ∧ Keeps w (Own hv) w' (Own hv') ∧ w'.os = w.os ∧ w'.tape = w.tape ∧ w'.output = w.output ∧ w.drawn ≤ w'.drawn := by
    rintro σ a' w' ⟨⟨sl', M1⟩, x, M', hle, hx, hM1, f1, f2, f3, hp⟩ hSσ
    obtain ⟨hv2, hd, _, hsl, hM2, hF⟩ := hle _ _ _ hSσ
    simp only at hM1
    subst hM1
    obtain ⟨v, h1, h2⟩ := res_ok (C := ⟨w, Own hv, A, []⟩) hsl hM2 hx
    have hg : (M' ++ [some (ghost vs as)])[M'.length]? = some (some (ghost vs as)) := by simp
    obtain ⟨vg, hvg, hob⟩ := hM2.live _ _ hg
    obtain ⟨vals, ⟨hk0, _⟩ | ⟨_, rfl, rfl⟩, hr⟩ := hob.map (ks := vs) rfl
    · simp [ghost] at hk0
    let hv3 : Nat → Option Value := fun i => if i < M'.length then hv2 i else none
    have hown : ∀ b, Own hv3 b → Own hv2 b := by
      rintro b ⟨i, u, hi, hb⟩
      simp only [hv3] at hi
      split at hi
      · exact ⟨i, u, hi, hb⟩
      · cases hi
    have hs : StepR A w' hv2 [M'.length] w' hv3 := by
      refine ⟨⟨Nat.le_refl _, fun _ _ _ => rfl, fun b _ hb => hown b hb⟩, fun i u hi h => ?_, rfl, rfl, rfl, Nat.le_refl _⟩
      obtain ⟨ob, hob⟩ := hM2.dom i u h
      have := (List.getElem?_eq_some_iff.1 hob).1
      simp only [List.length_append, List.length_cons, List.length_nil, List.mem_singleton] at this hi
      simp only [hv3, if_pos (show i < M'.length by omega)]
      exact h
    refine ⟨hd, v, h1, x, M', v, hv3, rfl, hp, ⟨fun i ob hi => ?_, fun i u hi => ?_, fun i j vi vj b hi hj => ?_, hM2.old⟩, ?_, ?_, ⟨hF.size, fun b hb hn => hF.block b hb hn, fun b hlt hb => ?_⟩, hF.os, hF.tape, hF.output, hF.drawn⟩
    · have hlt : i < M'.length := (List.getElem?_eq_some_iff.1 hi).1
      obtain ⟨v, h1, h2, h3⟩ := live_step hM2 hs (fun v b h1 h2 => rfl) (show i ∉ [M'.length] by simp only [List.mem_singleton]; omega) (by rw [List.getElem?_append_left hlt]; exact hi)
      have hk : Ob.kill [M'.length] ob = ob := by
        simp only [freeM, List.all_eq_true] at f3
        have := f3 _ (List.mem_of_getElem? hi)
        simp only at this
        cases ob
        simp only [Ob.kill, Ob.mk.injEq, true_and]
        exact killL_free this
      rw [hk] at h3
      exact ⟨v, h2, h3⟩
    · simp only [hv3] at hi
      split at hi
      · rename_i hlt
        obtain ⟨ob, hob⟩ := hM2.dom i u hi
        rw [List.getElem?_append_left hlt] at hob
        exact ⟨ob, hob⟩
      · cases hi
    · simp only [hv3] at hi hj
      split at hi
      · split at hj
        · exact hM2.inj i j vi vj b hi hj
        · cases hj
      · cases hi
    · have := hs.rv h2
      rwa [AV.kill_free _ _ f1] at this
    · have := RVL_keep hs.keeps hs.hv _ _ hr
      have e : AV.killL [M'.length] (ghost vals as).xs = as := killL_free f2
      rw [e] at this
      exact this
    · rcases hF.own b (hown b hb) with g | g
      · exact g
      · simp only at g; omega
  refine wp_mono (awp_sound c _ _ _ _ (h vs) _ _ _ hS) fun e a' w' hq => ?_
  cases e with
  | normal => obtain ⟨σ, h1, h2⟩ := hq; exact fin σ a' w' h1 h2
  | ret => obtain ⟨σ, h1, h2⟩ := hq; exact fin σ a' w' h1 h2
  | exit id => obtain ⟨σ, h1, h2⟩ := hq; exact h1.elim
  | goto l => exact hq.elim
  | panic ch => exact hq.elim
  | outgrown => exact hq.elim

/-- the object i is frozen: it is told as a slice that nobody writes. -/
def frz1 (i : Nat) (k : Nat) (xs : List AV) : AV → AV := AV.sub (fun j => if j = i then .s k xs else .o j) (fun j kk jj off => if j = i then .bot else .q j kk jj off)
def frzM (i : Nat) (k : Nat) (xs : List AV) (M : Mem) : Mem := (M.set i none).map fun o => o.map fun ob => { ob with xs := AV.subL (fun j => if j = i then .s k xs else .o j) (fun j kk jj off => if j = i then .bot else .q j kk jj off) ob.xs }

theorem le_frz {sl : List AV} {M : Mem} (i : Nat) {ty k : Nat} {xs : List AV} (hi : M[i]? = some (some ⟨none, ty, k, xs⟩)) (hp : AV.pureL xs = true) : Le ⟨sl, M⟩ ⟨sl.map (frz1 i k xs), frzM i k xs M⟩ := by
  intro C a w hS
  obtain ⟨hv, hd, hsz, hsl, hM, hF⟩ := hS
  let hv' : Nat → Option Value := fun j => if j = i then none else hv j
  have hown : ∀ b, Own hv' b → Own hv b ∧ ∀ v, hv i = some v → blk v ≠ some b := by
    rintro b ⟨j, v, hj, hb⟩
    simp only [hv'] at hj
    split at hj
    · cases hj
    · rename_i hne
      exact ⟨⟨j, v, hj, hb⟩, fun v' hv'' e => hne (hM.inj j i v v' b hj hv'' hb e)⟩
  have hk : Keeps w (OwnA C.A hv) w (OwnA C.A hv') := ⟨Nat.le_refl _, fun _ _ _ => rfl, fun b _ h => h.elim .inl fun h => .inr (hown b h).1⟩
  have sF : ∀ j, (if j = i then AV.s k xs else .o j).single = true := fun j => by split <;> rfl
  have sG : ∀ j kk jj off, (if j = i then AV.bot else .q j kk jj off).single = true := fun j kk jj off => by split <;> rfl
  have hFF : ∀ j v, hv j = some v → v.oneCell' = true → R w (OwnA C.A hv') hv' (if j = i then .s k xs else .o j) [v] := by
    intro j v hj h1c
    split
    · rename_i hji
      subst hji
      obtain ⟨us, hrow, hks, hus⟩ := (hM_ob hM hi hj).row rfl
      have hus' := RL_pure xs hv noHv us hp hus
      have hus2 := RL_keep hk (Z := []) (hv := noHv) (hv' := noHv) (fun _ _ _ h => h) _ _ hus'
      rw [AV.killL_nil] at hus2
      simp only [R]
      rcases hrow.2 with ⟨rfl, h0⟩ | ⟨g, cap, cur, rfl, _, hg, hnc, hcm, hcs, htk⟩
      · have he : xs = [] := List.eq_nil_of_length_eq_zero h0
        rw [he]
        exact ⟨none, 0, [], by simp, Nat.le_refl _, Nat.zero_le _, by simp, by simp [RL], fun h => absurd rfl h⟩
      · refine ⟨_, cap, us, rfl, hnc, hcm, hks, hus2, fun _ => ⟨g, 0, rfl, (Array.getElem?_eq_some_iff.1 hg).1, fun h' => ?_, fun m u hu => ?_⟩⟩
        · rcases h' with h' | h'
          · exact hF.sep ⟨j, _, hj, rfl⟩ h'
          · exact (hown g h').2 _ hj rfl
        · have := hrow.cells (g := g) rfl m u hu
          rw [Addr.add_lit] at this
          exact this
    · rename_i hji
      simp only [R]
      exact ⟨v, by simp only [hv', if_neg hji]; exact hj, rfl, h1c⟩
  have hGG : ∀ j kk jj off us, R w (OwnA C.A hv) hv (.q j kk jj off) us → R w (OwnA C.A hv') hv' (if j = i then .bot else .q j kk jj off) us := by
    intro j kk jj off us h
    split
    · exact R_botq h
    · rename_i hji
      simp only [R] at h ⊢
      obtain ⟨b, n, c, h1, h2⟩ := h
      exact ⟨b, n, c, by simp only [hv', if_neg hji]; exact h1, h2⟩
  refine ⟨hv', hd, by simpa using hsz, fun j x hx => ?_, ⟨fun j ob hj => ?_, fun j v hj => ?_, fun j1 j2 v1 v2 b h1 h2 => ?_, hM.old⟩, ⟨hF.os, hF.tape, hF.output, hF.drawn, hF.size, hF.block, fun b hb => hF.own b (hown b hb).1, hF.aold, hF.dis⟩⟩
  · simp only [List.getElem?_map, Option.map_eq_some_iff] at hx
    obtain ⟨y, hy, rfl⟩ := hx
    obtain ⟨v, h1, h2⟩ := hsl j y hy
    exact ⟨v, h1, RV_subk hk hFF sF hGG sG y v h2⟩
  · simp only [frzM, List.getElem?_map, Option.map_eq_some_iff] at hj
    obtain ⟨o, ho, o', rfl, rfl⟩ := hj
    rw [List.getElem?_set] at ho
    split at ho
    · split at ho <;> simp at ho
    · rename_i hne
      obtain ⟨v, h1, hob⟩ := hM.live j o' ho
      refine ⟨v, by simp only [hv', if_neg (Ne.symm hne)]; exact h1, ?_⟩
      cases hm : o'.mp with
      | some ks =>
        obtain ⟨vals, g1, g3⟩ := hob.map hm
        exact ObR.of_map (ks := ks) rfl ⟨vals, g1, RVL_subk hk hFF sF hGG sG _ _ g3⟩
      | none =>
        obtain ⟨us, h2, h3, h4⟩ := hob.row hm
        refine ObR.of_row rfl ⟨us, ?_, fun x hx => ?_, RL_subk hk hFF sF hGG sG _ _ h4⟩
        · simp only [AV.subL_map, List.length_map]; exact h2
        · simp only [AV.subL_map, List.mem_map] at hx
          obtain ⟨y, hy, rfl⟩ := hx
          rw [size_sub sF sG]; exact h3 y hy
  · simp only [hv'] at hj
    split at hj
    · cases hj
    · rename_i hne
      obtain ⟨ob, hob⟩ := hM.dom j v hj
      refine ⟨{ ob with xs := AV.subL (fun j => if j = i then .s k xs else .o j) (fun j kk jj off => if j = i then .bot else .q j kk jj off) ob.xs }, ?_⟩
      simp only [frzM, List.getElem?_map]
      rw [List.getElem?_set_ne (Ne.symm hne), hob]
      rfl
  · simp only [hv'] at h1 h2
    split at h1
    · cases h1
    · split at h2
      · cases h2
      · exact hM.inj j1 j2 v1 v2 b h1 h2

/-- objects of the end are forgotten. -/
theorem le_cut {sl sl' : List AV} {M M' Mx : Mem} (h : leSl sl sl') (hM : M = M' ++ Mx) (hf : AV.freeL ((List.range Mx.length).map (· + M'.length)) sl' = true)
    (hm : freeM ((List.range Mx.length).map (· + M'.length)) M' = true) : Le ⟨sl, M⟩ ⟨sl', M'⟩ :=
  le_of h hM hf fun ob hob => by
    simp only [freeM, List.all_eq_true] at hm
    exact hm _ hob
end

end Aw
end Go.Proofs.Ytkolpijhgcijbaa

namespace Go.Proofs.Ytkolpijhgcijbaa
namespace Aw
open Go.RowKit

section
variable {P : Program} {σ : St}

theorem wpOp_of {ops : Array Oper} {Q : Exit → Act → World → Prop} {i : Nat} {o : Oper} {K : Act → World → Prop} {a : Act} {w : World} (ho : ops[i]? = some o) (hg : o.guard = none) (h : o.wp P a w K Q) : wpOp P ops Q i K a w := by
  unfold wpOp
  simp only [ho]
  rw [if_pos (wanted_none hg _)]
  exact .inl h

theorem sizeL1 : ∀ l : List AV, (∀ z ∈ l, z.size = 1) → AV.sizeL l = l.length := by
  intro l
  induction l with
  | nil => intro _; rfl
  | cons z l ih => intro hz; simp [AV.sizeL, hz z List.mem_cons_self, ih fun q hq => hz q (List.mem_cons_of_mem _ hq)]; omega

theorem swp_copy {id : Nat} {p s d1 d2 d3 : Tmp} {ta ts y1 y2 y3 : TypeId} {p1 p2 p3 : String} {f1 f2 f3 : Array Edge} {N : HN} {E : HE} {Rt : HR} {ti te tis : TI} {n : Nat} {e : TypeId} {i j : Nat} {ob : Ob} {cells xs : List AV}
    (hta : tiOf P ta = some ti) (har : ti.arr = some (n, e)) (hte : tiOf P e = some te) (hsz : te.size = 1) (hts : tiOf P ts = some tis) (htse : tis.elem = some e)
    (hp : σ.sl[p]? = some (.q i n j 0)) (hs : σ.sl[s]? = some (.s 1 xs)) (hob : σ.M[i]? = some (some ob)) (hk : ob.k = n) (hj : ob.xs[j]? = some (.g cells)) (hc : ∀ x ∈ cells, x.size = 1) (hcn : cells.length = n)
    (h1 : d1 < σ.sl.length) (h2 : d2 < σ.sl.length) (h12 : d1 ≠ d2) (h1s : d1 ≠ s) (hn0 : 0 < n)
    (h : N.k ⟨((σ.sl.set d1 .bot).set d2 (.s 1 xs)).set d3 (I (min xs.length n)), σ.M.set i (some { ob with xs := ob.xs.set j (.g (putsA cells 0 (xs.take (min xs.length n)))) })⟩) :
    @SWp P (.region id #[⟨some d1, .slice ta (.tmp p) none none none, y1, p1, f1, none⟩, ⟨some d2, .move (.tmp s), y2, p2, f2, none⟩, ⟨some d3, .call ⟨.builtin .copy, #[.tmp d1, .tmp d2], #[ts, ts]⟩, y3, p3, f3, none⟩] false) σ N E Rt := by
  intro C a w hS
  obtain ⟨hv, hd, hsz', hsl, hM, hF⟩ := hS
  have hua := ti_arr hta har
  have hus := ti_elem hts htse
  obtain ⟨pv, g1, g2⟩ := hsl p _ hp
  obtain ⟨sv, g3, g4⟩ := hsl s _ hs
  simp only [RV, R] at g2 g4
  obtain ⟨b, hn', hc', hbi, e1⟩ := g2
  injection e1 with e1
  subst e1
  obtain ⟨A, c, ws, e2, k1, k2, k3, k4, k5⟩ := g4
  injection e2 with e2
  subst e2
  have hjl : j < ob.xs.length := (List.getElem?_eq_some_iff.1 hj).1
  have hwl := RL_len xs ws k3 k4
  have htk := RL_take k3 k4 (min xs.length n)
  simp only [Nat.mul_one] at hwl htk
  have hgd : ob.xs.getD j .bot = .g cells := by rw [List.getD_eq_getElem?_getD, hj]; rfl
  have htl : (ws.take (min xs.length n)).length = min xs.length n := by simp; omega
  obtain ⟨w', r1, r2, r3⟩ := cells_ok (P := P) (off := 0) (r := .g (putsA cells 0 (xs.take (min xs.length n)))) (cs := ws.take (min xs.length n)) hM hob hjl hbi (fun u hu => RL_one xs ws k4 u (List.mem_of_mem_take hu)) (fun us hR => by
    rw [hgd] at hR ⊢
    simp only [R] at hR
    have hul := RL_len cells us hc hR
    simp only [Nat.mul_one] at hul
    have hpp := putsA_RL (xs.take (min xs.length n)) cells 0 us (ws.take (min xs.length n)) hc (fun x hx => k3 x (List.mem_of_mem_take hx)) hR (R_noHv hv _ _ htk) (by simp; omega)
    refine ⟨by rw [htl, hul, hcn]; omega, by simp only [R]; exact hpp.1, ?_⟩
    simp only [AV.size]
    rw [sizeL1 _ hpp.2, putsA_len, sizeL1 _ hc])
  have hrun3 : (Builtin.copy_ #[ts, ts] y3 #[.slice (some ⟨b, j * n, none⟩) n n, .slice A xs.length c]).run P w = .ok (.int .i64 (min xs.length n : Nat)) w' := by
    have hload : (Builtin.firstCells 1 (Nat.min xs.length n) (.slice A xs.length c)).run P w = .ok (ws.take (min xs.length n)).toArray w := by
      rcases A with _ | ⟨b', o', sp⟩
      · have : xs = [] := by
          cases xs with
          | nil => rfl
          | cons x xs => obtain ⟨_, _, h, _⟩ := k5 (by simp); cases h
        subst this
        simp [Builtin.firstCells]
      · by_cases hx : xs = []
        · subst hx
          have := run_loadCells_list (P := P) w ⟨b', o', sp⟩ [] (fun j v hj => by simp at hj)
          simpa [Builtin.firstCells] using this
        · obtain ⟨b2, o2, e5, _, _, hcc⟩ := k5 hx
          injection e5 with e5
          rw [e5]
          have := run_loadCells_list (P := P) w ⟨b2, o2, none⟩ (ws.take (min xs.length n)) (fun j v hj => by
            rw [Addr.add_lit]
            rw [List.getElem?_take] at hj
            split at hj
            · exact hcc _ _ hj
            · cases hj)
          rw [htl] at this
          simp only [Builtin.firstCells, Nat.mul_one]
          exact this
    have hsize : (sizeOf e).run P w = .ok 1 w := by rw [ti_size hte, hsz]
    simp only [Builtin.copy_, List.getElem?_toArray, List.getElem?_cons_zero, List.getElem?_cons_succ, Sem.run_bind, run_underlying hus, Result.andThen_ok, Builtin.lenOf, Sem.run_pure, hsize, hload]
    rw [hk] at r1
    simp only [Nat.add_zero] at r1
    rw [r1]
    rfl
  refine wp_region ?_
  show wpOps P _ _ [0, 1, 2] a w
  have hsa : a.tmps.size = σ.sl.length := hsz'
  have hdd1 : d1 < a.tmps.size := by rw [hsz']; exact h1
  have hdd2 : d2 < a.tmps.size := by rw [hsz']; exact h2
  rw [wpOps_cons]
  refine wpOp_of (o := ⟨some d1, .slice ta (.tmp p) none none none, y1, p1, f1, none⟩) rfl rfl (wp_value (v := .slice (some ⟨b, j * n, none⟩) n n) (w' := w) ?_ ?_)
  · have hev : a.eval (.tmp p) = .pointer (some ⟨b, j * n + 0, none⟩) := by simp [Act.eval, Array.getD_eq_getD_getElem?, g1]
    have hne : ¬ n = 0 := by omega
    simp [execOp, Instr.sliceAt, run_underlying hua, hev, Instr.sureAddr, Instr.sliceBounds, ti_size hte, hne, Addr.add_lit]
  rw [wpOps_cons]
  refine wpOp_of (o := ⟨some d2, .move (.tmp s), y2, p2, f2, none⟩) rfl rfl (wp_value (v := .slice A xs.length c) (w' := w) ?_ ?_)
  · have hev : (a.put (some d1) (.slice (some ⟨b, j * n, none⟩) n n)).eval (.tmp s) = .slice A xs.length c := by
      simp [Act.eval, Act.put, Array.getD_eq_getD_getElem?, Array.getElem?_setIfInBounds_ne h1s, g3]
    simp only [execOp, hev, Sem.run_bind, Sem.run_pure, Result.andThen_ok]
  rw [wpOps_cons]
  refine wpOp_of (o := ⟨some d3, .call ⟨.builtin .copy, #[.tmp d1, .tmp d2], #[ts, ts]⟩, y3, p3, f3, none⟩) rfl rfl (wp_value (v := .int .i64 (min xs.length n : Nat)) (w' := w') ?_ ?_)
  · have hev1 : ((a.put (some d1) (.slice (some ⟨b, j * n, none⟩) n n)).put (some d2) (.slice A xs.length c)).eval (.tmp d1) = .slice (some ⟨b, j * n, none⟩) n n := by
      simp only [Act.eval, Act.put, Array.getD_eq_getD_getElem?, Array.getElem?_setIfInBounds_ne (Ne.symm h12), Array.getElem?_setIfInBounds_self_of_lt hdd1, Option.getD_some]
    have hev2 : ((a.put (some d1) (.slice (some ⟨b, j * n, none⟩) n n)).put (some d2) (.slice A xs.length c)).eval (.tmp d2) = .slice A xs.length c := by
      simp [Act.eval, Act.put, Array.getD_eq_getD_getElem?, hdd2]
    simp only [execOp, resolve, invoke, builtin, Sem.run_bind, Sem.run_pure, Result.andThen_ok, List.map_toArray, List.map_cons, List.map_nil, hev1, hev2, hrun3]
  simp only [wpOps]
  refine ⟨_, h, ?_⟩
  have s1 : StR C σ a w := ⟨hv, hd, hsz', hsl, hM, hF⟩
  refine ⟨hv, by simpa [Act.put] using hd, by simp [Act.put, hsz'], fun m x hx => ?_, r2, hF.step r3⟩
  have keep : ∀ (x : AV) (v : Value), RV w (OwnA C.A hv) hv x v → RV w' (OwnA C.A hv) hv x v := fun x v hr => by
    have := r3.rv hr
    rwa [AV.kill_nil] at this
  simp only [List.getElem?_set] at hx
  simp only [Act.put]
  split at hx
  · rename_i hm
    subst hm
    split at hx
    · injection hx with hx
      subst hx
      rename_i hlt
      simp only [List.length_set] at hlt
      refine ⟨.int .i64 (min xs.length n : Nat), by simp [hsz', hlt], by simp [RV]; omega⟩
    · cases hx
  · rename_i hm3
    rw [Array.getElem?_setIfInBounds_ne hm3]
    split at hx
    · rename_i hm
      subst hm
      split at hx
      · injection hx with hx
        subst hx
        refine ⟨.slice A xs.length c, by simp [hdd2], keep _ _ ?_⟩
        simp only [RV, R]
        exact ⟨A, c, ws, rfl, k1, k2, k3, k4, k5⟩
      · cases hx
    · rename_i hm2
      rw [Array.getElem?_setIfInBounds_ne hm2]
      split at hx
      · rename_i hm
        subst hm
        simp only [Option.some.injEq, if_pos h1] at hx
        subst hx
        exact ⟨.slice (some ⟨b, j * n, none⟩) n n, by simp [hdd1], by simp [RV]⟩
      · rename_i hm1
        rw [Array.getElem?_setIfInBounds_ne hm1]
        obtain ⟨v, q1, q2⟩ := hsl m x hx
        exact ⟨v, q1, keep _ _ q2⟩
end
end Aw
end Go.Proofs.Ytkolpijhgcijbaa
