/-
  The calculus: what an operation does to abstract values ('core').
-/
import Derived.Test.YtkolpijhgcijbaaAw2
import Derived.Maps.Keyed
namespace Go.Proofs.Ytkolpijhgcijbaa
namespace Aw
open Go.RowKit

/-- what the calculus asks of a type. -/
structure TI where
  agg : Bool
  size : Nat
  bytes : Nat
  zero : List Value
  elem : Option TypeId
  arr : Option (Nat × TypeId)
  flds : List (Nat × Nat)
  ftys : List TypeId
  bool : Bool
  eqn : Bool
  deriving Inhabited

/-- a struct whose fields are single integers, one behind the other. -/
def eqnOf (P : Program) (t : TypeId) : Bool :=
  P.stoodInHeld t == false && P.eqGuardType P.depth t == false &&
  (match P.underlying t with
   | some (.struct fs) => (fs.toList.zipIdx.all fun fi => fi.1.name != "_" && fi.1.offset == fi.2 && (match P.underlying fi.1.type with | some (.int _) => true | _ => false))
   | _ => false)

def fldsKnown (P : Program) : TypeDesc → Bool
  | .struct fs => fs.toList.all fun f => (P.info? f.type).isSome
  | _ => true

def tiOf (P : Program) (t : TypeId) : Option TI :=
  match P.info? t, P.underlying t with
  | some i, some d => match i.zero with
    | some z => if z.cells.size = i.size && z.cells.toList.all (·.oneCell') && fldsKnown P d then
        some { agg := (match d with | .struct _ | .array _ _ => true | _ => false), size := i.size, bytes := i.bytes, zero := z.cells.toList,
               elem := (match d with | .slice e => some e | _ => none), arr := (match d with | .array n e => some (n, e) | _ => none),
               flds := (match d with | .struct fs => fs.toList.map fun f => (f.offset, P.cellsOf f.type) | _ => []),
               ftys := (match d with | .struct fs => fs.toList.map fun f => f.type | _ => []),
               bool := (match d with | .bool => true | _ => false), eqn := eqnOf P t }
      else none
    | none => none
  | _, _ => none

def mkA (agg : Bool) (l : List AV) : AV := if agg then .g l else match l with | [x] => x | _ => .bot

/-- the cells l at off are written over. -/
def putsA : List AV → Nat → List AV → List AV
  | cs, _, [] => cs
  | cs, off, c :: r => putsA (cs.set off c) (off + 1) r

def fillA (place : Nat → Option (Nat × Nat)) (cells : List AV) : List (Nat × AV) → Option (List AV)
  | [] => some cells
  | (i, x) :: rest => match place i with
    | none => none
    | some (off, size) => if x.cellular && x.flat && x.cells.length == size && decide (off + size ≤ cells.length) then fillA place (putsA cells off x.cells) rest else none

/-- the load of a type at a place in a value. -/
def loadA (ti : TI) (x : AV) (off : Nat) : Option AV :=
  if !x.flat then none else
  if ti.agg then
    (match x with
     | .g xs => if off == 0 && xs.length == ti.size then some x else if decide (off + ti.size ≤ xs.length) then some (.g ((xs.drop off).take ti.size)) else none
     | _ => none)
  else x.cells[off]?

/-- the store of a value at a place in a value. -/
def storeA (ti : TI) (x : AV) (off : Nat) (y : AV) : Option AV :=
  if x.flat && y.flat && y.cellular && y.cells.length == ti.size && decide (off + ti.size ≤ x.cells.length) then
    (match x with
     | .g xs => some (.g (putsA xs off y.cells))
     | _ => (putsA x.cells off y.cells).head?)
  else none

/-- what comes next, out of simp's sight. -/
class HK (α : Type) where
  k : α

def ACond (b : Bool) [x : HK Prop] [y : HK Prop] : Prop := (b = true → x.k) ∧ (b = false → y.k)
theorem ACond_true (x y : HK Prop) : @ACond true x y = x.k := by simp [ACond]
theorem ACond_false (x y : HK Prop) : @ACond false x y = y.k := by simp [ACond]

def AGet (xs : List AV) (j : Nat) [K : HK (AV → Prop)] : Prop := ∃ x, xs[j]? = some x ∧ K.k x
theorem AGet_zero (x : AV) (xs : List AV) (K : HK (AV → Prop)) : @AGet (x :: xs) 0 K = K.k x := by simp [AGet]
theorem AGet_succ (x : AV) (xs : List AV) (j : Nat) (K : HK (AV → Prop)) : @AGet (x :: xs) (j + 1) K = @AGet xs j K := by simp [AGet]

def okFn (P : Program) (f : FuncId) : Bool :=
  match P.funcs[f]? with
  | some fn => !(fn.name == "runtime.NumGoroutine") && fn.body.isSome
  | none => false

/-- A function's contract: over persistent arguments that lie in no block of A; the result lies in none, too; the new objects that it brings are in new memory. -/
def ASpec (P : Program) (f : FuncId) (as : List AV) (post : AV → List Ob → Prop) : Prop :=
  okFn P f = true ∧ ∀ (w : World) (vs : List Value) (A : Nat → Prop), (∀ b, A b → b < w.heap.size) → RVL w A noHv as vs → Calls P f vs.toArray w fun e w' =>
    ∃ r Ms v hv, e = .returned v ∧ post r Ms ∧ MemR A w' hv (Ms.map some) ∧ RV w' (OwnA A hv) hv r v ∧ (∀ b, Own hv b → w.heap.size ≤ b) ∧ Below w.heap.size w w'

mutual
/-- an abstract value of which all that lies in memory is its own. -/
def AV.tfree : AV → Bool
  | .s _ xs => xs.isEmpty
  | .p _ _ => false
  | .g xs => AV.tfreeL xs
  | .t xs => AV.tfreeL xs
  | .f _ xs => AV.tfreeL xs
  | _ => true
def AV.tfreeL : List AV → Bool
  | [] => true
  | x :: xs => x.tfree && AV.tfreeL xs
end

mutual
/-- the abstract value with other names of its objects. -/
def AV.sub (F : Nat → AV) (G : Nat → Nat → Nat → Nat → AV) : AV → AV
  | .o i => F i
  | .q i k j off => G i k j off
  | .g xs => .g (AV.subL F G xs)
  | .t xs => .t (AV.subL F G xs)
  | .f fn xs => .f fn (AV.subL F G xs)
  | a => a
def AV.subL (F : Nat → AV) (G : Nat → Nat → Nat → Nat → AV) : List AV → List AV
  | [] => []
  | x :: xs => x.sub F G :: AV.subL F G xs
end

/-- the objects' numbers are moved up. -/
def AV.up (m : Nat) : AV → AV := AV.sub (fun i => .o (i + m)) (fun i k j off => .q (i + m) k j off)
def Ob.up (m : Nat) (ob : Ob) : Ob := { ob with xs := ob.xs.map (AV.up m) }

/-- an argument may be taken for another abstract value: a persistent one (own = false), or an object that is lent (own = true). -/
def Coe (lend : Bool) (M : Mem) (a b : AV) : Prop := ∀ A w hv v, MemR A w hv M → RV w (OwnA A hv) hv a v → RV w (if lend then fun _ => False else OwnA A hv) noHv b v
def CoeL (lend : Bool) (M : Mem) : List AV → List AV → Prop
  | [], [] => True
  | a :: as, b :: bs => Coe lend M a b ∧ CoeL lend M as bs
  | _, _ => False

def ACall (P : Program) (f : FuncId) (as : List AV) (M : Mem) [K : HK (AV → Mem → Prop)] : Prop :=
  ∃ lend bs post, CoeL lend M as bs ∧ ASpec P f bs post ∧ ∀ r Ms, post r Ms → (lend = true → r.tfree = true ∧ ∀ ob ∈ Ms, AV.tfreeL ob.xs = true) ∧ K.k (r.up M.length) (M ++ Ms.map fun ob => some (ob.up M.length))

def lim (n : Int) : Prop := -9223372036854775808 ≤ n ∧ n ≤ 9223372036854775807

def ints : List AV → Option (List Int)
  | [] => some []
  | .v (.int .i64 n) :: r => (ints r).map (n :: ·)
  | _ => none

def binA (P : Program) (op : BinOp) (ty : TypeId) (x y : AV) [K : HK (AV → Prop)] : Prop :=
  match op, x, y with
  | .add, .v (.int .i64 a), .v (.int .i64 b) => lim (a + b) ∧ K.k (I (a + b))
  | .sub, .v (.int .i64 a), .v (.int .i64 b) => lim (a - b) ∧ K.k (I (a - b))
  | .mul, .v (.int .i64 a), .v (.int .i64 b) => lim (a * b) ∧ K.k (I (a * b))
  | .quo, .v (.int .i64 a), .v (.int .i64 b) => (b ≠ 0 ∧ lim (a.tdiv b)) ∧ K.k (I (a.tdiv b))
  | .rem, .v (.int .i64 a), .v (.int .i64 b) => b ≠ 0 ∧ K.k (I (a.tmod b))
  | .lss, .v (.int k a), .v (.int k' b) => k = k' ∧ K.k (B (decide (a < b)))
  | .leq, .v (.int k a), .v (.int k' b) => k = k' ∧ K.k (B (decide (a ≤ b)))
  | .gtr, .v (.int k a), .v (.int k' b) => k = k' ∧ K.k (B (decide (b < a)))
  | .geq, .v (.int k a), .v (.int k' b) => k = k' ∧ K.k (B (decide (b ≤ a)))
  | .eql, .v (.int k a), .v (.int k' b) => k = k' ∧ K.k (B (decide (a = b)))
  | .neq, .v (.int k a), .v (.int k' b) => k = k' ∧ K.k (B (!decide (a = b)))
  | .eql, .v (.bool a), .v (.bool b) => (match tiOf P ty with | some ti => ti.bool = true | none => False) ∧ K.k (B (a == b))
  | .neq, .v (.bool a), .v (.bool b) => (match tiOf P ty with | some ti => ti.bool = true | none => False) ∧ K.k (B (!(a == b)))
  | .eql, .g xs, .g ys => (match tiOf P ty, ints xs, ints ys with | some ti, some as, some bs => (ti.eqn = true ∧ as.length = ti.flds.length ∧ bs.length = ti.flds.length) ∧ K.k (B (decide (as = bs))) | _, _, _ => False)
  | .neq, .g xs, .g ys => (match tiOf P ty, ints xs, ints ys with | some ti, some as, some bs => (ti.eqn = true ∧ as.length = ti.flds.length ∧ bs.length = ti.flds.length) ∧ K.k (B (!decide (as = bs))) | _, _, _ => False)
  | .eql, .s _ xs, .v (.slice none _ _) => (match tiOf P ty with | some ti => ti.elem.isSome = true | none => False) ∧ ∀ b : Bool, (b = true → xs = []) → K.k (B b)
  | _, _, _ => False

def mapOf (P : Program) (t : TypeId) : Option (TypeId × TypeId) := match P.underlying t with | some (.map k e) => some (k, e) | _ => none

/-- the zero value of a type, as it lies there. -/
def zeroA (P : Program) (t : TypeId) : Option AV :=
  match (P.info? t).bind (·.zero) with
  | some (.agg cs) => if (cs.toList.all fun u => u.oneCell') = true then some (.g (cs.toList.map AV.v)) else none
  | some z => if z.oneCell' = true then some (.v z) else none
  | none => none

def valsOf : List AV → Option (List Value)
  | [] => some []
  | .v x :: r => (valsOf r).map (x :: ·)
  | _ => none

/-- a value that is known whole. -/
def valOf : AV → Option Value
  | .v x => some x
  | .g xs => (valsOf xs).map fun l => .agg l.toArray
  | _ => none

/-- where a key lies. -/
def Find (ks : List Value) (v : Value) : Option Nat → Prop
  | none => ∀ u ∈ ks, u ≠ v
  | some j => ks[j]? = some v ∧ ∀ i, ks[i]? = some v → i = j

def AFind (P : Program) (kt : TypeId) (ks : List Value) (v : Value) [K : HK (Nat → Prop)] [L : HK Prop] : Prop :=
  (Maps.Keyed P kt ∧ (∃ l, keyOf P kt v = some l) ∧ ∀ u ∈ ks, ∃ l, keyOf P kt u = some l) ∧ ((∃ j, Find ks v (some j) ∧ K.k j) ∨ (Find ks v none ∧ L.k))

def lenM (M : Mem) : AV → Option Int
  | .o i => match M[i]? with | some (some ob) => (match ob.mp with | some _ => if ob.k = 0 then some ob.xs.length else none | none => none) | _ => none
  | _ => none

def lenA (M : Mem) : AV → Option Int
  | .s _ xs => some xs.length
  | .v (.slice none 0 0) => some 0
  | .o i => match M[i]? with | some (some ob) => (match ob.mp with | none => some ob.xs.length | some _ => none) | _ => none
  | _ => none

def minmaxA (isMax : Bool) : AV → AV → Option AV
  | .v (.int .i64 a), .v (.int .i64 b) => some (I (if isMax then max a b else min a b))
  | _, _ => none

def evB (ρ : Operand → AV) : Option Operand → Int → Option Int
  | none, d => some d
  | some x, _ => match ρ x with | .v (.int _ n) => some n | _ => none

def callA (P : Program) (c : Call) (ρ : Operand → AV) (M : Mem) [K : HK (AV → List Nat → Mem → Prop)] : Prop :=
  match c.callee with
  | .value (.func f) => ACall P f (c.args.toList.map ρ) M (K := ⟨fun r M' => K.k r [] M'⟩)
  | .value x => (match ρ x with
    | .f (.func f) cap => ACall P f (c.args.toList.map ρ ++ cap) M (K := ⟨fun r M' => K.k r [] M'⟩)
    | _ => False)
  | .builtin .len => (match c.args.toList, c.argTypes.toList with
    | [x], [t] => (match tiOf P t, lenA M (ρ x) with | some ti, some n => ti.elem.isSome = true ∧ K.k (I n) [] M | some _, none => (match mapOf P t, lenM M (ρ x) with | some _, some n => K.k (I n) [] M | _, _ => False) | _, _ => False)
    | _, _ => False)
  | .builtin .min => (match c.args.toList with
    | [x, y] => (match minmaxA false (ρ x) (ρ y) with | some r => K.k r [] M | none => False)
    | _ => False)
  | .builtin .max => (match c.args.toList with
    | [x, y] => (match minmaxA true (ρ x) (ρ y) with | some r => K.k r [] M | none => False)
    | _ => False)
  | .builtin .append => (match c.args.toList, c.argTypes.toList with
    | [x, y], [t, t'] => (match tiOf P t with
      | some ti => (match ti.elem with
        | some e => (match tiOf P e with
          | some te => (match ρ x, ρ y with
            | .o i, .s k ys => (match M[i]? with
              | some (some ob) => (t = t' ∧ ob.mp = none ∧ ob.ty = e ∧ ob.k = te.size ∧ k = te.size ∧ 0 < te.size ∧ ob.xs.length + ys.length ≤ 1000000 ∧ te.bytes ≤ 1000) ∧
                  K.k (.o i) [i] ((M.kill [i]).set i (some { ob with xs := AV.killL [i] ob.xs ++ ys }))
              | _ => False)
            | .o i, .v (.slice none 0 0) => (match M[i]? with | some (some ob) => (t = t' ∧ ob.mp = none) ∧ K.k (.o i) [] M | _ => False)
            | .o i, .o j => (match M[i]?, M[j]? with
              | some (some ob), some (some ob') => (i ≠ j ∧ t = t' ∧ ob.mp = none ∧ ob'.mp = none ∧ ob.ty = e ∧ ob.k = te.size ∧ ob'.k = te.size ∧ 0 < te.size ∧ ob.xs.length + ob'.xs.length ≤ 1000000 ∧ te.bytes ≤ 1000) ∧
                  K.k (.o i) [i] ((M.kill [i]).set i (some { ob with xs := AV.killL [i] ob.xs ++ AV.killL [i] ob'.xs }))
              | _, _ => False)
            | _, _ => False)
          | none => False)
        | none => False)
      | none => False)
    | _, _ => False)
  | _ => False

mutual
/-- an abstract value that names no object. -/
def AV.pure : AV → Bool
  | .o _ | .q _ _ _ _ => false
  | .g xs => AV.pureL xs
  | .t xs => AV.pureL xs
  | .f _ xs => AV.pureL xs
  | _ => true
def AV.pureL : List AV → Bool
  | [] => true
  | x :: xs => x.pure && AV.pureL xs
end

abbrev Kont := AV → List Nat → Mem → Prop

def newRow (M : Mem) (ty : TypeId) (k : Nat) (xs : List AV) : Mem := M ++ [some ⟨none, ty, k, xs⟩]

def idxA (P : Program) (t : TypeId) (M : Mem) (x : AV) (i : Int) [K : HK (AV → Prop)] : Prop :=
  match tiOf P t with
  | none => False
  | some ti => match ti.elem with
    | some e => (match tiOf P e, x with
      | some te, .s k xs => (k = te.size ∧ 0 ≤ i) ∧ AGet xs i.toNat (K := ⟨fun x => K.k (.p x 0)⟩)
      | some te, .o id => (match M[id]? with
        | some (some ob) => (ob.mp = none ∧ ob.k = te.size ∧ 0 ≤ i ∧ i < ob.xs.length) ∧ K.k (.q id ob.k i.toNat 0)
        | _ => False)
      | _, _ => False)
    | none => match ti.arr with
      | some (n, e) => (match tiOf P e, x with
        | some te, .p y off => (0 ≤ i ∧ i < n) ∧ K.k (.p y (off + i.toNat * te.size))
        | some te, .q id k j off => (0 ≤ i ∧ i < n) ∧ K.k (.q id k j (off + i.toNat * te.size))
        | _, _ => False)
      | none => False

def sliceA (P : Program) (t : TypeId) (M : Mem) (x : AV) (lo hi : Option (Option Int)) [K : HK Kont] : Prop :=
  match tiOf P t, x, lo, hi with
  | some ti, .s k xs, some lo, some hi => (match ti.elem with
    | some e => (match tiOf P e with
      | some te => (k = te.size ∧ 0 ≤ lo.getD 0 ∧ lo.getD 0 ≤ hi.getD xs.length ∧ hi.getD xs.length ≤ xs.length) ∧
          K.k (.s k ((xs.take (hi.getD xs.length).toNat).drop (lo.getD 0).toNat)) [] M
      | none => False)
    | none => False)
  | _, _, _, _ => False

/-- the value of a bound: none: it is not known; some none: none is given. -/
def bndA (ρ : Operand → AV) : Option Operand → Option (Option Int)
  | none => some none
  | some x => match ρ x with | .v (.int _ n) => some (some n) | _ => none

def mapPut (P : Program) (t : TypeId) (m x y : AV) (M : Mem) [K : HK Kont] : Prop :=
  ∃ ke id kv ob ks, mapOf P t = some ke ∧ m = .o id ∧ valOf x = some kv ∧ M[id]? = some (some ob) ∧ ob.mp = some ks ∧ ob.k = 0 ∧
    AFind P ke.1 ks kv (K := ⟨fun j => K.k .bot [] (M.set id (some { ob with xs := ob.xs.set j y }))⟩) (L := ⟨K.k .bot [] (M.set id (some { ob with mp := some (ks ++ [kv]), xs := ob.xs ++ [y] }))⟩)

def core (P : Program) (own : List Nat) (o : Oper) (ρ : Operand → AV) (M : Mem) [K : HK Kont] : Prop :=
  match o.op with
  | .move x => K.k (ρ x) [] M
  | .assign x => (match ρ x, own.contains (o.dst.getD 0) with
    | .v (.slice none 0 0), true => (match tiOf P o.type with
      | some ti => (match ti.elem with
        | some e => (match tiOf P e with | some te => K.k (.o M.length) [] (newRow M e te.size []) | none => False)
        | none => False)
      | none => False)
    | r, _ => K.k r [] M)
  | .pick c a b => (match ρ c with | .v (.bool c) => @ACond c ⟨K.k (ρ a) [] M⟩ ⟨K.k (ρ b) [] M⟩ | _ => False)
  | .box t x => (ρ x).cellular = true ∧ (if own.contains (o.dst.getD 0) then K.k (.q M.length (ρ x).size 0 0) [] (newRow M t (ρ x).size [ρ x]) else (ρ x).pure = true ∧ K.k (.p (ρ x) 0) [] M)
  | .alloc t => (match tiOf P t with | some ti => (ti.agg || ti.zero.length == 1) = true ∧ K.k (.q M.length ti.size 0 0) [] (newRow M t ti.size [mkA ti.agg (ti.zero.map .v)]) | none => False)
  | .load t x => (match tiOf P t, ρ x with
    | some ti, .p y off => (match loadA ti y off with | some r => K.k r [] M | none => False)
    | some ti, .q id k j off => (match M[id]? with
      | some (some ob) => ob.k = k ∧ AGet ob.xs j (K := ⟨fun y => match loadA ti y off with | some r => K.k r [] M | none => False⟩)
      | _ => False)
    | _, _ => False)
  | .store t x y => (match tiOf P t, ρ x with
    | some ti, .q id k j off => (match M[id]? with
      | some (some ob) => ob.k = k ∧ AGet ob.xs j (K := ⟨fun z => match storeA ti z off (ρ y) with | some r => K.k .bot [] (M.set id (some { ob with xs := ob.xs.set j r })) | none => False⟩)
      | _ => False)
    | _, _ => False)
  | .fieldAddr t x f => (match tiOf P t, ρ x with
    | some ti, .p y off => (match ti.flds[f]? with | some (fo, fs) => fs ≠ 0 ∧ K.k (.p y (off + fo)) [] M | none => False)
    | some ti, .q id k j off => (match ti.flds[f]? with | some (fo, fs) => fs ≠ 0 ∧ K.k (.q id k j (off + fo)) [] M | none => False)
    | _, _ => False)
  | .indexAddr t x i => (match ρ i with | .v (.int _ n) => idxA P t M (ρ x) n (K := ⟨fun r => K.k r [] M⟩) | _ => False)
  | .binOp op ty x y _ => binA P op ty (ρ x) (ρ y) (K := ⟨fun r => K.k r [] M⟩)
  | .unOp .not _ x => (match ρ x with | .v (.bool b) => K.k (B (!b)) [] M | _ => False)
  | .unOp .neg _ x => (match ρ x with | .v (.int .i64 n) => lim (-n) ∧ K.k (I (-n)) [] M | _ => False)
  | .build t parts => (match tiOf P t with
    | some ti => (match fillA (fun i => ti.flds[i]?) (ti.zero.map .v) (parts.toList.map fun ix => (ix.1, ρ ix.2)) with
      | some cells => (ti.agg = true ∧ ti.arr = none) ∧ K.k (.g cells) [] M
      | none => False)
    | none => False)
  | .buildSlice t n parts => (match tiOf P t with
    | some ti => (match ti.elem with
      | some e => (match tiOf P e with
        | some te => (0 < te.size ∧ n * te.size ≤ 16777216 ∧ parts.toList.map (·.1) = List.range n ∧ parts.toList.all (fun ix => (ρ ix.2).cellular && (ρ ix.2).flat && (ρ ix.2).size == te.size) = true) ∧
            (if own.contains (o.dst.getD 0) then K.k (.o M.length) [] (newRow M e te.size (parts.toList.map fun ix => ρ ix.2))
             else AV.pureL (parts.toList.map fun ix => ρ ix.2) = true ∧ K.k (.s te.size (parts.toList.map fun ix => ρ ix.2)) [] M)
        | none => False)
      | none => False)
    | none => False)
  | .extract x i => (match ρ x with | .t xs => (match xs[i]? with | some r => K.k r [] M | none => False) | _ => False)
  | .field t x f => (match tiOf P t, ρ x with
    | some ti, .g xs => (match ti.flds[f]?, ti.ftys[f]? with
      | some (fo, _), some ft => (match tiOf P ft with
        | some tf => (match loadA tf (.g xs) fo with | some r => K.k r [] M | none => False)
        | none => False)
      | _, _ => False)
    | _, _ => False)
  | .slice t x lo hi none => sliceA P t M (ρ x) (bndA ρ lo) (bndA ρ hi) (K := K)
  | .makeFunc fn first cap => (first.size = 0 ∧ (cap.toList.all fun x => (ρ x).cellular && (ρ x).single) = true) ∧ K.k (.f fn (cap.toList.map ρ)) [] M
  | .nilCheck x => (match ρ x with
    | .p y off => K.k (.p y off) [] M
    | .q id k j off => K.k (.q id k j off) [] M
    | _ => False)
  | .makeMap t none => (mapOf P t).isSome = true ∧ K.k (.o M.length) [] (M ++ [some ⟨some [], t, 0, []⟩])
  | .lookup t m x ok => ∃ ke id kv ob ks z, mapOf P t = some ke ∧ ρ m = .o id ∧ valOf (ρ x) = some kv ∧ M[id]? = some (some ob) ∧ ob.mp = some ks ∧ zeroA P ke.2 = some z ∧ ob.k = 0 ∧
      AFind P ke.1 ks kv (K := ⟨fun j => AGet ob.xs j (K := ⟨fun y => K.k (if ok then .t [y, B true] else y) [] M⟩)⟩) (L := ⟨K.k (if ok then .t [z, B false] else z) [] M⟩)
  | .mapUpdate t m x y => mapPut P t (ρ m) (ρ x) (ρ y) M (K := K)
  | .insert t m x y => mapPut P t (ρ m) (ρ x) (ρ y) M (K := K)
  | .makeSlice t l c => ∃ ti e te z k k' n, tiOf P t = some ti ∧ ti.elem = some e ∧ tiOf P e = some te ∧ te.zero = [z] ∧ te.agg = false ∧ ρ l = .v (.int k n) ∧ ρ c = .v (.int k' n) ∧ (0 ≤ n ∧ n ≤ 1000000 ∧ te.size = 1 ∧ te.bytes ≤ 1000) ∧
      K.k (.o M.length) [] (newRow M e 1 (List.replicate n.toNat (.v z)))
  | .call c => callA P c ρ M (K := K)
  | _ => False

end Aw
end Go.Proofs.Ytkolpijhgcijbaa
