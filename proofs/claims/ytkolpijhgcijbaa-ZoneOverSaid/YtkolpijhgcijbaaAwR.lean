/-
  The calculus: a lemma for each operation, by propext: the kernel unfolds nothing.
-/
import Derived.Test.YtkolpijhgcijbaaAwQ
namespace Go.Proofs.Ytkolpijhgcijbaa
namespace Aw
open Go.RowKit

section
variable {P : Program} {own : List Nat} {d : Option Tmp} {t : TypeId} {p : String} {af : Array Edge} {g : Option (Nat × Bool)} {ρ : Operand → AV} {M : Mem} {K : HK Kont}

theorem pe {a b : Prop} (h : a = b) : a = b := propext ⟨fun x => h ▸ x, fun x => h ▸ x⟩

theorem w_move {x : Operand} : coreC P own ⟨d, .move x, t, p, af, g⟩ ρ M (K := K) = K.k (ρ x) [] M := pe rfl
theorem w_assign {x : Operand} : coreC P own ⟨d, .assign x, t, p, af, g⟩ ρ M (K := K) = AAlt (if own.contains (d.getD 0) then asN (ρ x) else none) (K := ⟨fun _ => AOpt (tiOf P t) (K := ⟨fun ti => AOpt ti.elem (K := ⟨fun e => AOpt (tiOf P e) (K := ⟨fun te => K.k (.o M.length) [] (newRow M e te.size [])⟩)⟩)⟩)⟩) (L := ⟨K.k (ρ x) [] M⟩) := pe rfl
theorem w_pick {c a b : Operand} : coreC P own ⟨d, .pick c a b, t, p, af, g⟩ ρ M (K := K) = AOpt (asB (ρ c)) (K := ⟨fun c => @ACond c ⟨K.k (ρ a) [] M⟩ ⟨K.k (ρ b) [] M⟩⟩) := pe rfl
theorem w_box {y : TypeId} {x : Operand} : coreC P own ⟨d, .box y x, t, p, af, g⟩ ρ M (K := K) = ((ρ x).cellular = true ∧ @ACond (own.contains (d.getD 0)) ⟨K.k (.q M.length (ρ x).size 0 0) [] (newRow M y (ρ x).size [ρ x])⟩ ⟨(ρ x).pure = true ∧ K.k (.p (ρ x) 0) [] M⟩) := pe rfl
theorem w_alloc {y : TypeId} : coreC P own ⟨d, .alloc y, t, p, af, g⟩ ρ M (K := K) = AOpt (tiOf P y) (K := ⟨fun ti => (ti.agg || ti.zero.length == 1) = true ∧ K.k (.q M.length ti.size 0 0) [] (newRow M y ti.size [mkA ti.agg (ti.zero.map .v)])⟩) := pe rfl
theorem w_load {y : TypeId} {x : Operand} : coreC P own ⟨d, .load y x, t, p, af, g⟩ ρ M (K := K) = AOpt (tiOf P y) (K := ⟨fun ti => AAlt (asP (ρ x)) (K := ⟨fun yo => AOpt (loadA ti yo.1 yo.2) (K := ⟨fun r => K.k r [] M⟩)⟩) (L := ⟨
      AOpt (asQ (ρ x)) (K := ⟨fun q => AOpt (obA M q.1) (K := ⟨fun ob => ob.k = q.2.1 ∧ AGet ob.xs q.2.2.1 (K := ⟨fun y => AOpt (loadA ti y q.2.2.2) (K := ⟨fun r => K.k r [] M⟩)⟩)⟩)⟩)⟩)⟩) := pe rfl
theorem w_store {y : TypeId} {x v : Operand} : coreC P own ⟨d, .store y x v, t, p, af, g⟩ ρ M (K := K) = AOpt (tiOf P y) (K := ⟨fun ti => AOpt (asQ (ρ x)) (K := ⟨fun q => AOpt (obA M q.1) (K := ⟨fun ob => ob.k = q.2.1 ∧ AGet ob.xs q.2.2.1 (K := ⟨fun z =>
      AOpt (storeA ti z q.2.2.2 (ρ v)) (K := ⟨fun r => K.k .bot [] (M.set q.1 (some { ob with xs := ob.xs.set q.2.2.1 r }))⟩)⟩)⟩)⟩)⟩) := pe rfl
theorem w_fieldAddr {y : TypeId} {x : Operand} {f : Nat} : coreC P own ⟨d, .fieldAddr y x f, t, p, af, g⟩ ρ M (K := K) = AOpt (tiOf P y) (K := ⟨fun ti => AOpt ti.flds[f]? (K := ⟨fun fo => fo.2 ≠ 0 ∧ AAlt (asP (ρ x)) (K := ⟨fun yo => K.k (.p yo.1 (yo.2 + fo.1)) [] M⟩) (L := ⟨
      AOpt (asQ (ρ x)) (K := ⟨fun q => K.k (.q q.1 q.2.1 q.2.2.1 (q.2.2.2 + fo.1)) [] M⟩)⟩)⟩)⟩) := pe rfl
theorem w_indexAddr {y : TypeId} {x i : Operand} : coreC P own ⟨d, .indexAddr y x i, t, p, af, g⟩ ρ M (K := K) = AOpt (asI (ρ i)) (K := ⟨fun n => idxC P y M (ρ x) n.2 (K := ⟨fun r => K.k r [] M⟩)⟩) := pe rfl
theorem w_binOp {op : BinOp} {y z : TypeId} {a b : Operand} : coreC P own ⟨d, .binOp op y a b z, t, p, af, g⟩ ρ M (K := K) = binC P op y (ρ a) (ρ b) (K := ⟨fun r => K.k r [] M⟩) := pe rfl
theorem w_not {y : TypeId} {x : Operand} : coreC P own ⟨d, .unOp .not y x, t, p, af, g⟩ ρ M (K := K) = AOpt (asB (ρ x)) (K := ⟨fun b => K.k (B (!b)) [] M⟩) := pe rfl
theorem w_neg {y : TypeId} {x : Operand} : coreC P own ⟨d, .unOp .neg y x, t, p, af, g⟩ ρ M (K := K) = AOpt (asI (ρ x)) (K := ⟨fun n => (n.1 = .i64 ∧ lim (-n.2)) ∧ K.k (I (-n.2)) [] M⟩) := pe rfl
theorem w_build {y : TypeId} {parts : Array (Nat × Operand)} : coreC P own ⟨d, .build y parts, t, p, af, g⟩ ρ M (K := K) = AOpt (tiOf P y) (K := ⟨fun ti => AOpt (fillA (fun i => ti.flds[i]?) (ti.zero.map .v) (parts.toList.map fun ix => (ix.1, ρ ix.2))) (K := ⟨fun cells => (ti.agg = true ∧ ti.arr = none) ∧ K.k (.g cells) [] M⟩)⟩) := pe rfl
theorem w_buildSlice {y : TypeId} {n : Nat} {parts : Array (Nat × Operand)} : coreC P own ⟨d, .buildSlice y n parts, t, p, af, g⟩ ρ M (K := K) = AOpt (tiOf P y) (K := ⟨fun ti => AOpt ti.elem (K := ⟨fun e => AOpt (tiOf P e) (K := ⟨fun te =>
      (0 < te.size ∧ n * te.size ≤ 16777216 ∧ parts.toList.map (·.1) = List.range n ∧ parts.toList.all (fun ix => (ρ ix.2).cellular && (ρ ix.2).flat && (ρ ix.2).size == te.size) = true) ∧
      @ACond (own.contains (d.getD 0)) ⟨K.k (.o M.length) [] (newRow M e te.size (parts.toList.map fun ix => ρ ix.2))⟩ ⟨AV.pureL (parts.toList.map fun ix => ρ ix.2) = true ∧ K.k (.s te.size (parts.toList.map fun ix => ρ ix.2)) [] M⟩⟩)⟩)⟩) := pe rfl
theorem w_extract {x : Operand} {i : Nat} : coreC P own ⟨d, .extract x i, t, p, af, g⟩ ρ M (K := K) = AOpt (asT (ρ x)) (K := ⟨fun xs => AOpt xs[i]? (K := ⟨fun r => K.k r [] M⟩)⟩) := pe rfl
theorem w_field {y : TypeId} {x : Operand} {f : Nat} : coreC P own ⟨d, .field y x f, t, p, af, g⟩ ρ M (K := K) = AOpt (tiOf P y) (K := ⟨fun ti => AOpt (asG (ρ x)) (K := ⟨fun xs => AOpt ti.flds[f]? (K := ⟨fun fo => AOpt ti.ftys[f]? (K := ⟨fun ft => AOpt (tiOf P ft) (K := ⟨fun tf => AOpt (loadA tf (.g xs) fo.1) (K := ⟨fun r => K.k r [] M⟩)⟩)⟩)⟩)⟩)⟩) := pe rfl
theorem w_slice {y : TypeId} {x : Operand} {lo hi : Option Operand} : coreC P own ⟨d, .slice y x lo hi none, t, p, af, g⟩ ρ M (K := K) = AOpt (tiOf P y) (K := ⟨fun ti => AOpt (asS (ρ x)) (K := ⟨fun kxs => AOpt (bndA ρ lo) (K := ⟨fun lo => AOpt (bndA ρ hi) (K := ⟨fun hi => AOpt ti.elem (K := ⟨fun e => AOpt (tiOf P e) (K := ⟨fun te =>
      (kxs.1 = te.size ∧ 0 ≤ lo.getD 0 ∧ lo.getD 0 ≤ hi.getD kxs.2.length ∧ hi.getD kxs.2.length ≤ kxs.2.length) ∧ K.k (.s kxs.1 ((kxs.2.take (hi.getD kxs.2.length).toNat).drop (lo.getD 0).toNat)) [] M⟩)⟩)⟩)⟩)⟩)⟩) := pe rfl
theorem w_makeFunc {fn : Fn} {first cap : Array Operand} : coreC P own ⟨d, .makeFunc fn first cap, t, p, af, g⟩ ρ M (K := K) = ((first.size = 0 ∧ (cap.toList.all fun x => (ρ x).cellular && (ρ x).single) = true) ∧ K.k (.f fn (cap.toList.map ρ)) [] M) := pe rfl
theorem w_nilCheck {x : Operand} : coreC P own ⟨d, .nilCheck x, t, p, af, g⟩ ρ M (K := K) = AAlt (asP (ρ x)) (K := ⟨fun yo => K.k (.p yo.1 yo.2) [] M⟩) (L := ⟨AOpt (asQ (ρ x)) (K := ⟨fun q => K.k (.q q.1 q.2.1 q.2.2.1 q.2.2.2) [] M⟩)⟩) := pe rfl
theorem w_makeMap {y : TypeId} : coreC P own ⟨d, .makeMap y none, t, p, af, g⟩ ρ M (K := K) = ((mapOf P y).isSome = true ∧ K.k (.o M.length) [] (M ++ [some ⟨some [], y, 0, []⟩])) := pe rfl
theorem w_lookup {y : TypeId} {m x : Operand} {ok : Bool} : coreC P own ⟨d, .lookup y m x ok, t, p, af, g⟩ ρ M (K := K) = AOpt (mapOf P y) (K := ⟨fun ke => AOpt (asO (ρ m)) (K := ⟨fun id => AOpt (valOf (ρ x)) (K := ⟨fun kv => AOpt (obA M id) (K := ⟨fun ob => AOpt ob.mp (K := ⟨fun ks => AOpt (zeroA P ke.2) (K := ⟨fun z => ob.k = 0 ∧
      AFind P ke.1 ks kv (K := ⟨fun j => AGet ob.xs j (K := ⟨fun y => K.k (if ok then .t [y, B true] else y) [] M⟩)⟩) (L := ⟨K.k (if ok then .t [z, B false] else z) [] M⟩)⟩)⟩)⟩)⟩)⟩)⟩) := pe rfl
theorem w_mapUpdate {y : TypeId} {m x v : Operand} : coreC P own ⟨d, .mapUpdate y m x v, t, p, af, g⟩ ρ M (K := K) = putC P y (ρ m) (ρ x) (ρ v) M (K := K) := pe rfl
theorem w_insert {y : TypeId} {m x v : Operand} : coreC P own ⟨d, .insert y m x v, t, p, af, g⟩ ρ M (K := K) = putC P y (ρ m) (ρ x) (ρ v) M (K := K) := pe rfl
theorem w_put {y : TypeId} {m x v : AV} : putC P y m x v M (K := K) = AOpt (mapOf P y) (K := ⟨fun ke => AOpt (asO m) (K := ⟨fun id => AOpt (valOf x) (K := ⟨fun kv => AOpt (obA M id) (K := ⟨fun ob => AOpt ob.mp (K := ⟨fun ks => ob.k = 0 ∧
    AFind P ke.1 ks kv (K := ⟨fun j => K.k .bot [] (M.set id (some { ob with xs := ob.xs.set j v }))⟩) (L := ⟨K.k .bot [] (M.set id (some { ob with mp := some (ks ++ [kv]), xs := ob.xs ++ [v] }))⟩)⟩)⟩)⟩)⟩)⟩) := pe rfl
theorem w_makeSlice {y : TypeId} {l c : Operand} : coreC P own ⟨d, .makeSlice y l c, t, p, af, g⟩ ρ M (K := K) = AOpt (tiOf P y) (K := ⟨fun ti => AOpt ti.elem (K := ⟨fun e => AOpt (tiOf P e) (K := ⟨fun te => AOpt (oneOf te.zero) (K := ⟨fun z => AOpt (asI (ρ l)) (K := ⟨fun kn => AOpt (asI (ρ c)) (K := ⟨fun kn' =>
      (kn'.2 = kn.2 ∧ te.agg = false ∧ 0 ≤ kn.2 ∧ kn.2 ≤ 1000000 ∧ te.size = 1 ∧ te.bytes ≤ 1000) ∧ K.k (.o M.length) [] (newRow M e 1 (List.replicate kn.2.toNat (.v z)))⟩)⟩)⟩)⟩)⟩)⟩) := pe rfl
theorem w_callF {f : FuncId} {args : Array Operand} {tys : Array TypeId} : coreC P own ⟨d, .call ⟨.value (.func f), args, tys⟩, t, p, af, g⟩ ρ M (K := K) = ACall P f (args.toList.map ρ) M (K := ⟨fun r M' => K.k r [] M'⟩) := pe rfl
theorem w_callT {f : Tmp} {args : Array Operand} {tys : Array TypeId} : coreC P own ⟨d, .call ⟨.value (.tmp f), args, tys⟩, t, p, af, g⟩ ρ M (K := K) = AOpt (asF (ρ (.tmp f))) (K := ⟨fun fc => ACall P fc.1 (args.toList.map ρ ++ fc.2) M (K := ⟨fun r M' => K.k r [] M'⟩)⟩) := pe rfl
theorem w_len {x : Operand} {y : TypeId} : coreC P own ⟨d, .call ⟨.builtin .len, #[x], #[y]⟩, t, p, af, g⟩ ρ M (K := K) = AOpt (tiOf P y) (K := ⟨fun ti => AAlt (lenA M (ρ x)) (K := ⟨fun n => ti.elem.isSome = true ∧ K.k (I n) [] M⟩) (L := ⟨AOpt (mapOf P y) (K := ⟨fun _ => AOpt (lenM M (ρ x)) (K := ⟨fun n => K.k (I n) [] M⟩)⟩)⟩)⟩) := pe rfl
theorem w_min {x y : Operand} {tys : Array TypeId} : coreC P own ⟨d, .call ⟨.builtin .min, #[x, y], tys⟩, t, p, af, g⟩ ρ M (K := K) = AOpt (minmaxA false (ρ x) (ρ y)) (K := ⟨fun r => K.k r [] M⟩) := pe rfl
theorem w_max {x y : Operand} {tys : Array TypeId} : coreC P own ⟨d, .call ⟨.builtin .max, #[x, y], tys⟩, t, p, af, g⟩ ρ M (K := K) = AOpt (minmaxA true (ρ x) (ρ y)) (K := ⟨fun r => K.k r [] M⟩) := pe rfl
theorem w_append {x y : Operand} {ty ty' : TypeId} : coreC P own ⟨d, .call ⟨.builtin .append, #[x, y], #[ty, ty']⟩, t, p, af, g⟩ ρ M (K := K) = AOpt (tiOf P ty) (K := ⟨fun ti => AOpt ti.elem (K := ⟨fun e => AOpt (tiOf P e) (K := ⟨fun te => AOpt (asO (ρ x)) (K := ⟨fun i => AOpt (obA M i) (K := ⟨fun ob =>
        AAlt (asS (ρ y)) (K := ⟨fun kys => (ty = ty' ∧ ob.mp = none ∧ ob.ty = e ∧ ob.k = te.size ∧ kys.1 = te.size ∧ 0 < te.size ∧ ob.xs.length + kys.2.length ≤ 1000000 ∧ te.bytes ≤ 1000) ∧
            K.k (.o i) [i] ((M.kill [i]).set i (some { ob with xs := AV.killL [i] ob.xs ++ kys.2 }))⟩) (L := ⟨
        AAlt (asN (ρ y)) (K := ⟨fun _ => (ty = ty' ∧ ob.mp = none) ∧ K.k (.o i) [] M⟩) (L := ⟨
        AOpt (asO (ρ y)) (K := ⟨fun j => AOpt (obA M j) (K := ⟨fun ob' => (i ≠ j ∧ ty = ty' ∧ ob.mp = none ∧ ob'.mp = none ∧ ob.ty = e ∧ ob.k = te.size ∧ ob'.k = te.size ∧ 0 < te.size ∧ ob.xs.length + ob'.xs.length ≤ 1000000 ∧ te.bytes ≤ 1000) ∧
            K.k (.o i) [i] ((M.kill [i]).set i (some { ob with xs := AV.killL [i] ob.xs ++ AV.killL [i] ob'.xs }))⟩)⟩)⟩)⟩)⟩)⟩)⟩)⟩)⟩) := pe rfl
end

section
variable {P : Program} {own : List Nat} {ops : List Oper} {d : Option Tmp} {op : Op} {t : TypeId} {p : String} {af : Array Edge} {σ : St} {N : HN}
theorem w_aop : @aop P own ops ⟨d, op, t, p, af, none⟩ σ N = coreC P own ⟨d, op, t, p, af, none⟩ σ.ev σ.M (K := ⟨fun r Z M' => N.k (σ.step d r Z M')⟩) := pe rfl
theorem w_aopg {j : Nat} {want : Bool} : @aop P own ops ⟨d, op, t, p, af, some (j, want)⟩ σ N = AOpt ((ops[j]?).bind (·.dst)) (K := ⟨fun e => AOpt (asB (σ.sl.getD e .bot)) (K := ⟨fun b =>
      @ACond (b == want) ⟨coreC P own ⟨d, op, t, p, af, some (j, want)⟩ σ.ev σ.M (K := ⟨fun r Z M' => N.k (σ.step d r Z M')⟩)⟩ ⟨N.k (σ.step d .bot [] σ.M)⟩⟩)⟩) := pe rfl
theorem w_take {m : Md} {ts : List Nat} : @atake P own ops ⟨d, op, t, p, af, none⟩ m ts σ N = coreC P own ⟨d, op, t, p, af, none⟩ σ.ev (m.mem σ.M) (K := ⟨fun r _ _ => m.need ts σ.sl r ∧ N.k (σ.put d r)⟩) := pe rfl
theorem w_takeg {m : Md} {ts : List Nat} {j : Nat} {want : Bool} : @atake P own ops ⟨d, op, t, p, af, some (j, want)⟩ m ts σ N = AOpt ((ops[j]?).bind (·.dst)) (K := ⟨fun e => AOpt (asB (σ.sl.getD e .bot)) (K := ⟨fun b =>
      @ACond (b == want) ⟨coreC P own ⟨d, op, t, p, af, some (j, want)⟩ σ.ev (m.mem σ.M) (K := ⟨fun r _ _ => m.need ts σ.sl r ∧ N.k (σ.put d r)⟩)⟩ ⟨m.need ts σ.sl .bot ∧ N.k (σ.put d .bot)⟩⟩)⟩) := pe rfl
theorem w_some {α : Type} (a : α) (K : HK (α → Prop)) : @AOpt α (some a) K = K.k a := pe rfl
theorem w_asome {α : Type} (a : α) (K : HK (α → Prop)) (L : HK Prop) : @AAlt α (some a) K L = K.k a := pe rfl
theorem w_anone {α : Type} (K : HK (α → Prop)) (L : HK Prop) : @AAlt α none K L = L.k := pe rfl
theorem w_bt (b : Bool) : (b == true) = b := by cases b <;> rfl
theorem w_bf (b : Bool) : (b == false) = !b := by cases b <;> rfl
theorem w_nil {σ : St} : @AOps P own ops [] σ N = N.k σ := pe rfl
theorem w_cons {o : Oper} {rest : List Oper} : @AOps P own ops (o :: rest) σ N = @aop P own ops o σ ⟨fun σ' => @AOps P own ops rest σ' N⟩ := pe rfl
end
end Aw
end Go.Proofs.Ytkolpijhgcijbaa
