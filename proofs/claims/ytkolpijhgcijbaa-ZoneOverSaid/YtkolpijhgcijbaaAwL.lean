/-
  The calculus: 'coreC', all operations.
-/
import Derived.Test.YtkolpijhgcijbaaAwK
namespace Go.Proofs.Ytkolpijhgcijbaa
namespace Aw
open Go.RowKit

def coreC (P : Program) (own : List Nat) (o : Oper) (ρ : Operand → AV) (M : Mem) [K : HK Kont] : Prop :=
  match o.op with
  | .move x => K.k (ρ x) [] M
  | .assign x => AAlt (if own.contains (o.dst.getD 0) then asN (ρ x) else none) (K := ⟨fun _ => AOpt (tiOf P o.type) (K := ⟨fun ti => AOpt ti.elem (K := ⟨fun e => AOpt (tiOf P e) (K := ⟨fun te => K.k (.o M.length) [] (newRow M e te.size [])⟩)⟩)⟩)⟩) (L := ⟨K.k (ρ x) [] M⟩)
  | .pick c a b => AOpt (asB (ρ c)) (K := ⟨fun c => @ACond c ⟨K.k (ρ a) [] M⟩ ⟨K.k (ρ b) [] M⟩⟩)
  | .box t x => (ρ x).cellular = true ∧ @ACond (own.contains (o.dst.getD 0)) ⟨K.k (.q M.length (ρ x).size 0 0) [] (newRow M t (ρ x).size [ρ x])⟩ ⟨(ρ x).pure = true ∧ K.k (.p (ρ x) 0) [] M⟩
  | .alloc t => AOpt (tiOf P t) (K := ⟨fun ti => (ti.agg || ti.zero.length == 1) = true ∧ K.k (.q M.length ti.size 0 0) [] (newRow M t ti.size [mkA ti.agg (ti.zero.map .v)])⟩)
  | .load t x => AOpt (tiOf P t) (K := ⟨fun ti => AAlt (asP (ρ x)) (K := ⟨fun yo => AOpt (loadA ti yo.1 yo.2) (K := ⟨fun r => K.k r [] M⟩)⟩) (L := ⟨
      AOpt (asQ (ρ x)) (K := ⟨fun q => AOpt (obA M q.1) (K := ⟨fun ob => ob.k = q.2.1 ∧ AGet ob.xs q.2.2.1 (K := ⟨fun y => AOpt (loadA ti y q.2.2.2) (K := ⟨fun r => K.k r [] M⟩)⟩)⟩)⟩)⟩)⟩)
  | .store t x y => AOpt (tiOf P t) (K := ⟨fun ti => AOpt (asQ (ρ x)) (K := ⟨fun q => AOpt (obA M q.1) (K := ⟨fun ob => ob.k = q.2.1 ∧ AGet ob.xs q.2.2.1 (K := ⟨fun z =>
      AOpt (storeA ti z q.2.2.2 (ρ y)) (K := ⟨fun r => K.k .bot [] (M.set q.1 (some { ob with xs := ob.xs.set q.2.2.1 r }))⟩)⟩)⟩)⟩)⟩)
  | .fieldAddr t x f => AOpt (tiOf P t) (K := ⟨fun ti => AOpt ti.flds[f]? (K := ⟨fun fo => fo.2 ≠ 0 ∧ AAlt (asP (ρ x)) (K := ⟨fun yo => K.k (.p yo.1 (yo.2 + fo.1)) [] M⟩) (L := ⟨
      AOpt (asQ (ρ x)) (K := ⟨fun q => K.k (.q q.1 q.2.1 q.2.2.1 (q.2.2.2 + fo.1)) [] M⟩)⟩)⟩)⟩)
  | .indexAddr t x i => AOpt (asI (ρ i)) (K := ⟨fun n => idxC P t M (ρ x) n.2 (K := ⟨fun r => K.k r [] M⟩)⟩)
  | .binOp op ty x y _ => binC P op ty (ρ x) (ρ y) (K := ⟨fun r => K.k r [] M⟩)
  | .unOp .not _ x => AOpt (asB (ρ x)) (K := ⟨fun b => K.k (B (!b)) [] M⟩)
  | .unOp .neg _ x => AOpt (asI (ρ x)) (K := ⟨fun n => (n.1 = .i64 ∧ lim (-n.2)) ∧ K.k (I (-n.2)) [] M⟩)
  | .build t parts => AOpt (tiOf P t) (K := ⟨fun ti => AOpt (fillA (fun i => ti.flds[i]?) (ti.zero.map .v) (parts.toList.map fun ix => (ix.1, ρ ix.2))) (K := ⟨fun cells => (ti.agg = true ∧ ti.arr = none) ∧ K.k (.g cells) [] M⟩)⟩)
  | .buildSlice t n parts => AOpt (tiOf P t) (K := ⟨fun ti => AOpt ti.elem (K := ⟨fun e => AOpt (tiOf P e) (K := ⟨fun te =>
      (0 < te.size ∧ n * te.size ≤ 16777216 ∧ parts.toList.map (·.1) = List.range n ∧ parts.toList.all (fun ix => (ρ ix.2).cellular && (ρ ix.2).flat && (ρ ix.2).size == te.size) = true) ∧
      @ACond (own.contains (o.dst.getD 0)) ⟨K.k (.o M.length) [] (newRow M e te.size (parts.toList.map fun ix => ρ ix.2))⟩ ⟨AV.pureL (parts.toList.map fun ix => ρ ix.2) = true ∧ K.k (.s te.size (parts.toList.map fun ix => ρ ix.2)) [] M⟩⟩)⟩)⟩)
  | .extract x i => AOpt (asT (ρ x)) (K := ⟨fun xs => AOpt xs[i]? (K := ⟨fun r => K.k r [] M⟩)⟩)
  | .field t x f => AOpt (tiOf P t) (K := ⟨fun ti => AOpt (asG (ρ x)) (K := ⟨fun xs => AOpt ti.flds[f]? (K := ⟨fun fo => AOpt ti.ftys[f]? (K := ⟨fun ft => AOpt (tiOf P ft) (K := ⟨fun tf => AOpt (loadA tf (.g xs) fo.1) (K := ⟨fun r => K.k r [] M⟩)⟩)⟩)⟩)⟩)⟩)
  | .slice t x lo hi none => AOpt (tiOf P t) (K := ⟨fun ti => AOpt (asS (ρ x)) (K := ⟨fun kxs => AOpt (bndA ρ lo) (K := ⟨fun lo => AOpt (bndA ρ hi) (K := ⟨fun hi => AOpt ti.elem (K := ⟨fun e => AOpt (tiOf P e) (K := ⟨fun te =>
      (kxs.1 = te.size ∧ 0 ≤ lo.getD 0 ∧ lo.getD 0 ≤ hi.getD kxs.2.length ∧ hi.getD kxs.2.length ≤ kxs.2.length) ∧ K.k (.s kxs.1 ((kxs.2.take (hi.getD kxs.2.length).toNat).drop (lo.getD 0).toNat)) [] M⟩)⟩)⟩)⟩)⟩)⟩)
  | .makeFunc fn first cap => (first.size = 0 ∧ (cap.toList.all fun x => (ρ x).cellular && (ρ x).single) = true) ∧ K.k (.f fn (cap.toList.map ρ)) [] M
  | .nilCheck x => AAlt (asP (ρ x)) (K := ⟨fun yo => K.k (.p yo.1 yo.2) [] M⟩) (L := ⟨AOpt (asQ (ρ x)) (K := ⟨fun q => K.k (.q q.1 q.2.1 q.2.2.1 q.2.2.2) [] M⟩)⟩)
  | .makeMap t none => (mapOf P t).isSome = true ∧ K.k (.o M.length) [] (M ++ [some ⟨some [], t, 0, []⟩])
  | .lookup t m x ok => AOpt (mapOf P t) (K := ⟨fun ke => AOpt (asO (ρ m)) (K := ⟨fun id => AOpt (valOf (ρ x)) (K := ⟨fun kv => AOpt (obA M id) (K := ⟨fun ob => AOpt ob.mp (K := ⟨fun ks => AOpt (zeroA P ke.2) (K := ⟨fun z => ob.k = 0 ∧
      AFind P ke.1 ks kv (K := ⟨fun j => AGet ob.xs j (K := ⟨fun y => K.k (if ok then .t [y, B true] else y) [] M⟩)⟩) (L := ⟨K.k (if ok then .t [z, B false] else z) [] M⟩)⟩)⟩)⟩)⟩)⟩)⟩)
  | .mapUpdate t m x y => putC P t (ρ m) (ρ x) (ρ y) M (K := K)
  | .insert t m x y => putC P t (ρ m) (ρ x) (ρ y) M (K := K)
  | .makeSlice t l c => AOpt (tiOf P t) (K := ⟨fun ti => AOpt ti.elem (K := ⟨fun e => AOpt (tiOf P e) (K := ⟨fun te => AOpt (oneOf te.zero) (K := ⟨fun z => AOpt (asI (ρ l)) (K := ⟨fun kn => AOpt (asI (ρ c)) (K := ⟨fun kn' =>
      (kn'.2 = kn.2 ∧ te.agg = false ∧ 0 ≤ kn.2 ∧ kn.2 ≤ 1000000 ∧ te.size = 1 ∧ te.bytes ≤ 1000) ∧ K.k (.o M.length) [] (newRow M e 1 (List.replicate kn.2.toNat (.v z)))⟩)⟩)⟩)⟩)⟩)⟩)
  | .call c => callC P c ρ M (K := K)
  | _ => False

theorem coreC_core {P : Program} {own : List Nat} {o : Oper} {ρ : Operand → AV} {M : Mem} {K : HK Kont} (h : coreC P own o ρ M (K := K)) : core P own o ρ M (K := K) := by
  obtain ⟨dst, op, ty0, pos, aft, gd⟩ := o
  unfold coreC at h
  unfold core
  dsimp only at h ⊢
  split at h
  · exact h
  · dsimp only
    rcases AAlt_elim h with ⟨u, hc, h⟩ | ⟨hc, h⟩
    · obtain ⟨ti, hti, h⟩ := AOpt_elim h
      obtain ⟨e, he, h⟩ := AOpt_elim h
      obtain ⟨te, hte, h⟩ := AOpt_elim h
      split at hc
      · rename_i hown
        rw [asN_eq hc, hown]
        simp only [hti, he, hte]
        exact h
      · cases hc
    · split
      · rename_i hx hown
        rw [hown] at hc
        rw [hx] at hc
        simp [asN] at hc
      · exact h
  · obtain ⟨b, hb, h⟩ := AOpt_elim h
    simp only [asB_eq hb]
    exact h
  · obtain ⟨h1, h2⟩ := h
    dsimp only
    refine ⟨h1, ?_⟩
    split
    · rename_i hc; exact h2.1 hc
    · rename_i hc; exact h2.2 (by simpa using hc)
  · obtain ⟨ti, hti, h⟩ := AOpt_elim h
    simp only [hti]; exact h
  · obtain ⟨ti, hti, h⟩ := AOpt_elim h
    rcases AAlt_elim h with ⟨⟨y, off⟩, hp, h⟩ | ⟨_, h⟩
    · obtain ⟨r, hr, h⟩ := AOpt_elim h
      simp only at hr
      simp only [hti, asP_eq hp, hr]; exact h
    · obtain ⟨⟨id, k, j, off⟩, hq, h⟩ := AOpt_elim h
      obtain ⟨ob, hob, h1, y, hy, h⟩ := AOpt_elim h
      obtain ⟨r, hr, h⟩ := AOpt_elim h
      simp only at hob hr h1 hy
      simp only [hti, asQ_eq hq, obA_eq hob]
      exact ⟨h1, y, hy, by simp only [hr]; exact h⟩
  · obtain ⟨ti, hti, h⟩ := AOpt_elim h
    obtain ⟨⟨id, k, j, off⟩, hq, h⟩ := AOpt_elim h
    obtain ⟨ob, hob, h1, z, hz, h⟩ := AOpt_elim h
    obtain ⟨r, hr, h⟩ := AOpt_elim h
    simp only at hob hr h1 hz
    simp only [hti, asQ_eq hq, obA_eq hob]
    exact ⟨h1, z, hz, by simp only [hr]; exact h⟩
  · obtain ⟨ti, hti, h⟩ := AOpt_elim h
    obtain ⟨⟨fo, fs⟩, hf, h1, h⟩ := AOpt_elim h
    rcases AAlt_elim h with ⟨⟨y, off⟩, hp, h⟩ | ⟨_, h⟩
    · simp only [hti, asP_eq hp, hf]; exact ⟨h1, h⟩
    · obtain ⟨⟨id, k, j, off⟩, hq, h⟩ := AOpt_elim h
      simp only [hti, asQ_eq hq, hf]; exact ⟨h1, h⟩
  · obtain ⟨⟨k, n⟩, hn, h⟩ := AOpt_elim h
    simp only [asI_eq hn]
    exact idxC_idxA h
  · exact binC_binA h
  · obtain ⟨b, hb, h⟩ := AOpt_elim h
    simp only [asB_eq hb]; exact h
  · obtain ⟨⟨k, n⟩, hn, h⟩ := AOpt_elim h
    obtain ⟨⟨hk, h1⟩, h⟩ := h
    simp only at hk
    subst hk
    simp only [asI_eq hn]; exact ⟨h1, h⟩
  · obtain ⟨ti, hti, h⟩ := AOpt_elim h
    obtain ⟨cells, hc, h⟩ := AOpt_elim h
    simp only [hti, hc]; exact h
  · obtain ⟨ti, hti, h⟩ := AOpt_elim h
    obtain ⟨e, he, h⟩ := AOpt_elim h
    obtain ⟨te, hte, h1, h2⟩ := AOpt_elim h
    simp only [hti, he, hte]
    refine ⟨h1, ?_⟩
    split
    · rename_i hc; exact h2.1 hc
    · rename_i hc; exact h2.2 (by simpa using hc)
  · obtain ⟨xs, hx, h⟩ := AOpt_elim h
    obtain ⟨r, hr, h⟩ := AOpt_elim h
    simp only [asT_eq hx, hr]; exact h
  · obtain ⟨ti, hti, h⟩ := AOpt_elim h
    obtain ⟨xs, hx, h⟩ := AOpt_elim h
    obtain ⟨⟨fo, fs⟩, hf, h⟩ := AOpt_elim h
    obtain ⟨ft, hft, h⟩ := AOpt_elim h
    obtain ⟨tf, htf, h⟩ := AOpt_elim h
    obtain ⟨r, hr, h⟩ := AOpt_elim h
    simp only at hr
    simp only [hti, asG_eq hx, hf, hft, htf, hr]; exact h
  · obtain ⟨ti, hti, h⟩ := AOpt_elim h
    obtain ⟨⟨k, xs⟩, hx, h⟩ := AOpt_elim h
    obtain ⟨lo, hlo, h⟩ := AOpt_elim h
    obtain ⟨hi, hhi, h⟩ := AOpt_elim h
    obtain ⟨e, he, h⟩ := AOpt_elim h
    obtain ⟨te, hte, h⟩ := AOpt_elim h
    simp only [sliceA, hti, asS_eq hx, hlo, hhi, he, hte]; exact h
  · exact h
  · rcases AAlt_elim h with ⟨⟨y, off⟩, hp, h⟩ | ⟨_, h⟩
    · simp only [asP_eq hp]; exact h
    · obtain ⟨⟨id, k, j, off⟩, hq, h⟩ := AOpt_elim h
      simp only [asQ_eq hq]; exact h
  · exact h
  · obtain ⟨ke, h1, h⟩ := AOpt_elim h
    obtain ⟨id, h2, h⟩ := AOpt_elim h
    obtain ⟨kv, h3, h⟩ := AOpt_elim h
    obtain ⟨ob, h4, h⟩ := AOpt_elim h
    obtain ⟨ks, h5, h⟩ := AOpt_elim h
    obtain ⟨z, h6, h0, h⟩ := AOpt_elim h
    exact ⟨ke, id, kv, ob, ks, z, h1, asO_eq h2, h3, obA_eq h4, h5, h6, h0, h⟩
  · exact putC_mapPut h
  · exact putC_mapPut h
  · obtain ⟨ti, h1, h⟩ := AOpt_elim h
    obtain ⟨e, h2, h⟩ := AOpt_elim h
    obtain ⟨te, h3, h⟩ := AOpt_elim h
    obtain ⟨z, h4, h⟩ := AOpt_elim h
    obtain ⟨⟨k, n⟩, h5, h⟩ := AOpt_elim h
    obtain ⟨⟨k', n'⟩, h6, ⟨g1, g2, g3, g4, g5, g6⟩, h⟩ := AOpt_elim h
    simp only at g1 g2 g3 g4 g5 g6
    subst g1
    exact ⟨ti, e, te, z, k, k', _, h1, h2, h3, oneOf_eq h4, g2, asI_eq h5, asI_eq h6, ⟨g3, g4, g5, g6⟩, h⟩
  · exact callC_callA h
  · exact h.elim

end Aw
end Go.Proofs.Ytkolpijhgcijbaa
