/-
  Parts of several texts in one: MwG, MwH, MwI, MwJ, MwK, MwL, MxA, MxC, MxD.
-/
import Derived.Test.YtndniceeibflcaaGreatDoorProg
import Derived.WalkKit
import Derived.Lib.ConvBytes
import Derived.LaidEql
import Derived.Lib.ItoaNum
import Derived.Lib.LaidTab
import Derived.KernelRfl
import GoSem.Claims
import GoSem.ClaimJoined
import Derived.Orders
import Derived.Laws.StructEq
import Derived.Maps.Keyed
import Derived.Lib.Strings
import Derived.Maps.AppendAt
import Derived.Laws.Concat
import Derived.MapKept
import Derived.Laws.MakeOwn
import Derived.Scope
import Derived.Laws.BitsLemmas
import Derived.Maps.RangeRun
import Derived.StillTail
import Derived.OrdersIn
import Derived.TacticsIn
import Derived.RangeFuncRecord
import Derived.RangeFuncCalls
import Derived.RangeFuncSeq
import Derived.Lib.Split
import Derived.Lib.AtoiAll
import Derived.Shelf.LaysM
import Derived.Shelf.LaysC
import Derived.Shelf.Strconv.Itoa3
import Derived.Shelf.Strconv.AtoiAll
import Derived.Shelf.Strings.Search3
import Derived.Shelf.Strings.Cut
import Derived.Shelf.Strings.Prefix
import Derived.Shelf.Strings.Split
import Derived.Lib.AppendIntMem
import Derived.Stop.Asserts
import Derived.RowKitTokens
import Derived.Conc.MuLone
import Derived.Test.YtndniceeibflcaaGreatDoorKaa
import Derived.Test.YtndniceeibflcaaGreatDoorKab
import Derived.Test.YtndniceeibflcaaGreatDoorKac
import Derived.Test.YtndniceeibflcaaGreatDoorKad
import Derived.Test.YtndniceeibflcaaGreatDoorKae
import Derived.Test.YtndniceeibflcaaGreatDoorKag
import Derived.Test.YtndniceeibflcaaGreatDoorKai
import Derived.Test.YtndniceeibflcaaGreatDoorKak
import Derived.Test.YtndniceeibflcaaGreatDoorKao
set_option linter.unusedSimpArgs false
set_option linter.unusedVariables false
namespace Go.Proofs.YtndniceeibflcaaGreatDoor
namespace Aw
end Aw
namespace Mp
end Mp
end Go.Proofs.YtndniceeibflcaaGreatDoor
namespace Go.Proofs.YtndniceeibflcaaGreatDoor
open Aw Mp Go.RowKit
set_option linter.unusedSimpArgs false

theorem mspec_locked {f : FuncId} {fn : Func} {r0 nc r3 rest : Code} {i4 : Nat} {ops4 : Array Oper} {pre : List Oper} {df : Oper} {t k : Nat} {own : List Nat} {aS : List AV} {M : Mem} {post : AV → Mem → Prop}
    (hf : Tryz.prog.funcs[f]? = some fn) (hb : fn.body = some (.seq r0 (.seq nc (.seq r3 (.seq (.region i4 ops4 false) rest))))) (hok : okFn Tryz.prog f = true)
    (hops : ops4.toList = pre ++ [df]) (hg : df.guard = none) (hdst : df.dst = none) (hdf : ∀ (a : Act) (w : World), (execOp a.eval df).run Tryz.prog w = .ok (.defer { target := .fn (.func 69) #[], args := #[a.eval (.tmp t)] }) w)
    (h : ∀ vs : List Value, @SWp Tryz.prog r0 ⟨(.q 0 k 0 0 :: aS) ++ List.replicate (fn.ntmps - (aS.length + 1)) .bot, M ++ [some (ghost vs (.q 0 k 0 0 :: aS))]⟩ ⟨fun s1 => @SWp Tryz.prog nc s1 ⟨fun s2 => @SWp Tryz.prog r3 s2 ⟨fun s3 => @AOps Tryz.prog own ops4.toList pre s3 ⟨fun s4 => ∃ (σ2 : St) (g : Nat), Le s4 σ2 ∧ σ2.sl[t]? = some (.q 0 k 0 0) ∧ σ2.M[g]? = some (some (ghost vs (.q 0 k 0 0 :: aS))) ∧
        @SWp Tryz.prog rest σ2 ⟨LEnd Tryz.prog fn.results.toList (.q 0 k 0 0 :: aS) vs post⟩ ⟨fun _ _ => False⟩ ⟨fun σ _ => LEnd Tryz.prog fn.results.toList (.q 0 k 0 0 :: aS) vs post σ⟩⟩⟩ ⟨fun _ _ => False⟩ ⟨fun _ _ => False⟩⟩ ⟨fun _ _ => False⟩ ⟨fun _ _ => False⟩⟩ ⟨fun _ _ => False⟩ ⟨fun _ _ => False⟩) : MSpec Tryz.prog f (.q 0 k 0 0 :: aS) M post := by
  refine ⟨hok, fun w vs A hv hM0 hsep hvs0 => Go.calls_of_wp_defers hf hb ?_⟩
  obtain ⟨hM, hs0⟩ := mem_add hM0 (Bel.refl _ w) (ob := ghost vs (.q 0 k 0 0 :: aS)) (v := .map none) (fun b hb => by simp [blk] at hb) (fun hs => ObR.of_map (ob := ghost vs (.q 0 k 0 0 :: aS)) (ks := vs) rfl ⟨vs, .inr ⟨by simp [ghost], rfl, rfl⟩, by
    have := RVL_keep hs.keeps hs.hv _ _ hvs0
    rwa [AV.killL_nil] at this⟩)
  have hvs : RVL w (OwnA A (hvAdd hv M.length (.map none))) (hvAdd hv M.length (.map none)) (.q 0 k 0 0 :: aS) vs := by
    have := RVL_keep hs0.keeps hs0.hv _ _ hvs0
    rwa [AV.killL_nil] at this
  have hoeq : ∀ b, Aw.Own (hvAdd hv M.length (.map none)) b → Aw.Own hv b := fun b hb => by
    rcases (own_add (mem_none hM0 (Nat.le_refl _))).1 hb with h | h
    · exact h
    · simp [blk] at h
  obtain ⟨hlen, hget⟩ := rvl_get (.q 0 k 0 0 :: aS) vs hvs
  have hS : StR ⟨w, Aw.Own hv, A, []⟩ ⟨(.q 0 k 0 0 :: aS) ++ List.replicate (fn.ntmps - (aS.length + 1)) .bot, M ++ [some (ghost vs (.q 0 k 0 0 :: aS))]⟩ { tmps := vs.toArray ++ Array.replicate (fn.ntmps - vs.toArray.size) undef, defers := [] } w := by
    refine ⟨_, rfl, by simp [hlen]; omega, fun i x hx => ?_, hM, ⟨rfl, rfl, rfl, Nat.le_refl _, Nat.le_refl _, fun _ _ _ => rfl, fun b h => .inl (hoeq b h), hM0.old, fun b hA ho => hsep b ho hA⟩⟩
    rcases Nat.lt_or_ge i (AV.q 0 k 0 0 :: aS).length with hlt | hge
    · simp only [List.getElem?_append_left hlt] at hx
      obtain ⟨v, h1, h2⟩ := hget i x hx
      refine ⟨v, ?_, h2⟩
      rw [Array.getElem?_append_left (by simp; omega)]; simpa using h1
    · simp only [List.getElem?_append_right hge, List.getElem?_replicate] at hx
      split at hx
      · rename_i hr
        injection hx with hx
        subst hx
        refine ⟨undef, ?_, by simp [RV]⟩
        rw [Array.getElem?_append_right (by simp; omega)]
        simp only [List.length_cons] at hr
        simp [hlen, hr]
      · cases hx
  refine wp_seq (wp_mono (h vs _ _ _ hS) fun e a1 w1 hq => ?_)
  cases e with
  | exit id => exact hq.elim fun _ h => h.1.elim
  | ret => exact hq.elim fun _ h => h.1.elim
  | goto l => exact hq.elim
  | panic ch => exact hq.elim
  | outgrown => exact hq.elim
  | normal =>
  obtain ⟨s1, h1, hS1⟩ := hq
  refine wp_seq (wp_mono (h1 _ _ _ hS1) fun e a2 w2 hq => ?_)
  cases e with
  | exit id => exact hq.elim fun _ h => h.1.elim
  | ret => exact hq.elim fun _ h => h.1.elim
  | goto l => exact hq.elim
  | panic ch => exact hq.elim
  | outgrown => exact hq.elim
  | normal =>
  obtain ⟨s2, h2, hS2⟩ := hq
  refine wp_seq (wp_mono (h2 _ _ _ hS2) fun e a3 w3 hq => ?_)
  cases e with
  | exit id => exact hq.elim fun _ h => h.1.elim
  | ret => exact hq.elim fun _ h => h.1.elim
  | goto l => exact hq.elim
  | panic ch => exact hq.elim
  | outgrown => exact hq.elim
  | normal =>
  obtain ⟨s3, h3, hS3⟩ := hq
  refine wp_seq (wp_region ?_)
  have hl : ops4.size = (pre ++ [df]).length := by rw [← hops]; simp
  rw [List.range_eq_range', hl]
  refine aops_then (P := Tryz.prog) (own := own) [df] pre 0 s3 a3 w3 (by simpa using hops) h3 hS3 ?_
  rintro s4 a4 w4 ⟨σ2, g, hle, hsl2, hgg, hrest⟩ hS4
  have ho : ops4[0 + pre.length]? = some df := by
    have : ops4.toList[pre.length]? = some df := by rw [hops]; simp
    rw [Nat.zero_add]; simpa using this
  obtain ⟨hv4, hd4, hsz4, hslv4, hM4, hF4⟩ := hle _ _ _ hS4
  obtain ⟨vs', b, n, c, hvs1, hb1⟩ := ghost_ptr (C := ⟨w, Aw.Own hv, A, []⟩) (a := a4) hM4 hgg
  obtain ⟨v4, ht4, hr4⟩ := hslv4 t _ hsl2
  simp only [RV, R] at hr4
  obtain ⟨b', n', c', hb2, hv4'⟩ := hr4
  rw [hb1] at hb2
  injection hb2 with hb2
  injection hb2 with hb2 _ _
  injection hb2 with hb2
  injection hb2 with hb2 _ _
  subst hb2
  injection hv4' with hv4' _
  subst hv4'
  have hev : a4.eval (.tmp t) = .pointer (some ⟨b, 0, none⟩) := by
    simp only [Act.eval, Array.getD_eq_getD_getElem?, ht4]
    simp
  rw [show (List.range' (0 + pre.length) [df].length) = [0 + pre.length] from rfl, wpOps_cons]
  simp only [wpOp, ho]
  have hw : Region.wanted df (yielded ops4 a4.tmps) = true := by simp [Region.wanted, hg]
  rw [if_pos hw]
  left
  unfold Oper.wp
  rw [hdf a4 w4, Oper.upon_defer, hdst, hev]
  -- behind the deferral
  obtain ⟨d, hd⟩ : ∃ d : Deferred, d = { target := .fn (.func 69) #[], args := #[.pointer (some ⟨b, 0, none⟩)] } := ⟨_, rfl⟩
  rw [← hd]
  have hS5 : StR ⟨w, Aw.Own hv, A, [d]⟩ σ2 ({ a4 with defers := d :: a4.defers }.put none undef) w4 := by
    refine ⟨hv4, by simp [Act.put, hd4], by simpa [Act.put] using hsz4, fun i x hx => by simpa [Act.put] using hslv4 i x hx, hM4, ⟨hF4.os, hF4.tape, hF4.output, hF4.drawn, hF4.size, hF4.block, hF4.own, hF4.aold, hF4.dis⟩⟩
  show rest.wp Tryz.prog _ _ w4
  refine wp_mono (hrest _ _ _ hS5) fun e a6 w6 hq => ?_
  have fin : (∃ σ, LEnd Tryz.prog fn.results.toList (.q 0 k 0 0 :: aS) vs post σ ∧ StR ⟨w, Aw.Own hv, A, [d]⟩ σ a6 w6) → Leaves Tryz.prog fn a6.tmps (fun e w' => ∃ r M' v hv', e = .returned v ∧ post r M' ∧ MemR A w' hv' M' ∧ RV w' (OwnA A hv') hv' r v ∧ RVL w' (OwnA A hv') hv' (.q 0 k 0 0 :: aS) vs ∧ Keeps w (Aw.Own hv) w' (Aw.Own hv') ∧ w'.os = w.os ∧ w'.tape = w.tape ∧ w'.output = w.output ∧ dr w ≤ dr w') a6.defers .returning w6 := by
    rintro ⟨σ, ⟨σ', ob, cs, g', hle', hob, hmp, hxs, hgg', hend⟩, hS6⟩
    obtain ⟨hv6, hd6, hsz6, hslv6, hM6, hF6⟩ := hle' _ _ _ hS6
    obtain ⟨vs2, b2, n2, c2, hvs2, hb6⟩ := ghost_ptr (C := ⟨w, Aw.Own hv, A, [d]⟩) (a := a6) hM6 hgg'
    rw [hvs1] at hvs2
    injection hvs2 with hbb _
    injection hbb with hbb
    injection hbb with hbb
    injection hbb with hbb _ _
    subst hbb
    obtain ⟨b3, n3, c3, hb3, hc3, hf3, hset⟩ := mem_cell (P := Tryz.prog) hM6 hob hmp hxs
    rw [hb6] at hb3
    injection hb3 with hb3
    injection hb3 with hb3 _ _
    injection hb3 with hb3
    injection hb3 with hb3 _ _
    subst hb3
    obtain ⟨m7, s7⟩ := hset (.int .i32 0) rfl
    rw [hd6]
    show Leaves Tryz.prog fn a6.tmps _ [d] .returning w6
    rw [hd]
    refine Go.leaves_cons (f := 69) (args := #[.pointer (some ⟨b, 0, none⟩)]) (by simp) (by simp [go_sem]) ?_
    refine (unlockZ ⟨b, 0, none⟩ .returning w6 hc3 hf3).mono ?_
    rintro e u' w7 ⟨rfl, rfl, rfl⟩
    have hS7 : StR ⟨w, Aw.Own hv, A, [d]⟩ ⟨σ'.sl, σ'.M.set 0 (some { ob with xs := [.g (.v (.int .i32 0) :: cs)] })⟩ a6 (w6.setCell ⟨b, 0, none⟩ (.int .i32 0)) := by
      refine ⟨hv6, hd6, hsz6, fun i x hx => ?_, m7, ⟨s7.os.trans hF6.os, s7.tape.trans hF6.tape, s7.output.trans hF6.output, Nat.le_trans hF6.drawn s7.drawn, Nat.le_trans hF6.size s7.kp.size, fun b hb hn => ?_, hF6.own, hF6.aold, hF6.dis⟩⟩
      · obtain ⟨v, e1, e2⟩ := hslv6 i x hx
        have := s7.rv e2
        rw [AV.kill_nil] at this
        exact ⟨v, e1, this⟩
      · rw [s7.kp.block b (Nat.lt_of_lt_of_le hb hF6.size) (fun ho => (hF6.own b ho).elim hn (fun h => Nat.lt_irrefl _ (Nat.lt_of_lt_of_le hb h)))]
        exact hF6.block b hb hn
    obtain ⟨v, r, M', hv', q1, q2, q3, q4, q5, q6, q7, q8, q9, q10⟩ := mend_fin hend hS7
    exact ⟨v, q1, r, M', v, hv', rfl, q2, q3, q4, q5, q6, q7, q8, q9, q10⟩
  cases e with
  | exit id => exact hq.elim fun _ h => h.1.elim
  | goto l => exact hq.elim
  | panic ch => exact hq.elim
  | outgrown => exact hq.elim
  | ret => exact fin hq
  | normal => exact fin hq
end Go.Proofs.YtndniceeibflcaaGreatDoor

namespace Go.Proofs.YtndniceeibflcaaGreatDoor
open Aw Mp Go.RowKit
set_option linter.unusedSimpArgs false
set_option maxRecDepth 8000

theorem ok24 : okFn Tryz.prog 24 = true := by kernel_rfl
/-- a machine that has done orders. -/
def mkM (n lim : Int) (ls : List (Int × Int)) (l : List By) : Mch := ⟨0, n, lim, ls, stO l, lg 0 l, l⟩
def memD (m : Mch) : Mem := [some m.ob, none, some m.od]
theorem m24 (n lim : Int) (ls : List (Int × Int)) (l : List By) (hA : Acc n lim ls l) (hT : vT n ls = 0) (hls : ls.length ≤ 1000000) (o : By) (ho : o.length ≤ 9223372036854775807) :
    MSpec Tryz.prog 24 [.q 0 13 0 0, S o] (memD (mkM n lim ls l)) (fun r N => r = I (erO n lim ls l o) ∧ N = memD (mkM n lim ls (doO n lim ls l o))) := by
  refine mspec_locked (k := 13) (aS := [S o]) (t := 18) (own := []) (pre := [_, _, _]) (df := _) Tryz.func24 rfl ok24 rfl rfl rfl (fun a w => by simp [execOp, go_sem]) ?_
  intro vs
  obtain ⟨m, hm⟩ : ∃ m, m = mkM n lim ls l := ⟨_, rfl⟩
  have hmu : m.mu = 0 := by rw [hm]; rfl
  rw [← hm]
  obtain ⟨gh, hgh⟩ : ∃ gh, gh = some (ghost vs [AV.q 0 13 0 0, S o]) := ⟨_, rfl⟩
  refine awp_sound (own := []) _ _ _ _ _ ?_
  simp only [wB, awp, asN, St.ev, St.step, setS, killS, AV.kill, AV.killL, Mem.kill, Nat.reduceAdd, Nat.reduceSub, Int.reduceAdd, Int.reduceSub, Tryz.ntmps24, ← hgh, memD]
  refine awp_sound (own := []) _ _ _ _ _ ?_
  simp only [wB, awp, binC, eqC, asG, asB, asI, St.ev, St.step, setS, killS, AV.kill, AV.killL, Mem.kill, Nat.reduceAdd, Int.reduceAdd, isNP, ptrN, asStr, nt32]
  refine swp_fm (own := []) 3 rfl rfl rfl ?_
  simp only [wB, asP, asQ, St.ev, St.step, setS, killS, AV.kill, AV.killL, Mem.kill, AV.cells, Nat.reduceEqDiff, Mch.ob, Mch.od, Mch.cells, List.take_succ_cons, List.take_zero, hmu]
  have hfree : ∀ Z : List Nat, Z = [1] → AV.freeL Z (ghost vs [AV.q 0 13 0 0, S o]).xs = true := fun Z hZ => by subst hZ; rfl
  refine acall_f (fspec_of (m68 (M := [some ⟨none, 107, 13, [.g (.v (.int .i32 0) :: [.v (.int .u32 0), I m.n, .s 2 (prsA m.ls), I m.lim, .s 1 (intsA m.st.place), .s 1 (intsA m.st.heats), .s 4 (gtsA m.st.circ), I m.st.moves, I m.st.cools, I m.st.done, .o 2, S m.log])]⟩, none, some ⟨none, 9, 1, strsA m.ords⟩, gh]) (cs := [.v (.int .u32 0), I m.n, .s 2 (prsA m.ls), I m.lim, .s 1 (intsA m.st.place), .s 1 (intsA m.st.heats), .s 4 (gtsA m.st.circ), I m.st.moves, I m.st.cools, I m.st.done, .o 2, S m.log]) rfl rfl rfl) (M' := [some ⟨none, 107, 13, [.g (.v (.int .i32 1) :: [.v (.int .u32 0), I m.n, .s 2 (prsA m.ls), I m.lim, .s 1 (intsA m.st.place), .s 1 (intsA m.st.heats), .s 4 (gtsA m.st.circ), I m.st.moves, I m.st.cools, I m.st.done, .o 2, S m.log])]⟩, none, some ⟨none, 9, 1, strsA m.ords⟩, gh]) [1] (by rw [hgh]; rfl) (by rw [hgh]; exact ⟨rfl, rfl, rfl, trivial⟩) (by rw [hgh]; rfl) rfl (by rw [hgh]; simp [freeM, AV.freeL, AV.free, strsA_free, ghost]) (N := [some ⟨none, 107, 13, [.g (.v (.int .i32 1) :: [.v (.int .u32 0), I m.n, .s 2 (prsA m.ls), I m.lim, .s 1 (intsA m.st.place), .s 1 (intsA m.st.heats), .s 4 (gtsA m.st.circ), I m.st.moves, I m.st.cools, I m.st.done, .o 2, S m.log])]⟩, none, some ⟨none, 9, 1, strsA m.ords⟩, gh]) (by rw [hgh]; rfl)) ?_
  simp only [wB, asP, asQ, St.ev, St.step, setS, killS, AV.kill, AV.killL, Mem.kill, Nat.reduceAdd, Nat.reduceEqDiff, Int.reduceAdd, List.drop_succ_cons, AV.sub, keepG, liveI, AV.isQ, List.any_cons, List.any_nil, ghost, List.drop_nil]
  refine ⟨⟨[.q 0 13 0 0, S o, .bot, .bot, I 0, .bot, .bot, .bot, .bot, .bot, .bot, .bot, .bot, .bot, .bot, .bot, .bot, .bot, .q 0 13 0 0, .bot, .bot, .bot, .bot, .bot, .bot, .bot, .bot, .bot, .bot, .bot, .bot, .bot, .bot, .bot, .bot, .bot, .bot, .bot, .bot, .bot, .bot, .bot, .bot, .bot, .bot, .bot, .bot, .bot, .bot, .bot, .bot, .bot, .bot, .bot, .bot, .bot, .bot, .bot, .bot, .bot, .bot, .bot, .bot, .bot, .bot, .bot, .bot, .bot, .bot, .bot, .bot], [some { m with mu := 1 }.ob, none, some m.od, gh]⟩, 3, le_sl' ?_ (by simp [leSl]), rfl, by rw [hgh]; rfl, ?_⟩
  · simp only [memG, memS, Mch.ob, Mch.od, Mch.cells, rowP, rowC, rowS, stO', combR, List.cons_append, List.nil_append, Option.map_some, Option.map_none, List.drop_succ_cons, List.drop_zero, prsA_sub, strsA_sub, intsA_sub, gtsA_sub, AV.sub, AV.subL, keepF, keepG, liveI, List.getElem?_cons_succ, List.getElem?_cons_zero, List.getElem?_nil, AV.isO, AV.isQ, List.any_cons, List.any_nil, ghost, gA, List.take_succ_cons, List.take_zero, List.drop_nil]
  have hlim := hA.inv
  have hst : m.st = stO l := by rw [hm]; rfl
  have hord : m.ords = l := by rw [hm]; rfl
  have hI := hlim.2
  rw [← hst] at hI
  have hend : ∀ {σ : St} {e : Int}, e = erO n lim ls l o → e ≠ 0 → Le σ ⟨[.q 0 13 0 0, S o, .bot, .bot, I e, .bot, .bot, .bot, .bot, .bot, .bot, .bot, .bot, .bot, .bot, .bot, .bot, .bot, .q 0 13 0 0, .bot, .bot, .bot, .bot, .bot, .bot, .bot, .bot, .bot, .bot, .bot, .bot, .bot, .bot, .bot, .bot, .bot, .bot, .bot, .bot, .bot, .bot, .bot, .bot, .bot, .bot, .bot, .bot, .bot, .bot, .bot, .bot, .bot, .bot, .bot, .bot, .bot, .bot, .bot, .bot, .bot, .bot, .bot, .bot, .bot, .bot, .bot, .bot, .bot, .bot, .bot, .bot], [some { m with mu := 1 }.ob, none, some m.od, gh]⟩ → LEnd Tryz.prog Tryz.f24.results.toList [AV.q 0 13 0 0, S o] vs (fun r N => r = I (erO n lim ls l o) ∧ N = memD (mkM n lim ls (doO n lim ls l o))) σ := fun {σ e} he hne hle => by
    refine ⟨_, { m with mu := 1 }.ob, _, 3, hle, rfl, rfl, rfl, by rw [hgh]; rfl, ?_⟩
    refine ⟨_, I e, memD m, [], Le.refl _, rfl, ?_, rfl, rfl, ?_, he ▸ rfl, ?_⟩
    · rw [hgh]
      simp only [memD, Mch.ob, Mch.od, Mch.cells, hmu, List.set_cons_zero, List.cons_append, List.nil_append]
    · simp [freeM, memD, Mch.ob, Mch.od, Mch.cells, AV.freeL, AV.free, strsA_free, Zr]
    · have : doO n lim ls l o = l := by unfold doO; rw [if_neg (by omega)]
      rw [this, hm]
  refine awp_sound (own := [5, 8, 1011]) _ _ _ _ _ ?_
  simp only [wB, awp, St.ev, St.step, setS, killS, AV.kill, AV.killL, Mem.kill, Nat.reduceAdd, Nat.reduceEqDiff, Int.reduceAdd]
  have s70o := s70 o ho
  cases hp : prs o with
  | none =>
    have e : psA o = .t [frmA (0, 0, 0, 0), .s 1 [], errV 2] := by unfold psA; rw [hp]
    rw [e] at s70o
    refine acall_v s70o rfl rfl ?_
    simp only [wB, awp, binC, eqC, asQ, asT, asG, asB, asI, asN, obA, storeA, putsA, mkA, Aw.newRow, St.ev, St.step, setS, killS, AV.kill, AV.killL, Mem.kill, AV.cells, AV.flat, AV.single, AV.cellular, Nat.reduceAdd, Nat.reduceEqDiff, Nat.reduceLeDiff, Int.reduceAdd, isNI, ptrN, ifcN, asStr, nt114, Mch.ob, Mch.od, Mch.cells, frmA, errV]
    refine acall_v (s71 2) rfl rfl ?_
    simp only [wB, awp, asN, St.ev, St.step, setS, killS, AV.kill, AV.killL, Mem.kill, Nat.reduceEqDiff]
    refine hend (e := 2) (by unfold erO; rw [hp]) (by decide) (le_cut (Mx := [some ⟨none, 112, 4, [.g [I 0, I 0, I 0, I 0]]⟩]) (by simp [leSl]) ?_ rfl ?_)
    · simp only [memG, memS, Mch.ob, Mch.od, Mch.cells, rowP, rowC, rowS, stO', combR, List.cons_append, List.nil_append, Option.map_some, Option.map_none, List.drop_succ_cons, List.drop_zero, prsA_sub, strsA_sub, intsA_sub, gtsA_sub, AV.sub, AV.subL, keepF, keepG, liveI, List.getElem?_cons_succ, List.getElem?_cons_zero, List.getElem?_nil, AV.isO, AV.isQ, List.any_cons, List.any_nil, ghost, gA, List.take_succ_cons, List.take_zero, List.drop_nil]
    · rw [hgh]; simp [freeM, Mch.ob, Mch.od, Mch.cells, AV.freeL, AV.free, strsA_free, ghost]
  | some ka =>
  obtain ⟨k, a⟩ := ka
  have e : psA o = .t [frmA (frmL.getD k (0, 0, 0, 0)), .s 1 (intsA a), .v .nilIface] := by unfold psA; rw [hp]
  rw [e] at s70o
  refine acall_v s70o rfl (by simp [AV.pure, AV.pureL, intsA_pure, frmA]) ?_
  generalize hF : frmL.getD k (0, 0, 0, 0) = F
  obtain ⟨f0, f1, f2, f3⟩ := F
  simp only [wB, awp, binC, cmpC, eqC, asP, asQ, asT, asG, asB, asI, asN, obA, lenA, loadA, storeA, putsA, mkA, Aw.newRow, St.ev, St.step, setS, killS, AV.kill, AV.killL, Mem.kill, AV.cells, AV.flat, AV.single, AV.cellular, Nat.reduceAdd, Nat.reduceEqDiff, Nat.reduceLeDiff, Int.reduceAdd, isNI, ptrN, ifcN, asStr, lenK, nt114, strsA_len, Mch.ob, Mch.od, Mch.cells, List.drop_succ_cons, List.drop_zero, List.take_succ_cons, List.take_zero, frmA, strsA_len, hord]
  by_cases h100 : (l.length : Int) = 100
  · simp only [wB, awp, asN, St.ev, St.step, setS, killS, AV.kill, AV.killL, Mem.kill, Nat.reduceAdd, Nat.reduceEqDiff, Int.reduceAdd, decide_eq_true h100]
    have he : erO n lim ls l o = 3 := by unfold erO; rw [hp]; simp only; rw [if_pos (by omega)]
    refine hend (e := 3) he.symm (by decide) (le_cut (Mx := [some ⟨none, 112, 4, [.g [I f0, I f1, I f2, I f3]]⟩]) (by simp [leSl]) ?_ rfl ?_)
    · simp only [memG, memS, Mch.ob, Mch.od, Mch.cells, rowP, rowC, rowS, stO', combR, List.cons_append, List.nil_append, Option.map_some, Option.map_none, List.drop_succ_cons, List.drop_zero, prsA_sub, strsA_sub, intsA_sub, gtsA_sub, AV.sub, AV.subL, keepF, keepG, liveI, List.getElem?_cons_succ, List.getElem?_cons_zero, List.getElem?_nil, AV.isO, AV.isQ, List.any_cons, List.any_nil, ghost, gA, List.take_succ_cons, List.take_zero, List.drop_nil, hord]
    · rw [hgh]; simp [freeM, Mch.ob, Mch.od, Mch.cells, AV.freeL, AV.free, strsA_free, ghost]
  simp only [wB, awp, asP, asQ, obA, loadA, St.ev, St.step, setS, killS, AV.kill, AV.killL, Mem.kill, AV.cells, AV.flat, AV.single, Nat.reduceAdd, Nat.reduceEqDiff, Nat.reduceLeDiff, Int.reduceAdd, Mch.cells, List.drop_succ_cons, List.drop_zero, List.take_succ_cons, List.take_zero, decide_eq_false h100]
  have hp4 := hI.p4
  have hhl := hI.hl
  have hc10 := hI.c10
  refine acall_os (s72 m.st (by omega) (by omega) (by omega)) (by simp [AV.pureL, AV.pure, intsA_pure, gtsA_pure]) ?_
  simp only [wB, awp, asQ, obA, storeA, putsA, mkA, Aw.newRow, St.ev, St.step, setS, killS, AV.kill, AV.killL, Mem.kill, AV.cells, AV.flat, AV.single, AV.cellular, Nat.reduceAdd, Nat.reduceEqDiff, Nat.reduceLeDiff, Int.reduceAdd, Mch.cells, rowP, rowC, stO', AV.sub, AV.subL, AV.up, Ob.up, intsA_smap, gtsA_smap]
  have hm1n : ({ m with mu := 1 } : Mch).n = n := by rw [hm]; rfl
  have hm1l : ({ m with mu := 1 } : Mch).ls = ls := by rw [hm]; rfl
  have hm1m : ({ m with mu := 1 } : Mch).lim = lim := by rw [hm]; rfl
  have hI1 : InvS ({ m with mu := 1 } : Mch).n l.length m.st := by rw [hm1n]; exact hI
  refine swp_le (σ' := ⟨[.q 0 13 0 0, S o, .bot, .bot, I 0, .q 8 4 0 0, .s 1 (intsA a), .bot, .q 7 6 0 0, .bot, .bot, .bot, .bot, .bot, .bot, .bot, .bot, .bot, .q 0 13 0 0, .bot, .bot, .bot, .bot, .bot, .bot, .bot, .bot, .bot, .bot, .bot, .bot, .bot, .bot, .bot, .bot, .bot, .bot, .bot, .bot, .bot, .bot, .bot, .bot, .bot, .bot, .bot, .bot, .bot, .bot, .bot, .bot, .bot, .bot, .bot, .bot, .bot, .bot, .bot, .bot, .bot, .bot, .bot, .bot, .bot, .bot, .bot, .bot, .bot, .bot, .bot, .bot], [some { m with mu := 1 }.ob, none, some m.od, gh, some (rowP m.st.place), some (rowP m.st.heats), some (rowC m.st.circ), some (rowS 4 5 6 m.st), some ⟨none, 112, 4, [frmA (f0, f1, f2, f3)]⟩]⟩) (le_rn [0, 1, 2, 3, 5, 6, 7, 8, 4] (by decide) ?_ (by simp [leSl, AV.sub, reF, reG, List.idxOf?, List.findIdx?, List.findIdx?.go])) ?_
  · rw [hgh]
    simp [reM, reF, reG, Mch.ob, Mch.od, Mch.cells, rowP, rowC, rowS, stO', AV.sub, AV.subL, intsA_sub, gtsA_sub, prsA_sub, strsA_sub, frmA, List.idxOf?, List.findIdx?, List.findIdx?.go, ghost, hord]
  refine swp_fm (own := []) 3 rfl rfl rfl ?_
  simp only [wB, asP, asQ, obA, loadA, St.ev, St.step, setS, killS, AV.kill, AV.killL, Mem.kill, AV.cells, AV.flat, AV.single, Nat.reduceAdd, Nat.reduceLeDiff, Int.reduceAdd, Mch.ob, Mch.od, Mch.cells, rowP, rowC, rowS, stO', List.drop_zero, List.take_succ_cons, List.take_zero, frmA]
  have hmn : m.n = n := hm1n
  have hml : m.ls = ls := hm1l
  have hmm : m.lim = lim := hm1m
  have hm73 := m73 { m with mu := 1 } m.st hI1 (by omega) (by rw [hm1n, hm1l]; exact hT) (by rw [hm1l]; exact hls) hp
  rw [hF] at hm73
  dsimp only at hm73
  obtain ⟨e, he⟩ : ∃ e, e = erS m.n m.lim m.ls m.st k (nth a 0) (nth a 1) (nth a 2) := ⟨_, rfl⟩
  have heo : e = erO n lim ls l o := by
    unfold erO
    rw [hp, he, hmn, hmm, hml, hst]
    simp only
    rw [if_neg (by omega)]
  rw [← he] at hm73
  obtain ⟨t, ht⟩ : ∃ t, t = (if e = 0 then nxS m.st k (nth a 0) (nth a 1) (nth a 2) else m.st) := ⟨_, rfl⟩
  rw [← ht] at hm73
  refine acall_f (fspec_of hm73 [1, 3, 8] rfl (by exact ⟨rfl, rfl, rfl, rfl, rfl, rfl, trivial⟩) rfl rfl (free_GZ _ _ _ (by decide)) (N := [some { m with mu := 1 }.ob, none, some m.od, gh, some (rowP t.place), some (rowP t.heats), some (rowC t.circ), some (rowS 4 5 6 t), some ⟨none, 112, 4, [frmA (f0, f1, f2, f3)]⟩]) ?_) ?_
  · rw [hgh]
    simp only [memG, memS, Mch.ob, Mch.od, Mch.cells, rowP, rowC, rowS, stO', combR, List.cons_append, List.nil_append, Option.map_some, Option.map_none, List.drop_succ_cons, List.drop_zero, prsA_sub, strsA_sub, intsA_sub, gtsA_sub, AV.sub, AV.subL, keepF, keepG, liveI, List.getElem?_cons_succ, List.getElem?_cons_zero, List.getElem?_nil, AV.isO, AV.isQ, List.any_cons, List.any_nil, ghost, gA, List.take_succ_cons, List.take_zero, List.drop_nil, frmA]
    rfl
  by_cases h0 : e = 0
  case neg =>
    simp only [wB, awp, binC, eqC, asG, asB, asI, asN, St.ev, St.step, setS, killS, AV.kill, AV.killL, Mem.kill, AV.cells, Nat.reduceAdd, Nat.reduceEqDiff, Int.reduceAdd, isNI, ptrN, ifcN, asStr, nt114, memG, Mch.ob, Mch.od, Mch.cells, rowP, rowC, rowS, stO', List.drop_succ_cons, List.drop_zero, AV.sub, AV.subL, keepG, liveI, AV.isQ, List.any_cons, List.any_nil, frmA, erV, if_neg h0, errV]
    refine acall_v (s71 e) rfl rfl ?_
    simp only [wB, awp, asN, St.ev, St.step, setS, killS, AV.kill, AV.killL, Mem.kill, Nat.reduceEqDiff]
    refine hend (e := e) heo h0 (le_cut (Mx := [some (rowP t.place), some (rowP t.heats), some (rowC t.circ), some (rowS 4 5 6 t), some ⟨none, 112, 4, [frmA (f0, f1, f2, f3)]⟩]) (by simp [leSl]) ?_ rfl ?_)
    · simp only [memG, memS, Mch.ob, Mch.od, Mch.cells, rowP, rowC, rowS, stO', combR, List.cons_append, List.nil_append, Option.map_some, Option.map_none, List.drop_succ_cons, List.drop_zero, prsA_sub, strsA_sub, intsA_sub, gtsA_sub, AV.sub, AV.subL, keepF, keepG, liveI, List.getElem?_cons_succ, List.getElem?_cons_zero, List.getElem?_nil, AV.isO, AV.isQ, List.any_cons, List.any_nil, ghost, gA, List.take_succ_cons, List.take_zero, List.drop_nil, hord, frmA]
    · rw [hgh]; simp [freeM, Mch.ob, Mch.od, Mch.cells, AV.freeL, AV.free, strsA_free, ghost]
  simp only [wB, awp, binC, eqC, asP, asQ, asO, asS, asG, asB, asI, asN, obA, loadA, storeA, putsA, St.ev, St.step, setS, killS, AV.kill, AV.killL, Mem.kill, AV.cells, AV.flat, AV.single, AV.cellular, AV.size, AV.pure, AV.pureL, Value.oneCell', Nat.reduceAdd, Nat.reduceEqDiff, Nat.reduceMul, Nat.reduceLeDiff, Int.reduceAdd, Int.reduceMul, isNI, ptrN, ifcN, asStr, nt114, strsA_len, memG, Mch.ob, Mch.od, Mch.cells, rowP, rowC, rowS, stO', List.drop_succ_cons, List.drop_zero, AV.sub, AV.subL, keepG, liveI, AV.isQ, List.any_cons, List.any_nil, List.take_succ_cons, List.take_zero, frmA, erV, if_pos h0, strsA_len]
  have hords := hA.ords
  have hord' : ordB o = true := prs_ord hp
  have ho30 := ((ordB_iff o).1 hord').2.1
  have hlog : m.log = lg 0 l := by rw [hm]; rfl
  rw [hlog]
  refine ⟨⟨by decide, rfl⟩, ⟨by decide, by rw [hord]; omega⟩, acall_v (s74 l o (by omega) hords ho30) rfl rfl ?_⟩
  simp only [wB, awp, asP, asQ, asN, obA, storeA, putsA, St.ev, St.step, setS, killS, AV.kill, AV.killL, Mem.kill, AV.cells, AV.flat, AV.single, AV.cellular, Value.oneCell', Nat.reduceAdd, Nat.reduceEqDiff, Nat.reduceLeDiff, Int.reduceAdd, Mch.cells, strsA_kill, strsA_app, intsA_kill, gtsA_kill, hord]
  obtain ⟨m2, hm2⟩ : ∃ m2 : Mch, m2 = ⟨1, n, lim, ls, t, lg 0 (l ++ [o]), l ++ [o]⟩ := ⟨_, rfl⟩
  have hdo : doO n lim ls l o = l ++ [o] := by unfold doO; rw [← heo, if_pos h0]
  have hnew : mkM n lim ls (doO n lim ls l o) = { m2 with mu := 0 } := by
    have : stO (l ++ [o]) = t := by
      rw [stO_snoc]
      unfold exO
      rw [hp, ht, if_pos h0, hst]
    rw [hdo, hm2]
    simp only [mkM, this]
  refine ⟨⟨[.q 0 13 0 0, S o, .bot, .bot, I 0, .bot, .bot, .bot, .bot, .bot, .bot, .bot, .bot, .bot, .bot, .bot, .bot, .bot, .q 0 13 0 0, .bot, .bot, .bot, .bot, .bot, .bot, .bot, .bot, .bot, .bot, .bot, .bot, .bot, .bot, .bot, .bot, .bot, .bot, .bot, .bot, .bot, .bot, .bot, .bot, .bot, .bot, .bot, .bot, .bot, .bot, .bot, .bot, .bot, .bot, .bot, .bot, .bot, .bot, .bot, .bot, .bot, .bot, .bot, .bot, .bot, .bot, .bot, .bot, .bot, .bot, .bot, .bot], [some m2.ob, none, some m2.od, gh]⟩, m2.ob, _, 3, Le.trans (le_frz 4 rfl (intsA_pure _)) (Le.trans (le_frz 5 rfl (by simp only [intsA_sub]; exact intsA_pure _)) (Le.trans (le_frz 6 rfl (by simp only [gtsA_sub]; exact gtsA_pure _)) (le_cut (Mx := [none, none, none, some ⟨none, 105, 6, [stA t]⟩, some ⟨none, 112, 4, [.g [I f0, I f1, I f2, I f3]]⟩]) ?_ ?_ rfl ?_))), rfl, rfl, by rw [hm2]; rfl, by rw [hgh]; rfl, ?_⟩
  · simp [leSl, frz1, AV.sub, AV.subL]
  · rw [hgh, hm2]
    simp [frzM, Mch.ob, Mch.od, Mch.cells, AV.sub, AV.subL, intsA_sub, gtsA_sub, prsA_sub, strsA_sub, stA, ghost, hmn, hml, hmm, AV.killL, AV.kill]
  · rw [hgh]; simp [freeM, Mch.ob, Mch.od, Mch.cells, AV.freeL, AV.free, strsA_free, ghost]
  refine ⟨_, I 0, memD { m2 with mu := 0 }, [], Le.refl _, rfl, ?_, rfl, rfl, ?_, by rw [← heo, h0], by rw [hnew]⟩
  · rw [hgh]
    simp only [memD, Mch.ob, Mch.od, Mch.cells, List.set_cons_zero, List.cons_append, List.nil_append, hm2]
  · simp [freeM, memD, Mch.ob, Mch.od, Mch.cells, AV.freeL, AV.free, strsA_free, Zr]
end Go.Proofs.YtndniceeibflcaaGreatDoor

namespace Go.Proofs.YtndniceeibflcaaGreatDoor
open Aw Mp Go.RowKit
set_option linter.unusedSimpArgs false
set_option maxRecDepth 8000

theorem ok67 : okFn Tryz.prog 67 = true := by kernel_rfl
/-- look, its answer frozen. -/
theorem m67f (m : Mch) (hmu : m.mu = 0) (h1 : m.st.place.length ≤ 1000) (h2 : m.st.heats.length ≤ 1000) (h3 : m.st.circ.length ≤ 1000) :
    MSpec Tryz.prog 67 [.q 0 13 0 0] (memD m) (fun r N => r = .t [stA m.st, S m.log] ∧ N = memD m) := by
  refine mspec_locked (k := 13) (aS := []) (t := 13) (own := []) (pre := [_, _, _]) (df := _) Tryz.func67 rfl ok67 rfl rfl rfl (fun a w => by simp [execOp, go_sem]) ?_
  intro vs
  obtain ⟨gh, hgh⟩ : ∃ gh, gh = some (ghost vs [AV.q 0 13 0 0]) := ⟨_, rfl⟩
  refine awp_sound (own := [2]) _ _ _ _ _ ?_
  simp only [wB, awp, asN, mkA, Aw.newRow, St.ev, St.step, setS, killS, AV.kill, AV.killL, Mem.kill, Nat.reduceAdd, Nat.reduceEqDiff, Nat.reduceSub, Int.reduceAdd, Int.reduceSub, Tryz.ntmps67, ← hgh, memD]
  refine awp_sound (own := []) _ _ _ _ _ ?_
  simp only [wB, awp, binC, eqC, asG, asB, asI, St.ev, St.step, setS, killS, AV.kill, AV.killL, Mem.kill, Nat.reduceAdd, Int.reduceAdd, isNP, ptrN, asStr, nt32]
  refine swp_fm (own := []) 3 rfl rfl rfl ?_
  simp only [wB, asP, asQ, St.ev, St.step, setS, killS, AV.kill, AV.killL, Mem.kill, AV.cells, Nat.reduceEqDiff, Mch.ob, Mch.od, Mch.cells, List.take_succ_cons, List.take_zero, hmu]
  refine acall_f (fspec_of (m68 (M := [some ⟨none, 107, 13, [.g (.v (.int .i32 0) :: [.v (.int .u32 0), I m.n, .s 2 (prsA m.ls), I m.lim, .s 1 (intsA m.st.place), .s 1 (intsA m.st.heats), .s 4 (gtsA m.st.circ), I m.st.moves, I m.st.cools, I m.st.done, .o 2, S m.log])]⟩, none, some ⟨none, 9, 1, strsA m.ords⟩, gh]) (cs := [.v (.int .u32 0), I m.n, .s 2 (prsA m.ls), I m.lim, .s 1 (intsA m.st.place), .s 1 (intsA m.st.heats), .s 4 (gtsA m.st.circ), I m.st.moves, I m.st.cools, I m.st.done, .o 2, S m.log]) rfl rfl rfl) (M' := [some ⟨none, 107, 13, [.g (.v (.int .i32 1) :: [.v (.int .u32 0), I m.n, .s 2 (prsA m.ls), I m.lim, .s 1 (intsA m.st.place), .s 1 (intsA m.st.heats), .s 4 (gtsA m.st.circ), I m.st.moves, I m.st.cools, I m.st.done, .o 2, S m.log])]⟩, none, some ⟨none, 9, 1, strsA m.ords⟩, gh]) [1, 4] (by rw [hgh]; rfl) (by rw [hgh]; exact ⟨rfl, rfl, rfl, trivial⟩) (by rw [hgh]; rfl) rfl (by rw [hgh]; simp [freeM, AV.freeL, AV.free, strsA_free, ghost]) (N := [some ⟨none, 107, 13, [.g (.v (.int .i32 1) :: [.v (.int .u32 0), I m.n, .s 2 (prsA m.ls), I m.lim, .s 1 (intsA m.st.place), .s 1 (intsA m.st.heats), .s 4 (gtsA m.st.circ), I m.st.moves, I m.st.cools, I m.st.done, .o 2, S m.log])]⟩, none, some ⟨none, 9, 1, strsA m.ords⟩, gh, some ⟨none, 105, 6, [.g [.v (.slice none 0 0), .v (.slice none 0 0), .v (.slice none 0 0), I 0, I 0, I 0]]⟩]) (by rw [hgh]; rfl)) ?_
  simp only [wB, asP, asQ, St.ev, St.step, setS, killS, AV.kill, AV.killL, Mem.kill, Nat.reduceAdd, Nat.reduceEqDiff, Int.reduceAdd, List.drop_succ_cons, AV.sub, keepG, liveI, AV.isQ, List.any_cons, List.any_nil, ghost, List.drop_nil]
  refine ⟨⟨[.q 0 13 0 0, .bot, .q 4 6 0 0, .bot, .bot, .bot, .bot, .bot, .bot, .bot, .bot, .bot, .bot, .q 0 13 0 0, .bot, .bot, .bot, .bot, .bot, .bot, .bot, .bot, .bot], [some { m with mu := 1 }.ob, none, some m.od, gh, some ⟨none, 105, 6, [.g [.v (.slice none 0 0), .v (.slice none 0 0), .v (.slice none 0 0), I 0, I 0, I 0]]⟩]⟩, 3, le_sl' ?_ (by simp [leSl]), rfl, by rw [hgh]; rfl, ?_⟩
  · simp only [memG, memS, Mch.ob, Mch.od, Mch.cells, rowP, rowC, rowS, stO', combR, List.cons_append, List.nil_append, Option.map_some, Option.map_none, List.drop_succ_cons, List.drop_zero, prsA_sub, strsA_sub, intsA_sub, gtsA_sub, AV.sub, AV.subL, keepF, keepG, liveI, List.getElem?_cons_succ, List.getElem?_cons_zero, List.getElem?_nil, AV.isO, AV.isQ, List.any_cons, List.any_nil, ghost, gA, List.take_succ_cons, List.take_zero, List.drop_nil]
  refine awp_sound (own := [2]) _ _ _ _ _ ?_
  simp only [awp, AV.cells, Mch.ob, Mch.od, Mch.cells]
  have hlook : LEnd Tryz.prog Tryz.f67.results.toList [AV.q 0 13 0 0] vs (fun r N => r = .t [stA m.st, S m.log] ∧ N = memD m) ⟨[.q 0 13 0 0, .bot, .q 4 6 0 0, S m.log, .bot, .bot, .bot, .bot, .bot, .bot, .bot, .bot, .bot, .bot, .bot, .bot, .bot, .bot, .bot, .bot, .bot, .bot, .bot], [some { m with mu := 1 }.ob, none, some m.od, gh, some (rowS 5 6 7 m.st), some (rowP m.st.place), some (rowP m.st.heats), some (rowC m.st.circ)]⟩ := by
    refine ⟨⟨[.q 0 13 0 0, .bot, .q 4 6 0 0, S m.log, .bot, .bot, .bot, .bot, .bot, .bot, .bot, .bot, .bot, .bot, .bot, .bot, .bot, .bot, .bot, .bot, .bot, .bot, .bot], [some { m with mu := 1 }.ob, none, some m.od, gh, some ⟨none, 105, 6, [stA m.st]⟩]⟩, { m with mu := 1 }.ob, _, 3, Le.trans (le_frz 5 rfl (intsA_pure _)) (Le.trans (le_frz 6 rfl (by simp only [rowP, intsA_sub]; exact intsA_pure _)) (Le.trans (le_frz 7 rfl (by simp only [rowC, gtsA_sub]; exact gtsA_pure _)) (le_cut (Mx := [none, none, none]) ?_ ?_ rfl ?_))), rfl, rfl, rfl, by rw [hgh]; rfl, ?_⟩
    · simp [leSl, frz1, AV.sub, AV.subL]
    · rw [hgh]
      simp [frzM, Mch.ob, Mch.od, Mch.cells, rowP, rowC, rowS, stO', AV.sub, AV.subL, intsA_sub, gtsA_sub, prsA_sub, strsA_sub, stA, ghost]
    · rw [hgh]; simp [freeM, Mch.ob, Mch.od, Mch.cells, AV.freeL, AV.free, strsA_free, ghost, stA]
    refine ⟨_, .t [stA m.st, S m.log], memD m, [some ⟨none, 105, 6, [stA m.st]⟩], Le.refl _, rfl, ?_, ?_, rfl, ?_, rfl, rfl⟩
    · rw [hgh]
      simp only [memD, Mch.ob, Mch.od, Mch.cells, hmu, List.set_cons_zero, List.cons_append, List.nil_append]
    · rfl
    · simp [freeM, memD, Mch.ob, Mch.od, Mch.cells, AV.freeL, AV.free, strsA_free, Zr, List.range_succ]
  refine swp_to ⟨[.q 0 13 0 0, .bot, .q 4 6 0 0, S m.log, .bot, .bot, .bot, .bot, .bot, .bot, .bot, .bot, .bot, .bot, .bot, .bot, .bot, .bot, .bot, .bot, .bot, .bot, .bot], [some { m with mu := 1 }.ob, none, some m.od, gh, some (rowS 5 6 7 m.st), some (rowP m.st.place), some (rowP m.st.heats), some (rowC m.st.circ)]⟩ (swp_draw (own := [2]) (.take 0 .plain [] (.take 1 .plain [] (.take 2 .plain [] (.take 3 .reads [] (.take 5 .plain [] (.take 6 .plain [] (.take 7 .plain [] (.alt 4 (.alt 8 (.alt 9 (.take 10 .plain [] (.done)) (.nil)) (.alt 9 (.take 8 .reads [] (.take 10 .plain [] (.done))) (.nil))) (.alt 8 (.alt 4 (.alt 9 (.take 10 .plain [] (.done)) (.nil)) (.nil)) (.nil)))))))))) [⟨15, 1, 0, 0, true⟩, ⟨16, 16384, 1, 0, true⟩, ⟨17, 32768, 2, 0, true⟩, ⟨18, 65536, 4, 0, true⟩, ⟨19, 131072, 8, 0, false⟩, ⟨20, 1, 0, 0, true⟩, ⟨21, 524288, 32, 0, true⟩, ⟨22, 1048576, 64, 0, true⟩, ⟨23, 2097152, 128, 0, true⟩, ⟨0, 262148, 31, 1, false⟩, ⟨4, 4194304, 1023, 0, true⟩] mo (by kernel_rfl) ?_) ?_
  · simp only [wB, asP, asQ, obA, loadA, St.ev, St.step, setS, killS, AV.kill, AV.killL, Mem.kill, AV.cells, AV.flat, AV.single, Nat.reduceAdd, Nat.reduceEqDiff, Nat.reduceLeDiff, Int.reduceAdd, ASch, St.put, Md.mem, Md.need, Mch.cells, List.drop_succ_cons, List.drop_zero, List.take_succ_cons, List.take_zero]
    refine ⟨acall_os (s72 m.st h1 h2 h3) (by simp [stA, AV.pureL, AV.pure, intsA_pure, gtsA_pure]) ?_, acall_os (s72 m.st h1 h2 h3) (by simp [stA, AV.pureL, AV.pure, intsA_pure, gtsA_pure]) ?_⟩ <;>
    · simp only [wB, asP, asQ, asN, obA, loadA, storeA, putsA, St.ev, St.step, setS, killS, AV.kill, AV.killL, Mem.kill, AV.cells, AV.flat, AV.single, AV.cellular, Nat.reduceAdd, Nat.reduceEqDiff, Nat.reduceLeDiff, Int.reduceAdd, ASch, St.put, Md.mem, Md.need, Mch.ob, Mch.od, Mch.cells, rowP, rowC, rowS, stO', List.drop_succ_cons, List.drop_zero, AV.sub, AV.subL, List.take_succ_cons, List.take_zero, AV.up, Ob.up, intsA_smap, gtsA_smap]
      (try refine And.intro ?_ ?_) <;> exact le_sl (by simp [leSl])
  simp only [awp]
  exact hlook
end Go.Proofs.YtndniceeibflcaaGreatDoor

namespace Go.Proofs.YtndniceeibflcaaGreatDoor
open Aw Mp Go.RowKit
set_option linter.unusedSimpArgs false
set_option maxRecDepth 8000

/-- bounds of a machine's rows. -/
structure Sml (m : Mch) : Prop where
  mu : m.mu = 0
  p : m.st.place.length ≤ 1000
  h : m.st.heats.length ≤ 1000
  c : m.st.circ.length ≤ 1000
theorem free_D (k : Nat) (m : Mch) : freeM (Zr 3 k) (memD m) = true := by
  have h : (Zr 3 k).contains 2 = false := by
    cases hc : (Zr 3 k).contains 2 with
    | false => rfl
    | true => have := mem_Zr.1 (List.contains_iff_mem.1 hc); omega
  simp [freeM, memD, Mch.ob, Mch.od, Mch.cells, AV.freeL, AV.free, strsA_free, -List.contains_eq_mem, h]

end Go.Proofs.YtndniceeibflcaaGreatDoor

namespace Go.Proofs.YtndniceeibflcaaGreatDoor
open Aw Mp Go.RowKit
set_option linter.unusedSimpArgs false
set_option maxRecDepth 8000

/-- a nil cell of an object reads as an empty slice. -/
theorem le_nils {sl : List AV} {M : Mem} (i c : Nat) (k : Nat) {ob : Ob} {cells : List AV} (hi : M[i]? = some (some ob)) (hm : ob.mp = none) (hx : ob.xs = [.g cells]) (hc : cells[c]? = some (.v (.slice none 0 0))) :
    Le ⟨sl, M⟩ ⟨sl, M.set i (some { ob with xs := [.g (cells.set c (.s k []))] })⟩ := by
  intro C a w hS
  obtain ⟨hv, hd, hsz, hsl, hM, hF⟩ := hS
  have key : ∀ (l : List AV) (c : Nat) (us : List Value), l[c]? = some (.v (.slice none 0 0)) → RL w (OwnA C.A hv) hv l us → RL w (OwnA C.A hv) hv (l.set c (.s k [])) us := by
    intro l
    induction l with
    | nil => intro c us h; simp at h
    | cons x l ih =>
      intro c us h hr
      simp only [RL] at hr
      obtain ⟨u1, u2, rfl, h1, h2⟩ := hr
      cases c with
      | zero =>
        simp only [List.getElem?_cons_zero, Option.some.injEq] at h
        subst h
        simp only [R] at h1
        simp only [List.set_cons_zero, RL]
        refine ⟨u1, u2, rfl, ?_, h2⟩
        rw [h1.1]
        simp only [R]
        exact ⟨none, 0, [], rfl, Nat.le_refl _, Nat.zero_le _, by simp, by simp [RL], fun h => absurd rfl h⟩
      | succ c =>
        simp only [List.set_cons_succ, RL]
        exact ⟨u1, u2, rfl, h1, ih c u2 (by simpa using h) h2⟩
  have hsize : ∀ (l : List AV) (c : Nat), l[c]? = some (.v (.slice none 0 0)) → AV.sizeL (l.set c (.s k [])) = AV.sizeL l := by
    intro l
    induction l with
    | nil => intro c h; simp at h
    | cons x l ih =>
      intro c h
      cases c with
      | zero =>
        simp only [List.getElem?_cons_zero, Option.some.injEq] at h
        subst h
        rfl
      | succ c => simp only [List.set_cons_succ, AV.sizeL, ih c (by simpa using h)]
  refine ⟨hv, hd, hsz, hsl, mem_same hM hi (fun v h => ?_), hF⟩
  obtain ⟨us, h1, h2, h3⟩ := h.row hm
  rw [hx] at h1 h2 h3
  refine ObR.of_row hm ⟨us, by simpa using h1, ?_, ?_⟩
  · intro y hy
    simp only [List.mem_singleton] at hy
    subst hy
    have := h2 (.g cells) (by simp)
    simp only [AV.size] at this ⊢
    rw [hsize cells c hc]
    exact this
  · simp only [RL] at h3 ⊢
    obtain ⟨u1, u2, e, q1, q2⟩ := h3
    simp only [R] at q1 ⊢
    exact ⟨u1, u2, e, key cells c u1 hc q1, q2⟩
end Go.Proofs.YtndniceeibflcaaGreatDoor

namespace Go.Proofs.YtndniceeibflcaaGreatDoor
open Aw Mp Go.RowKit
set_option linter.unusedSimpArgs false
set_option maxRecDepth 8000

/-- the error of a machine that is made. -/
def vN (n lim : Int) (ls : List (Int × Int)) : Int := if vT n ls ≠ 0 then vT n ls else if lim < 0 ∨ 100 < lim then 1 else 0
theorem ok22 : okFn Tryz.prog 22 = true := by kernel_rfl
theorem s22o (n lim : Int) (ls : List (Int × Int)) (hls : ls.length ≤ 100000) (he : vN n lim ls = 0) : ASpec Tryz.prog 22 [trapA n ls, I lim] (fun r Ms => r = .t [.q 0 13 0 0, I 0] ∧ Ms = [⟨none, 107, 13, [(mkM n lim ls []).cells (.o 1) (.o 2)]⟩, ⟨none, 79, 2, prsA ls⟩, ⟨none, 9, 1, []⟩]) := by
  have h0 : vT n ls = 0 := by
    by_cases h : vT n ls = 0
    · exact h
    · rw [vN, if_pos h] at he; exact he
  have h12 : ¬ (lim < 0 ∨ 100 < lim) := fun h => by rw [vN, if_neg (by rw [h0]; simp), if_pos h] at he; cases he
  refine aspec_of (own := [2, 25, 1007]) Tryz.func22 rfl ok22 ?_
  simp only [wB, awp, asP, asQ, asN, obA, loadA, Aw.newRow, St.ev, St.step, setS, killS, AV.kill, AV.killL, Mem.kill, AV.cells, AV.flat, AV.single, AV.cellular, AV.size, AV.sizeL, Nat.reduceAdd, Nat.reduceEqDiff, Nat.reduceSub, Nat.reduceLeDiff, Int.reduceAdd, Int.reduceSub, Tryz.ntmps22, trapA]
  refine acall_v (s65 n ls (by omega)) (by simp [trapA, AV.pureL, AV.pure, prsA_pure]) rfl ?_
  simp only [wB, awp, binC, cmpC, asP, asQ, asB, asI, asN, obA, loadA, St.ev, St.step, setS, killS, AV.kill, AV.killL, Mem.kill, AV.cells, AV.flat, AV.single, Nat.reduceAdd, Nat.reduceEqDiff, Nat.reduceLeDiff, Int.reduceAdd, decide_eq_true h0, decide_eq_false (show ¬ lim < 0 by omega), decide_eq_false (show ¬ 100 < lim by omega)]
  refine acall_o (s66 ls hls) (by simp [AV.pureL, AV.pure, prsA_pure]) (prsA_pure ls) ?_
  simp only [wB, awp, asP, asQ, obA, storeA, putsA, St.ev, St.step, setS, killS, AV.kill, AV.killL, Mem.kill, AV.cells, AV.flat, AV.single, AV.cellular, Nat.reduceAdd, Nat.reduceEqDiff, Nat.reduceLeDiff, Int.reduceAdd, AV.up, AV.sub]
  refine swp_to ⟨[.bot, .bot, .bot, .bot, .q 0 13 0 0, I 0, .bot, .bot, .bot, .bot, .bot, .bot, .bot, .bot, .bot, .bot, .bot, .bot, .bot, .bot, .bot, .bot, .bot, .bot, .bot, .bot], [some ⟨none, 107, 13, [(mkM n lim ls []).cells (.o 1) (.o 2)]⟩, some ⟨none, 79, 2, prsA ls⟩, some ⟨none, 9, 1, []⟩]⟩ (awp_sound (own := [2, 25]) _ _ _ _ _ ?_) ?_
  · simp only [wB, awp, asP, asQ, asN, obA, loadA, fillA, putsA, Aw.newRow, St.ev, St.step, setS, killS, AV.kill, AV.killL, Mem.kill, AV.cells, AV.flat, AV.single, AV.cellular, AV.size, AV.sizeL, Value.oneCell', Nat.reduceAdd, Nat.reduceEqDiff, Nat.reduceLeDiff, Int.reduceAdd]
    refine Le.trans (le_nils 2 5 1 rfl rfl rfl rfl) (Le.trans (le_nils 2 6 1 rfl rfl rfl rfl) (Le.trans (le_nils 2 7 4 rfl rfl rfl rfl) (Le.trans (le_nil 2 0 11 9 1 rfl rfl rfl rfl) (le_rn [2, 1, 3] (by decide) ?_ (by simp [leSl, AV.sub, reF, reG, List.idxOf?, List.findIdx?, List.findIdx?.go])))))
    simp [reM, reF, reG, mkM, Mch.cells, AV.sub, AV.subL, prsA_sub, List.idxOf?, List.findIdx?, List.findIdx?.go, stO, MS.zero, intsA, gtsA, lg]
  · simp only [awp]
    exact aend_ren [0, 1, 2] (by decide) [⟨none, 107, 13, [(mkM n lim ls []).cells (.o 1) (.o 2)]⟩, ⟨none, 79, 2, prsA ls⟩, ⟨none, 9, 1, []⟩] rfl (by simp [reM, reF, reG, mkM, Mch.cells, AV.sub, AV.subL, prsA_sub, List.idxOf?, List.findIdx?, List.findIdx?.go]) ⟨rfl, rfl⟩
end Go.Proofs.YtndniceeibflcaaGreatDoor

namespace Go.Proofs.YtndniceeibflcaaGreatDoor
open Aw Mp Go.RowKit
set_option linter.unusedSimpArgs false
set_option maxRecDepth 8000

theorem doO_ok {n lm : Int} {ls : List (Int × Int)} {l : List By} {o : By} (h : erO n lm ls l o = 0) : doO n lm ls l o = l ++ [o] := by unfold doO; rw [if_pos h]
end Go.Proofs.YtndniceeibflcaaGreatDoor

namespace Go.Proofs.YtndniceeibflcaaGreatDoor
open Aw Mp Go.RowKit
set_option linter.unusedSimpArgs false
set_option maxRecDepth 8000

theorem sml_of {n lm : Int} {ls : List (Int × Int)} {l : List By} (h : Acc n lm ls l) : Sml (mkM n lm ls l) := by
  have hI := h.inv.2
  have h4 := hI.p4
  have hh := hI.hl
  have hc := hI.c10
  exact ⟨rfl, by simp only [mkM]; omega, by simp only [mkM]; omega, by simp only [mkM]; omega⟩
end Go.Proofs.YtndniceeibflcaaGreatDoor

namespace Go.Proofs.YtndniceeibflcaaGreatDoor
open Aw Mp Go.RowKit
set_option linter.unusedSimpArgs false
set_option maxRecDepth 8000

theorem combR_tail (F : Nat → AV) (G : Nat → Nat → Nat → Nat → AV) : ∀ T : Mem, combR F G [] T [] = T.map fun c => c.map fun ob => { ob with xs := AV.subL F G ob.xs }
  | [] => rfl
  | c :: T => by simp only [combR, List.drop_nil, List.map_cons, combR_tail F G T]
/-- a function is lent a machine; behind it lie other objects. -/
theorem fD {f : FuncId} {ars : List AV} {m m' : Mch} {x : AV} (h : MSpec Tryz.prog f ars (memD m) (fun r N => r = x ∧ N = memD m')) (T : Mem) (Z : List Nat) (hZ : deadL (memD m) (3 + T.length) = Z) (hfa : AV.freeL Z ars = true)
    (hT : (T.map fun c => c.map fun ob => { ob with xs := AV.subL (keepF (memD m) ars) (keepG (memD m) ars) ob.xs }) = T) : FSpec Tryz.prog f ars (memD m) (memD m ++ T) x (memD m' ++ T) := by
  have h2 : Z.contains 2 = false := by
    cases hc : Z.contains 2 with
    | false => rfl
    | true =>
      have hm := List.contains_iff_mem.1 hc
      rw [← hZ] at hm
      unfold deadL at hm
      have := (List.mem_filter.1 hm).2
      simp [liveI, memD] at this
  refine fspec_of h Z rfl ?_ (by rw [← hZ]; congr 1; simp [memD]; omega) hfa ?_ ?_
  · exact ⟨rfl, rfl, trivial⟩
  · simp [freeM, memD, Mch.ob, Mch.od, Mch.cells, AV.freeL, AV.free, strsA_free, -List.contains_eq_mem, h2]
  · show some m'.ob :: none :: some m'.od :: combR _ _ [] T [] = _
    rw [combR_tail, hT]
    rfl

theorem prsA_msub (F : Nat → AV) (G : Nat → Nat → Nat → Nat → AV) (l : List (Int × Int)) : (prsA l).map (AV.sub F G) = prsA l := by rw [← AV.subL_map, prsA_sub]
/-- a machine that was made: its links are never written again. -/
theorem le_new {n lm : Int} {ls : List (Int × Int)} {sl sl' : List AV} (h : leSl (sl.map (frz1 1 2 (prsA ls))) sl') : Le ⟨sl, [some ⟨none, 107, 13, [(mkM n lm ls []).cells (.o 1) (.o 2)]⟩, some ⟨none, 79, 2, prsA ls⟩, some ⟨none, 9, 1, []⟩]⟩ ⟨sl', memD (mkM n lm ls [])⟩ := by
  refine Le.trans (le_frz 1 rfl (prsA_pure ls)) (le_sl' ?_ h)
  simp [frzM, memD, Mch.ob, Mch.od, Mch.cells, AV.sub, AV.subL, mkM, prsA_sub, intsA_sub, gtsA_sub, strsA_sub, stO, MS.zero, strsA, frz1]
theorem new_sub (n lm : Int) (ls : List (Int × Int)) : AV.sub (fun i => AV.o i) (fun i k j off => AV.q i k j off) ((mkM n lm ls []).cells (.o 1) (.o 2)) = (mkM n lm ls []).cells (.o 1) (.o 2) := by
  simp [Mch.cells, AV.sub, AV.subL, intsA_sub, gtsA_sub]
end Go.Proofs.YtndniceeibflcaaGreatDoor
