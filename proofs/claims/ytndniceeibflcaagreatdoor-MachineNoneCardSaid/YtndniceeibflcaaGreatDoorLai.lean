/-
  Parts of several texts in one: MtS, MtB, MtC, MtD, MzB, MzD, McA, MqC, MqE, MqF, MrA, MrB.
-/
import Derived.Test.YtndniceeibflcaaGreatDoorProg
import Derived.WalkKit
import Derived.Lib.ConvBytes
import Derived.LaidEql
import Derived.Lib.ItoaNum
import Derived.Lib.LaidTab
import Derived.KernelRfl
import GoSem.Claims
import GoSem.ClaimJoined
import Derived.Orders
import Derived.Laws.StructEq
import Derived.Maps.Keyed
import Derived.Lib.Strings
import Derived.Maps.AppendAt
import Derived.Laws.Concat
import Derived.MapKept
import Derived.Laws.MakeOwn
import Derived.Scope
import Derived.Laws.BitsLemmas
import Derived.Maps.RangeRun
import Derived.StillTail
import Derived.OrdersIn
import Derived.TacticsIn
import Derived.RangeFuncRecord
import Derived.RangeFuncCalls
import Derived.RangeFuncSeq
import Derived.Lib.Split
import Derived.Lib.AtoiAll
import Derived.Shelf.LaysM
import Derived.Shelf.LaysC
import Derived.Shelf.Strconv.Itoa3
import Derived.Shelf.Strconv.AtoiAll
import Derived.Shelf.Strings.Search3
import Derived.Shelf.Strings.Cut
import Derived.Shelf.Strings.Prefix
import Derived.Shelf.Strings.Split
import Derived.Lib.AppendIntMem
import Derived.Test.YtndniceeibflcaaGreatDoorLaa
import Derived.Test.YtndniceeibflcaaGreatDoorLab
import Derived.Test.YtndniceeibflcaaGreatDoorLac
import Derived.Test.YtndniceeibflcaaGreatDoorLad
import Derived.Test.YtndniceeibflcaaGreatDoorLae
import Derived.Test.YtndniceeibflcaaGreatDoorLag
set_option linter.unusedSimpArgs false
set_option linter.unusedVariables false
namespace Go.Proofs.YtndniceeibflcaaGreatDoor
namespace Aw
end Aw
namespace Mp
end Mp
end Go.Proofs.YtndniceeibflcaaGreatDoor
namespace Go.Proofs.YtndniceeibflcaaGreatDoor
open Go.Shelf
open Go.RowKit Go.Sort Go.Lib in
open Go.RowKit Go.Sort Go.Lib in
theorem Tryz.laysC172 : Go.Proofs.LaysC.n172 Tryz.prog Tryz.laysC172_ren := {
  mixed := by kernel_rfl
  f129 := Tryz.func194.trans (congrArg some (by kernel_rfl))
  f171 := Tryz.func64.trans (congrArg some (by kernel_rfl))
  f172 := Tryz.func97.trans (congrArg some (by kernel_rfl))
  f205 := Tryz.func203.trans (congrArg some (by kernel_rfl))
  f243 := Tryz.func91.trans (congrArg some (by kernel_rfl))
  f244 := Tryz.func137.trans (congrArg some (by kernel_rfl))
  f245 := Tryz.func138.trans (congrArg some (by kernel_rfl))
  f246 := Tryz.func126.trans (congrArg some (by kernel_rfl))
  f247 := Tryz.func176.trans (congrArg some (by kernel_rfl))
  f279 := Tryz.func177.trans (congrArg some (by kernel_rfl))
  f280 := Tryz.func178.trans (congrArg some (by kernel_rfl))
  f281 := Tryz.func179.trans (congrArg some (by kernel_rfl))
  f282 := Tryz.func180.trans (congrArg some (by kernel_rfl))
  f283 := Tryz.func163.trans (congrArg some (by kernel_rfl))
  f284 := Tryz.func164.trans (congrArg some (by kernel_rfl))
  f285 := Tryz.func165.trans (congrArg some (by kernel_rfl))
  f286 := Tryz.func166.trans (congrArg some (by kernel_rfl))
  f287 := Tryz.func201.trans (congrArg some (by kernel_rfl))
  f316 := Tryz.func202.trans (congrArg some (by kernel_rfl))
  f317 := Tryz.func193.trans (congrArg some (by kernel_rfl))
  f318 := Tryz.func195.trans (congrArg some (by kernel_rfl))
  f319 := Tryz.func196.trans (congrArg some (by kernel_rfl))
  f320 := Tryz.func197.trans (congrArg some (by kernel_rfl))
  f321 := Tryz.func210.trans (congrArg some (by kernel_rfl))
  f322 := Tryz.func211.trans (congrArg some (by kernel_rfl))
  f337 := Tryz.func207.trans (congrArg some (by kernel_rfl))
  f338 := Tryz.func208.trans (congrArg some (by kernel_rfl))
  t0 := Tryz.underlying0
  a0 := Tryz.isAgg0
  z0 := Tryz.sizeOf0
  v0 := Tryz.zeroValue0
  t2 := Tryz.underlying2
  a2 := Tryz.isAgg2
  z2 := Tryz.sizeOf2
  v2 := Tryz.zeroValue2
  t3 := Tryz.underlying3
  a3 := Tryz.isAgg3
  z3 := Tryz.sizeOf3
  v3 := Tryz.zeroValue3
  t4 := Tryz.underlying4
  a4 := Tryz.isAgg4
  z4 := Tryz.sizeOf4
  v4 := Tryz.zeroValue4
  t5 := Tryz.underlying5
  a5 := Tryz.isAgg5
  z5 := Tryz.sizeOf5
  v5 := Tryz.zeroValue5
  t9 := Tryz.underlying9
  a9 := Tryz.isAgg9
  z9 := Tryz.sizeOf9
  v9 := Tryz.zeroValue9
  t20 := Tryz.underlying20
  a20 := Tryz.isAgg20
  z20 := Tryz.sizeOf20
  v20 := Tryz.zeroValue20
  t21 := Tryz.underlying21
  a21 := Tryz.isAgg21
  z21 := Tryz.sizeOf21
  v21 := Tryz.zeroValue21
  t37 := Tryz.underlying121
  a37 := Tryz.isAgg121
  z37 := Tryz.sizeOf121
  v37 := Tryz.zeroValue121
  t46 := Tryz.underlying46
  a46 := Tryz.isAgg46
  z46 := Tryz.sizeOf46
  v46 := Tryz.zeroValue46
  t51 := Tryz.underlying99
  a51 := Tryz.isAgg99
  z51 := Tryz.sizeOf99
  v51 := Tryz.zeroValue99
  t53 := Tryz.underlying209
  a53 := Tryz.isAgg209
  z53 := Tryz.sizeOf209
  v53 := Tryz.zeroValue209
  t75 := Tryz.underlying114
  a75 := Tryz.isAgg114
  z75 := Tryz.sizeOf114
  v75 := Tryz.zeroValue114
  t76 := Tryz.underlying144
  a76 := Tryz.isAgg144
  z76 := Tryz.sizeOf144
  v76 := Tryz.zeroValue144
  t85 := Tryz.underlying220
  a85 := Tryz.isAgg220
  z85 := Tryz.sizeOf220
  v85 := Tryz.zeroValue220
  t127 := Tryz.underlying259
  a127 := Tryz.isAgg259
  z127 := Tryz.sizeOf259
  v127 := Tryz.zeroValue259
  t143 := Tryz.underlying260
  a143 := Tryz.isAgg260
  z143 := Tryz.sizeOf260
  v143 := Tryz.zeroValue260
  t145 := Tryz.underlying262
  a145 := Tryz.isAgg262
  z145 := Tryz.sizeOf262
  v145 := Tryz.zeroValue262
  t167 := Tryz.underlying219
  a167 := Tryz.isAgg219
  z167 := Tryz.sizeOf219
  v167 := Tryz.zeroValue219
  t168 := Tryz.underlying222
  a168 := Tryz.isAgg222
  z168 := Tryz.sizeOf222
  v168 := Tryz.zeroValue222
  t171 := Tryz.underlying208
  a171 := Tryz.isAgg208
  z171 := Tryz.sizeOf208
  v171 := Tryz.zeroValue208
  t173 := Tryz.underlying212
  a173 := Tryz.isAgg212
  z173 := Tryz.sizeOf212
  v173 := Tryz.zeroValue212
  t175 := Tryz.underlying251
  a175 := Tryz.isAgg251
  z175 := Tryz.sizeOf251
  v175 := Tryz.zeroValue251
  t210 := Tryz.underlying255
  a210 := Tryz.isAgg255
  z210 := Tryz.sizeOf255
  v210 := Tryz.zeroValue255
  t212 := Tryz.underlying246
  a212 := Tryz.isAgg246
  z212 := Tryz.sizeOf246
  v212 := Tryz.zeroValue246
  t213 := Tryz.underlying247
  a213 := Tryz.isAgg247
  z213 := Tryz.sizeOf247
  t232 := Tryz.underlying263
  a232 := Tryz.isAgg263
  z232 := Tryz.sizeOf263
  v232 := Tryz.zeroValue263
  t233 := Tryz.underlying264
  a233 := Tryz.isAgg264
  z233 := Tryz.sizeOf264
  v233 := Tryz.zeroValue264
  g15 := by kernel_rfl
  g16 := by kernel_rfl
  g17 := by kernel_rfl
  g18 := by kernel_rfl
  g19 := by kernel_rfl
  t80 := Tryz.underlying36
  a80 := Tryz.isAgg36
  z80 := Tryz.sizeOf36
  v80 := Tryz.zeroValue36
  i0 := by kernel_rfl
  i2 := by kernel_rfl
  i3 := by kernel_rfl
  i4 := by kernel_rfl
  i5 := by kernel_rfl
  i9 := by kernel_rfl
  i20 := by kernel_rfl
  i21 := by kernel_rfl
  i37 := by kernel_rfl
  i46 := by kernel_rfl
  i51 := by kernel_rfl
  i53 := by kernel_rfl
  i75 := by kernel_rfl
  i76 := by kernel_rfl
  i80 := by kernel_rfl
  i85 := by kernel_rfl
  i127 := by kernel_rfl
  i143 := by kernel_rfl
  i145 := by kernel_rfl
  i167 := by kernel_rfl
  i168 := by kernel_rfl
  i171 := by kernel_rfl
  i173 := by kernel_rfl
  i175 := by kernel_rfl
  i210 := by kernel_rfl
  i212 := by kernel_rfl
  i232 := by kernel_rfl
  i233 := by kernel_rfl
  m15 := by kernel_rfl
  m16 := by kernel_rfl
  m17 := by kernel_rfl
  m18 := by kernel_rfl
  m19 := by kernel_rfl
  c0 := by kernel_rfl
  c2 := by kernel_rfl
  c3 := by kernel_rfl
  c4 := by kernel_rfl
  c5 := by kernel_rfl
  c9 := by kernel_rfl
  c20 := by kernel_rfl
  c21 := by kernel_rfl
  c37 := by kernel_rfl
  c46 := by kernel_rfl
  c51 := by kernel_rfl
  c53 := by kernel_rfl
  c75 := by kernel_rfl
  c76 := by kernel_rfl
  c80 := by kernel_rfl
  c85 := by kernel_rfl
  c127 := by kernel_rfl
  c143 := by kernel_rfl
  c145 := by kernel_rfl
  c167 := by kernel_rfl
  c168 := by kernel_rfl
  c171 := by kernel_rfl
  c173 := by kernel_rfl
  c175 := by kernel_rfl
  c210 := by kernel_rfl
  c212 := by kernel_rfl
  c213 := by kernel_rfl
  c232 := by kernel_rfl
  c233 := by kernel_rfl }
open Go.RowKit in
theorem Tryz.strconv_Atoi_ok (s : ByteArray) (hmax : s.size ≤ 9223372036854775806) (v : Int) (h : Lib.atoiAll s.data.toList = .ok v) (w : World) :
    Calls Tryz.prog 97 #[.string s] w fun e w' => e = .returned (.tuple #[.int .i64 v, .nilIface]) ∧ (w' = w ∨ ∃ t, w' = Lib.bytesWorld w 5 t) := Any.strconv_Atoi_ok Tryz.laysC172 s hmax v h w
open Go.RowKit in
theorem Tryz.strconv_Atoi_syntax (s : ByteArray) (hlim : s.size ≤ 281474976710656) (h : ∀ v, Lib.atoiAll s.data.toList ≠ .ok v) (h' : Lib.atoiAll s.data.toList ≠ .range) (ev : Value) (w : World) (hv : w.cell? ⟨3, 0, none⟩ = some ev) (hev : ev = .nilIface ∨ ∃ te pe, ev = .iface te pe) :
    Calls Tryz.prog 97 #[.string s] w fun e w' => ∃ N, e = .returned (.tuple #[.int .i64 (0), .iface 222 (.pointer (some ⟨N, 0, none⟩))]) ∧ w.heap.size ≤ N ∧ w'.heap[N]? = some (.cells #[.string ⟨#[65, 116, 111, 105]⟩, .string s, ev] 255 (0, 0)) ∧ Below w.heap.size w w' := Any.strconv_Atoi_syntax Tryz.laysC172 s hlim (by cases q : Lib.atoiAll s.data.toList with | ok v => exact absurd q (h v) | range => exact absurd q h' | _ => rfl) ev w hv hev
open Go.RowKit in
theorem Tryz.strconv_Atoi_range (s : ByteArray) (hlim : s.size ≤ 281474976710656) (h : Lib.atoiAll s.data.toList = .range) (ev : Value) (w : World) (hv : w.cell? ⟨4, 0, none⟩ = some ev) (hev : ev = .nilIface ∨ ∃ te pe, ev = .iface te pe) :
    Calls Tryz.prog 97 #[.string s] w fun e w' => ∃ N, e = .returned (.tuple #[.int .i64 (Lib.atoiSat s.data.toList), .iface 222 (.pointer (some ⟨N, 0, none⟩))]) ∧ w.heap.size ≤ N ∧ w'.heap[N]? = some (.cells #[.string ⟨#[65, 116, 111, 105]⟩, .string s, ev] 255 (0, 0)) ∧ Below w.heap.size w w' := Any.strconv_Atoi_range Tryz.laysC172 s hlim h ev w hv hev
open Go.RowKit Go.Lib in
def Tryz.lays145_ren : Go.Shelf.Ren := ⟨fun | 145 => 62 | 220 => 89 | 219 => 124 | 217 => 159 | 225 => 160 | 224 => 161 | 267 => 162 | 266 => 191 | 314 => 192 | n => n, fun | 9 => 9 | 4 => 4 | 59 => 92 | 3 => 3 | 5 => 5 | 46 => 46 | 146 => 243 | 51 => 99 | n => n, fun | 1 => 1 | n => n⟩
theorem Tryz.lays145 : Go.Proofs.Lays.n145 Tryz.prog Tryz.lays145_ren := {
  mixed := by kernel_rfl
  f145 := Tryz.func62.trans (congrArg some (by kernel_rfl))
  f217 := Tryz.func159.trans (congrArg some (by kernel_rfl))
  f219 := Tryz.func124.trans (congrArg some (by kernel_rfl))
  f220 := Tryz.func89.trans (congrArg some (by kernel_rfl))
  f224 := Tryz.func161.trans (congrArg some (by kernel_rfl))
  f225 := Tryz.func160.trans (congrArg some (by kernel_rfl))
  f266 := Tryz.func191.trans (congrArg some (by kernel_rfl))
  f267 := Tryz.func162.trans (congrArg some (by kernel_rfl))
  f314 := Tryz.func192.trans (congrArg some (by kernel_rfl))
  t3 := Tryz.underlying3
  a3 := Tryz.isAgg3
  z3 := Tryz.sizeOf3
  v3 := Tryz.zeroValue3
  t4 := Tryz.underlying4
  a4 := Tryz.isAgg4
  z4 := Tryz.sizeOf4
  v4 := Tryz.zeroValue4
  t5 := Tryz.underlying5
  a5 := Tryz.isAgg5
  z5 := Tryz.sizeOf5
  v5 := Tryz.zeroValue5
  t9 := Tryz.underlying9
  a9 := Tryz.isAgg9
  z9 := Tryz.sizeOf9
  v9 := Tryz.zeroValue9
  t46 := Tryz.underlying46
  a46 := Tryz.isAgg46
  z46 := Tryz.sizeOf46
  v46 := Tryz.zeroValue46
  t51 := Tryz.underlying99
  a51 := Tryz.isAgg99
  z51 := Tryz.sizeOf99
  v51 := Tryz.zeroValue99
  t59 := Tryz.underlying92
  a59 := Tryz.isAgg92
  z59 := Tryz.sizeOf92
  v59 := Tryz.zeroValue92
  t146 := Tryz.underlying243
  a146 := Tryz.isAgg243
  z146 := Tryz.sizeOf243
  v146 := Tryz.zeroValue243
  g1 := by kernel_rfl }
open Go.RowKit Go.Lib in
theorem Tryz.strings_Cut (s sep : ByteArray) (m : Int) (w : World) (hs : s.size < 4294967281) (hm : w.cell? ⟨1, 0, none⟩ = some (.int .i64 m)) :
    Calls Tryz.prog 62 #[.string s, .string sep] w fun e w' => e = .returned (.tuple #[.string ⟨(Lib.cut s.data.toList sep.data.toList).1.toArray⟩, .string ⟨(Lib.cut s.data.toList sep.data.toList).2.1.toArray⟩, .bool (Lib.cut s.data.toList sep.data.toList).2.2]) ∧ ∃ n, w' = w.drewN n := Any.strings_Cut Tryz.lays145 s sep m w hs hm
def Tryz.lays102_ren : Go.Shelf.Ren := ⟨fun | 102 => 148 | 209 => 185 | 207 => 204 | n => n, fun | 9 => 9 | 4 => 4 | 3 => 3 | n => n, fun | n => n⟩
theorem Tryz.lays102 : Go.Proofs.Lays.n102 Tryz.prog Tryz.lays102_ren := {
  mixed := by kernel_rfl
  f102 := Tryz.func148.trans (congrArg some (by kernel_rfl))
  f207 := Tryz.func204.trans (congrArg some (by kernel_rfl))
  f209 := Tryz.func185.trans (congrArg some (by kernel_rfl))
  t3 := Tryz.underlying3
  a3 := Tryz.isAgg3
  z3 := Tryz.sizeOf3
  v3 := Tryz.zeroValue3
  t4 := Tryz.underlying4
  a4 := Tryz.isAgg4
  z4 := Tryz.sizeOf4
  v4 := Tryz.zeroValue4
  t9 := Tryz.underlying9
  a9 := Tryz.isAgg9
  z9 := Tryz.sizeOf9
  v9 := Tryz.zeroValue9 }
open Go.RowKit Go.Lib in
theorem Tryz.strings_TrimSuffix (s p : ByteArray) (w : World) (hs : s.size ≤ 9223372036854775807) :
    Calls Tryz.prog 148 #[.string s, .string p] w fun e w' => e = .returned (.string ⟨(Lib.trimSuffix s.data.toList p.data.toList).toArray⟩) ∧ w' = w := Any.strings_TrimSuffix Tryz.lays102 s p w hs
def Tryz.lays146_ren : Go.Shelf.Ren := ⟨fun | 146 => 95 | 221 => 136 | 268 => 174 | 138 => 175 | 143 => 125 | 195 => 198 | 197 => 199 | 218 => 200 | 219 => 124 | 260 => 209 | 217 => 159 | 225 => 160 | 224 => 161 | 267 => 162 | 266 => 191 | 314 => 192 | n => n, fun | 9 => 9 | 31 => 27 | 3 => 3 | 4 => 4 | 0 => 0 | 105 => 249 | 21 => 21 | 5 => 5 | 46 => 46 | 119 => 265 | 139 => 268 | 138 => 267 | 146 => 243 | 51 => 99 | n => n, fun | 1 => 1 | 3 => 7 | 4 => 8 | n => n⟩
theorem Tryz.lays146 : Go.Proofs.Lays.n146 Tryz.prog Tryz.lays146_ren := {
  mixed := by kernel_rfl
  f138 := Tryz.func175.trans (congrArg some (by kernel_rfl))
  f143 := Tryz.func125.trans (congrArg some (by kernel_rfl))
  f146 := Tryz.func95.trans (congrArg some (by kernel_rfl))
  f195 := Tryz.func198.trans (congrArg some (by kernel_rfl))
  f197 := Tryz.func199.trans (congrArg some (by kernel_rfl))
  f217 := Tryz.func159.trans (congrArg some (by kernel_rfl))
  f218 := Tryz.func200.trans (congrArg some (by kernel_rfl))
  f219 := Tryz.func124.trans (congrArg some (by kernel_rfl))
  f221 := Tryz.func136.trans (congrArg some (by kernel_rfl))
  f224 := Tryz.func161.trans (congrArg some (by kernel_rfl))
  f225 := Tryz.func160.trans (congrArg some (by kernel_rfl))
  f260 := Tryz.func209.trans (congrArg some (by kernel_rfl))
  f266 := Tryz.func191.trans (congrArg some (by kernel_rfl))
  f267 := Tryz.func162.trans (congrArg some (by kernel_rfl))
  f268 := Tryz.func174.trans (congrArg some (by kernel_rfl))
  f314 := Tryz.func192.trans (congrArg some (by kernel_rfl))
  t0 := Tryz.underlying0
  a0 := Tryz.isAgg0
  z0 := Tryz.sizeOf0
  v0 := Tryz.zeroValue0
  t3 := Tryz.underlying3
  a3 := Tryz.isAgg3
  z3 := Tryz.sizeOf3
  v3 := Tryz.zeroValue3
  t4 := Tryz.underlying4
  a4 := Tryz.isAgg4
  z4 := Tryz.sizeOf4
  v4 := Tryz.zeroValue4
  t5 := Tryz.underlying5
  a5 := Tryz.isAgg5
  z5 := Tryz.sizeOf5
  v5 := Tryz.zeroValue5
  t9 := Tryz.underlying9
  a9 := Tryz.isAgg9
  z9 := Tryz.sizeOf9
  v9 := Tryz.zeroValue9
  t21 := Tryz.underlying21
  a21 := Tryz.isAgg21
  z21 := Tryz.sizeOf21
  v21 := Tryz.zeroValue21
  t31 := Tryz.underlying27
  a31 := Tryz.isAgg27
  z31 := Tryz.sizeOf27
  v31 := Tryz.zeroValue27
  t46 := Tryz.underlying46
  a46 := Tryz.isAgg46
  z46 := Tryz.sizeOf46
  v46 := Tryz.zeroValue46
  t51 := Tryz.underlying99
  a51 := Tryz.isAgg99
  z51 := Tryz.sizeOf99
  v51 := Tryz.zeroValue99
  t105 := Tryz.underlying249
  a105 := Tryz.isAgg249
  z105 := Tryz.sizeOf249
  v105 := Tryz.zeroValue249
  t119 := Tryz.underlying265
  a119 := Tryz.isAgg265
  z119 := Tryz.sizeOf265
  t138 := Tryz.underlying267
  a138 := Tryz.isAgg267
  z138 := Tryz.sizeOf267
  v138 := Tryz.zeroValue267
  t139 := Tryz.underlying268
  a139 := Tryz.isAgg268
  z139 := Tryz.sizeOf268
  v139 := Tryz.zeroValue268
  t146 := Tryz.underlying243
  a146 := Tryz.isAgg243
  z146 := Tryz.sizeOf243
  v146 := Tryz.zeroValue243
  g1 := by kernel_rfl
  g3 := by kernel_rfl
  g4 := by kernel_rfl }
open Go.RowKit Go.Lib in
theorem Tryz.strings_Split (s sep : ByteArray) (m : Int) (w : World) (hs : s.size < 4294967281) (hm : w.cell? ⟨1, 0, none⟩ = some (.int .i64 m)) (h1 : 1 ≤ sep.size) :
    Calls Tryz.prog 95 #[.string s, .string sep] w fun e w' =>
      e = .returned (.slice (some ⟨w.heap.size, 0, none⟩) (Lib.countB s sep + 1) (Lib.countB s sep + 1)) ∧ w' = w.alloc (.cells ((Lib.splitB sep 0 (Lib.countB s sep) s).map Value.string).toArray 9) := Any.strings_Split Tryz.lays146 (by kernel_rfl) s sep m w hs hm h1
end Go.Proofs.YtndniceeibflcaaGreatDoor

namespace Go.Proofs.YtndniceeibflcaaGreatDoor
open Aw Mp Go.RowKit
set_option linter.unusedSimpArgs false

theorem below_drewN {B : Nat} (w : World) (n : Nat) : Below B w (w.drewN n) := ⟨rfl, rfl, rfl, Nat.le_refl _, fun _ _ => rfl⟩

theorem ok62 : okFn Tryz.prog 62 = true := by kernel_rfl
theorem s62 (l : By) (c : UInt8) (hl : l.length < 4294967281) : ASpec Tryz.prog 62 [S l, S [c]] (fun r Ms => r = .t [S (cutB c l).1, S (cutB c l).2.1, B (cutB c l).2.2] ∧ Ms = []) := by
  refine aspec_cl ok62 ?_
  intro w vs A hG hA hv
  simp only [RVL, RV] at hv
  obtain ⟨_, _, rfl, rfl, _, _, rfl, rfl, rfl⟩ := hv
  obtain ⟨m, hm⟩ := hG.maxLen
  refine (Tryz.strings_Cut ⟨l.toArray⟩ ⟨#[c]⟩ m w (by show l.toArray.size < _; simpa using hl) hm).mono ?_
  rintro e w' ⟨rfl, n, rfl⟩
  refine ⟨_, _, rfl, ⟨rfl, rfl⟩, below_drewN w n, fun T _ => ?_⟩
  simp [RV, RVL, cut_one]

theorem ok64 : okFn Tryz.prog 64 = true := by kernel_rfl
theorem s64 (n : Int) (hn : lim n) : ASpec Tryz.prog 64 [I n] (fun r Ms => r = S (Lib.itoa n) ∧ Ms = []) := by
  refine aspec_cl ok64 ?_
  intro w vs A hG hA hv
  simp only [RVL, RV] at hv
  obtain ⟨_, _, rfl, rfl, rfl⟩ := hv
  refine (Tryz.strconv_Itoa n hn.1 hn.2 w hG.pow).mono ?_
  rintro e w' ⟨rfl, k, os, rfl⟩
  exact ⟨_, _, rfl, ⟨rfl, rfl⟩, Lib.below_grow _ w (Nat.le_refl _) k os, fun T _ => by simp [RV]⟩

/-- a text without its last byte, if that is c. -/
def trimB (c : UInt8) (l : By) : By := Lib.trimSuffix l [c]
theorem ok148 : okFn Tryz.prog 148 = true := by kernel_rfl
theorem s148 (l : By) (c : UInt8) (hl : l.length ≤ 1000000000) : ASpec Tryz.prog 148 [S l, S [c]] (fun r Ms => r = S (trimB c l) ∧ Ms = []) := by
  refine aspec_cl ok148 ?_
  intro w vs A hG hA hv
  simp only [RVL, RV] at hv
  obtain ⟨_, _, rfl, rfl, _, _, rfl, rfl, rfl⟩ := hv
  refine (Tryz.strings_TrimSuffix ⟨l.toArray⟩ ⟨#[c]⟩ w (by show l.toArray.size ≤ _; simp; omega)).mono ?_
  rintro e w' ⟨rfl, rfl⟩
  exact ⟨_, _, rfl, ⟨rfl, rfl⟩, Below.refl _ _, fun T _ => by simp [RV, trimB]⟩

theorem ok95 : okFn Tryz.prog 95 = true := by kernel_rfl
theorem s95 (l : By) (c : UInt8) (hl : l.length ≤ 1000000) : ASpec Tryz.prog 95 [S l, S [c]] (fun r Ms => r = .s 1 (strsA (splB c l)) ∧ Ms = []) := by
  refine aspec_cl ok95 ?_
  intro w vs A hG hA hv
  simp only [RVL, RV] at hv
  obtain ⟨_, _, rfl, rfl, _, _, rfl, rfl, rfl⟩ := hv
  obtain ⟨m, hm⟩ := hG.maxLen
  have hsz : (ByteArray.mk l.toArray).size = l.length := by show l.toArray.size = _; simp
  refine (Tryz.strings_Split ⟨l.toArray⟩ ⟨#[c]⟩ m w (by rw [hsz]; omega) hm (Nat.le_refl 1)).mono ?_
  rintro e w' ⟨rfl, rfl⟩
  have hall := Lib.splitB_all ⟨#[c]⟩ (Nat.le_refl 1) 0 _ ⟨l.toArray⟩ rfl
  have hle := Lib.countB_le ⟨#[c]⟩ (Nat.le_refl 1) _ ⟨l.toArray⟩ (Nat.le_refl _)
  rw [hsz] at hle
  have hdat := Lib.splitB_data ⟨#[c]⟩ 0 (Lib.countB ⟨l.toArray⟩ ⟨#[c]⟩) ⟨l.toArray⟩
  have hsp : Lib.splitK [c] 0 (Lib.countB ⟨l.toArray⟩ ⟨#[c]⟩) l = splB c l := by
    rw [← split_one]
    rfl
  obtain ⟨bs, hbs⟩ : ∃ bs, bs = Lib.splitB ⟨#[c]⟩ 0 (Lib.countB ⟨l.toArray⟩ ⟨#[c]⟩) ⟨l.toArray⟩ := ⟨_, rfl⟩
  rw [← hbs] at hall hdat ⊢
  have hd2 : bs.map (·.data.toList) = splB c l := by rw [hdat]; exact hsp
  have hlen : (splB c l).length = bs.length := by rw [← hd2]; simp
  refine ⟨_, _, rfl, ⟨rfl, rfl⟩, (Below.refl _ w).alloc (Nat.le_refl _) _, fun T hT => ?_⟩
  simp only [RV, R]
  refine ⟨_, _, bs.map Value.string, by rw [strsA_len, hlen, hall], by rw [strsA_len, hlen, hall]; exact Nat.le_refl _, by simp only [maxLen]; omega, by intro x hx; obtain ⟨q, _, rfl⟩ := List.mem_map.1 hx; rfl, ?_, fun _ => ⟨w.heap.size, 0, rfl, by simp, fun h => absurd (hA _ (hT _ h)) (Nat.lt_irrefl _), fun j u hu => ?_⟩⟩
  · rw [← hd2]
    have key : ∀ (w' : World) (bs : List ByteArray), RL w' T noHv (strsA (bs.map (·.data.toList))) (bs.map Value.string) := by
      intro w' bs
      induction bs with
      | nil => simp [strsA, RL]
      | cons b bs ih =>
        simp only [strsA, List.map_cons, RL] at ih ⊢
        exact ⟨[.string b], _, rfl, ⟨by cases b; rfl, rfl⟩, ih⟩
    exact key _ bs
  · rw [Nat.zero_add]
    have hn := heap_alloc_new w (.cells (bs.map Value.string).toArray 9)
    rw [cell_of_row _ w.heap.size _ _ _ _ hn]
    simpa using hu

/-- how a text is read as a number: the number, and whether there is an error. -/
def atoiB (l : By) : Int × Bool := match Lib.atoiAll l with | .ok v => (v, true) | .range => (Lib.atoiSat l, false) | _ => (0, false)
theorem ok97 : okFn Tryz.prog 97 = true := by kernel_rfl
theorem s97 (l : By) (hl : l.length ≤ 1000000) : ASpec Tryz.prog 97 [S l] (fun r Ms => (((atoiB l).2 = true ∧ r = .t [I (atoiB l).1, .v .nilIface]) ∨ ((atoiB l).2 = false ∧ ∃ t v, r = .t [I (atoiB l).1, .v (.iface t v)])) ∧ Ms = []) := by
  refine aspec_cl ok97 ?_
  intro w vs A hG hA hv
  simp only [RVL, RV] at hv
  obtain ⟨_, _, rfl, rfl, rfl⟩ := hv
  have hsz : (ByteArray.mk l.toArray).size = l.length := by show l.toArray.size = _; simp
  have hdt : (ByteArray.mk l.toArray).data.toList = l := by simp
  cases h : Lib.atoiAll l with
  | ok v =>
    refine (Tryz.strconv_Atoi_ok ⟨l.toArray⟩ (by rw [hsz]; omega) v (by rw [hdt]; exact h) w).mono ?_
    rintro e w' ⟨rfl, hw⟩
    refine ⟨_, .t [I v, .v .nilIface], rfl, ⟨.inl ⟨by simp [atoiB, h], by simp [atoiB, h]⟩, rfl⟩, ?_, fun T _ => by simp [RV, RVL]⟩
    rcases hw with rfl | ⟨t, rfl⟩
    · exact Below.refl _ _
    · exact ⟨rfl, rfl, rfl, by rw [Lib.bytesWorld_size]; exact Nat.le_succ _, fun j hj => Lib.bytesWorld_at_old w 5 t j hj⟩
  | range =>
    obtain ⟨te, pe, hc⟩ := hG.rng
    refine (Tryz.strconv_Atoi_range ⟨l.toArray⟩ (by rw [hsz]; omega) (by rw [hdt]; exact h) _ w hc (.inr ⟨te, pe, rfl⟩)).mono ?_
    rintro e w' ⟨N, rfl, _, _, hb⟩
    exact ⟨_, .t [I (Lib.atoiSat l), .v (.iface 222 (.pointer (some ⟨N, 0, none⟩)))], rfl, ⟨.inr ⟨by simp [atoiB, h], 222, .pointer (some ⟨N, 0, none⟩), by simp [atoiB, h]⟩, rfl⟩, hb, fun T _ => by simp [RV, RVL]⟩
  | _ =>
    obtain ⟨te, pe, hc⟩ := hG.syn
    refine (Tryz.strconv_Atoi_syntax ⟨l.toArray⟩ (by rw [hsz]; omega) (fun v e => by rw [hdt, h] at e; cases e) (fun e => by rw [hdt, h] at e; cases e) _ w hc (.inr ⟨te, pe, rfl⟩)).mono ?_
    rintro e w' ⟨N, rfl, _, _, hb⟩
    exact ⟨_, .t [I 0, .v (.iface 222 (.pointer (some ⟨N, 0, none⟩)))], rfl, ⟨.inr ⟨by simp [atoiB, h], 222, .pointer (some ⟨N, 0, none⟩), by simp [atoiB, h]⟩, rfl⟩, hb, fun T _ => by simp [RV, RVL]⟩
end Go.Proofs.YtndniceeibflcaaGreatDoor

namespace Go.Proofs.YtndniceeibflcaaGreatDoor
open Aw Mp Go.RowKit
set_option linter.unusedSimpArgs false

theorem mod2 (b : Int) : (b.tmod 1000003 + 1000003).tmod 1000003 = b % 1000003 := by
  rcases Int.le_total 0 b with h | h
  · rw [Int.tmod_eq_emod_of_nonneg h, Int.tmod_eq_emod_of_nonneg (by omega)]
    omega
  · obtain ⟨c, rfl⟩ : ∃ c, b = -c := ⟨-b, by omega⟩
    rw [Int.neg_tmod, Int.tmod_eq_emod_of_nonneg (show 0 ≤ c by omega), Int.tmod_eq_emod_of_nonneg (by omega)]
    omega
theorem tmod_lim (b : Int) : -1000003 < b.tmod 1000003 ∧ b.tmod 1000003 < 1000003 := by
  rcases Int.le_total 0 b with h | h
  · rw [Int.tmod_eq_emod_of_nonneg h]; omega
  · obtain ⟨c, rfl⟩ : ∃ c, b = -c := ⟨-b, by omega⟩
    rw [Int.neg_tmod, Int.tmod_eq_emod_of_nonneg (by omega)]; omega
theorem sum_take {b : Int} {l : By} {k : Nat} (h : k < l.length) : sumB b (l.take (k + 1)) = (sumB b (l.take k) * 257 + (l[k].toNat : Int) + 1).tmod 1000003 := by
  have hlim := (sumB_lim b (l.take k)).1
  rw [List.take_add_one, List.getElem?_eq_getElem h]
  simp only [Option.toList_some]
  unfold sumB at hlim ⊢
  rw [List.foldl_append, Int.tmod_eq_emod_of_nonneg (by omega)]
  rfl

theorem ok28 : okFn Tryz.prog 28 = true := by kernel_rfl
theorem s28 (b : Int) (l : By) (hl : l.length ≤ 1000000) : ASpec Tryz.prog 28 [I b, S l] (fun r Ms => r = I (sumB b l) ∧ Ms = []) := by
  refine aspec_of (own := []) Tryz.func28 rfl ok28 ?_
  have ht := tmod_lim b
  simp only [wB, awp, binC, arithC, cmpC, asI, asN, lenA, St.ev, St.step, setS, killS, AV.kill, AV.killL, Mem.kill, Nat.reduceAdd, Nat.reduceSub, Int.reduceAdd, Int.reduceSub, Int.reduceEq, isU, asStr, lenK, io5, us9, bytesA_len, Tryz.ntmps28, mod2]
  refine ⟨by unfold lim; omega, hl, ?_⟩
  refine swp_loop' (fun k : Nat => ⟨[I b, S l, .bot, .bot, .bot, I (sumB b (l.take k)), .bot, .bot, .bot, .bot, .bot, .bot, .bot, .s 1 (bytesA l), I l.length, I k, .bot, .bot, .bot, .bot, .bot, .bot, .bot, .bot, .bot, .bot, .bot, .bot], []⟩) (fun k => k ≤ l.length) (fun k => l.length - k) 0 (le_sl (by simp [leSl, sumB])) (Nat.zero_le _) ?_
  intro k hk
  refine awp_sound (own := []) _ _ _ _ _ ?_
  simp only [wB, awp, binC, cmpC, asB, asI, St.ev, St.step, setS, killS, AV.kill, AV.killL, Mem.kill, Nat.reduceAdd, Int.reduceAdd]
  by_cases h : k < l.length
  · have h' : (k : Int) < l.length := by omega
    have hs := sumB_lim b (l.take k)
    have hc : (l[k].toNat : Int) ≤ 255 := by have := l[k].toNat_lt; omega
    simp only [wB, awp, binC, idxC, arithC, cmpC, asP, asS, asI, asN, loadA, St.ev, St.step, setS, killS, AV.kill, AV.killL, Mem.kill, AV.cells, AV.flat, AV.single, Nat.reduceAdd, Int.reduceAdd, Int.reduceEq, isU, io3, io5, wrap_byte, decide_eq_true h', Int.toNat_natCast, aget_bytes h]
    refine ⟨by omega, by unfold lim; omega, by unfold lim; omega, by unfold lim; omega, by unfold lim; omega, k + 1, ?_, by omega, by omega⟩
    rw [sum_take h]
    exact le_sl (by simp [leSl])
  · have h' : ¬ (k : Int) < l.length := by omega
    simp only [wB, awp, asN, St.ev, St.step, setS, killS, AV.kill, AV.killL, Mem.kill, Nat.reduceAdd, Int.reduceAdd, decide_eq_false h']
    refine aend_frz rfl ⟨?_, rfl⟩
    rw [List.take_of_length_le (by omega)]
    rfl

theorem nDigits_le : ∀ (k u : Nat), u < 10 ^ (k + 1) → Lib.nDigits u ≤ k + 1
  | 0, u, h => by rw [Lib.nDigits_small (by simpa using h)]; exact Nat.le_refl _
  | k + 1, u, h => by
    by_cases hs : u < 10
    · rw [Lib.nDigits_small hs]; omega
    · rw [Lib.nDigits_big hs]
      have := nDigits_le k (u / 10) (by rw [Nat.pow_succ] at h; omega)
      omega
theorem dec_len {u : Nat} (h : u ≤ 1000000000) : (Lib.decDigits u).length ≤ 10 := by
  rw [Lib.decDigits_length]
  exact nDigits_le 9 u (by omega)
theorem itoa_len {n : Int} (h0 : 0 ≤ n) (h : n ≤ 1000000000) : (Lib.itoa n).length ≤ 10 := by
  unfold Lib.itoa
  rw [if_neg (by omega)]
  exact dec_len (by omega)
end Go.Proofs.YtndniceeibflcaaGreatDoor

namespace Go.Proofs.YtndniceeibflcaaGreatDoor
open Aw Mp Go.RowKit
set_option linter.unusedSimpArgs false

theorem acall_e {P : Program} {f : FuncId} {xs : List AV} {M : Mem} {K : HK (AV → Mem → Prop)} {post : AV → Prop} (spec : ASpec P f xs (fun r Ms => post r ∧ Ms = [])) (ha : AV.pureL xs = true) (h : ∀ x, post x → x.pure = true ∧ K.k x M) : ACall P f xs M (K := K) := by
  refine ⟨false, xs, _, coel_pure ha, spec, ?_⟩
  rintro r Ms ⟨hp, rfl⟩
  obtain ⟨h1, h2⟩ := h r hp
  refine ⟨fun e => (by cases e), ?_⟩
  rw [AV.up, AV.sub_pure _ _ _ h1]
  simpa using h2
theorem aget_strs' {l : List By} {j : Nat} {y : By} (h : l[j]? = some y) (K : HK (AV → Prop)) : @AGet (strsA l) j K = K.k (S y) := by simp [AGet, strsA, h]

theorem ok106 : okFn Tryz.prog 106 = true := by kernel_rfl
theorem s106_of (l : By) (x y : By) (n : Int) (hl : l.length ≤ 1000000) (hx : (splB 10 (trimB 10 l)).getLast? = some x) (hc : (cutB 32 x).1 = y) (hy : (atoiB y).1 = n) (hxl : x.length ≤ 1000000) (hyl : y.length ≤ 1000000) : ASpec Tryz.prog 106 [S l] (fun r Ms => r = I n ∧ Ms = []) := by
  refine aspec_of (own := []) Tryz.func106 rfl ok106 ?_
  simp only [wB, awp, asN, St.ev, St.step, setS, killS, AV.kill, AV.killL, Mem.kill, Nat.reduceAdd, Nat.reduceSub, Int.reduceAdd, Int.reduceSub, Tryz.ntmps106]
  refine acall_v (s148 l 10 (by omega)) rfl rfl ?_
  simp only [wB, St.ev, St.step, setS, killS, AV.kill, AV.killL, Mem.kill]
  have htl : (trimB 10 l).length ≤ 1000000 := by
    unfold trimB Lib.trimSuffix
    split
    · simp; omega
    · exact hl
  refine acall_v (s95 (trimB 10 l) 10 htl) rfl rfl ?_
  have hne : 0 < (splB 10 (trimB 10 l)).length := List.length_pos_iff.2 (splB_ne _ _)
  have hlen : (splB 10 (trimB 10 l)).length ≤ 1000001 := by
    have key : ∀ q : By, (splB 10 q).length ≤ q.length + 1 := by
      intro q
      induction q with
      | nil => simp [splB]
      | cons b q ih =>
        unfold splB
        split
        · simp only [List.length_cons]; omega
        · split
          · rename_i z r e; rw [e] at ih; simp only [List.length_cons] at ih ⊢; omega
          · simp
    have := key (trimB 10 l)
    omega
  have hat : (splB 10 (trimB 10 l))[(((splB 10 (trimB 10 l)).length : Int) - 1).toNat]? = some x := by
    rw [List.getLast?_eq_getElem?] at hx
    rw [show (((splB 10 (trimB 10 l)).length : Int) - 1).toNat = (splB 10 (trimB 10 l)).length - 1 by omega]
    exact hx
  simp only [wB, awp, binC, idxC, arithC, cmpC, asP, asS, asI, asN, lenA, loadA, St.ev, St.step, setS, killS, AV.kill, AV.killL, Mem.kill, AV.cells, AV.flat, AV.single, Nat.reduceAdd, Int.reduceAdd, isU, lenK, strsA_len, aget_strs' hat]
  refine ⟨by unfold lim; omega, by omega, acall_v (s62 x 32 (by omega)) rfl rfl ?_⟩
  simp only [wB, awp, asT, asN, St.ev, St.step, setS, killS, AV.kill, AV.killL, Mem.kill, Nat.reduceAdd, Int.reduceAdd]
  refine acall_e (s97 _ (by rw [hc]; exact hyl)) rfl ?_
  rintro r (⟨_, rfl⟩ | ⟨_, t, v, rfl⟩)
  · refine ⟨rfl, ?_⟩
    simp only [wB, awp, asT, asN, St.ev, St.step, setS, killS, AV.kill, AV.killL, Mem.kill, Nat.reduceAdd, Int.reduceAdd]
    exact aend_frz rfl ⟨by rw [hc, hy]; rfl, rfl⟩
  · refine ⟨rfl, ?_⟩
    simp only [wB, awp, asT, asN, St.ev, St.step, setS, killS, AV.kill, AV.killL, Mem.kill, Nat.reduceAdd, Int.reduceAdd]
    exact aend_frz rfl ⟨by rw [hc, hy]; rfl, rfl⟩
theorem s106 (l : List By) (hl : l.length ≤ 10000) (ho : ∀ o ∈ l, ordB o = true) : ASpec Tryz.prog 106 [S (lg 0 l)] (fun r Ms => r = I (sumL 0 l) ∧ Ms = []) := by
  have hsz := lg_size l 0 ho
  have hlim := sumL_lim l
  rcases List.eq_nil_or_concat l with rfl | ⟨l, o, rfl⟩
  · exact s106_of (lg 0 []) [] [] 0 (by simp [lg]) (by simp [trimB, lg, trim_nil, splB]) rfl rfl (by simp) (by simp)
  · rw [List.concat_eq_append] at *
    obtain ⟨_, h2, h3⟩ := (ordB_iff o).1 (ho o (by simp))
    have hil := itoa_len hlim.1 (by omega)
    refine s106_of (lg 0 (l ++ [o])) _ (Lib.itoa (sumL 0 (l ++ [o]))) _ (by omega) (last_line l o h3) (by rw [cutB_at 32 _ _ (itoa_no hlim.1 32 (by decide))]) ?_ (by simp only [List.length_append, List.length_cons]; omega) (by omega)
    simp [atoiB, atoi_itoa hlim.1 (by omega)]

theorem ok74 : okFn Tryz.prog 74 = true := by kernel_rfl
theorem s74 (l : List By) (o : By) (hl : l.length ≤ 10000) (ho : ∀ o ∈ l, ordB o = true) (hol : o.length ≤ 30) : ASpec Tryz.prog 74 [S (lg 0 l), S o] (fun r Ms => r = S (lg 0 (l ++ [o])) ∧ Ms = []) := by
  have hsz := lg_size l 0 ho
  have hs := sumB_lim (sumL 0 l) o
  have hil := itoa_len hs.1 (by omega)
  refine aspec_of (own := []) Tryz.func74 rfl ok74 ?_
  simp only [wB, awp, asN, St.ev, St.step, setS, killS, AV.kill, AV.killL, Mem.kill, Nat.reduceAdd, Nat.reduceSub, Int.reduceAdd, Int.reduceSub, Tryz.ntmps74]
  refine acall_v (s106 l hl ho) rfl rfl ?_
  simp only [wB, St.ev, St.step, setS, killS, AV.kill, AV.killL, Mem.kill]
  refine acall_v (s28 _ o (by omega)) rfl rfl ?_
  simp only [wB, St.ev, St.step, setS, killS, AV.kill, AV.killL, Mem.kill]
  refine acall_v (s64 _ (by unfold lim; omega)) rfl rfl ?_
  simp only [wB, awp, binC, eqC, asG, asB, asI, asN, St.ev, St.step, setS, killS, AV.kill, AV.killL, Mem.kill, Nat.reduceLeDiff, asStr, strC]
  refine ⟨by omega, by omega, by omega, by omega, aend_frz rfl ⟨?_, rfl⟩⟩
  rw [lg_last]
  simp [frz, AV.sub]

end Go.Proofs.YtndniceeibflcaaGreatDoor

namespace Go.Proofs.YtndniceeibflcaaGreatDoor
open Aw Mp Go.RowKit
set_option linter.unusedSimpArgs false

def idxP (l : List Int) (p : Int → Bool) : Int := match l.findIdx? p with | some i => (i : Int) | none => -1
theorem idxP_some {l : List Int} {p : Int → Bool} {k : Nat} (h : k < l.length) (hno : ∀ j, j < k → ∀ h : j < l.length, p l[j] = false) (hx : p l[k] = true) : idxP l p = k := by
  have : l.findIdx? p = some k := by
    rw [List.findIdx?_eq_some_iff_getElem]
    exact ⟨h, hx, fun j hj => by rw [hno j hj (by omega)]; simp⟩
  simp [idxP, this]
theorem idxP_none {l : List Int} {p : Int → Bool} (hno : ∀ j, ∀ h : j < l.length, p l[j] = false) : idxP l p = -1 := by
  have : l.findIdx? p = none := by
    rw [List.findIdx?_eq_none_iff]
    intro y hy
    obtain ⟨j, hj, rfl⟩ := List.mem_iff_getElem.1 hy
    exact hno j hj
  simp [idxP, this]
theorem idxP_any (l : List Int) (p : Int → Bool) : decide (0 ≤ idxP l p) = l.any p := by
  unfold idxP
  cases h : l.findIdx? p with
  | none =>
    rw [List.findIdx?_eq_none_iff] at h
    have : l.any p = false := by rw [List.any_eq_false]; intro x hx; rw [h x hx]; simp
    simp [this]
  | some i =>
    rw [List.findIdx?_eq_some_iff_getElem] at h
    obtain ⟨hi, hx, _⟩ := h
    have : l.any p = true := List.any_eq_true.2 ⟨_, List.getElem_mem hi, hx⟩
    simp [this]

theorem ok107 : okFn Tryz.prog 107 = true := by kernel_rfl
theorem s107 (l : List Int) (p : Int → Bool) (f : FuncId) (cap : List AV) (hl : l.length ≤ 1000000) (hc : AV.pureL cap = true) (hs : ∀ z ∈ l, ASpec Tryz.prog f (I z :: cap) (fun r Ms => r = B (p z) ∧ Ms = [])) :
    ASpec Tryz.prog 107 [.s 1 (intsA l), .f (.func f) cap] (fun r Ms => r = I (idxP l p) ∧ Ms = []) := by
  refine aspec_of (own := []) Tryz.func107 rfl ok107 ?_
  simp only [wB, awp, asN, lenA, St.ev, St.step, setS, killS, AV.kill, AV.killL, Mem.kill, Nat.reduceAdd, Nat.reduceSub, Int.reduceAdd, Int.reduceSub, lenK, Tryz.ntmps107]
  refine swp_loop' (fun k : Nat => ⟨[.s 1 (intsA l), .f (.func f) cap, .bot, .bot, .bot, .bot, .bot, I l.length, I k, .bot, .bot, .bot, .bot, .bot, .bot, .bot, .bot, .bot, .bot], []⟩) (fun k => k ≤ l.length ∧ ∀ j, j < k → ∀ h : j < l.length, p l[j] = false) (fun k => l.length - k) 0 (le_sl (by simp [leSl, intsA_len])) ⟨Nat.zero_le _, by omega⟩ ?_
  rintro k ⟨hk, hno⟩
  refine awp_sound (own := []) _ _ _ _ _ ?_
  simp only [wB, awp, binC, cmpC, asB, asI, St.ev, St.step, setS, killS, AV.kill, AV.killL, Mem.kill, Nat.reduceAdd, Int.reduceAdd]
  by_cases h : k < l.length
  · have h' : (k : Int) < (l.length : Int) := by omega
    simp only [wB, awp, idxC, asP, asS, asF, asI, asN, loadA, St.ev, St.step, setS, killS, AV.kill, AV.killL, Mem.kill, AV.cells, AV.flat, AV.single, Nat.reduceAdd, Int.reduceAdd, decide_eq_true h', aget_ints h, Int.toNat_natCast]
    refine ⟨by omega, acall_v (hs l[k] (List.getElem_mem h)) (by simp [AV.pureL, AV.pure, hc]) rfl ?_⟩
    cases hx : p l[k] with
    | true =>
      simp only [wB, awp, asB, asN, St.ev, St.step, setS, killS, AV.kill, AV.killL, Mem.kill, Nat.reduceAdd, Int.reduceAdd]
      exact aend_frz rfl ⟨by rw [idxP_some h hno hx]; rfl, rfl⟩
    | false =>
      simp only [wB, awp, binC, arithC, cmpC, asB, asI, St.ev, St.step, setS, killS, AV.kill, AV.killL, Mem.kill, Nat.reduceAdd, Int.reduceAdd, isU]
      exact ⟨by unfold lim; omega, k + 1, le_sl (by simp [leSl, intsA_len]), ⟨h, upto hno fun _ => hx⟩, by omega⟩
  · have h' : ¬ (k : Int) < (l.length : Int) := by omega
    simp only [wB, awp, asN, St.ev, St.step, setS, killS, AV.kill, AV.killL, Mem.kill, Nat.reduceAdd, Int.reduceAdd, Int.reduceNeg, decide_eq_false h']
    exact aend_frz rfl ⟨by rw [idxP_none fun j hj => hno j (by omega) hj]; rfl, rfl⟩

theorem ok75 : okFn Tryz.prog 75 = true := by kernel_rfl
theorem s75 (l : List Int) (p : Int → Bool) (f : FuncId) (cap : List AV) (hl : l.length ≤ 1000000) (hc : AV.pureL cap = true) (hs : ∀ z ∈ l, ASpec Tryz.prog f (I z :: cap) (fun r Ms => r = B (p z) ∧ Ms = [])) :
    ASpec Tryz.prog 75 [.s 1 (intsA l), .f (.func f) cap] (fun r Ms => r = B (l.any p) ∧ Ms = []) := by
  refine aspec_of (own := []) Tryz.func75 rfl ok75 ?_
  simp only [wB, awp, asN, St.ev, St.step, setS, killS, AV.kill, AV.killL, Mem.kill, Nat.reduceAdd, Nat.reduceSub, Int.reduceAdd, Int.reduceSub, Tryz.ntmps75]
  refine acall_v (s107 l p f cap hl hc hs) (by simp [AV.pureL, AV.pure, hc]) rfl ?_
  simp only [wB, awp, binC, cmpC, asI, asN, St.ev, St.step, setS, killS, AV.kill, AV.killL, Mem.kill, idxP_any]
  exact aend_frz rfl ⟨rfl, rfl⟩

end Go.Proofs.YtndniceeibflcaaGreatDoor

namespace Go.Proofs.YtndniceeibflcaaGreatDoor
open Aw Mp Go.RowKit
set_option linter.unusedSimpArgs false

/-- the first numbers of which something holds. -/
def upL (k : Nat) (p : Int → Bool) : List Int := ((List.range k).map fun (i : Nat) => (i : Int)).filter p
theorem upL_true {k : Nat} {p : Int → Bool} (h : p k = true) : upL (k + 1) p = upL k p ++ [(k : Int)] := by simp [upL, List.range_succ, h]
theorem upL_false {k : Nat} {p : Int → Bool} (h : p k = false) : upL (k + 1) p = upL k p := by simp [upL, List.range_succ, h]
theorem upL_len (k : Nat) (p : Int → Bool) : (upL k p).length ≤ k := by
  have := List.length_filter_le p ((List.range k).map fun (i : Nat) => (i : Int))
  simpa [upL] using this

theorem ok144 : okFn Tryz.prog 144 = true := by kernel_rfl
theorem s144 (n : Int) (ls : List (Int × Int)) (z : Int) (hn : n ≤ 100) (hl : ls.length ≤ 1000000) : ASpec Tryz.prog 144 [trapA n ls, I z] (fun r Ms => r = .s 1 (intsA (upL n.toNat (lnk ls z))) ∧ Ms = []) := by
  refine aspec_of (own := [5]) Tryz.func144 rfl ok144 ?_
  simp only [wB, awp, asP, asN, loadA, Aw.newRow, St.ev, St.step, setS, killS, AV.kill, AV.killL, Mem.kill, AV.cells, AV.flat, AV.single, AV.cellular, AV.pure, AV.pureL, Nat.reduceAdd, Nat.reduceEqDiff, Nat.reduceSub, Nat.reduceLeDiff, Int.reduceAdd, Int.reduceSub, Tryz.ntmps144, trapA]
  refine swp_loop' (fun k : Nat => ⟨[.bot, I z, .p (.g [I n, .s 2 (prsA ls)]) 0, .bot, .bot, .o 0, .bot, .bot, I n, I k, .bot, .bot, .bot, .bot, .bot, .bot, .bot, .bot, .bot, .bot, .bot, .bot], [some ⟨none, 3, 1, intsA (upL k (lnk ls z))⟩]⟩) (fun k => k ≤ n.toNat) (fun k => n.toNat - k) 0 (le_sl (by simp [leSl])) (Nat.zero_le _) ?_
  intro k hk
  refine awp_sound (own := [5]) _ _ _ _ _ ?_
  simp only [wB, awp, binC, cmpC, asB, asI, St.ev, St.step, setS, killS, AV.kill, AV.killL, Mem.kill, Nat.reduceAdd, Nat.reduceEqDiff, Int.reduceAdd]
  by_cases h : (k : Int) < n
  · simp only [wB, awp, asP, asN, loadA, St.ev, St.step, setS, killS, AV.kill, AV.killL, Mem.kill, AV.cells, AV.flat, AV.single, Nat.reduceAdd, Nat.reduceEqDiff, Nat.reduceLeDiff, Int.reduceAdd, decide_eq_true h]
    refine acall_v (s184 n ls z k hl) rfl rfl ?_
    cases hz : lnk ls z k with
    | true =>
      simp only [wB, awp, binC, arithC, cmpC, asO, asS, asB, asI, asN, obA, St.ev, St.step, setS, killS, AV.kill, AV.killL, Mem.kill, AV.cells, AV.flat, AV.single, AV.cellular, AV.size, AV.pure, AV.pureL, Value.oneCell', Nat.reduceAdd, Nat.reduceEqDiff, Nat.reduceMul, Nat.reduceLeDiff, Int.reduceAdd, Int.reduceMul, isU, intsA_kill]
      have := upL_len k (lnk ls z)
      exact ⟨⟨by omega, by decide⟩, ⟨by omega, by omega⟩, by unfold lim; omega, k + 1, by rw [upL_true hz, ← intsA_app]; exact le_sl (by simp [leSl]), by omega, by omega⟩
    | false =>
      simp only [wB, awp, binC, arithC, cmpC, asB, asI, St.ev, St.step, setS, killS, AV.kill, AV.killL, Mem.kill, Nat.reduceAdd, Nat.reduceEqDiff, Int.reduceAdd, isU]
      exact ⟨by unfold lim; omega, k + 1, by rw [upL_false hz]; exact le_sl (by simp [leSl]), by omega, by omega⟩
  · simp only [wB, awp, asN, St.ev, St.step, setS, killS, AV.kill, AV.killL, Mem.kill, Nat.reduceAdd, Nat.reduceEqDiff, Int.reduceAdd, decide_eq_false h]
    refine aend_frz rfl ⟨?_, rfl⟩
    have : k = n.toNat := by omega
    subst this
    simp [frz, AV.sub, intsA_pure]

theorem ok103 : okFn Tryz.prog 103 = true := by kernel_rfl
theorem s103 (n : Int) (ls : List (Int × Int)) (z : Int) (hl : ls.length ≤ 1000000) : ASpec Tryz.prog 103 [trapA n ls, I z] (fun r Ms => r = (if vT n ls ≠ 0 then .t [.s 1 [], I (vT n ls)] else if 0 ≤ z ∧ z < n then .t [.s 1 (intsA (upL n.toNat (lnk ls z))), I 0] else .t [.s 1 [], I 4]) ∧ Ms = []) := by
  refine aspec_of (own := [4]) Tryz.func103 rfl ok103 ?_
  simp only [wB, awp, asP, asN, loadA, Aw.newRow, St.ev, St.step, setS, killS, AV.kill, AV.killL, Mem.kill, AV.cells, AV.flat, AV.single, AV.cellular, AV.pure, AV.pureL, Nat.reduceAdd, Nat.reduceEqDiff, Nat.reduceSub, Nat.reduceLeDiff, Int.reduceAdd, Int.reduceSub, Tryz.ntmps103, trapA]
  refine acall_v (s65 n ls hl) rfl rfl ?_
  by_cases h : ¬ vT n ls = 0
  · simp only [wB, awp, binC, cmpC, asB, asI, asN, Aw.newRow, St.ev, St.step, setS, killS, AV.kill, AV.killL, Mem.kill, Nat.reduceAdd, Nat.reduceEqDiff, Int.reduceAdd, decide_eq_true h, decide_eq_false h]
    exact aend_frz rfl ⟨by rw [if_pos h]; simp [frz, AV.sub, AV.subL, AV.pureL], rfl⟩
  have hv : vT n ls = 0 := Decidable.not_not.1 h
  have hn : n ≤ 6 := by
    unfold vT at hv
    split at hv
    · omega
    · omega
  simp only [wB, awp, binC, cmpC, asP, asB, asI, asN, loadA, St.ev, St.step, setS, killS, AV.kill, AV.killL, Mem.kill, AV.cells, AV.flat, AV.single, Nat.reduceAdd, Nat.reduceEqDiff, Nat.reduceLeDiff, Int.reduceAdd, decide_eq_true hv]
  refine acall_v (s117 n ls z) rfl rfl ?_
  by_cases hz : 0 ≤ z ∧ z < n
  · simp only [wB, awp, asP, asB, loadA, St.ev, St.step, setS, killS, AV.kill, AV.killL, Mem.kill, AV.cells, AV.flat, AV.single, Nat.reduceAdd, Nat.reduceEqDiff, Nat.reduceLeDiff, Int.reduceAdd, decide_eq_true hz]
    refine acall_v (s144 n ls z (by omega) hl) rfl rfl ?_
    simp only [wB, awp, asN, St.ev, St.step, setS, killS, AV.kill, AV.killL, Mem.kill, Nat.reduceEqDiff]
    exact aend_frz rfl ⟨by rw [if_neg h, if_pos hz]; simp [frz, AV.sub, AV.subL, AV.pureL], rfl⟩
  · simp only [wB, awp, asB, asN, Aw.newRow, St.ev, St.step, setS, killS, AV.kill, AV.killL, Mem.kill, Nat.reduceAdd, Nat.reduceEqDiff, Int.reduceAdd, decide_eq_false hz]
    exact aend_frz rfl ⟨by rw [if_neg h, if_neg hz]; simp [frz, AV.sub, AV.subL, AV.pureL], rfl⟩
end Go.Proofs.YtndniceeibflcaaGreatDoor

namespace Go.Proofs.YtndniceeibflcaaGreatDoor
open Aw Mp Go.RowKit
set_option linter.unusedSimpArgs false

/-- a gate. -/
structure G4 where
  k : Int
  a : Int
  b : Int
  t : Int
  deriving DecidableEq, Inhabited, Repr

def gA (g : G4) : AV := .g [I g.k, I g.a, I g.b, I g.t]
def gtsA (l : List G4) : List AV := l.map gA
theorem gtsA_len (l : List G4) : (gtsA l).length = l.length := by simp [gtsA]
theorem aget_gts {l : List G4} {j : Nat} (h : j < l.length) (K : HK (AV → Prop)) : @AGet (gtsA l) j K = K.k (.g [I l[j].k, I l[j].a, I l[j].b, I l[j].t]) := by simp [AGet, gtsA, gA, h]
theorem gtsA_pure (l : List G4) : AV.pureL (gtsA l) = true := pureL_map gA (fun _ => rfl) l
theorem gtsA_kill (Z : List Nat) (l : List G4) : AV.killL Z (gtsA l) = gtsA l := killL_pure Z _ (gtsA_pure l)
theorem gtsA_app (l : List G4) (k a b t : Int) : gtsA l ++ [.g [I k, I a, I b, I t]] = gtsA (l ++ [⟨k, a, b, t⟩]) := by simp [gtsA, gA]
theorem gtsA_take (l : List G4) (k : Nat) : (gtsA l).take k = gtsA (l.take k) := by simp [gtsA]
theorem gtsA_drop (l : List G4) (k : Nat) : (gtsA l).drop k = gtsA (l.drop k) := by simp [gtsA]
theorem freeL_pure (Z : List Nat) {l : List AV} (h : AV.pureL l = true) : AV.freeL Z l = true := by
  have one : ∀ a : AV, a.pure = true → a.free Z = true := fun a => by
    refine AV.rec (motive_1 := fun a => a.pure = true → a.free Z = true) (motive_2 := fun l => AV.pureL l = true → AV.freeL Z l = true) ?_ ?_ ?_ ?_ ?_ ?_ ?_ ?_ ?_ ?_ ?_ a <;> intros <;> simp_all [AV.pure, AV.pureL, AV.free, AV.freeL]
  induction l with
  | nil => rfl
  | cons x l ih =>
    simp only [AV.pureL, Bool.and_eq_true] at h
    simp [AV.freeL, one x h.1, ih h.2]
def G4.same (g h : G4) : Bool := decide (g.k = h.k ∧ g.a = h.a ∧ g.b = h.b)
def G4.touch (g h : G4) : Bool := decide (g.a = h.a ∨ g.a = h.b ∨ (0 ≤ g.b ∧ (g.b = h.a ∨ g.b = h.b)))
def G4.comm (g h : G4) : Bool := !g.touch h || (decide (g.k = 1) == decide (h.k = 1))
def G4.bound (g h : G4) : Bool := g.same h || !g.comm h

theorem ok153 : okFn Tryz.prog 153 = true := by kernel_rfl
theorem s153 (g h : G4) : ASpec Tryz.prog 153 [gA g, gA h] (fun r Ms => r = B (g.same h) ∧ Ms = []) := by
  refine aspec_of (own := []) Tryz.func153 rfl ok153 ?_
  simp only [wB, awp, binC, cmpC, asP, asI, asN, loadA, St.ev, St.step, setS, killS, AV.kill, AV.killL, Mem.kill, AV.cells, AV.flat, AV.single, AV.cellular, AV.pure, AV.pureL, Nat.reduceAdd, Nat.reduceEqDiff, Nat.reduceSub, Nat.reduceLeDiff, Int.reduceAdd, Int.reduceSub, Tryz.ntmps153, gA]
  by_cases c1 : g.k = h.k
  · simp only [wB, binC, cmpC, asP, asB, asI, loadA, St.ev, St.step, setS, killS, AV.kill, AV.killL, Mem.kill, AV.cells, AV.flat, AV.single, Nat.reduceAdd, Nat.reduceEqDiff, Nat.reduceLeDiff, Int.reduceAdd, decide_eq_true c1]
    by_cases c2 : g.a = h.a
    · simp only [wB, awp, binC, cmpC, asP, asB, asI, asN, loadA, St.ev, St.step, setS, killS, AV.kill, AV.killL, Mem.kill, AV.cells, AV.flat, AV.single, Nat.reduceAdd, Nat.reduceEqDiff, Nat.reduceLeDiff, Int.reduceAdd, decide_eq_true c2]
      exact aend_frz rfl ⟨by simp [G4.same, c1, c2]; rfl, rfl⟩
    · simp only [wB, awp, asB, asN, St.ev, St.step, setS, killS, AV.kill, AV.killL, Mem.kill, decide_eq_false c2]
      exact aend_frz rfl ⟨by simp [G4.same, c1, c2]; rfl, rfl⟩
  · simp only [wB, awp, asB, asN, St.ev, St.step, setS, killS, AV.kill, AV.killL, Mem.kill, decide_eq_false c1]
    exact aend_frz rfl ⟨by simp [G4.same, c1]; rfl, rfl⟩

theorem ok205 : okFn Tryz.prog 205 = true := by kernel_rfl
theorem s205 (g h : G4) : ASpec Tryz.prog 205 [gA g, gA h] (fun r Ms => r = B (g.touch h) ∧ Ms = []) := by
  refine aspec_of (own := []) Tryz.func205 rfl ok205 ?_
  simp only [wB, awp, binC, cmpC, asP, asI, asN, loadA, St.ev, St.step, setS, killS, AV.kill, AV.killL, Mem.kill, AV.cells, AV.flat, AV.single, AV.cellular, AV.pure, AV.pureL, Nat.reduceAdd, Nat.reduceEqDiff, Nat.reduceSub, Nat.reduceLeDiff, Int.reduceAdd, Int.reduceSub, Tryz.ntmps205, gA]
  by_cases c1 : g.a = h.a
  · simp only [wB, awp, asB, asN, St.ev, St.step, setS, killS, AV.kill, AV.killL, Mem.kill, decide_eq_true c1]
    exact aend_frz rfl ⟨by simp [G4.touch, c1]; rfl, rfl⟩
  simp only [wB, binC, cmpC, asP, asB, asI, loadA, St.ev, St.step, setS, killS, AV.kill, AV.killL, Mem.kill, AV.cells, AV.flat, AV.single, Nat.reduceAdd, Nat.reduceEqDiff, Nat.reduceLeDiff, Int.reduceAdd, decide_eq_false c1]
  by_cases c2 : g.a = h.b
  · simp only [wB, awp, asB, asN, St.ev, St.step, setS, killS, AV.kill, AV.killL, Mem.kill, decide_eq_true c2]
    exact aend_frz rfl ⟨by simp [G4.touch, c2]; rfl, rfl⟩
  simp only [wB, binC, cmpC, asP, asI, loadA, St.ev, St.step, setS, killS, AV.kill, AV.killL, Mem.kill, AV.cells, AV.flat, AV.single, Nat.reduceAdd, Nat.reduceEqDiff, Nat.reduceLeDiff, Int.reduceAdd, decide_eq_false c2]
  by_cases c3 : 0 ≤ g.b
  · simp only [wB, binC, cmpC, asP, asI, loadA, St.ev, St.step, setS, killS, AV.kill, AV.killL, Mem.kill, AV.cells, AV.flat, AV.single, Nat.reduceAdd, Nat.reduceEqDiff, Nat.reduceLeDiff, Int.reduceAdd, decide_eq_true c3]
    by_cases c4 : g.b = h.a
    · simp only [wB, awp, asB, asN, St.ev, St.step, setS, killS, AV.kill, AV.killL, Mem.kill, decide_eq_true c4]
      exact aend_frz rfl ⟨by simp [G4.touch, c1, c2, c4, c4 ▸ c3]; rfl, rfl⟩
    · simp only [wB, awp, binC, cmpC, asP, asB, asI, asN, loadA, St.ev, St.step, setS, killS, AV.kill, AV.killL, Mem.kill, AV.cells, AV.flat, AV.single, Nat.reduceAdd, Nat.reduceEqDiff, Nat.reduceLeDiff, Int.reduceAdd, decide_eq_false c4]
      exact aend_frz rfl ⟨by simp [G4.touch, c1, c2, c3, c4]; rfl, rfl⟩
  · simp only [wB, awp, asB, asN, St.ev, St.step, setS, killS, AV.kill, AV.killL, Mem.kill, decide_eq_false c3]
    exact aend_frz rfl ⟨by simp [G4.touch, c1, c2, c3]; rfl, rfl⟩

theorem ok186 : okFn Tryz.prog 186 = true := by kernel_rfl
theorem s186 (g h : G4) : ASpec Tryz.prog 186 [gA g, gA h] (fun r Ms => r = B (g.comm h) ∧ Ms = []) := by
  refine aspec_of (own := []) Tryz.func186 rfl ok186 ?_
  simp only [wB, awp, asP, asN, loadA, St.ev, St.step, setS, killS, AV.kill, AV.killL, Mem.kill, AV.cells, AV.flat, AV.single, AV.cellular, AV.pure, AV.pureL, Nat.reduceAdd, Nat.reduceSub, Nat.reduceLeDiff, Int.reduceAdd, Int.reduceSub, Tryz.ntmps186, gA]
  refine acall_v (s205 g h) rfl rfl ?_
  simp only [wB, asB, St.ev, St.step, setS, killS, AV.kill, AV.killL, Mem.kill]
  cases c1 : g.touch h
  · simp only [wB, awp, asB, asN, St.ev, St.step, setS, killS, AV.kill, AV.killL, Mem.kill]
    exact aend_frz rfl ⟨by simp [G4.comm, c1]; rfl, rfl⟩
  · simp only [wB, awp, binC, cmpC, eqC, asP, asB, asI, asN, loadA, St.ev, St.step, setS, killS, AV.kill, AV.killL, Mem.kill, AV.cells, AV.flat, AV.single, Nat.reduceAdd, Nat.reduceEqDiff, Nat.reduceLeDiff, Int.reduceAdd]
    exact aend_frz rfl ⟨by simp [G4.comm, c1]; rfl, rfl⟩

theorem ok152 : okFn Tryz.prog 152 = true := by kernel_rfl
theorem s152 (g h : G4) : ASpec Tryz.prog 152 [gA g, gA h] (fun r Ms => r = B (g.bound h) ∧ Ms = []) := by
  refine aspec_of (own := []) Tryz.func152 rfl ok152 ?_
  simp only [wB, awp, asP, asN, loadA, St.ev, St.step, setS, killS, AV.kill, AV.killL, Mem.kill, AV.cells, AV.flat, AV.single, AV.cellular, AV.pure, AV.pureL, Nat.reduceAdd, Nat.reduceSub, Nat.reduceLeDiff, Int.reduceAdd, Int.reduceSub, Tryz.ntmps152, gA]
  refine acall_v (s153 g h) rfl rfl ?_
  simp only [wB, St.ev, St.step, setS, killS, AV.kill, AV.killL, Mem.kill]
  cases c1 : g.same h
  · simp only [wB, asP, loadA, St.ev, St.step, setS, killS, AV.kill, AV.killL, Mem.kill, AV.cells, AV.flat, AV.single, Nat.reduceAdd, Nat.reduceLeDiff, Int.reduceAdd]
    refine acall_v (s186 g h) rfl rfl ?_
    simp only [wB, awp, asB, asN, St.ev, St.step, setS, killS, AV.kill, AV.killL, Mem.kill]
    exact aend_frz rfl ⟨by simp [G4.bound, c1]; rfl, rfl⟩
  · simp only [wB, awp, asB, asN, St.ev, St.step, setS, killS, AV.kill, AV.killL, Mem.kill]
    exact aend_frz rfl ⟨by simp [G4.bound, c1]; rfl, rfl⟩

/-- whether it is a gate of n qubits. -/
def okG (n : Int) (g : G4) : Bool := decide (1 ≤ g.t ∧ g.t < 16 ∧ (((g.k = 0 ∨ g.k = 1) ∧ 0 ≤ g.a ∧ g.a < n ∧ g.b = -1) ∨ (g.k = 2 ∧ 0 ≤ g.a ∧ g.a < g.b ∧ g.b < n)))

theorem ok120 : okFn Tryz.prog 120 = true := by kernel_rfl
theorem s120 (n : Int) (g : G4) : ASpec Tryz.prog 120 [I n, gA g] (fun r Ms => r = B (okG n g) ∧ Ms = []) := by
  refine aspec_of (own := []) Tryz.func120 rfl ok120 ?_
  simp only [wB, awp, binC, cmpC, asP, asI, asN, loadA, St.ev, St.step, setS, killS, AV.kill, AV.killL, Mem.kill, AV.cells, AV.flat, AV.single, AV.cellular, AV.pure, AV.pureL, Nat.reduceAdd, Nat.reduceEqDiff, Nat.reduceSub, Nat.reduceLeDiff, Int.reduceAdd, Int.reduceSub, Tryz.ntmps120, gA]
  by_cases c1 : g.t < 1
  · simp only [wB, awp, asB, asN, St.ev, St.step, setS, killS, AV.kill, AV.killL, Mem.kill, Nat.reduceAdd, Int.reduceAdd, decide_eq_true c1]
    exact aend_frz rfl ⟨by rw [show okG n g = false from decide_eq_false (by omega)]; rfl, rfl⟩
  simp only [wB, awp, binC, cmpC, asP, asB, asI, loadA, St.ev, St.step, setS, killS, AV.kill, AV.killL, Mem.kill, AV.cells, AV.flat, AV.single, Nat.reduceAdd, Nat.reduceEqDiff, Nat.reduceLeDiff, Int.reduceAdd, decide_eq_false c1]
  by_cases c2 : 16 ≤ g.t
  · simp only [wB, awp, asN, St.ev, St.step, setS, killS, AV.kill, AV.killL, Mem.kill, Nat.reduceAdd, Int.reduceAdd, decide_eq_true c2]
    exact aend_frz rfl ⟨by rw [show okG n g = false from decide_eq_false (by omega)]; rfl, rfl⟩
  simp only [wB, awp, binC, cmpC, asP, asB, asI, asN, loadA, St.ev, St.step, setS, killS, AV.kill, AV.killL, Mem.kill, AV.cells, AV.flat, AV.single, Nat.reduceAdd, Nat.reduceEqDiff, Nat.reduceLeDiff, Int.reduceAdd, decide_eq_false c2]
  by_cases c3 : g.k = 0
  · simp only [wB, awp, binC, cmpC, asP, asB, asI, loadA, St.ev, St.step, setS, killS, AV.kill, AV.killL, Mem.kill, AV.cells, AV.flat, AV.single, Nat.reduceAdd, Nat.reduceEqDiff, Nat.reduceLeDiff, Int.reduceAdd, Int.reduceNeg, decide_eq_true c3]
    by_cases c4 : 0 ≤ g.a
    · simp only [wB, binC, cmpC, asP, asB, asI, loadA, St.ev, St.step, setS, killS, AV.kill, AV.killL, Mem.kill, AV.cells, AV.flat, AV.single, Nat.reduceAdd, Nat.reduceEqDiff, Nat.reduceLeDiff, Int.reduceAdd, Int.reduceNeg, decide_eq_true c4]
      by_cases c5 : g.a < n
      · simp only [wB, awp, binC, cmpC, asP, asB, asI, asN, loadA, St.ev, St.step, setS, killS, AV.kill, AV.killL, Mem.kill, AV.cells, AV.flat, AV.single, Nat.reduceAdd, Nat.reduceEqDiff, Nat.reduceLeDiff, Int.reduceAdd, Int.reduceNeg, decide_eq_true c5]
        exact aend_frz rfl ⟨by rw [show okG n g = decide (g.b = -1) by unfold okG; apply decide_eq_decide.2; omega]; rfl, rfl⟩
      · simp only [wB, awp, asB, asN, St.ev, St.step, setS, killS, AV.kill, AV.killL, Mem.kill, Int.reduceNeg, decide_eq_false c5]
        exact aend_frz rfl ⟨by rw [show okG n g = false from decide_eq_false (by omega)]; rfl, rfl⟩
    · simp only [wB, awp, asB, asN, St.ev, St.step, setS, killS, AV.kill, AV.killL, Mem.kill, Int.reduceNeg, decide_eq_false c4]
      exact aend_frz rfl ⟨by rw [show okG n g = false from decide_eq_false (by omega)]; rfl, rfl⟩
  simp only [wB, awp, binC, cmpC, asB, asI, asN, St.ev, St.step, setS, killS, AV.kill, AV.killL, Mem.kill, Nat.reduceAdd, Int.reduceAdd, decide_eq_false c3]
  by_cases c3' : g.k = 1
  · simp only [wB, awp, binC, cmpC, asP, asI, loadA, St.ev, St.step, setS, killS, AV.kill, AV.killL, Mem.kill, AV.cells, AV.flat, AV.single, Nat.reduceAdd, Nat.reduceEqDiff, Nat.reduceLeDiff, Int.reduceAdd, Int.reduceNeg, decide_eq_true c3']
    by_cases c4 : 0 ≤ g.a
    · simp only [wB, binC, cmpC, asP, asB, asI, loadA, St.ev, St.step, setS, killS, AV.kill, AV.killL, Mem.kill, AV.cells, AV.flat, AV.single, Nat.reduceAdd, Nat.reduceEqDiff, Nat.reduceLeDiff, Int.reduceAdd, Int.reduceNeg, decide_eq_true c4]
      by_cases c5 : g.a < n
      · simp only [wB, awp, binC, cmpC, asP, asB, asI, asN, loadA, St.ev, St.step, setS, killS, AV.kill, AV.killL, Mem.kill, AV.cells, AV.flat, AV.single, Nat.reduceAdd, Nat.reduceEqDiff, Nat.reduceLeDiff, Int.reduceAdd, Int.reduceNeg, decide_eq_true c5]
        exact aend_frz rfl ⟨by rw [show okG n g = decide (g.b = -1) by unfold okG; apply decide_eq_decide.2; omega]; rfl, rfl⟩
      · simp only [wB, awp, asB, asN, St.ev, St.step, setS, killS, AV.kill, AV.killL, Mem.kill, Int.reduceNeg, decide_eq_false c5]
        exact aend_frz rfl ⟨by rw [show okG n g = false from decide_eq_false (by omega)]; rfl, rfl⟩
    · simp only [wB, awp, asB, asN, St.ev, St.step, setS, killS, AV.kill, AV.killL, Mem.kill, Int.reduceNeg, decide_eq_false c4]
      exact aend_frz rfl ⟨by rw [show okG n g = false from decide_eq_false (by omega)]; rfl, rfl⟩
  simp only [wB, awp, binC, cmpC, asB, asI, asN, St.ev, St.step, setS, killS, AV.kill, AV.killL, Mem.kill, Nat.reduceAdd, Int.reduceAdd, decide_eq_false c3']
  by_cases c3'' : g.k = 2
  · simp only [wB, awp, binC, cmpC, asP, asI, loadA, St.ev, St.step, setS, killS, AV.kill, AV.killL, Mem.kill, AV.cells, AV.flat, AV.single, Nat.reduceAdd, Nat.reduceEqDiff, Nat.reduceLeDiff, Int.reduceAdd, decide_eq_true c3'']
    by_cases c4 : 0 ≤ g.a
    · simp only [wB, binC, cmpC, asP, asB, asI, loadA, St.ev, St.step, setS, killS, AV.kill, AV.killL, Mem.kill, AV.cells, AV.flat, AV.single, Nat.reduceAdd, Nat.reduceEqDiff, Nat.reduceLeDiff, Int.reduceAdd, decide_eq_true c4]
      by_cases c5 : g.a < g.b
      · simp only [wB, awp, binC, cmpC, asP, asB, asI, asN, loadA, St.ev, St.step, setS, killS, AV.kill, AV.killL, Mem.kill, AV.cells, AV.flat, AV.single, Nat.reduceAdd, Nat.reduceEqDiff, Nat.reduceLeDiff, Int.reduceAdd, decide_eq_true c5]
        exact aend_frz rfl ⟨by rw [show okG n g = decide (g.b < n) by unfold okG; apply decide_eq_decide.2; omega]; rfl, rfl⟩
      · simp only [wB, awp, asB, asN, St.ev, St.step, setS, killS, AV.kill, AV.killL, Mem.kill, decide_eq_false c5]
        exact aend_frz rfl ⟨by rw [show okG n g = false from decide_eq_false (by omega)]; rfl, rfl⟩
    · simp only [wB, awp, asB, asN, St.ev, St.step, setS, killS, AV.kill, AV.killL, Mem.kill, decide_eq_false c4]
      exact aend_frz rfl ⟨by rw [show okG n g = false from decide_eq_false (by omega)]; rfl, rfl⟩
  simp only [wB, awp, asN, St.ev, St.step, setS, killS, AV.kill, AV.killL, Mem.kill, Nat.reduceAdd, Int.reduceAdd, decide_eq_false c3'']
  exact aend_frz rfl ⟨by rw [show okG n g = false from decide_eq_false (by omega)]; rfl, rfl⟩

def G4.less (g h : G4) : Bool := decide (g.k < h.k ∨ (g.k = h.k ∧ (g.a < h.a ∨ (g.a = h.a ∧ (g.b < h.b ∨ (g.b = h.b ∧ g.t < h.t))))))

def idxG {α : Type} (l : List α) (p : α → Bool) : Int := match l.findIdx? p with | some i => (i : Int) | none => -1
theorem idxG_some {α : Type} {l : List α} {p : α → Bool} {k : Nat} (h : k < l.length) (hno : ∀ j, j < k → ∀ h : j < l.length, p l[j] = false) (hx : p l[k] = true) : idxG l p = k := by
  have : l.findIdx? p = some k := by
    rw [List.findIdx?_eq_some_iff_getElem]
    exact ⟨h, hx, fun j hj => by rw [hno j hj (by omega)]; simp⟩
  simp [idxG, this]
theorem idxG_none {α : Type} {l : List α} {p : α → Bool} (hno : ∀ j, ∀ h : j < l.length, p l[j] = false) : idxG l p = -1 := by
  have : l.findIdx? p = none := by
    rw [List.findIdx?_eq_none_iff]
    intro y hy
    obtain ⟨j, hj, rfl⟩ := List.mem_iff_getElem.1 hy
    exact hno j hj
  simp [idxG, this]
theorem idxG_any {α : Type} (l : List α) (p : α → Bool) : decide (0 ≤ idxG l p) = l.any p := by
  unfold idxG
  cases h : l.findIdx? p with
  | none =>
    rw [List.findIdx?_eq_none_iff] at h
    have : l.any p = false := by rw [List.any_eq_false]; intro x hx; rw [h x hx]; simp
    simp [this]
  | some i =>
    rw [List.findIdx?_eq_some_iff_getElem] at h
    obtain ⟨hi, hx, _⟩ := h
    have : l.any p = true := List.any_eq_true.2 ⟨_, List.getElem_mem hi, hx⟩
    simp [this]
theorem ok150 : okFn Tryz.prog 150 = true := by kernel_rfl
theorem s150 (l : List G4) (p : G4 → Bool) (f : FuncId) (cap : List AV) (hl : l.length ≤ 1000000) (hc : AV.pureL cap = true) (hs : ∀ z, ASpec Tryz.prog f (gA z :: cap) (fun r Ms => r = B (p z) ∧ Ms = [])) :
    ASpec Tryz.prog 150 [.s 4 (gtsA l), .f (.func f) cap] (fun r Ms => r = I (idxG l p) ∧ Ms = []) := by
  refine aspec_of (own := []) Tryz.func150 rfl ok150 ?_
  simp only [wB, awp, asN, lenA, St.ev, St.step, setS, killS, AV.kill, AV.killL, Mem.kill, Nat.reduceAdd, Nat.reduceSub, Int.reduceAdd, Int.reduceSub, lenK, Tryz.ntmps150]
  refine swp_loop' (fun k : Nat => ⟨[.s 4 (gtsA l), .f (.func f) cap, .bot, .bot, .bot, .bot, .bot, I l.length, I k, .bot, .bot, .bot, .bot, .bot, .bot, .bot, .bot, .bot, .bot], []⟩) (fun k => k ≤ l.length ∧ ∀ j, j < k → ∀ h : j < l.length, p l[j] = false) (fun k => l.length - k) 0 (le_sl (by simp [leSl, gtsA_len])) ⟨Nat.zero_le _, by omega⟩ ?_
  rintro k ⟨hk, hno⟩
  refine awp_sound (own := []) _ _ _ _ _ ?_
  simp only [wB, awp, binC, cmpC, asB, asI, St.ev, St.step, setS, killS, AV.kill, AV.killL, Mem.kill, Nat.reduceAdd, Int.reduceAdd]
  by_cases h : k < l.length
  · have h' : (k : Int) < (l.length : Int) := by omega
    simp only [wB, awp, idxC, asP, asS, asF, asI, asN, loadA, St.ev, St.step, setS, killS, AV.kill, AV.killL, Mem.kill, AV.cells, AV.flat, AV.single, Nat.reduceAdd, Nat.reduceLeDiff, Int.reduceAdd, decide_eq_true h', aget_gts h, Int.toNat_natCast]
    refine ⟨by omega, acall_v (hs l[k]) (by simp [AV.pureL, AV.pure, gA, hc]) rfl ?_⟩
    cases hx : p l[k] with
    | true =>
      simp only [wB, awp, asB, asN, St.ev, St.step, setS, killS, AV.kill, AV.killL, Mem.kill, Nat.reduceAdd, Int.reduceAdd]
      exact aend_frz rfl ⟨by rw [idxG_some h hno hx]; rfl, rfl⟩
    | false =>
      simp only [wB, awp, binC, arithC, cmpC, asB, asI, St.ev, St.step, setS, killS, AV.kill, AV.killL, Mem.kill, Nat.reduceAdd, Int.reduceAdd, isU]
      exact ⟨by unfold lim; omega, k + 1, le_sl (by simp [leSl, gtsA_len]), ⟨h, upto hno fun _ => hx⟩, by omega⟩
  · have h' : ¬ (k : Int) < (l.length : Int) := by omega
    simp only [wB, awp, asN, St.ev, St.step, setS, killS, AV.kill, AV.killL, Mem.kill, Nat.reduceAdd, Int.reduceAdd, Int.reduceNeg, decide_eq_false h']
    exact aend_frz rfl ⟨by rw [idxG_none fun j hj => hno j (by omega) hj]; rfl, rfl⟩

theorem ok118 : okFn Tryz.prog 118 = true := by kernel_rfl
theorem s118 (l : List G4) (p : G4 → Bool) (f : FuncId) (cap : List AV) (hl : l.length ≤ 1000000) (hc : AV.pureL cap = true) (hs : ∀ z, ASpec Tryz.prog f (gA z :: cap) (fun r Ms => r = B (p z) ∧ Ms = [])) :
    ASpec Tryz.prog 118 [.s 4 (gtsA l), .f (.func f) cap] (fun r Ms => r = B (l.any p) ∧ Ms = []) := by
  refine aspec_of (own := []) Tryz.func118 rfl ok118 ?_
  simp only [wB, awp, asN, St.ev, St.step, setS, killS, AV.kill, AV.killL, Mem.kill, Nat.reduceAdd, Nat.reduceSub, Int.reduceAdd, Int.reduceSub, Tryz.ntmps118]
  refine acall_v (s150 l p f cap hl hc hs) (by simp [AV.pureL, AV.pure, hc]) rfl ?_
  simp only [wB, awp, binC, cmpC, asI, asN, St.ev, St.step, setS, killS, AV.kill, AV.killL, Mem.kill, idxG_any]
  exact aend_frz rfl ⟨rfl, rfl⟩

theorem ok119 : okFn Tryz.prog 119 = true := by kernel_rfl
theorem s119 (n : Int) (g : G4) : ASpec Tryz.prog 119 [gA g, .p (I n) 0] (fun r Ms => r = B (!okG n g) ∧ Ms = []) := by
  refine aspec_of (own := []) Tryz.func119 rfl ok119 ?_
  simp only [wB, awp, asP, asN, loadA, St.ev, St.step, setS, killS, AV.kill, AV.killL, Mem.kill, AV.cells, AV.flat, AV.single, AV.cellular, AV.pure, AV.pureL, Nat.reduceAdd, Nat.reduceSub, Nat.reduceLeDiff, Int.reduceAdd, Int.reduceSub, Tryz.ntmps119, gA]
  refine acall_v (s120 n g) rfl rfl ?_
  simp only [wB, awp, asB, asN, St.ev, St.step, setS, killS, AV.kill, AV.killL, Mem.kill]
  exact aend_frz rfl ⟨rfl, rfl⟩

/-- the error of gates. -/
def vG (n : Int) (c : List G4) : Int := if ∀ g ∈ c, okG n g = true then 0 else 1
theorem ok87 : okFn Tryz.prog 87 = true := by kernel_rfl
theorem s87 (n : Int) (c : List G4) (hl : c.length ≤ 1000000) : ASpec Tryz.prog 87 [I n, .s 4 (gtsA c)] (fun r Ms => r = I (vG n c) ∧ Ms = []) := by
  refine aspec_of (own := []) Tryz.func87 rfl ok87 ?_
  simp only [wB, awp, asN, St.ev, St.step, setS, killS, AV.kill, AV.killL, Mem.kill, AV.single, AV.cellular, AV.pure, Value.oneCell', Nat.reduceAdd, Nat.reduceSub, Int.reduceAdd, Int.reduceSub, Tryz.ntmps87]
  refine ⟨rfl, acall_v (s118 c (fun g => !okG n g) 119 [.p (I n) 0] hl rfl (fun g => s119 n g)) rfl rfl ?_⟩
  by_cases ha : ∀ g ∈ c, okG n g = true
  · have hb : (c.any fun g => !okG n g) = false := by
      rw [List.any_eq_false]; intro z hz; simp [ha z hz]
    simp only [wB, awp, asB, asN, St.ev, St.step, setS, killS, AV.kill, AV.killL, Mem.kill, Nat.reduceAdd, Int.reduceAdd, hb]
    exact aend_frz rfl ⟨by rw [vG, if_pos ha]; rfl, rfl⟩
  · have hb : (c.any fun g => !okG n g) = true := by
      simp only [Classical.not_forall] at ha
      obtain ⟨g, hg, hn⟩ := ha
      exact List.any_eq_true.2 ⟨g, hg, by simpa using hn⟩
    simp only [wB, awp, asB, asN, St.ev, St.step, setS, killS, AV.kill, AV.killL, Mem.kill, Nat.reduceAdd, Int.reduceAdd, hb]
    exact aend_frz rfl ⟨by rw [vG, if_neg ha]; rfl, rfl⟩

/-- the first error of a circuit. -/
def vC (n : Int) (c : List G4) : Int := if n < 1 ∨ 4 < n then 1 else if 10 < c.length then 3 else vG n c
theorem ok49 : okFn Tryz.prog 49 = true := by kernel_rfl
theorem s49 (n : Int) (c : List G4) (hl : c.length ≤ 1000000) : ASpec Tryz.prog 49 [I n, .s 4 (gtsA c)] (fun r Ms => r = I (vC n c) ∧ Ms = []) := by
  refine aspec_of (own := []) Tryz.func49 rfl ok49 ?_
  simp only [wB, awp, binC, cmpC, asI, asN, St.ev, St.step, setS, killS, AV.kill, AV.killL, Mem.kill, Nat.reduceAdd, Nat.reduceSub, Int.reduceAdd, Int.reduceSub, Tryz.ntmps49]
  by_cases h1 : n < 1
  · simp only [wB, awp, asB, asN, St.ev, St.step, setS, killS, AV.kill, AV.killL, Mem.kill, Nat.reduceAdd, Int.reduceAdd, decide_eq_true h1]
    exact aend_frz rfl ⟨by rw [vC, if_pos (.inl h1)]; rfl, rfl⟩
  simp only [wB, awp, binC, cmpC, asB, asI, St.ev, St.step, setS, killS, AV.kill, AV.killL, Mem.kill, decide_eq_false h1]
  by_cases h2 : 4 < n
  · simp only [wB, awp, asN, St.ev, St.step, setS, killS, AV.kill, AV.killL, Mem.kill, Nat.reduceAdd, Int.reduceAdd, decide_eq_true h2]
    exact aend_frz rfl ⟨by rw [vC, if_pos (.inr h2)]; rfl, rfl⟩
  simp only [wB, awp, binC, cmpC, asB, asI, lenA, St.ev, St.step, setS, killS, AV.kill, AV.killL, Mem.kill, Nat.reduceAdd, Int.reduceAdd, lenK, decide_eq_false h2, gtsA_len]
  by_cases h3 : (10 : Int) < c.length
  · simp only [wB, awp, asN, St.ev, St.step, setS, killS, AV.kill, AV.killL, Mem.kill, Nat.reduceAdd, Int.reduceAdd, decide_eq_true h3]
    exact aend_frz rfl ⟨by rw [vC, if_neg (by omega), if_pos (by omega)]; rfl, rfl⟩
  simp only [wB, awp, St.ev, St.step, setS, killS, AV.kill, AV.killL, Mem.kill, Nat.reduceAdd, Int.reduceAdd, decide_eq_false h3]
  refine acall_v (s87 n c hl) rfl rfl ?_
  simp only [wB, awp, asN, St.ev, St.step, setS, killS, AV.kill, AV.killL, Mem.kill]
  exact aend_frz rfl ⟨by rw [vC, if_neg (by omega), if_neg (by omega)]; rfl, rfl⟩

end Go.Proofs.YtndniceeibflcaaGreatDoor

namespace Go.Proofs.YtndniceeibflcaaGreatDoor
open Aw Mp Go.RowKit
set_option linter.unusedSimpArgs false

/-- a machine's state. -/
structure MS where
  place : List Int
  heats : List Int
  circ : List G4
  moves : Int
  cools : Int
  done : Int
  deriving DecidableEq

def MS.zero : MS := ⟨[], [], [], 0, 0, 0⟩
def bump (l : List Int) (i : Nat) (n : Int) : List Int := l.set i (min (l.getD i 0 + n) 1000)

/-- the error of a gate of one ion. -/
def er1 (lim : Int) (s : MS) (x y : Int) : Int := if y < 1 ∨ 16 ≤ y then 1 else if lim < s.heats.getD x.toNat 0 then 8 else if s.circ.length = 10 then 3 else 0
/-- the error of a gate of two ions. -/
def er2 (lim : Int) (ls : List (Int × Int)) (s : MS) (x y z : Int) : Int := if (z < 1 ∨ 16 ≤ z) ∨ x = y then 1 else if lnk ls (s.place.getD x.toNat 0) (s.place.getD y.toNat 0) = false then 9 else if lim < s.heats.getD x.toNat 0 ∨ lim < s.heats.getD y.toNat 0 then 8 else if s.circ.length = 10 then 3 else 0
/-- the error of an order. -/
def erS (n lim : Int) (ls : List (Int × Int)) (s : MS) (k : Nat) (x y z : Int) : Int :=
  match k with
  | 0 => if n ≤ x then 4 else if s.place.length = 4 then 3 else if x ∈ s.place then 6 else 0
  | 1 => if s.place.length ≤ x then 4 else if n ≤ y then 4 else if lnk ls (s.place.getD x.toNat 0) y = false then 8 else if y ∈ s.place then 6 else 0
  | 2 => if s.place.length ≤ x then 4 else 0
  | 3 => if x = 0 then 1 else 0
  | 4 => if s.place.length ≤ x then 4 else er1 lim s x y
  | 5 => if s.place.length ≤ x then 4 else er1 lim s x y
  | 6 => if s.place.length ≤ x ∨ s.place.length ≤ y then 4 else er2 lim ls s x y z
  | _ => if s.circ = [] then 9 else 0
/-- the state behind an order. -/
def nxS (s : MS) (k : Nat) (x y z : Int) : MS :=
  match k with
  | 0 => { s with place := s.place ++ [x], heats := s.heats ++ [0] }
  | 1 => { s with place := s.place.set x.toNat y, heats := bump s.heats x.toNat 3, moves := s.moves + 1 }
  | 2 => { s with heats := s.heats.set x.toNat 0, cools := s.cools + 1 }
  | 3 => { s with heats := s.heats.map fun h => min (h + x) 1000 }
  | 4 => { s with circ := s.circ ++ [⟨0, x, -1, y⟩], heats := bump s.heats x.toNat 1, done := s.done + 1 }
  | 5 => { s with circ := s.circ ++ [⟨1, x, -1, y⟩], heats := bump s.heats x.toNat 1, done := s.done + 1 }
  | 6 => { s with circ := s.circ ++ [⟨2, min x y, max x y, z⟩], heats := bump (bump s.heats x.toNat 2) y.toNat 2, done := s.done + 1 }
  | _ => { s with circ := [] }

/-- what is held of a state. -/
structure InvS (n : Int) (c : Nat) (s : MS) : Prop where
  p4 : s.place.length ≤ 4
  pin : ∀ z ∈ s.place, 0 ≤ z ∧ z < n
  pnd : s.place.Nodup
  hl : s.heats.length = s.place.length
  hin : ∀ h ∈ s.heats, 0 ≤ h ∧ h ≤ 1000
  c10 : s.circ.length ≤ 10
  cok : ∀ g ∈ s.circ, okG s.place.length g = true
  mv : 0 ≤ s.moves ∧ s.moves ≤ c
  co : 0 ≤ s.cools ∧ s.cools ≤ c
  dn : 0 ≤ s.done ∧ s.done ≤ c

theorem InvS.zero (n : Int) : InvS n 0 MS.zero := ⟨by simp [MS.zero], by simp [MS.zero], by simp [MS.zero], rfl, by simp [MS.zero], by simp [MS.zero], by simp [MS.zero], by simp [MS.zero], by simp [MS.zero], by simp [MS.zero]⟩
theorem getD_mem {l : List Int} {i : Nat} (h : i < l.length) : l.getD i 0 ∈ l := by
  rw [List.getD_eq_getElem?_getD, List.getElem?_eq_getElem h]
  exact List.getElem_mem h
theorem mem_set {l : List Int} {i : Nat} {v x : Int} (h : x ∈ l.set i v) : x ∈ l ∨ x = v := List.mem_or_eq_of_mem_set h
theorem bump_in {l : List Int} (hl : ∀ h ∈ l, 0 ≤ h ∧ h ≤ 1000) (i : Nat) {n : Int} (hn : 0 ≤ n) : ∀ h ∈ bump l i n, 0 ≤ h ∧ h ≤ 1000 := fun h hm => by
  rcases mem_set hm with hm | rfl
  · exact hl h hm
  · by_cases hi : i < l.length
    · have := hl _ (getD_mem hi); omega
    · rw [List.getD_eq_getElem?_getD, List.getElem?_eq_none (by omega)]; simp; omega
theorem bump_len (l : List Int) (i : Nat) (n : Int) : (bump l i n).length = l.length := by simp [bump]
theorem nodup_set {l : List Int} {i : Nat} {v : Int} (h : l.Nodup) (hv : v ∉ l) : (l.set i v).Nodup := by
  rw [List.nodup_iff_pairwise_ne, List.pairwise_iff_getElem] at h ⊢
  intro a b ha hb hab
  simp only [List.length_set] at ha hb
  rw [List.getElem_set, List.getElem_set]
  split
  · split
    · omega
    · exact fun e => hv (e ▸ List.getElem_mem _)
  · split
    · exact fun e => hv (e ▸ List.getElem_mem _)
    · exact h a b ha hb hab
theorem okG_mono {n m : Int} {g : G4} (h : okG n g = true) (hm : n ≤ m) : okG m g = true := by
  unfold okG at h ⊢
  have := of_decide_eq_true h
  exact decide_eq_true (by omega)

theorem InvS.next {n lim : Int} {ls : List (Int × Int)} {c : Nat} {s : MS} (h : InvS n c s) {k : Nat} {x y z : Int} (hx : 0 ≤ x) (hy : 0 ≤ y) (he : erS n lim ls s k x y z = 0) : InvS n (c + 1) (nxS s k x y z) := by
  obtain ⟨p4, pin, pnd, hl, hin, c10, cok, mv, co, dn⟩ := h
  match k with
  | 0 =>
    simp only [erS] at he
    split at he
    · cases he
    split at he
    · cases he
    split at he
    · cases he
    rename_i h1 h2 h3
    refine ⟨by simp [nxS]; omega, fun z hz => ?_, ?_, by simp [nxS, hl], fun q hq => ?_, c10, fun g hg => ?_, ⟨mv.1, by have := mv.2; simp only [nxS]; omega⟩, ⟨co.1, by have := co.2; simp only [nxS]; omega⟩, ⟨dn.1, by have := dn.2; simp only [nxS]; omega⟩⟩
    · simp only [nxS, List.mem_append, List.mem_singleton] at hz
      rcases hz with hz | rfl
      · exact pin z hz
      · omega
    · simp only [nxS]
      rw [List.nodup_append]
      exact ⟨pnd, by simp, fun a ha b hb => by simp at hb; subst hb; exact fun e => h3 (e ▸ ha)⟩
    · simp only [nxS, List.mem_append, List.mem_singleton] at hq
      rcases hq with hq | rfl
      · exact hin q hq
      · omega
    · exact okG_mono (cok g hg) (by simp [nxS]; omega)
  | 1 =>
    simp only [erS] at he
    split at he
    · cases he
    split at he
    · cases he
    split at he
    · cases he
    split at he
    · cases he
    rename_i h1 h2 h3 h4
    refine ⟨by simp [nxS]; omega, fun z hz => ?_, nodup_set pnd h4, by simp [nxS, hl, bump], bump_in hin _ (by omega), c10, fun g hg => okG_mono (cok g hg) (by simp [nxS]), ⟨by have := mv.1; simp only [nxS]; omega, by have := mv.2; simp only [nxS]; omega⟩, ⟨co.1, by have := co.2; simp only [nxS]; omega⟩, ⟨dn.1, by have := dn.2; simp only [nxS]; omega⟩⟩
    rcases mem_set hz with hz | rfl
    · exact pin z hz
    · omega
  | 2 =>
    simp only [erS] at he
    split at he
    · cases he
    refine ⟨p4, pin, pnd, by simp [nxS, hl], fun q hq => ?_, c10, cok, ⟨mv.1, by have := mv.2; simp only [nxS]; omega⟩, ⟨by have := co.1; simp only [nxS]; omega, by have := co.2; simp only [nxS]; omega⟩, ⟨dn.1, by have := dn.2; simp only [nxS]; omega⟩⟩
    rcases mem_set hq with hq | rfl
    · exact hin q hq
    · omega
  | 3 =>
    refine ⟨p4, pin, pnd, by simp [nxS, hl], fun q hq => ?_, c10, cok, ⟨mv.1, by have := mv.2; simp only [nxS]; omega⟩, ⟨co.1, by have := co.2; simp only [nxS]; omega⟩, ⟨dn.1, by have := dn.2; simp only [nxS]; omega⟩⟩
    simp only [nxS, List.mem_map] at hq
    obtain ⟨h, hh, rfl⟩ := hq
    have := hin h hh
    omega
  | 4 | 5 =>
    simp only [erS, er1] at he
    split at he
    · cases he
    split at he
    · cases he
    split at he
    · cases he
    split at he
    · cases he
    rename_i h1 h2 h3 h4
    refine ⟨p4, pin, pnd, by simp [nxS, hl, bump], bump_in hin _ (by omega), by simp [nxS]; omega, fun g hg => ?_, ⟨mv.1, by have := mv.2; simp only [nxS]; omega⟩, ⟨co.1, by have := co.2; simp only [nxS]; omega⟩, ⟨by have := dn.1; simp only [nxS]; omega, by have := dn.2; simp only [nxS]; omega⟩⟩
    simp only [nxS, List.mem_append, List.mem_singleton] at hg
    rcases hg with hg | rfl
    · exact cok g hg
    · unfold okG
      simp only [nxS, decide_eq_true_eq, true_or, or_true, true_and, and_true]
      omega
  | 6 =>
    simp only [erS, er2] at he
    split at he
    · cases he
    split at he
    · cases he
    split at he
    · cases he
    split at he
    · cases he
    split at he
    · cases he
    rename_i h1 h2 h3 h4 h5
    refine ⟨p4, pin, pnd, by simp [nxS, hl, bump], bump_in (bump_in hin _ (by omega)) _ (by omega), by simp [nxS]; omega, fun g hg => ?_, ⟨mv.1, by have := mv.2; simp only [nxS]; omega⟩, ⟨co.1, by have := co.2; simp only [nxS]; omega⟩, ⟨by have := dn.1; simp only [nxS]; omega, by have := dn.2; simp only [nxS]; omega⟩⟩
    simp only [nxS, List.mem_append, List.mem_singleton] at hg
    rcases hg with hg | rfl
    · exact cok g hg
    · unfold okG
      simp only [nxS, decide_eq_true_eq, true_or, or_true, true_and, and_true]
      omega
  | k + 7 =>
    exact ⟨p4, pin, pnd, hl, hin, by simp [nxS], by simp [nxS], ⟨mv.1, by have := mv.2; simp only [nxS]; omega⟩, ⟨co.1, by have := co.2; simp only [nxS]; omega⟩, ⟨dn.1, by have := dn.2; simp only [nxS]; omega⟩⟩

/-- the numbers of an order. -/
def nth (l : List Int) (i : Nat) : Int := l.getD i 0
def exO (s : MS) (o : By) : MS := match prs o with | some (k, l) => nxS s k (nth l 0) (nth l 1) (nth l 2) | none => s
/-- the state behind orders. -/
def stO (l : List By) : MS := l.foldl exO MS.zero
/-- the error of an order behind others. -/
def erO (n lim : Int) (ls : List (Int × Int)) (l : List By) (o : By) : Int := match prs o with | none => 2 | some (k, a) => if l.length = 100 then 3 else erS n lim ls (stO l) k (nth a 0) (nth a 1) (nth a 2)
def doO (n lim : Int) (ls : List (Int × Int)) (l : List By) (o : By) : List By := if erO n lim ls l o = 0 then l ++ [o] else l
/-- orders that are done. -/
inductive Acc (n lim : Int) (ls : List (Int × Int)) : List By → Prop
  | nil : Acc n lim ls []
  | snoc {l : List By} {o : By} : Acc n lim ls l → erO n lim ls l o = 0 → Acc n lim ls (l ++ [o])
theorem stO_snoc (l : List By) (o : By) : stO (l ++ [o]) = exO (stO l) o := by simp [stO]
theorem nth_lim {o : By} {k : Nat} {l : List Int} (h : prs o = some (k, l)) (i : Nat) : 0 ≤ nth l i ∧ nth l i ≤ 99 := by
  unfold nth
  by_cases hi : i < l.length
  · exact (prs_len h).2.2 _ (getD_mem hi)
  · rw [List.getD_eq_getElem?_getD, List.getElem?_eq_none (by omega)]; simp
theorem Acc.inv {n lim : Int} {ls : List (Int × Int)} {l : List By} (h : Acc n lim ls l) : l.length ≤ 100 ∧ InvS n l.length (stO l) := by
  induction h with
  | nil => exact ⟨Nat.zero_le _, InvS.zero n⟩
  | snoc h he ih =>
    rename_i l o
    obtain ⟨h1, h2⟩ := ih
    unfold erO at he
    rw [stO_snoc]
    unfold exO
    cases hp : prs o with
    | none => rw [hp] at he; cases he
    | some kl =>
      obtain ⟨k, a⟩ := kl
      rw [hp] at he
      simp only at he ⊢
      split at he
      · cases he
      refine ⟨by simp; omega, ?_⟩
      simp only [List.length_append, List.length_cons, List.length_nil]
      exact h2.next (nth_lim hp 0).1 (nth_lim hp 1).1 he
end Go.Proofs.YtndniceeibflcaaGreatDoor

namespace Go.Proofs.YtndniceeibflcaaGreatDoor
open Aw Mp Go.RowKit
set_option linter.unusedSimpArgs false
set_option maxRecDepth 8000

theorem le_sl' {sl sl' : List AV} {M M' : Mem} (e : M = M') (h : leSl sl sl') : Le ⟨sl, M⟩ ⟨sl', M'⟩ := by subst e; exact le_sl h
theorem prs_short {o : By} (h : o.length < 1 ∨ 30 < o.length) : prs o = none := by unfold prs; rw [if_pos h]
theorem prs_kind {o : By} (h : kindB (splB 32 o) = none) : prs o = none := by
  unfold prs
  rw [h]
  split <;> rfl
theorem prs_neg {o : By} {w : By} (hw : w ∈ (splB 32 o).drop 1) (hn : numB w < 0) : prs o = none := by
  unfold prs
  split
  · rfl
  · cases kindB (splB 32 o) with
    | none => rfl
    | some k =>
      simp only [Option.bind_some]
      rw [if_neg fun h => absurd (h w hw) (by omega)]
theorem prs_ok {o : By} {k : Nat} (h1 : 1 ≤ o.length ∧ o.length ≤ 30) (hk : kindB (splB 32 o) = some k) (hw : ∀ w ∈ (splB 32 o).drop 1, 0 ≤ numB w) : prs o = some (k, ((splB 32 o).drop 1).map numB) := by
  unfold prs
  rw [if_neg (by omega), hk]
  simp only [Option.bind_some]
  rw [if_pos hw]

end Go.Proofs.YtndniceeibflcaaGreatDoor

namespace Go.Proofs.YtndniceeibflcaaGreatDoor
open Aw Mp Go.RowKit
set_option linter.unusedSimpArgs false
set_option maxRecDepth 8000

theorem ok96 : okFn Tryz.prog 96 = true := by kernel_rfl
def frmL : List (Int × Int × Int × Int) := [(0, 1, 0, 0), (1, 2, 1, 1), (2, 1, 1, -1), (3, 1, 0, -1), (4, 2, 1, -1), (5, 2, 1, -1), (6, 3, 2, -1), (7, 0, 0, -1)]
def frmA (f : Int × Int × Int × Int) : AV := .g [I f.1, I f.2.1, I f.2.2.1, I f.2.2.2]
def strV (l : By) : Value := .string ⟨l.toArray⟩
theorem key9 : Maps.Keyed Tryz.prog 9 := Maps.string_keyed (by kernel_rfl)
theorem u9 : Tryz.prog.underlying 9 = some .string := by kernel_rfl
theorem key_ok9 {b : By} (hb : b.length ≤ 1000000) : ∃ l, keyOf Tryz.prog 9 (strV b) = some l := by
  have : (ByteArray.mk b.toArray).size ≤ maxLen := by show b.toArray.size ≤ maxLen; simp; unfold maxLen; omega
  simp [keyOf, u9, mapKey, strV, this]
theorem strV_inj {a b : By} (h : strV a = strV b) : a = b := by
  unfold strV at h
  simpa using h
theorem afind_out9 {ks : List Value} {v : Value} (l : List By) (b : By) (hk : ks = l.map strV) (hv : v = strV b) (hlb : b.length ≤ 1000000) (hll : ∀ x ∈ l, x.length ≤ 1000000) (hno : b ∉ l) {K : HK (Nat → Prop)} {F : HK Prop} (hF : F.k) : AFind Tryz.prog 9 ks v (K := K) (L := F) := by
  subst hk; subst hv
  refine ⟨⟨key9, key_ok9 hlb, fun u hu => ?_⟩, .inr ⟨fun u hu he => ?_, hF⟩⟩
  · obtain ⟨x, hx, rfl⟩ := List.mem_map.1 hu
    exact key_ok9 (hll x hx)
  · obtain ⟨x, hx, rfl⟩ := List.mem_map.1 hu
    exact hno (strV_inj he ▸ hx)
theorem afind_in9 {ks : List Value} {v : Value} (l : List By) (b : By) (i : Nat) (hk : ks = l.map strV) (hv : v = strV b) (hlb : b.length ≤ 1000000) (hll : ∀ x ∈ l, x.length ≤ 1000000) (hnd : l.Nodup) (hi : i < l.length) (hb : l[i] = b) {K : HK (Nat → Prop)} {F : HK Prop} (hK : K.k i) : AFind Tryz.prog 9 ks v (K := K) (L := F) := by
  subst hk; subst hv; subst hb
  refine ⟨⟨key9, key_ok9 hlb, fun u hu => ?_⟩, .inl ⟨i, ⟨?_, fun j hj => ?_⟩, hK⟩⟩
  · obtain ⟨x, hx, rfl⟩ := List.mem_map.1 hu
    exact key_ok9 (hll x hx)
  · rw [List.getElem?_map, List.getElem?_eq_getElem hi]; rfl
  · rw [List.getElem?_map, Option.map_eq_some_iff] at hj
    obtain ⟨x, hx, he⟩ := hj
    obtain ⟨h1, h2⟩ := List.getElem?_eq_some_iff.1 hx
    have e : l[j] = l[i] := h2.trans (strV_inj he)
    rw [List.Nodup, List.pairwise_iff_getElem] at hnd
    rcases Nat.lt_trichotomy i j with hlt | he | hgt
    · exact absurd e.symm (hnd i j hi h1 hlt)
    · exact he.symm
    · exact absurd e (hnd j i h1 hi hgt)
theorem mo142 : mapOf Tryz.prog 142 = some (9, 112) := by kernel_rfl
theorem s96 : ASpec Tryz.prog 96 [] (fun r Ms => r = .o 0 ∧ Ms = [⟨some (nameL.map strV), 142, 0, frmL.map frmA⟩]) := by
  refine aspec_of (own := []) Tryz.func96 rfl ok96 ?_
  simp only [wB, awp, asO, asN, obA, fillA, putsA, St.ev, St.step, setS, killS, AV.kill, AV.killL, Mem.kill, AV.cells, AV.flat, AV.single, AV.cellular, Value.oneCell', Nat.reduceAdd, Nat.reduceSub, Nat.reduceLeDiff, Int.reduceAdd, Int.reduceSub, Int.reduceNeg, Aw.valOf, Tryz.ntmps96, mo142, Aw.valOf]
  refine afind_out9 [] [108, 111, 97, 100] rfl rfl (by decide) (by decide) (by decide) ?_
  simp only [wB, asO, obA, fillA, putsA, St.ev, St.step, setS, killS, AV.kill, AV.killL, Mem.kill, AV.cells, AV.flat, AV.single, AV.cellular, Value.oneCell', Nat.reduceAdd, Nat.reduceLeDiff, Int.reduceAdd, Int.reduceNeg, Aw.valOf, mo142, Aw.valOf]
  refine afind_out9 [[108, 111, 97, 100]] [109, 111, 118, 101] rfl rfl (by decide) (by decide) (by decide) ?_
  simp only [wB, asO, obA, fillA, putsA, St.ev, St.step, setS, killS, AV.kill, AV.killL, Mem.kill, AV.cells, AV.flat, AV.single, AV.cellular, Value.oneCell', Nat.reduceAdd, Nat.reduceLeDiff, Int.reduceAdd, Int.reduceNeg, Aw.valOf, mo142, Aw.valOf]
  refine afind_out9 [[108, 111, 97, 100], [109, 111, 118, 101]] [99, 111, 111, 108] rfl rfl (by decide) (by decide) (by decide) ?_
  simp only [wB, asO, obA, fillA, putsA, St.ev, St.step, setS, killS, AV.kill, AV.killL, Mem.kill, AV.cells, AV.flat, AV.single, AV.cellular, Value.oneCell', Nat.reduceAdd, Nat.reduceLeDiff, Int.reduceAdd, Int.reduceNeg, Aw.valOf, mo142, Aw.valOf]
  refine afind_out9 [[108, 111, 97, 100], [109, 111, 118, 101], [99, 111, 111, 108]] [119, 97, 105, 116] rfl rfl (by decide) (by decide) (by decide) ?_
  simp only [wB, asO, obA, fillA, putsA, St.ev, St.step, setS, killS, AV.kill, AV.killL, Mem.kill, AV.cells, AV.flat, AV.single, AV.cellular, Value.oneCell', Nat.reduceAdd, Nat.reduceLeDiff, Int.reduceAdd, Int.reduceNeg, Aw.valOf, mo142, Aw.valOf]
  refine afind_out9 [[108, 111, 97, 100], [109, 111, 118, 101], [99, 111, 111, 108], [119, 97, 105, 116]] [116, 117, 114, 110] rfl rfl (by decide) (by decide) (by decide) ?_
  simp only [wB, asO, obA, fillA, putsA, St.ev, St.step, setS, killS, AV.kill, AV.killL, Mem.kill, AV.cells, AV.flat, AV.single, AV.cellular, Value.oneCell', Nat.reduceAdd, Nat.reduceLeDiff, Int.reduceAdd, Int.reduceNeg, Aw.valOf, mo142, Aw.valOf]
  refine afind_out9 [[108, 111, 97, 100], [109, 111, 118, 101], [99, 111, 111, 108], [119, 97, 105, 116], [116, 117, 114, 110]] [115, 112, 105, 110] rfl rfl (by decide) (by decide) (by decide) ?_
  simp only [wB, asO, obA, fillA, putsA, St.ev, St.step, setS, killS, AV.kill, AV.killL, Mem.kill, AV.cells, AV.flat, AV.single, AV.cellular, Value.oneCell', Nat.reduceAdd, Nat.reduceLeDiff, Int.reduceAdd, Int.reduceNeg, Aw.valOf, mo142, Aw.valOf]
  refine afind_out9 [[108, 111, 97, 100], [109, 111, 118, 101], [99, 111, 111, 108], [119, 97, 105, 116], [116, 117, 114, 110], [115, 112, 105, 110]] [106, 111, 105, 110] rfl rfl (by decide) (by decide) (by decide) ?_
  simp only [wB, asO, obA, fillA, putsA, St.ev, St.step, setS, killS, AV.kill, AV.killL, Mem.kill, AV.cells, AV.flat, AV.single, AV.cellular, Value.oneCell', Nat.reduceAdd, Nat.reduceLeDiff, Int.reduceAdd, Int.reduceNeg, Aw.valOf, mo142, Aw.valOf]
  refine afind_out9 [[108, 111, 97, 100], [109, 111, 118, 101], [99, 111, 111, 108], [119, 97, 105, 116], [116, 117, 114, 110], [115, 112, 105, 110], [106, 111, 105, 110]] [100, 114, 111, 112] rfl rfl (by decide) (by decide) (by decide) ?_
  simp only [wB, awp, asN, St.ev, St.step, setS, killS, AV.kill, AV.killL, Mem.kill, Int.reduceNeg]
  exact aend_exp 0 rfl rfl rfl ⟨rfl, rfl⟩
end Go.Proofs.YtndniceeibflcaaGreatDoor

namespace Go.Proofs.YtndniceeibflcaaGreatDoor
namespace Aw
open Go.RowKit
set_option linter.unusedSimpArgs false

/-- the objects ix are kept; they are 0, 1 .. now. -/
theorem memR_ren {A : Nat → Prop} {w : World} {hv : Nat → Option Value} {M : Mem} (ix : List Nat) (hnd : ix.Nodup) (hM : MemR A w hv M) :
    ∃ hv2, MemR A w hv2 (reM ix M) ∧ (∀ x v, RV w (OwnA A hv) hv x v → RV w (OwnA A hv2) hv2 (AV.sub (reF ix) (reG ix) x) v) ∧ ∀ b, Own hv2 b → Own hv b := by
  obtain ⟨hv2, hE⟩ : ∃ hv2 : Nat → Option Value, hv2 = fun j => match ix[j]? with | some i => hv i | none => none := ⟨_, rfl⟩
  have h2 : ∀ j i, ix[j]? = some i → hv2 j = hv i := fun j i h => by rw [hE]; simp only [h]
  have h3 : ∀ j v, hv2 j = some v → ∃ i, ix[j]? = some i ∧ hv i = some v := fun j v h => by
    rw [hE] at h
    simp only at h
    cases hi : ix[j]? with
    | none => rw [hi] at h; cases h
    | some i => rw [hi] at h; exact ⟨i, rfl, h⟩
  have hO : ∀ b, Own hv2 b → Own hv b := by
    rintro b ⟨j, v, hj, hb⟩
    obtain ⟨i, _, hi⟩ := h3 j v hj
    exact ⟨i, v, hi, hb⟩
  have hk : Keeps w (OwnA A hv) w (OwnA A hv2) := ⟨Nat.le_refl _, fun _ _ _ => rfl, fun b _ h => h.elim .inl fun h => .inr (hO b h)⟩
  have sF : ∀ i, (reF ix i).single = true := fun i => by unfold reF; split <;> rfl
  have sG : ∀ i k j off, (reG ix i k j off).single = true := fun i k j off => by unfold reG; split <;> rfl
  have hFF : ∀ i v, hv i = some v → v.oneCell' = true → R w (OwnA A hv2) hv2 (reF ix i) [v] := by
    intro i v hi h1
    unfold reF
    split
    · rename_i j hj
      simp only [R]
      exact ⟨v, by rw [h2 j i (idx_at hj)]; exact hi, rfl, h1⟩
    · simp only [R]; exact ⟨v, rfl, h1⟩
  have hGG : ∀ i k j off us, R w (OwnA A hv) hv (.q i k j off) us → R w (OwnA A hv2) hv2 (reG ix i k j off) us := by
    intro i k j off us h
    unfold reG
    split
    · rename_i m hm
      simp only [R] at h ⊢
      obtain ⟨b, n, c, e1, e2⟩ := h
      exact ⟨b, n, c, by rw [h2 m i (idx_at hm)]; exact e1, e2⟩
    · exact R_botq h
  refine ⟨hv2, ⟨fun j ob hj => ?_, fun j v hj => ?_, fun j1 j2 v1 v2 b e1 e2 b1 b2 => ?_, hM.old, hM.gl.1, fun b h => hM.gl.2 b (hO b h)⟩, fun x v h => RV_subk hk hFF sF hGG sG x v h, hO⟩
  · unfold reM at hj
    simp only [List.getElem?_map, Option.map_eq_some_iff] at hj
    obtain ⟨i, hi, hj⟩ := hj
    cases ho : M[i]? with
    | none => rw [ho] at hj; simp at hj
    | some o =>
      rw [ho] at hj
      simp only [Option.getD_some, Option.map_eq_some_iff] at hj
      obtain ⟨ob0, rfl, rfl⟩ := hj
      obtain ⟨v, e1, hob⟩ := hM.live i ob0 ho
      refine ⟨v, by rw [h2 j i hi]; exact e1, ?_⟩
      cases hm : ob0.mp with
      | some ks =>
        obtain ⟨vals, g1, g3⟩ := hob.map hm
        exact ObR.of_map (ks := ks) rfl ⟨vals, g1, RVL_subk hk hFF sF hGG sG _ _ g3⟩
      | none =>
        obtain ⟨us, g1, g2, g3⟩ := hob.row hm
        refine ObR.of_row rfl ⟨us, ?_, fun x hx => ?_, RL_subk hk hFF sF hGG sG _ _ g3⟩
        · simp only [AV.subL_map, List.length_map]; exact g1
        · simp only [AV.subL_map, List.mem_map] at hx
          obtain ⟨y, hy, rfl⟩ := hx
          rw [size_sub sF sG]; exact g2 y hy
  · obtain ⟨i, hi, hv0⟩ := h3 j v hj
    obtain ⟨ob, hob⟩ := hM.dom i v hv0
    refine ⟨{ ob with xs := AV.subL (reF ix) (reG ix) ob.xs }, ?_⟩
    unfold reM
    rw [List.getElem?_map, hi, Option.map_some, hob]
    rfl
  · obtain ⟨i1, hi1, hv1⟩ := h3 j1 v1 e1
    obtain ⟨i2, hi2, hv2'⟩ := h3 j2 v2 e2
    have := hM.inj i1 i2 v1 v2 b hv1 hv2' b1 b2
    subst this
    obtain ⟨l1, g1⟩ := List.getElem?_eq_some_iff.1 hi1
    obtain ⟨l2, g2⟩ := List.getElem?_eq_some_iff.1 hi2
    have hp := List.pairwise_iff_getElem.1 hnd
    rcases Nat.lt_trichotomy j1 j2 with h | h | h
    · exact absurd (g1.trans g2.symm) (hp j1 j2 l1 l2 h)
    · exact h
    · exact absurd (g2.trans g1.symm) (hp j2 j1 l2 l1 h)

theorem ret_ren (M : Mem) (x : AV) (ix : List Nat) (hnd : ix.Nodup) (Ms : List Ob) (hMs : reM ix M = Ms.map some) : Ret M x (AV.sub (reF ix) (reG ix) x) Ms := by
  intro A w hv v hM _ hx
  obtain ⟨hv2, h1, h2, h3⟩ := memR_ren ix hnd hM
  exact ⟨hv2, hMs ▸ h1, h2 x v hx, h3⟩
/-- the end of a function that hands back the objects ix. -/
theorem aend_ren {P : Program} {rs : List ResultVar} {post : AV → List Ob → Prop} {σ : St} {x : AV} (ix : List Nat) (hnd : ix.Nodup) (Ms : List Ob) (hx : resA P rs σ = some x) (hMs : reM ix σ.M = Ms.map some) (hp : post (AV.sub (reF ix) (reG ix) x) Ms) : AEnd P rs post σ := ⟨x, hx, _, _, ret_ren σ.M x ix hnd Ms hMs, hp⟩

/-- the objects are read; a pointer into one reads as its element does, n times. -/
def frzN (M : Mem) : Nat → AV → AV
  | 0 => frz M
  | n + 1 => AV.sub (fun i => match M[i]? with | some (some ob) => if (ob.mp.isNone && AV.pureL ob.xs) = true then .s ob.k ob.xs else .bot | _ => .bot) (fun i k j off => match M[i]? with | some (some ob) => if (ob.mp.isNone && ob.k == k && decide (j < ob.xs.length)) = true then .p (frzN M n (ob.xs.getD j .bot)) off else .bot | _ => .bot)

theorem frzN_G {A : Nat → Prop} {M : Mem} {w : World} {hv : Nat → Option Value} (hM : MemR A w hv M) (n : Nat) (ih : ∀ {x : AV} {us : List Value}, R w (OwnA A hv) hv x us → R w (fun _ => False) noHv (frzN M n x) us) (i k j off : Nat) (us : List Value) (h : R w (OwnA A hv) hv (.q i k j off) us) :
    R w (fun _ => False) noHv (match M[i]? with | some (some ob) => if (ob.mp.isNone && ob.k == k && decide (j < ob.xs.length)) = true then .p (frzN M n (ob.xs.getD j .bot)) off else .bot | _ => .bot) us := by
  have h0 := h
  simp only [R] at h
  obtain ⟨b, n, c, hb, rfl⟩ := h
  obtain ⟨ob, hob⟩ := hM.dom i _ hb
  simp only [hob]
  by_cases hp : (ob.mp.isNone && ob.k == k && decide (j < ob.xs.length)) = true
  · rw [if_pos hp]
    simp only [Bool.and_eq_true, Option.isNone_iff_eq_none, beq_iff_eq, decide_eq_true_eq] at hp
    obtain ⟨⟨hm, rfl⟩, hj⟩ := hp
    obtain ⟨g, cap, ws, e, h1, h2⟩ := ob_cells (hM_ob hM hob hb) hm hj
    injection e with e
    injection e with e
    injection e with e
    subst e
    simp only [R]
    exact ⟨b, j * ob.k, ws, rfl, ih h1, b, j * ob.k, rfl, hM.own_lt ⟨i, _, hb, rfl⟩, fun h => h, h2⟩
  · rw [if_neg hp]
    exact R_botq h0
theorem frzN_G1 (M : Mem) (n i k j off : Nat) : AV.single (match M[i]? with | some (some ob) => if (ob.mp.isNone && ob.k == k && decide (j < ob.xs.length)) = true then .p (frzN M n (ob.xs.getD j .bot)) off else .bot | _ => .bot) = true := by
  split
  · split <;> rfl
  · rfl
theorem frzN_R {A : Nat → Prop} {M : Mem} {w : World} {hv : Nat → Option Value} (hM : MemR A w hv M) : ∀ (n : Nat) {x : AV} {us : List Value}, R w (OwnA A hv) hv x us → R w (fun _ => False) noHv (frzN M n x) us
  | 0, x, us, hx => frz_R hM hx
  | n + 1, x, us, hx => R_sub (T := OwnA A hv) (T' := fun _ => False) (hv := hv) (hv' := noHv) (fun b h => h.elim) (fun i v h => frz_oR hM h) (fun i => frz_o1 M i) (fun i k j off us h => frzN_G hM n (frzN_R hM n) i k j off us h) (fun i k j off => frzN_G1 M n i k j off) x us hx
theorem coe_frzN (M : Mem) (n : Nat) (x : AV) : Coe true M x (frzN M n x) := by
  cases n with
  | zero => exact coe_frz M x
  | succ n =>
    intro A w hv v hM hx
    exact RV_sub (T := OwnA A hv) (T' := fun _ => False) (hv := hv) (hv' := noHv) (fun b h => h.elim) (fun i v h => frz_oR hM h) (fun i => frz_o1 M i) (fun i k j off us h => frzN_G hM n (frzN_R hM n) i k j off us h) (fun i k j off => frzN_G1 M n i k j off) x v hx
theorem coel_frzN (M : Mem) (n : Nat) : ∀ (aS : List AV), CoeL true M aS (aS.map (frzN M n))
  | [] => trivial
  | a :: aS => ⟨coe_frzN M n a, coel_frzN M n aS⟩

/-- behind a piece of code one state holds, however it was come to. -/
theorem swp_to {P : Program} {c : Code} {N : HN} {E : HE} {Rt : HR} {σ : St} (σ' : St) (h : @SWp P c σ ⟨fun s => Le s σ'⟩ E Rt) (hN : N.k σ') : @SWp P c σ N E Rt := fun C a w hS => by
  refine wp_mono (h C a w hS) fun e a' w' hq => ?_
  cases e with
  | normal => obtain ⟨s, h1, h2⟩ := hq; exact ⟨σ', hN, h1 C a' w' h2⟩
  | exit id => exact hq
  | ret => exact hq
  | goto l => exact hq
  | panic ch => exact hq
  | outgrown => exact hq

theorem le_rn {sl sl' : List AV} {M M' : Mem} (ix : List Nat) (hnd : ix.Nodup) (hM : reM ix M = M') (h : leSl (sl.map (AV.sub (reF ix) (reG ix))) sl') : Le ⟨sl, M⟩ ⟨sl', M'⟩ := by
  subst hM
  exact Le.trans (le_ren ix hnd) (le_sl h)

/-- a call whose result is a value; objects, and pointers to them, are lent. -/
theorem acall_ln {P : Program} {f : FuncId} {aS bs : List AV} {M : Mem} {K : HK (AV → Mem → Prop)} {x : AV} (n : Nat) (spec : ASpec P f bs (fun r Ms => r = x ∧ Ms = [])) (hb : aS.map (frzN M n) = bs) (hx : x.pure = true) (ht : x.tfree = true) (h : K.k x M) : ACall P f aS M (K := K) := by
  refine ⟨true, bs, _, hb ▸ coel_frzN M n aS, spec, ?_⟩
  rintro r Ms ⟨rfl, rfl⟩
  refine ⟨fun e => ⟨ht, by simp⟩, ?_⟩
  rw [AV.up, AV.sub_pure _ _ _ hx]
  simpa using h
/-- a call that hands back several objects. -/
theorem acall_os {P : Program} {f : FuncId} {aS : List AV} {M : Mem} {K : HK (AV → Mem → Prop)} {x : AV} {Ms : List Ob} (spec : ASpec P f aS (fun r Ns => r = x ∧ Ns = Ms)) (ha : AV.pureL aS = true) (h : K.k (x.up M.length) (M ++ Ms.map fun ob => some (ob.up M.length))) : ACall P f aS M (K := K) := by
  refine ⟨false, aS, _, coel_pure ha, spec, ?_⟩
  rintro r Ns ⟨rfl, rfl⟩
  exact ⟨fun e => (by cases e), h⟩
end Aw
end Go.Proofs.YtndniceeibflcaaGreatDoor

namespace Go.Proofs.YtndniceeibflcaaGreatDoor
open Aw Mp Go.RowKit
set_option linter.unusedSimpArgs false
set_option maxRecDepth 8000

/-- the error of a number. -/
def errV (n : Int) : AV := .v (.iface 139 (.agg #[.int .i64 n]))
/-- what the reading of an order answers. -/
def psA (o : By) : AV := match prs o with | none => .t [frmA (0, 0, 0, 0), .s 1 [], errV 2] | some (k, l) => .t [frmA (frmL.getD k (0, 0, 0, 0)), .s 1 (intsA l), .v .nilIface]

def fOf (w : By) : Int × Int × Int × Int := match nameL.idxOf? w with | some k => frmL.getD k (0, 0, 0, 0) | none => (0, 0, 0, 0)
def isN (w : By) : Bool := (nameL.idxOf? w).isSome
theorem frm_at : ∀ k : Fin 8, (frmL.map frmA).getD k.val .bot = frmA (frmL.getD k.val (0, 0, 0, 0)) := by
  intro k
  simp only [List.getD_eq_getElem?_getD, List.getElem?_map]
  rw [List.getElem?_eq_getElem (show k.val < frmL.length from k.isLt)]
  rfl
theorem afind_n {v : Value} (w : By) (hv : v = strV w) (hw : w.length ≤ 1000000) {K : HK (Nat → Prop)} {F : HK Prop} (h1 : ∀ k, k < 8 → nameL.idxOf? w = some k → K.k k) (h2 : nameL.idxOf? w = none → F.k) : AFind Tryz.prog 9 (nameL.map strV) v (K := K) (L := F) := by
  cases h : nameL.idxOf? w with
  | none =>
    refine afind_out9 nameL w rfl hv hw (by decide) (fun hm => ?_) (h2 h)
    unfold List.idxOf? at h
    rw [List.findIdx?_eq_none_iff] at h
    have := h w hm
    simp at this
  | some k =>
    have h' := h
    unfold List.idxOf? at h'
    rw [List.findIdx?_eq_some_iff_getElem] at h'
    obtain ⟨a, b, _⟩ := h'
    exact afind_in9 nameL w k rfl hv hw (by decide) (by decide) a (eq_of_beq b) (h1 k a h)

theorem kind_isN {W : List By} (h : 0 < W.length) (hn : isN W[0] = false) : kindB W = none := by
  unfold kindB
  have : W.headD [] = W[0] := by cases W with | nil => simp at h | cons a r => rfl
  unfold isN at hn
  rw [this]
  cases hk : nameL.idxOf? W[0] with
  | none => rfl
  | some k => rw [hk] at hn; cases hn
theorem frm_cnt : ∀ k : Fin 8, (frmL.getD k.val (0, 0, 0, 0)).2.1 = ((cntL.getD k.val 0 : Nat) : Int) ∧ cntL.getD k.val 0 ≤ 3 := by decide
theorem isN_some {w : By} (h : isN w = true) : ∃ k, k < 8 ∧ nameL.idxOf? w = some k ∧ fOf w = frmL.getD k (0, 0, 0, 0) ∧ w = nameL.getD k [] := by
  unfold isN at h
  cases hk : nameL.idxOf? w with
  | none => rw [hk] at h; cases h
  | some k =>
    have hk' := hk
    unfold List.idxOf? at hk'
    rw [List.findIdx?_eq_some_iff_getElem] at hk'
    obtain ⟨a, b, _⟩ := hk'
    refine ⟨k, a, rfl, by unfold fOf; rw [hk], ?_⟩
    rw [List.getD_eq_getElem?_getD, List.getElem?_eq_getElem a]
    exact (eq_of_beq b).symm
theorem z112 : zeroA Tryz.prog 112 = some (frmA (0, 0, 0, 0)) := by kernel_rfl
theorem ok70 : okFn Tryz.prog 70 = true := by kernel_rfl
end Go.Proofs.YtndniceeibflcaaGreatDoor
