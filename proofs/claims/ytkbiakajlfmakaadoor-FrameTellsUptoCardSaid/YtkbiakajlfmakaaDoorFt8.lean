/- Own work: texts ShelfB, FrA, one behind the other. -/
import Derived.Test.YtkbiakajlfmakaaDoorFt7
import Derived.Shelf.Strconv.Atoi
import Derived.Shelf.Strconv.Itoa0
import Derived.Shelf.Strconv.Itoa1
import Derived.Shelf.LaysM
import Derived.Shelf.Strconv.Itoa2
import Derived.Shelf.Strconv.Itoa3
import Derived.Shelf.Strconv.AtoiErrFast
import Derived.Shelf.Strconv.ParseIntEmpty
import Derived.Shelf.Strconv.AtoiFail
import Derived.Shelf.Strconv.Clone
import Derived.Shelf.Strconv.SyntaxError
import Derived.Shelf.LaysC
import Derived.Shelf.Strconv.ToError
import Derived.Shelf.Strconv.Lower
import Derived.Shelf.Strconv.ParseUint10
import Derived.Shelf.Strconv.ParseUint10Empty
import Derived.Shelf.Strconv.ParseUint10Any
import Derived.Shelf.Strconv.ParseInt10
import Derived.Shelf.Strconv.AtoiLong
import Derived.Shelf.Strconv.AtoiInnerAll
import Derived.Shelf.Strconv.RangeError
import Derived.Shelf.Strconv.ToErrorRange
import Derived.Shelf.Strconv.AtoiAll
import Derived.Shelf.Strconv.ErrVarAll
import Derived.Shelf.Strconv.AppendUint10
import Derived.Shelf.Strconv.AppendInt10
import Derived.Shelf.Strconv.AppendIntPublic10
import Derived.Shelf.Bits.Mul64
import Derived.Test.YtkbiakajlfmakaaDoorProg
section
namespace Go.Proofs
open Go.Shelf
def Tryd.laysM171_ren : Go.Shelf.Ren := ⟨fun | 171 => 49 | 243 => 81 | 246 => 109 | 283 => 141 | 284 => 142 | 285 => 143 | 286 => 144 | 129 => 171 | 317 => 170 | 318 => 172 | 319 => 173 | 320 => 174 | 337 => 198 | 338 => 199 | n => n, fun | 3 => 3 | 9 => 9 | 2 => 2 | 4 => 4 | 171 => 210 | 0 => 0 | 53 => 185 | 37 => 38 | 5 => 5 | 173 => 213 | 212 => 242 | 51 => 236 | 20 => 20 | 213 => 243 | 46 => 199 | 232 => 267 | 233 => 268 | n => n, fun | 17 => 0 | 18 => 4 | 19 => 5 | n => n⟩
theorem Tryd.laysM171 : Go.Proofs.LaysM.n171 Tryd.prog Tryd.laysM171_ren := {
  mixed := by kernel_rfl
  f129 := Tryd.func171.trans (congrArg some (by kernel_rfl))
  f171 := Tryd.func49.trans (congrArg some (by kernel_rfl))
  f243 := Tryd.func81.trans (congrArg some (by kernel_rfl))
  f246 := Tryd.func109.trans (congrArg some (by kernel_rfl))
  f283 := Tryd.func141.trans (congrArg some (by kernel_rfl))
  f284 := Tryd.func142.trans (congrArg some (by kernel_rfl))
  f285 := Tryd.func143.trans (congrArg some (by kernel_rfl))
  f286 := Tryd.func144.trans (congrArg some (by kernel_rfl))
  f317 := Tryd.func170.trans (congrArg some (by kernel_rfl))
  f318 := Tryd.func172.trans (congrArg some (by kernel_rfl))
  f319 := Tryd.func173.trans (congrArg some (by kernel_rfl))
  f320 := Tryd.func174.trans (congrArg some (by kernel_rfl))
  f337 := Tryd.func198.trans (congrArg some (by kernel_rfl))
  f338 := Tryd.func199.trans (congrArg some (by kernel_rfl))
  t0 := Tryd.underlying0
  a0 := Tryd.isAgg0
  z0 := Tryd.sizeOf0
  v0 := Tryd.zeroValue0
  t2 := Tryd.underlying2
  a2 := Tryd.isAgg2
  z2 := Tryd.sizeOf2
  v2 := Tryd.zeroValue2
  t3 := Tryd.underlying3
  a3 := Tryd.isAgg3
  z3 := Tryd.sizeOf3
  v3 := Tryd.zeroValue3
  t4 := Tryd.underlying4
  a4 := Tryd.isAgg4
  z4 := Tryd.sizeOf4
  v4 := Tryd.zeroValue4
  t5 := Tryd.underlying5
  a5 := Tryd.isAgg5
  z5 := Tryd.sizeOf5
  v5 := Tryd.zeroValue5
  t9 := Tryd.underlying9
  a9 := Tryd.isAgg9
  z9 := Tryd.sizeOf9
  v9 := Tryd.zeroValue9
  t20 := Tryd.underlying20
  a20 := Tryd.isAgg20
  z20 := Tryd.sizeOf20
  v20 := Tryd.zeroValue20
  t37 := Tryd.underlying38
  a37 := Tryd.isAgg38
  z37 := Tryd.sizeOf38
  v37 := Tryd.zeroValue38
  t46 := Tryd.underlying199
  a46 := Tryd.isAgg199
  z46 := Tryd.sizeOf199
  v46 := Tryd.zeroValue199
  t51 := Tryd.underlying236
  a51 := Tryd.isAgg236
  z51 := Tryd.sizeOf236
  v51 := Tryd.zeroValue236
  t53 := Tryd.underlying185
  a53 := Tryd.isAgg185
  z53 := Tryd.sizeOf185
  v53 := Tryd.zeroValue185
  t171 := Tryd.underlying210
  a171 := Tryd.isAgg210
  z171 := Tryd.sizeOf210
  v171 := Tryd.zeroValue210
  t173 := Tryd.underlying213
  a173 := Tryd.isAgg213
  z173 := Tryd.sizeOf213
  v173 := Tryd.zeroValue213
  t212 := Tryd.underlying242
  a212 := Tryd.isAgg242
  z212 := Tryd.sizeOf242
  v212 := Tryd.zeroValue242
  t213 := Tryd.underlying243
  a213 := Tryd.isAgg243
  z213 := Tryd.sizeOf243
  t232 := Tryd.underlying267
  a232 := Tryd.isAgg267
  z232 := Tryd.sizeOf267
  v232 := Tryd.zeroValue267
  t233 := Tryd.underlying268
  a233 := Tryd.isAgg268
  z233 := Tryd.sizeOf268
  v233 := Tryd.zeroValue268
  g17 := by kernel_rfl
  g18 := by kernel_rfl
  g19 := by kernel_rfl
  i0 := by kernel_rfl
  i2 := by kernel_rfl
  i3 := by kernel_rfl
  i4 := by kernel_rfl
  i5 := by kernel_rfl
  i9 := by kernel_rfl
  i20 := by kernel_rfl
  i37 := by kernel_rfl
  i46 := by kernel_rfl
  i51 := by kernel_rfl
  i53 := by kernel_rfl
  i171 := by kernel_rfl
  i173 := by kernel_rfl
  i212 := by kernel_rfl
  i232 := by kernel_rfl
  i233 := by kernel_rfl
  m17 := by kernel_rfl
  m18 := by kernel_rfl
  m19 := by kernel_rfl }
open Go.RowKit Go.Sort Go.Lib in
/-- strconv.Itoa: "Itoa is equivalent to FormatInt(int64(i), 10).": i's DECIMAL NUMERAL ('Lib.itoa': a '-' where i is negative, then the digits), FOR EVERY int. The world behind the call: the world before it, new blocks behind the heap (the library's 'var a [24]byte'), draws. (LAID: no walk: one application.) -/
theorem Tryd.strconv_Itoa (n : Int) (h0 : -9223372036854775808 ≤ n) (h1 : n ≤ 9223372036854775807) (w : World) (htab : Lib.TabIs Tryd.prog w "internal/strconv.uint64pow10" .u64 Lib.pow10Tab) :
    Calls Tryd.prog 49 #[.int .i64 n] w fun e w' => e = .returned (.string ⟨(Lib.itoa n).toArray⟩) ∧ ∃ k os, w' = grow (w.drewN k) os := Any.strconv_Itoa Tryd.laysM171 n h0 h1 w htab
def Tryd.laysC172_ren : Go.Shelf.Ren := ⟨fun | 172 => 83 | 244 => 110 | 245 => 111 | 247 => 145 | 279 => 146 | 280 => 147 | 281 => 148 | 282 => 149 | 287 => 175 | 316 => 176 | 171 => 49 | 205 => 177 | 321 => 200 | 322 => 201 | 243 => 81 | 246 => 109 | 283 => 141 | 284 => 142 | 285 => 143 | 286 => 144 | 129 => 171 | 317 => 170 | 318 => 172 | 319 => 173 | 320 => 174 | 337 => 198 | 338 => 199 | n => n, fun | 9 => 9 | 3 => 3 | 75 => 149 | 76 => 150 | 4 => 4 | 5 => 5 | 167 => 215 | 37 => 38 | 0 => 0 | 85 => 216 | 2 => 2 | 168 => 218 | 53 => 185 | 175 => 245 | 46 => 199 | 210 => 249 | 127 => 154 | 145 => 263 | 143 => 261 | 21 => 21 | 171 => 210 | 173 => 213 | 212 => 242 | 51 => 236 | 20 => 20 | 213 => 243 | 232 => 267 | 233 => 268 | 80 => 90 | n => n, fun | 15 => 1 | 16 => 2 | 17 => 0 | 18 => 4 | 19 => 5 | n => n⟩
theorem Tryd.laysC172 : Go.Proofs.LaysC.n172 Tryd.prog Tryd.laysC172_ren := {
  mixed := by kernel_rfl
  f129 := Tryd.func171.trans (congrArg some (by kernel_rfl))
  f171 := Tryd.func49.trans (congrArg some (by kernel_rfl))
  f172 := Tryd.func83.trans (congrArg some (by kernel_rfl))
  f205 := Tryd.func177.trans (congrArg some (by kernel_rfl))
  f243 := Tryd.func81.trans (congrArg some (by kernel_rfl))
  f244 := Tryd.func110.trans (congrArg some (by kernel_rfl))
  f245 := Tryd.func111.trans (congrArg some (by kernel_rfl))
  f246 := Tryd.func109.trans (congrArg some (by kernel_rfl))
  f247 := Tryd.func145.trans (congrArg some (by kernel_rfl))
  f279 := Tryd.func146.trans (congrArg some (by kernel_rfl))
  f280 := Tryd.func147.trans (congrArg some (by kernel_rfl))
  f281 := Tryd.func148.trans (congrArg some (by kernel_rfl))
  f282 := Tryd.func149.trans (congrArg some (by kernel_rfl))
  f283 := Tryd.func141.trans (congrArg some (by kernel_rfl))
  f284 := Tryd.func142.trans (congrArg some (by kernel_rfl))
  f285 := Tryd.func143.trans (congrArg some (by kernel_rfl))
  f286 := Tryd.func144.trans (congrArg some (by kernel_rfl))
  f287 := Tryd.func175.trans (congrArg some (by kernel_rfl))
  f316 := Tryd.func176.trans (congrArg some (by kernel_rfl))
  f317 := Tryd.func170.trans (congrArg some (by kernel_rfl))
  f318 := Tryd.func172.trans (congrArg some (by kernel_rfl))
  f319 := Tryd.func173.trans (congrArg some (by kernel_rfl))
  f320 := Tryd.func174.trans (congrArg some (by kernel_rfl))
  f321 := Tryd.func200.trans (congrArg some (by kernel_rfl))
  f322 := Tryd.func201.trans (congrArg some (by kernel_rfl))
  f337 := Tryd.func198.trans (congrArg some (by kernel_rfl))
  f338 := Tryd.func199.trans (congrArg some (by kernel_rfl))
  t0 := Tryd.underlying0
  a0 := Tryd.isAgg0
  z0 := Tryd.sizeOf0
  v0 := Tryd.zeroValue0
  t2 := Tryd.underlying2
  a2 := Tryd.isAgg2
  z2 := Tryd.sizeOf2
  v2 := Tryd.zeroValue2
  t3 := Tryd.underlying3
  a3 := Tryd.isAgg3
  z3 := Tryd.sizeOf3
  v3 := Tryd.zeroValue3
  t4 := Tryd.underlying4
  a4 := Tryd.isAgg4
  z4 := Tryd.sizeOf4
  v4 := Tryd.zeroValue4
  t5 := Tryd.underlying5
  a5 := Tryd.isAgg5
  z5 := Tryd.sizeOf5
  v5 := Tryd.zeroValue5
  t9 := Tryd.underlying9
  a9 := Tryd.isAgg9
  z9 := Tryd.sizeOf9
  v9 := Tryd.zeroValue9
  t20 := Tryd.underlying20
  a20 := Tryd.isAgg20
  z20 := Tryd.sizeOf20
  v20 := Tryd.zeroValue20
  t21 := Tryd.underlying21
  a21 := Tryd.isAgg21
  z21 := Tryd.sizeOf21
  v21 := Tryd.zeroValue21
  t37 := Tryd.underlying38
  a37 := Tryd.isAgg38
  z37 := Tryd.sizeOf38
  v37 := Tryd.zeroValue38
  t46 := Tryd.underlying199
  a46 := Tryd.isAgg199
  z46 := Tryd.sizeOf199
  v46 := Tryd.zeroValue199
  t51 := Tryd.underlying236
  a51 := Tryd.isAgg236
  z51 := Tryd.sizeOf236
  v51 := Tryd.zeroValue236
  t53 := Tryd.underlying185
  a53 := Tryd.isAgg185
  z53 := Tryd.sizeOf185
  v53 := Tryd.zeroValue185
  t75 := Tryd.underlying149
  a75 := Tryd.isAgg149
  z75 := Tryd.sizeOf149
  v75 := Tryd.zeroValue149
  t76 := Tryd.underlying150
  a76 := Tryd.isAgg150
  z76 := Tryd.sizeOf150
  v76 := Tryd.zeroValue150
  t85 := Tryd.underlying216
  a85 := Tryd.isAgg216
  z85 := Tryd.sizeOf216
  v85 := Tryd.zeroValue216
  t127 := Tryd.underlying154
  a127 := Tryd.isAgg154
  z127 := Tryd.sizeOf154
  v127 := Tryd.zeroValue154
  t143 := Tryd.underlying261
  a143 := Tryd.isAgg261
  z143 := Tryd.sizeOf261
  v143 := Tryd.zeroValue261
  t145 := Tryd.underlying263
  a145 := Tryd.isAgg263
  z145 := Tryd.sizeOf263
  v145 := Tryd.zeroValue263
  t167 := Tryd.underlying215
  a167 := Tryd.isAgg215
  z167 := Tryd.sizeOf215
  v167 := Tryd.zeroValue215
  t168 := Tryd.underlying218
  a168 := Tryd.isAgg218
  z168 := Tryd.sizeOf218
  v168 := Tryd.zeroValue218
  t171 := Tryd.underlying210
  a171 := Tryd.isAgg210
  z171 := Tryd.sizeOf210
  v171 := Tryd.zeroValue210
  t173 := Tryd.underlying213
  a173 := Tryd.isAgg213
  z173 := Tryd.sizeOf213
  v173 := Tryd.zeroValue213
  t175 := Tryd.underlying245
  a175 := Tryd.isAgg245
  z175 := Tryd.sizeOf245
  v175 := Tryd.zeroValue245
  t210 := Tryd.underlying249
  a210 := Tryd.isAgg249
  z210 := Tryd.sizeOf249
  v210 := Tryd.zeroValue249
  t212 := Tryd.underlying242
  a212 := Tryd.isAgg242
  z212 := Tryd.sizeOf242
  v212 := Tryd.zeroValue242
  t213 := Tryd.underlying243
  a213 := Tryd.isAgg243
  z213 := Tryd.sizeOf243
  t232 := Tryd.underlying267
  a232 := Tryd.isAgg267
  z232 := Tryd.sizeOf267
  v232 := Tryd.zeroValue267
  t233 := Tryd.underlying268
  a233 := Tryd.isAgg268
  z233 := Tryd.sizeOf268
  v233 := Tryd.zeroValue268
  g15 := by kernel_rfl
  g16 := by kernel_rfl
  g17 := by kernel_rfl
  g18 := by kernel_rfl
  g19 := by kernel_rfl
  t80 := Tryd.underlying90
  a80 := Tryd.isAgg90
  z80 := Tryd.sizeOf90
  v80 := Tryd.zeroValue90
  i0 := by kernel_rfl
  i2 := by kernel_rfl
  i3 := by kernel_rfl
  i4 := by kernel_rfl
  i5 := by kernel_rfl
  i9 := by kernel_rfl
  i20 := by kernel_rfl
  i21 := by kernel_rfl
  i37 := by kernel_rfl
  i46 := by kernel_rfl
  i51 := by kernel_rfl
  i53 := by kernel_rfl
  i75 := by kernel_rfl
  i76 := by kernel_rfl
  i80 := by kernel_rfl
  i85 := by kernel_rfl
  i127 := by kernel_rfl
  i143 := by kernel_rfl
  i145 := by kernel_rfl
  i167 := by kernel_rfl
  i168 := by kernel_rfl
  i171 := by kernel_rfl
  i173 := by kernel_rfl
  i175 := by kernel_rfl
  i210 := by kernel_rfl
  i212 := by kernel_rfl
  i232 := by kernel_rfl
  i233 := by kernel_rfl
  m15 := by kernel_rfl
  m16 := by kernel_rfl
  m17 := by kernel_rfl
  m18 := by kernel_rfl
  m19 := by kernel_rfl
  c0 := by kernel_rfl
  c2 := by kernel_rfl
  c3 := by kernel_rfl
  c4 := by kernel_rfl
  c5 := by kernel_rfl
  c9 := by kernel_rfl
  c20 := by kernel_rfl
  c21 := by kernel_rfl
  c37 := by kernel_rfl
  c46 := by kernel_rfl
  c51 := by kernel_rfl
  c53 := by kernel_rfl
  c75 := by kernel_rfl
  c76 := by kernel_rfl
  c80 := by kernel_rfl
  c85 := by kernel_rfl
  c127 := by kernel_rfl
  c143 := by kernel_rfl
  c145 := by kernel_rfl
  c167 := by kernel_rfl
  c168 := by kernel_rfl
  c171 := by kernel_rfl
  c173 := by kernel_rfl
  c175 := by kernel_rfl
  c210 := by kernel_rfl
  c212 := by kernel_rfl
  c213 := by kernel_rfl
  c232 := by kernel_rfl
  c233 := by kernel_rfl }
open Go.RowKit in
/-- strconv.Atoi, AT EVERY STRING THAT SPELLS AN int ('Lib.atoiAll .. = .ok v'; of whatever length: leading zeros count): v, AND NO ERROR. The world: as it was, or with the one new row that '[]byte(..)' lays. (LAID: no walk: one application.) -/
theorem Tryd.strconv_Atoi_ok (s : ByteArray) (hmax : s.size ≤ 9223372036854775806) (v : Int) (h : Lib.atoiAll s.data.toList = .ok v) (w : World) :
    Calls Tryd.prog 83 #[.string s] w fun e w' => e = .returned (.tuple #[.int .i64 v, .nilIface]) ∧ (w' = w ∨ ∃ t, w' = Lib.bytesWorld w 5 t) := Any.strconv_Atoi_ok Tryd.laysC172 s hmax v h w
open Go.RowKit in
/-- strconv.Atoi, AT EVERY STRING THAT IS NO DECIMAL NUMERAL ('.syntax'): 0, AND AN ERROR THAT IS NOT nil: a *NumError in a new block N: {Func: "Atoi", Num: s's bytes, Err: what the variable ErrSyntax holds}. Of what was there nothing has turned. (LAID: no walk: one application.) -/
theorem Tryd.strconv_Atoi_syntax (s : ByteArray) (hlim : s.size ≤ 281474976710656) (h : Lib.atoiAll s.data.toList = .«syntax») (ev : Value) (w : World) (hv : w.cell? ⟨1, 0, none⟩ = some ev) (hev : ev = .nilIface ∨ ∃ te pe, ev = .iface te pe) :
    Calls Tryd.prog 83 #[.string s] w fun e w' => ∃ N, e = .returned (.tuple #[.int .i64 (0), .iface 218 (.pointer (some ⟨N, 0, none⟩))]) ∧ w.heap.size ≤ N ∧ w'.heap[N]? = some (.cells #[.string ⟨#[65, 116, 111, 105]⟩, .string s, ev] 249 (0, 0)) ∧ Below w.heap.size w w' := Any.strconv_Atoi_syntax Tryd.laysC172 s hlim h ev w hv hev
open Go.RowKit in
/-- strconv.Atoi, AT EVERY NUMERAL THAT NO int HOLDS ('.range'): THE GREATEST OR THE LEAST int, BY THE SIGN ('Lib.atoiSat'), AND AN ERROR THAT IS NOT nil: a *NumError in a new block N: {Func: "Atoi", Num: s's bytes, Err: what the variable ErrRange holds}. Of what was there nothing has turned. (LAID: no walk: one application.) -/
theorem Tryd.strconv_Atoi_range (s : ByteArray) (hlim : s.size ≤ 281474976710656) (h : Lib.atoiAll s.data.toList = .range) (ev : Value) (w : World) (hv : w.cell? ⟨2, 0, none⟩ = some ev) (hev : ev = .nilIface ∨ ∃ te pe, ev = .iface te pe) :
    Calls Tryd.prog 83 #[.string s] w fun e w' => ∃ N, e = .returned (.tuple #[.int .i64 (Lib.atoiSat s.data.toList), .iface 218 (.pointer (some ⟨N, 0, none⟩))]) ∧ w.heap.size ≤ N ∧ w'.heap[N]? = some (.cells #[.string ⟨#[65, 116, 111, 105]⟩, .string s, ev] 249 (0, 0)) ∧ Below w.heap.size w w' := Any.strconv_Atoi_range Tryd.laysC172 s hlim h ev w hv hev
def Tryd.laysM176_ren : Go.Shelf.Ren := ⟨fun | 176 => 48 | 249 => 80 | 288 => 108 | 283 => 141 | 284 => 142 | 285 => 143 | 286 => 144 | 129 => 171 | 317 => 170 | 318 => 172 | 319 => 173 | 320 => 174 | 337 => 198 | 338 => 199 | n => n, fun | 37 => 38 | 2 => 2 | 3 => 3 | 53 => 185 | 4 => 4 | 9 => 9 | 171 => 210 | 0 => 0 | 173 => 213 | 212 => 242 | 51 => 236 | 5 => 5 | 20 => 20 | 213 => 243 | 46 => 199 | 232 => 267 | 233 => 268 | n => n, fun | 17 => 0 | 18 => 4 | 19 => 5 | n => n⟩
theorem Tryd.laysM176 : Go.Proofs.LaysM.n176 Tryd.prog Tryd.laysM176_ren := {
  mixed := by kernel_rfl
  f129 := Tryd.func171.trans (congrArg some (by kernel_rfl))
  f176 := Tryd.func48.trans (congrArg some (by kernel_rfl))
  f249 := Tryd.func80.trans (congrArg some (by kernel_rfl))
  f283 := Tryd.func141.trans (congrArg some (by kernel_rfl))
  f284 := Tryd.func142.trans (congrArg some (by kernel_rfl))
  f285 := Tryd.func143.trans (congrArg some (by kernel_rfl))
  f286 := Tryd.func144.trans (congrArg some (by kernel_rfl))
  f288 := Tryd.func108.trans (congrArg some (by kernel_rfl))
  f317 := Tryd.func170.trans (congrArg some (by kernel_rfl))
  f318 := Tryd.func172.trans (congrArg some (by kernel_rfl))
  f319 := Tryd.func173.trans (congrArg some (by kernel_rfl))
  f320 := Tryd.func174.trans (congrArg some (by kernel_rfl))
  f337 := Tryd.func198.trans (congrArg some (by kernel_rfl))
  f338 := Tryd.func199.trans (congrArg some (by kernel_rfl))
  t0 := Tryd.underlying0
  a0 := Tryd.isAgg0
  z0 := Tryd.sizeOf0
  v0 := Tryd.zeroValue0
  t2 := Tryd.underlying2
  a2 := Tryd.isAgg2
  z2 := Tryd.sizeOf2
  v2 := Tryd.zeroValue2
  t3 := Tryd.underlying3
  a3 := Tryd.isAgg3
  z3 := Tryd.sizeOf3
  v3 := Tryd.zeroValue3
  t4 := Tryd.underlying4
  a4 := Tryd.isAgg4
  z4 := Tryd.sizeOf4
  v4 := Tryd.zeroValue4
  t5 := Tryd.underlying5
  a5 := Tryd.isAgg5
  z5 := Tryd.sizeOf5
  v5 := Tryd.zeroValue5
  t9 := Tryd.underlying9
  a9 := Tryd.isAgg9
  z9 := Tryd.sizeOf9
  v9 := Tryd.zeroValue9
  t20 := Tryd.underlying20
  a20 := Tryd.isAgg20
  z20 := Tryd.sizeOf20
  v20 := Tryd.zeroValue20
  t37 := Tryd.underlying38
  a37 := Tryd.isAgg38
  z37 := Tryd.sizeOf38
  v37 := Tryd.zeroValue38
  t46 := Tryd.underlying199
  a46 := Tryd.isAgg199
  z46 := Tryd.sizeOf199
  v46 := Tryd.zeroValue199
  t51 := Tryd.underlying236
  a51 := Tryd.isAgg236
  z51 := Tryd.sizeOf236
  v51 := Tryd.zeroValue236
  t53 := Tryd.underlying185
  a53 := Tryd.isAgg185
  z53 := Tryd.sizeOf185
  v53 := Tryd.zeroValue185
  t171 := Tryd.underlying210
  a171 := Tryd.isAgg210
  z171 := Tryd.sizeOf210
  v171 := Tryd.zeroValue210
  t173 := Tryd.underlying213
  a173 := Tryd.isAgg213
  z173 := Tryd.sizeOf213
  v173 := Tryd.zeroValue213
  t212 := Tryd.underlying242
  a212 := Tryd.isAgg242
  z212 := Tryd.sizeOf242
  v212 := Tryd.zeroValue242
  t213 := Tryd.underlying243
  a213 := Tryd.isAgg243
  z213 := Tryd.sizeOf243
  t232 := Tryd.underlying267
  a232 := Tryd.isAgg267
  z232 := Tryd.sizeOf267
  v232 := Tryd.zeroValue267
  t233 := Tryd.underlying268
  a233 := Tryd.isAgg268
  z233 := Tryd.sizeOf268
  v233 := Tryd.zeroValue268
  g17 := by kernel_rfl
  g18 := by kernel_rfl
  g19 := by kernel_rfl
  i0 := by kernel_rfl
  i2 := by kernel_rfl
  i3 := by kernel_rfl
  i4 := by kernel_rfl
  i5 := by kernel_rfl
  i9 := by kernel_rfl
  i20 := by kernel_rfl
  i37 := by kernel_rfl
  i46 := by kernel_rfl
  i51 := by kernel_rfl
  i53 := by kernel_rfl
  i171 := by kernel_rfl
  i173 := by kernel_rfl
  i212 := by kernel_rfl
  i232 := by kernel_rfl
  i233 := by kernel_rfl
  m17 := by kernel_rfl
  m18 := by kernel_rfl
  m19 := by kernel_rfl }
open Go.RowKit Go.Sort Go.Lib in
/-- strconv.AppendInt: "AppendInt appends the string form of the integer i, as generated by FormatInt, to dst and returns the extended buffer.": AT BASE 10: WHAT COMES BACK OWNS dst's CELLS AND, BEHIND THEM, i's DECIMAL NUMERAL ('Lib.itoa i': at most 20 bytes), for every int64. Below the call's own blocks nothing has turned. (LAID: no walk: one application.) -/
theorem Tryd.strconv_AppendInt_10 (B n : Nat) (i : Int) (h0 : -9223372036854775808 ≤ i) (h1 : i ≤ 9223372036854775807) (sv : Value) (xs : List Value) (w : World) (hown : w.ownsRow B 5 1 sv n xs) (hBw : B ≤ w.heap.size) (hlim : n + 21 ≤ 140737488355328) (htab : Lib.TabBelow Tryd.prog B w "internal/strconv.uint64pow10" .u64 Lib.pow10Tab) :
    Calls Tryd.prog 48 #[sv, .int .i64 i, .int .i64 10] w fun e w' => ∃ v', e = .returned v' ∧ w'.ownsRow B 5 1 v' (n + (Lib.itoa i).length) (xs ++ Lib.byteCells (Lib.itoa i)) ∧ Below B w w' ∧ Lib.OthersKept 5 none w w' := Any.strconv_AppendInt_10 Tryd.laysM176 B n i h0 h1 sv xs w hown hBw hlim htab
end Go.Proofs
end
section
namespace Go.Sp
open Go.Lib (atoiAll itoa parseMag parseMag_lt NumEnd)
theorem atoi_i64 {s : List UInt8} {v : Int} (h : atoiAll s = .ok v) : i64 v := by
  cases s with
  | nil => cases h
  | cons c r =>
    simp only [atoiAll] at h
    split at h
    · cases h
    · cases h
    · split at h
      · cases h
      · split at h
        · cases h
        · rename_i h1 h2
          obtain rfl := NumEnd.ok.inj h
          constructor <;> split <;> omega
theorem canon_ok {s : List UInt8} {v : Int} (h : atoiAll s = .ok v) : canon s = if itoa v = s then some v else none := by
  rw [canon, h]
theorem canon_bad {s : List UInt8} (h : ∀ v, atoiAll s ≠ .ok v) : canon s = none := by
  rw [canon]
  split
  · rename_i v hv; exact absurd hv (h v)
  · rfl
end Go.Sp
namespace Go.Proofs.YtkbiakajlfmakaaDoor
open Go.Fw
/-- the library's variables: errors, a table. -/
structure ConvF (I : Imm) : Prop where
  rng : ∃ te pe c ty fr, I 2 = some (.cells c ty fr) ∧ c[0]? = some (.iface te pe)
  syn : ∃ te pe c ty fr, I 1 = some (.cells c ty fr) ∧ c[0]? = some (.iface te pe)
  tab : ∃ ty fr, I 0 = some (.cells (Lib.pow10Tab.map fun z => Value.int .u64 z).toArray ty fr)
theorem ConvF.le {I I' : Imm} (h : ConvF I) (m : Le I I') : ConvF I' := by
  obtain ⟨⟨te, pe, c, ty, fr, h1, h2⟩, ⟨te', pe', c', ty', fr', h3, h4⟩, ty2, fr2, h5⟩ := h
  exact ⟨⟨te, pe, c, ty, fr, m _ _ h1, h2⟩, ⟨te', pe', c', ty', fr', m _ _ h3, h4⟩, ty2, fr2, m _ _ h5⟩
theorem tab_is {I : Imm} (h : ConvF I) {w : World} (hI : Inv I w) : Lib.TabIs Tryd.prog w "internal/strconv.uint64pow10" .u64 Lib.pow10Tab := by
  obtain ⟨ty, fr, h1⟩ := h.tab
  have hg : Tryd.prog.globalNamed "internal/strconv.uint64pow10" = some 0 := by kernel_rfl
  unfold Lib.TabIs
  simp only [World.var?, hg, Option.bind_some, hI _ _ h1]
/-- what comes of a text. -/
abbrev ToNumF (t : List UInt8) (I : Imm) : Value → Imm → List HItem → Prop := fun v I' H' => I' = I ∧ H' = [] ∧
  ((∃ n, Lib.atoiAll t = .ok n ∧ v = .tuple #[.int .i64 n, .nilIface]) ∨ ((∀ n, Lib.atoiAll t ≠ .ok n) ∧ ∃ (n : Int) (te : TypeId) (pe : Value), v = .tuple #[.int .i64 n, .iface te pe]))
theorem r_atoi {I : Imm} (t : List UInt8) (hl : t.length ≤ 281474976710656) (hI : ConvF I) :
    CalM Tryd.prog 83 #[str t] I [] (ToNumF t I) := by
  refine ⟨fun w hm => ⟨?_⟩⟩
  have hsz : (⟨t.toArray⟩ : ByteArray).size = t.length := str_size t
  obtain ⟨⟨te, pe, c, ty, fr, e1, e2⟩, ⟨te', pe', c', ty', fr', e3, e4⟩, _⟩ := hI
  have hc : w.cell? ⟨2, 0, none⟩ = some (.iface te pe) := cell_of (hm.inv _ _ e1) e2
  have hc' : w.cell? ⟨1, 0, none⟩ = some (.iface te' pe') := cell_of (hm.inv _ _ e3) e4
  cases hv : Lib.atoiAll t with
  | ok v =>
    exact Calls.mono (Tryd.strconv_Atoi_ok ⟨t.toArray⟩ (by rw [hsz]; omega) v (by simpa using hv) w) (fun e w' ⟨he, hw⟩ => by
      subst he
      refine ⟨I, [], ⟨rfl, rfl, .inl ⟨v, hv, rfl⟩⟩, hm.kept0 ?_⟩
      rcases hw with rfl | ⟨b, rfl⟩
      · exact Kept.refl _ _
      · exact bytes_kept _ _ _)
  | «syntax» =>
    exact Calls.mono (Tryd.strconv_Atoi_syntax ⟨t.toArray⟩ (by rw [hsz]; omega) (by simpa using hv) _ w hc' (.inr ⟨te', pe', rfl⟩)) (fun e w' ⟨n, he, _, _, hw⟩ => by
      subst he
      exact ⟨I, [], ⟨rfl, rfl, .inr ⟨fun n hn => (by rw [hv] at hn; cases hn), _, _, _, rfl⟩⟩, hm.kept0 (Kept.of_below hw)⟩)
  | range =>
    exact Calls.mono (Tryd.strconv_Atoi_range ⟨t.toArray⟩ (by rw [hsz]; omega) (by simpa using hv) _ w hc (.inr ⟨te, pe, rfl⟩)) (fun e w' ⟨n, he, _, _, hw⟩ => by
      subst he
      exact ⟨I, [], ⟨rfl, rfl, .inr ⟨fun n hn => (by rw [hv] at hn; cases hn), _, _, _, rfl⟩⟩, hm.kept0 (Kept.of_below hw)⟩)
theorem r_atoi_ok {I : Imm} {t : List UInt8} {v : Int} (hv : Lib.atoiAll t = .ok v) (hl : t.length ≤ 281474976710656) (hI : ConvF I) :
    CalM Tryd.prog 83 #[str t] I [] (fun u I' H' => I' = I ∧ H' = [] ∧ u = .tuple #[.int .i64 v, .nilIface]) :=
  (r_atoi t hl hI).mono (fun u I' H' _ ⟨h1, h2, h3⟩ => ⟨h1, h2, by
    rcases h3 with ⟨n, hn, rfl⟩ | ⟨hno, _⟩
    · rw [hv] at hn; cases hn; rfl
    · exact absurd hv (hno v)⟩)
theorem r_atoi_bad {I : Imm} {t : List UInt8} (hno : ∀ v, Lib.atoiAll t ≠ .ok v) (hl : t.length ≤ 281474976710656) (hI : ConvF I) :
    CalM Tryd.prog 83 #[str t] I [] (fun u I' H' => I' = I ∧ H' = [] ∧ ∃ (n : Int) (te : TypeId) (pe : Value), u = .tuple #[.int .i64 n, .iface te pe]) :=
  (r_atoi t hl hI).mono (fun u I' H' _ ⟨h1, h2, h3⟩ => ⟨h1, h2, by
    rcases h3 with ⟨n, hn, rfl⟩ | ⟨_, h⟩
    · exact absurd hn (hno n)
    · exact h⟩)
theorem r_itoa {I : Imm} (v : Int) (h : Sp.i64 v) (hI : ConvF I) : CalM Tryd.prog 49 #[.int .i64 v] I [] (fun u I' H' => I' = I ∧ H' = [] ∧ u = str (Lib.itoa v)) := by
  refine ⟨fun w hm => ⟨?_⟩⟩
  exact Calls.mono (Tryd.strconv_Itoa v h.1 h.2 w (tab_is hI hm.inv)) (fun e w' ⟨he, k, os, hw⟩ => by
    subst he; subst hw
    exact ⟨I, [], ⟨rfl, rfl, rfl⟩, hm.kept0 (Kept.of_below (Lib.below_grow _ w (Nat.le_refl _) k os))⟩)
abbrev rdr (br : Nat) (ba : Option Addr) (n cp p : Nat) (ok : Bool) : HItem := .cell br [.slice ba n cp, nt p, .bool ok] 96
theorem byte_ne {c e : UInt8} (h : c ≠ e) : (c.toNat : Int) ≠ (e.toNat : Int) := fun hc => h (UInt8.toNat_inj.1 (by omega))
set_option maxHeartbeats 4000000 in
theorem fr_num {I : Imm} {b : List UInt8} {ba : Option Addr} {cp : Nat} (hr : RowI I 5 1 (.slice ba b.length cp) b.length (b.flatMap encB)) (hl : b.length ≤ 1099511627776) (hI : ConvF I) {p : Nat} (hp : p ≤ b.length) (ok : Bool) (e : UInt8) (br : Nat) :
    CalM Tryd.prog 82 #[ptr br, byteV e] I [rdr br ba b.length cp p ok] (fun v _ H' => v = .int .i64 (Sp.stepT b p ok e).1 ∧ H' = [rdr br ba b.length cp (Sp.stepT b p ok e).2.1 (Sp.stepT b p ok e).2.2]) := by
  refine CalM.of fun w E hm => enter (N := 86) Tryd.func82 rfl [(0, ptr br), (1, byteV e)] args2 rfl ?_
  have hfl := Sp.field_le b p e
  have hlong := Sp.numAt_long (b := b) (p := p) (e := e)
  have hopen := Sp.numAt_open (b := b) (p := p) (e := e)
  have hokk := Sp.numAt_ok (b := b) (p := p) (e := e)
  have hft := Sp.field_take (b := b) (p := p) (e := e)
  have hfe := Sp.field_end (b := b) (p := p) (e := e)
  have hflt := fun k => Sp.field_lt (b := b) (p := p) (e := e) (k := k)
  have hbad : Sp.numAt b p e = none → Sp.stepT b p ok e = (0, p, false) := fun h => by rw [Sp.stepT, h]
  generalize Sp.fieldAt b p e = s at hfl hlong hopen hokk hft hfe hflt
  repeat' (first
    | refine m_load1 hm (by rfl) (by rfl) (by rfl) (by first | exact gt0 | exact gt1 | exact gt2 | exact gt3 | exact gt4 | exact gt5 | exact gt6) (by rfl) ?_
    | refine op_move (by rfl) (by rfl) (by rfl) ?_
    | refine op_assign (by rfl) (by rfl) (by rfl) ?_
    | refine op_nilCheck (by rfl) (by rfl) (by rfl) ?_
    | refine op_fieldAddr (by rfl) (by rfl) (by rfl) ?_
    | refine wl_nil ?_
    | refine at_then_normal ?_
    | refine wc_seq ?_
    | refine wc_region ?_
    | refine wc_block ?_)
  refine wc_loop (fun k : Nat => [(0, ptr br), (1, byteV e), (4, .int .i64 0), (5, nt (p + k))])
    (fun k w' => Mem E I [rdr br ba b.length cp p ok] w' ∧ k ≤ s.length) (fun k => s.length - k) 0
    (by exact ⟨rfl, rfl, rfl, rfl, trivial⟩) ⟨hm, Nat.zero_le _⟩ ?_
  clear hm
  rintro k w1 ⟨hm, hk⟩
  try dsimp only at hm hk ⊢
  by_cases hlt : k < s.length
  · obtain ⟨hne, hlt2⟩ := hflt k hlt
    have hg : b[((p + k : Nat) : Int).toNat]? = some b[p + k] := List.getElem?_eq_getElem hlt2
    have hne2 : b[p + k] ≠ e := fun h => hne (by rw [List.getElem?_eq_getElem hlt2, h])
    have hne3 := byte_ne hne2
    generalize b[p + k] = c at hg hne2 hne3
    by_cases h20 : 20 < k
    · have hst := hbad (hlong (by omega))
      repeat' (first
        | (refine i_indexFlat (d := 26) (enc := encB) (z := c) (by rfl) (by rfl) (by rfl) (by rfl) hr (fun _ => rfl) (by omega) (by omega) hg ?_; intro bt ot hpt)
        | refine m_load1 hm (by rfl) (by rfl) (by rfl) (by first | exact gt0 | exact gt1 | exact gt2 | exact gt3 | exact gt4 | exact gt5 | exact gt6) (by rfl) ?_
        | refine i_load1z hm (by rfl) (by rfl) (by rfl) (by assumption) (by rfl) ?_
        | (refine m_store1 hm (by rfl) (by rfl) (by rfl) (by rfl) (by first | exact gt0 | exact gt1 | exact gt2 | exact gt3 | exact gt4 | exact gt5 | exact gt6) (by rfl) (by rfl) (by rfl) ?_; clear hm; intro _ hm; try simp only [setn] at hm)
        | refine op_move (by rfl) (by rfl) (by rfl) ?_
        | refine op_assign (by rfl) (by rfl) (by rfl) ?_
        | refine op_pick_true (by rfl) (by rfl) (by rfl) (by rfl) ?_
        | refine op_lss (by rfl) (by rfl) (by rfl) (by rfl) ?_
        | refine op_gtr (by rfl) (by rfl) (by rfl) (by rfl) ?_
        | refine op_neq (by rfl) (by rfl) (by rfl) (by rfl) ?_
        | refine op_len_slice (by rfl) (by rfl) (by rfl) ?_
        | refine op_nilCheck (by rfl) (by rfl) (by rfl) ?_
        | refine op_sub (by rfl) (by rfl) (by rfl) (by rfl) (by omega) ?_
        | refine op_fieldAddr (by rfl) (by rfl) (by rfl) ?_
        | (refine wl_split_dec (by rfl) (by rfl) (by rfl) (fun _ => ?_) (fun _ => ?_) <;> (try first | contradiction | (exfalso; omega)))
        | refine wl_nil ?_
        | refine at_then_normal ?_
        | refine at_then_ret ?_
        | refine at_block_ret ?_
        | refine wc_seq ?_
        | refine wc_region ?_
        | refine wc_block ?_
        | refine wc_skip ?_
        | refine wc_ret ?_
        | refine at_ret1 (by rfl) (by rfl) ?_
        | (refine wc_cond_dec (by rfl) (fun _ => ?_) (fun _ => ?_) <;> (try first | contradiction | (exfalso; omega))))
      all_goals try (exfalso; omega)
      rw [hst]
      exact ⟨I, _, ⟨rfl, rfl⟩, hm⟩
    · skip
      repeat' (first
        | (refine i_indexFlat (d := 26) (enc := encB) (z := c) (by rfl) (by rfl) (by rfl) (by rfl) hr (fun _ => rfl) (by omega) (by omega) hg ?_; intro bt ot hpt)
        | refine m_load1 hm (by rfl) (by rfl) (by rfl) (by first | exact gt0 | exact gt1 | exact gt2 | exact gt3 | exact gt4 | exact gt5 | exact gt6) (by rfl) ?_
        | refine i_load1z hm (by rfl) (by rfl) (by rfl) (by assumption) (by rfl) ?_
        | refine op_move (by rfl) (by rfl) (by rfl) ?_
        | refine op_assign (by rfl) (by rfl) (by rfl) ?_
        | refine op_pick_true (by rfl) (by rfl) (by rfl) (by rfl) ?_
        | refine op_lss (by rfl) (by rfl) (by rfl) (by rfl) ?_
        | refine op_gtr (by rfl) (by rfl) (by rfl) (by rfl) ?_
        | refine op_neq (by rfl) (by rfl) (by rfl) (by rfl) ?_
        | refine op_len_slice (by rfl) (by rfl) (by rfl) ?_
        | refine op_nilCheck (by rfl) (by rfl) (by rfl) ?_
        | refine op_add (by rfl) (by rfl) (by rfl) (by rfl) (by omega) ?_
        | refine op_sub (by rfl) (by rfl) (by rfl) (by rfl) (by omega) ?_
        | refine op_fieldAddr (by rfl) (by rfl) (by rfl) ?_
        | (refine wl_split_dec (by rfl) (by rfl) (by rfl) (fun _ => ?_) (fun _ => ?_) <;> (try first | contradiction | (exfalso; omega)))
        | refine wl_nil ?_
        | refine at_then_normal ?_
        | refine at_block_normal ?_
        | refine wc_seq ?_
        | refine wc_region ?_
        | refine wc_block ?_
        | refine wc_skip ?_
        | (refine wc_cond_dec (by rfl) (fun _ => ?_) (fun _ => ?_) <;> (try first | contradiction | (exfalso; omega))))
      all_goals try (exfalso; omega)
      exact at_round (k + 1 : Nat) (by exact ⟨rfl, rfl, rfl, rfl, trivial⟩) ⟨hm, by omega⟩ (by omega)
  · obtain rfl : k = s.length := by omega
    by_cases hend : p + s.length < b.length
    · have he := hfe hend
      have hnum := hokk hend
      obtain ⟨b0, o0, rfl⟩ := hr.addr (by omega)
      have hrs : ((b.flatMap encB).drop (p * 1)).take ((p + s.length - p) * 1) = s.map byteV := by
        rw [flat_sing byteV b, Nat.mul_one, Nat.mul_one, ← List.map_drop, ← List.map_take, show p + s.length - p = s.length by omega, ← hft]
      have hg : b[((p + s.length : Nat) : Int).toNat]? = some e := he
      by_cases hA : ∃ v, Lib.atoiAll s = .ok v
      · obtain ⟨v, hv⟩ := hA
        have hv64 := Sp.atoi_i64 hv
        have hcan := Sp.canon_ok hv
        have hat := r_atoi_ok (I := I) hv (by omega) hI
        have hit := r_itoa (I := I) v hv64 hI
        by_cases hsame : Lib.itoa v = s
        · rw [if_pos hsame] at hcan
          rw [hcan] at hnum
          have hst : Sp.stepT b p ok e = (v, p + s.length + 1, ok) := by rw [Sp.stepT, hnum]; rfl
          repeat' (first
            | (refine i_indexFlat (d := 26) (enc := encB) (z := e) (by rfl) (by rfl) (by rfl) (by rfl) hr (fun _ => rfl) (by omega) (by omega) hg ?_; intro bt ot hpt)
            | (refine iq_sliceFT (d := 62) hr (by rfl) (by rfl) (by rfl) (by rfl) (by rfl) (by omega) (by omega) ?_; intro o62 h62; rw [hrs] at h62)
            | (refine iq_bytesStr (d := 63) hm (by rfl) (by rfl) (by rfl) h62 (by omega) ?_)
            | (refine m_call (d := 66) hm (by rfl) (by rfl) (by rfl) (by first | exact pm0 | exact pm1_0 | exact pm1_1 | exact pm1_2 | exact pm1_3 | exact pm2_0 | exact pm2_1 | exact pm2_2 | exact pm2_3 | exact pm2_4 | exact pm3_0 | exact pm3_1 | exact pm3_2) (hat) ?_; clear hm; rintro _ I2 _ _ ⟨rfl, rfl, rfl⟩ hle hm; have hleI2 := hle; try simp only [setn] at hm)
            | (refine m_call (d := 73) hm (by rfl) (by rfl) (by rfl) (by first | exact pm0 | exact pm1_0 | exact pm1_1 | exact pm1_2 | exact pm1_3 | exact pm2_0 | exact pm2_1 | exact pm2_2 | exact pm2_3 | exact pm2_4 | exact pm3_0 | exact pm3_1 | exact pm3_2) (hit) ?_; clear hm; rintro _ I3 _ _ ⟨rfl, rfl, rfl⟩ hle hm; have hleI3 := hle; try simp only [setn] at hm)
            | (refine op_if_none (by rfl) (by rfl) (by rfl) (by rfl) (by kernel_rfl) ?_)
            | refine m_load1 hm (by rfl) (by rfl) (by rfl) (by first | exact gt0 | exact gt1 | exact gt2 | exact gt3 | exact gt4 | exact gt5 | exact gt6) (by rfl) ?_
            | refine i_load1z hm (by rfl) (by rfl) (by rfl) (by assumption) (by rfl) ?_
            | refine mq_load1 hm (by rfl) (by rfl) (by rfl) (by first | exact gt0 | exact gt1 | exact gt2 | exact gt3 | exact gt4 | exact gt5 | exact gt6) (by rfl) ?_
            | (refine m_store1 hm (by rfl) (by rfl) (by rfl) (by rfl) (by first | exact gt0 | exact gt1 | exact gt2 | exact gt3 | exact gt4 | exact gt5 | exact gt6) (by rfl) (by rfl) (by rfl) ?_; clear hm; intro _ hm; try simp only [setn] at hm)
            | refine op_move (by rfl) (by rfl) (by rfl) ?_
            | refine op_assign (by rfl) (by rfl) (by rfl) ?_
            | refine op_pick_true (by rfl) (by rfl) (by rfl) (by rfl) ?_
            | refine op_pick_false (by rfl) (by rfl) (by rfl) (by rfl) ?_
            | refine op_lss (by rfl) (by rfl) (by rfl) (by rfl) ?_
            | refine op_eql (by rfl) (by rfl) (by rfl) (by rfl) ?_
            | refine op_neq (by rfl) (by rfl) (by rfl) (by rfl) ?_
            | refine op_neq_str (by rfl) (by rfl) (by rfl) (by rfl) ?_
            | refine op_len_slice (by rfl) (by rfl) (by rfl) ?_
            | refine op_extract (by rfl) (by rfl) (by rfl) (by rfl) ?_
            | refine op_nilCheck (by rfl) (by rfl) (by rfl) ?_
            | refine op_add (by rfl) (by rfl) (by rfl) (by rfl) (by omega) ?_
            | refine op_fieldAddr (by rfl) (by rfl) (by rfl) ?_
            | (refine wl_split_dec (by rfl) (by rfl) (by rfl) (fun _ => ?_) (fun _ => ?_) <;> (try first | contradiction | (exfalso; omega)))
            | refine wl_nil ?_
            | refine at_then_normal ?_
            | refine at_then_exit ?_
            | refine at_block_exit ?_
            | refine wc_seq ?_
            | refine wc_region ?_
            | refine wc_skip ?_
            | refine wc_exit ?_
            | refine wc_ret ?_
            | refine at_ret1 (by rfl) (by rfl) ?_
            | refine wc_quiet (by kernel_rfl) ?_
            | (refine wq_nil ?_; intro _ hkq; replace hm := hm.kept0 hkq; clear hkq)
            | (refine wc_cond_dec (by rfl) (fun _ => ?_) (fun _ => ?_) <;> (try first | contradiction | (exfalso; omega)))
            | refine q_move (by rfl) (by rfl) (by rfl) ?_
            | refine q_assign (by rfl) (by rfl) (by rfl) ?_
            | refine q_nilCheck (by rfl) (by rfl) (by rfl) ?_
            | refine q_fieldAddr (by rfl) (by rfl) (by rfl) ?_)
          rw [hst]
          exact ⟨_, _, ⟨rfl, rfl⟩, hm⟩
        · rw [if_neg hsame] at hcan
          rw [hcan] at hnum
          have hst := hbad hnum
          repeat' (first
            | (refine i_indexFlat (d := 26) (enc := encB) (z := e) (by rfl) (by rfl) (by rfl) (by rfl) hr (fun _ => rfl) (by omega) (by omega) hg ?_; intro bt ot hpt)
            | (refine iq_sliceFT (d := 62) hr (by rfl) (by rfl) (by rfl) (by rfl) (by rfl) (by omega) (by omega) ?_; intro o62 h62; rw [hrs] at h62)
            | (refine iq_bytesStr (d := 63) hm (by rfl) (by rfl) (by rfl) h62 (by omega) ?_)
            | (refine m_call (d := 66) hm (by rfl) (by rfl) (by rfl) (by first | exact pm0 | exact pm1_0 | exact pm1_1 | exact pm1_2 | exact pm1_3 | exact pm2_0 | exact pm2_1 | exact pm2_2 | exact pm2_3 | exact pm2_4 | exact pm3_0 | exact pm3_1 | exact pm3_2) (hat) ?_; clear hm; rintro _ I2 _ _ ⟨rfl, rfl, rfl⟩ hle hm; have hleI2 := hle; try simp only [setn] at hm)
            | (refine m_call (d := 73) hm (by rfl) (by rfl) (by rfl) (by first | exact pm0 | exact pm1_0 | exact pm1_1 | exact pm1_2 | exact pm1_3 | exact pm2_0 | exact pm2_1 | exact pm2_2 | exact pm2_3 | exact pm2_4 | exact pm3_0 | exact pm3_1 | exact pm3_2) (hit) ?_; clear hm; rintro _ I3 _ _ ⟨rfl, rfl, rfl⟩ hle hm; have hleI3 := hle; try simp only [setn] at hm)
            | (refine op_if_none (by rfl) (by rfl) (by rfl) (by rfl) (by kernel_rfl) ?_)
            | refine m_load1 hm (by rfl) (by rfl) (by rfl) (by first | exact gt0 | exact gt1 | exact gt2 | exact gt3 | exact gt4 | exact gt5 | exact gt6) (by rfl) ?_
            | refine i_load1z hm (by rfl) (by rfl) (by rfl) (by assumption) (by rfl) ?_
            | refine mq_load1 hm (by rfl) (by rfl) (by rfl) (by first | exact gt0 | exact gt1 | exact gt2 | exact gt3 | exact gt4 | exact gt5 | exact gt6) (by rfl) ?_
            | (refine m_store1 hm (by rfl) (by rfl) (by rfl) (by rfl) (by first | exact gt0 | exact gt1 | exact gt2 | exact gt3 | exact gt4 | exact gt5 | exact gt6) (by rfl) (by rfl) (by rfl) ?_; clear hm; intro _ hm; try simp only [setn] at hm)
            | refine op_move (by rfl) (by rfl) (by rfl) ?_
            | refine op_assign (by rfl) (by rfl) (by rfl) ?_
            | refine op_pick_true (by rfl) (by rfl) (by rfl) (by rfl) ?_
            | refine op_pick_false (by rfl) (by rfl) (by rfl) (by rfl) ?_
            | refine op_lss (by rfl) (by rfl) (by rfl) (by rfl) ?_
            | refine op_eql (by rfl) (by rfl) (by rfl) (by rfl) ?_
            | refine op_neq (by rfl) (by rfl) (by rfl) (by rfl) ?_
            | refine op_neq_str (by rfl) (by rfl) (by rfl) (by rfl) ?_
            | refine op_len_slice (by rfl) (by rfl) (by rfl) ?_
            | refine op_extract (by rfl) (by rfl) (by rfl) (by rfl) ?_
            | refine op_nilCheck (by rfl) (by rfl) (by rfl) ?_
            | refine op_fieldAddr (by rfl) (by rfl) (by rfl) ?_
            | (refine wl_split_dec (by rfl) (by rfl) (by rfl) (fun _ => ?_) (fun _ => ?_) <;> (try first | contradiction | (exfalso; omega)))
            | refine wl_nil ?_
            | refine at_then_normal ?_
            | refine at_then_ret ?_
            | refine at_then_exit ?_
            | refine at_block_exit ?_
            | refine wc_seq ?_
            | refine wc_region ?_
            | refine wc_skip ?_
            | refine wc_exit ?_
            | refine wc_ret ?_
            | refine at_ret1 (by rfl) (by rfl) ?_
            | refine wc_quiet (by kernel_rfl) ?_
            | (refine wq_nil ?_; intro _ hkq; replace hm := hm.kept0 hkq; clear hkq)
            | (refine wc_cond_dec (by rfl) (fun _ => ?_) (fun _ => ?_) <;> (try first | contradiction | (exfalso; omega)))
            | refine q_move (by rfl) (by rfl) (by rfl) ?_
            | refine q_assign (by rfl) (by rfl) (by rfl) ?_
            | refine q_nilCheck (by rfl) (by rfl) (by rfl) ?_
            | refine q_fieldAddr (by rfl) (by rfl) (by rfl) ?_)
          all_goals try (rename_i hne; exact absurd hsame hne)
          rw [hst]
          exact ⟨_, _, ⟨rfl, rfl⟩, hm⟩
      · have hno : ∀ v, Lib.atoiAll s ≠ .ok v := fun v hv => hA ⟨v, hv⟩
        have hcan := Sp.canon_bad hno
        rw [hcan] at hnum
        have hst := hbad hnum
        have hat := r_atoi_bad (I := I) hno (by omega) hI
        repeat' (first
          | (refine i_indexFlat (d := 26) (enc := encB) (z := e) (by rfl) (by rfl) (by rfl) (by rfl) hr (fun _ => rfl) (by omega) (by omega) hg ?_; intro bt ot hpt)
          | (refine iq_sliceFT (d := 62) hr (by rfl) (by rfl) (by rfl) (by rfl) (by rfl) (by omega) (by omega) ?_; intro o62 h62; rw [hrs] at h62)
          | (refine iq_bytesStr (d := 63) hm (by rfl) (by rfl) (by rfl) h62 (by omega) ?_)
          | (refine m_call (d := 66) hm (by rfl) (by rfl) (by rfl) (by first | exact pm0 | exact pm1_0 | exact pm1_1 | exact pm1_2 | exact pm1_3 | exact pm2_0 | exact pm2_1 | exact pm2_2 | exact pm2_3 | exact pm2_4 | exact pm3_0 | exact pm3_1 | exact pm3_2) (hat) ?_; clear hm; rintro _ I2 _ _ ⟨rfl, rfl, n, te, pe, rfl⟩ hle hm; have hleI2 := hle; try simp only [setn] at hm)
          | (refine op_if_held (by rfl) (by rfl) (by rfl) (by rfl) (by kernel_rfl) ?_)
          | refine m_load1 hm (by rfl) (by rfl) (by rfl) (by first | exact gt0 | exact gt1 | exact gt2 | exact gt3 | exact gt4 | exact gt5 | exact gt6) (by rfl) ?_
          | refine i_load1z hm (by rfl) (by rfl) (by rfl) (by assumption) (by rfl) ?_
          | refine mq_load1 hm (by rfl) (by rfl) (by rfl) (by first | exact gt0 | exact gt1 | exact gt2 | exact gt3 | exact gt4 | exact gt5 | exact gt6) (by rfl) ?_
          | (refine m_store1 hm (by rfl) (by rfl) (by rfl) (by rfl) (by first | exact gt0 | exact gt1 | exact gt2 | exact gt3 | exact gt4 | exact gt5 | exact gt6) (by rfl) (by rfl) (by rfl) ?_; clear hm; intro _ hm; try simp only [setn] at hm)
          | refine op_move (by rfl) (by rfl) (by rfl) ?_
          | refine op_assign (by rfl) (by rfl) (by rfl) ?_
          | refine op_pick_true (by rfl) (by rfl) (by rfl) (by rfl) ?_
          | refine op_lss (by rfl) (by rfl) (by rfl) (by rfl) ?_
          | refine op_eql (by rfl) (by rfl) (by rfl) (by rfl) ?_
          | refine op_neq (by rfl) (by rfl) (by rfl) (by rfl) ?_
          | refine op_len_slice (by rfl) (by rfl) (by rfl) ?_
          | refine op_extract (by rfl) (by rfl) (by rfl) (by rfl) ?_
          | refine op_nilCheck (by rfl) (by rfl) (by rfl) ?_
          | refine op_fieldAddr (by rfl) (by rfl) (by rfl) ?_
          | refine wl_skip (by rfl) (by rfl) (by rfl) ?_
          | (refine wl_split_dec (by rfl) (by rfl) (by rfl) (fun _ => ?_) (fun _ => ?_) <;> (try first | contradiction | (exfalso; omega)))
          | refine wl_nil ?_
          | refine at_then_normal ?_
          | refine at_then_ret ?_
          | refine at_then_exit ?_
          | refine at_block_exit ?_
          | refine wc_seq ?_
          | refine wc_region ?_
          | refine wc_skip ?_
          | refine wc_exit ?_
          | refine wc_ret ?_
          | refine at_ret1 (by rfl) (by rfl) ?_
          | refine wc_quiet (by kernel_rfl) ?_
          | (refine wq_nil ?_; intro _ hkq; replace hm := hm.kept0 hkq; clear hkq)
          | refine wc_cond_true (by rfl) ?_
          | (refine wc_cond_dec (by rfl) (fun _ => ?_) (fun _ => ?_) <;> (try first | contradiction | (exfalso; omega)))
          | refine q_move (by rfl) (by rfl) (by rfl) ?_
          | refine q_assign (by rfl) (by rfl) (by rfl) ?_
          | refine q_nilCheck (by rfl) (by rfl) (by rfl) ?_
          | refine q_fieldAddr (by rfl) (by rfl) (by rfl) ?_)
        rw [hst]
        exact ⟨_, _, ⟨rfl, rfl⟩, hm⟩
    · have hst := hbad (hopen (by omega))
      repeat' (first
        | refine m_load1 hm (by rfl) (by rfl) (by rfl) (by first | exact gt0 | exact gt1 | exact gt2 | exact gt3 | exact gt4 | exact gt5 | exact gt6) (by rfl) ?_
        | (refine m_store1 hm (by rfl) (by rfl) (by rfl) (by rfl) (by first | exact gt0 | exact gt1 | exact gt2 | exact gt3 | exact gt4 | exact gt5 | exact gt6) (by rfl) (by rfl) (by rfl) ?_; clear hm; intro _ hm; try simp only [setn] at hm)
        | refine op_move (by rfl) (by rfl) (by rfl) ?_
        | refine op_assign (by rfl) (by rfl) (by rfl) ?_
        | refine op_pick_false (by rfl) (by rfl) (by rfl) (by rfl) ?_
        | refine op_lss (by rfl) (by rfl) (by rfl) (by rfl) ?_
        | refine op_eql (by rfl) (by rfl) (by rfl) (by rfl) ?_
        | refine op_len_slice (by rfl) (by rfl) (by rfl) ?_
        | refine op_nilCheck (by rfl) (by rfl) (by rfl) ?_
        | refine op_fieldAddr (by rfl) (by rfl) (by rfl) ?_
        | refine wl_skip (by rfl) (by rfl) (by rfl) ?_
        | (refine wl_split_dec (by rfl) (by rfl) (by rfl) (fun _ => ?_) (fun _ => ?_) <;> (try first | contradiction | (exfalso; omega)))
        | refine wl_nil ?_
        | refine at_then_normal ?_
        | refine at_then_ret ?_
        | refine at_then_exit ?_
        | refine at_block_exit ?_
        | refine wc_seq ?_
        | refine wc_region ?_
        | refine wc_exit ?_
        | refine wc_ret ?_
        | refine at_ret1 (by rfl) (by rfl) ?_
        | refine wc_cond_false (by rfl) ?_
        | (refine wc_cond_dec (by rfl) (fun _ => ?_) (fun _ => ?_) <;> (try first | contradiction | (exfalso; omega))))
      all_goals try (exfalso; omega)
      rw [hst]
      exact ⟨_, _, ⟨rfl, rfl⟩, hm⟩
end Go.Proofs.YtkbiakajlfmakaaDoor
end
