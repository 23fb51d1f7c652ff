/- Own work: texts Shelf, PpAt, PostVar, PpD, ExM, PpE, PpF, one behind the other. -/
import Derived.Test.YthmdffgiockcbaaDoorIf11
import Derived.Shelf.Strconv.Atoi
import Derived.Shelf.Strconv.AtoiErrFast
import Derived.Shelf.Strconv.ParseIntEmpty
import Derived.Shelf.Strconv.AtoiFail
import Derived.Shelf.LaysM
import Derived.Shelf.Strconv.Clone
import Derived.Shelf.Strconv.SyntaxError
import Derived.Shelf.LaysC
import Derived.Shelf.Strconv.ToError
import Derived.Shelf.Strconv.Lower
import Derived.Shelf.Strconv.ParseUint10
import Derived.Shelf.Strconv.ParseUint10Empty
import Derived.Shelf.Strconv.ParseUint10Any
import Derived.Shelf.Strconv.ParseInt10
import Derived.Shelf.Strconv.AtoiLong
import Derived.Shelf.Strconv.AtoiInnerAll
import Derived.Shelf.Strconv.RangeError
import Derived.Shelf.Strconv.ToErrorRange
import Derived.Shelf.Strconv.AtoiAll
import Derived.Shelf.Strconv.ErrVarAll
import Derived.Test.YthmdffgiockcbaaDoorProg
import Derived.MakeChecks
import Derived.LaidSub
import Derived.Lay
import Derived.Stop.LaidErr
import Derived.WideLaws
import Derived.Lib.MinMax
section
namespace Go.Proofs
open Go.Shelf
def Tryd.laysC172_ren : Go.Shelf.Ren := ⟨fun | 172 => 72 | 244 => 73 | 245 => 74 | 247 => 75 | 279 => 76 | 280 => 77 | 281 => 78 | 282 => 79 | 287 => 80 | 316 => 81 | 171 => 83 | 205 => 82 | 321 => 84 | 322 => 85 | 243 => 86 | 246 => 87 | 283 => 88 | 284 => 89 | 285 => 90 | 286 => 91 | 129 => 93 | 317 => 92 | 318 => 94 | 319 => 95 | 320 => 96 | 337 => 97 | 338 => 98 | n => n, fun | 9 => 9 | 3 => 3 | 75 => 126 | 76 => 127 | 4 => 4 | 5 => 5 | 167 => 130 | 37 => 131 | 0 => 0 | 85 => 132 | 2 => 2 | 168 => 134 | 53 => 137 | 175 => 138 | 46 => 140 | 210 => 143 | 127 => 147 | 145 => 150 | 143 => 148 | 21 => 21 | 171 => 152 | 173 => 155 | 212 => 159 | 51 => 160 | 20 => 20 | 213 => 161 | 232 => 165 | 233 => 166 | 80 => 99 | n => n, fun | 15 => 0 | 16 => 1 | 17 => 2 | 18 => 3 | 19 => 4 | n => n⟩
theorem Tryd.laysC172 : Go.Proofs.LaysC.n172 Tryd.prog Tryd.laysC172_ren := {
  mixed := by kernel_rfl
  f129 := Tryd.func93.trans (congrArg some (by kernel_rfl))
  f171 := Tryd.func83.trans (congrArg some (by kernel_rfl))
  f172 := Tryd.func72.trans (congrArg some (by kernel_rfl))
  f205 := Tryd.func82.trans (congrArg some (by kernel_rfl))
  f243 := Tryd.func86.trans (congrArg some (by kernel_rfl))
  f244 := Tryd.func73.trans (congrArg some (by kernel_rfl))
  f245 := Tryd.func74.trans (congrArg some (by kernel_rfl))
  f246 := Tryd.func87.trans (congrArg some (by kernel_rfl))
  f247 := Tryd.func75.trans (congrArg some (by kernel_rfl))
  f279 := Tryd.func76.trans (congrArg some (by kernel_rfl))
  f280 := Tryd.func77.trans (congrArg some (by kernel_rfl))
  f281 := Tryd.func78.trans (congrArg some (by kernel_rfl))
  f282 := Tryd.func79.trans (congrArg some (by kernel_rfl))
  f283 := Tryd.func88.trans (congrArg some (by kernel_rfl))
  f284 := Tryd.func89.trans (congrArg some (by kernel_rfl))
  f285 := Tryd.func90.trans (congrArg some (by kernel_rfl))
  f286 := Tryd.func91.trans (congrArg some (by kernel_rfl))
  f287 := Tryd.func80.trans (congrArg some (by kernel_rfl))
  f316 := Tryd.func81.trans (congrArg some (by kernel_rfl))
  f317 := Tryd.func92.trans (congrArg some (by kernel_rfl))
  f318 := Tryd.func94.trans (congrArg some (by kernel_rfl))
  f319 := Tryd.func95.trans (congrArg some (by kernel_rfl))
  f320 := Tryd.func96.trans (congrArg some (by kernel_rfl))
  f321 := Tryd.func84.trans (congrArg some (by kernel_rfl))
  f322 := Tryd.func85.trans (congrArg some (by kernel_rfl))
  f337 := Tryd.func97.trans (congrArg some (by kernel_rfl))
  f338 := Tryd.func98.trans (congrArg some (by kernel_rfl))
  t0 := Tryd.underlying0
  a0 := Tryd.isAgg0
  z0 := Tryd.sizeOf0
  v0 := Tryd.zeroValue0
  t2 := Tryd.underlying2
  a2 := Tryd.isAgg2
  z2 := Tryd.sizeOf2
  v2 := Tryd.zeroValue2
  t3 := Tryd.underlying3
  a3 := Tryd.isAgg3
  z3 := Tryd.sizeOf3
  v3 := Tryd.zeroValue3
  t4 := Tryd.underlying4
  a4 := Tryd.isAgg4
  z4 := Tryd.sizeOf4
  v4 := Tryd.zeroValue4
  t5 := Tryd.underlying5
  a5 := Tryd.isAgg5
  z5 := Tryd.sizeOf5
  v5 := Tryd.zeroValue5
  t9 := Tryd.underlying9
  a9 := Tryd.isAgg9
  z9 := Tryd.sizeOf9
  v9 := Tryd.zeroValue9
  t20 := Tryd.underlying20
  a20 := Tryd.isAgg20
  z20 := Tryd.sizeOf20
  v20 := Tryd.zeroValue20
  t21 := Tryd.underlying21
  a21 := Tryd.isAgg21
  z21 := Tryd.sizeOf21
  v21 := Tryd.zeroValue21
  t37 := Tryd.underlying131
  a37 := Tryd.isAgg131
  z37 := Tryd.sizeOf131
  v37 := Tryd.zeroValue131
  t46 := Tryd.underlying140
  a46 := Tryd.isAgg140
  z46 := Tryd.sizeOf140
  v46 := Tryd.zeroValue140
  t51 := Tryd.underlying160
  a51 := Tryd.isAgg160
  z51 := Tryd.sizeOf160
  v51 := Tryd.zeroValue160
  t53 := Tryd.underlying137
  a53 := Tryd.isAgg137
  z53 := Tryd.sizeOf137
  v53 := Tryd.zeroValue137
  t75 := Tryd.underlying126
  a75 := Tryd.isAgg126
  z75 := Tryd.sizeOf126
  v75 := Tryd.zeroValue126
  t76 := Tryd.underlying127
  a76 := Tryd.isAgg127
  z76 := Tryd.sizeOf127
  v76 := Tryd.zeroValue127
  t85 := Tryd.underlying132
  a85 := Tryd.isAgg132
  z85 := Tryd.sizeOf132
  v85 := Tryd.zeroValue132
  t127 := Tryd.underlying147
  a127 := Tryd.isAgg147
  z127 := Tryd.sizeOf147
  v127 := Tryd.zeroValue147
  t143 := Tryd.underlying148
  a143 := Tryd.isAgg148
  z143 := Tryd.sizeOf148
  v143 := Tryd.zeroValue148
  t145 := Tryd.underlying150
  a145 := Tryd.isAgg150
  z145 := Tryd.sizeOf150
  v145 := Tryd.zeroValue150
  t167 := Tryd.underlying130
  a167 := Tryd.isAgg130
  z167 := Tryd.sizeOf130
  v167 := Tryd.zeroValue130
  t168 := Tryd.underlying134
  a168 := Tryd.isAgg134
  z168 := Tryd.sizeOf134
  v168 := Tryd.zeroValue134
  t171 := Tryd.underlying152
  a171 := Tryd.isAgg152
  z171 := Tryd.sizeOf152
  v171 := Tryd.zeroValue152
  t173 := Tryd.underlying155
  a173 := Tryd.isAgg155
  z173 := Tryd.sizeOf155
  v173 := Tryd.zeroValue155
  t175 := Tryd.underlying138
  a175 := Tryd.isAgg138
  z175 := Tryd.sizeOf138
  v175 := Tryd.zeroValue138
  t210 := Tryd.underlying143
  a210 := Tryd.isAgg143
  z210 := Tryd.sizeOf143
  v210 := Tryd.zeroValue143
  t212 := Tryd.underlying159
  a212 := Tryd.isAgg159
  z212 := Tryd.sizeOf159
  v212 := Tryd.zeroValue159
  t213 := Tryd.underlying161
  a213 := Tryd.isAgg161
  z213 := Tryd.sizeOf161
  t232 := Tryd.underlying165
  a232 := Tryd.isAgg165
  z232 := Tryd.sizeOf165
  v232 := Tryd.zeroValue165
  t233 := Tryd.underlying166
  a233 := Tryd.isAgg166
  z233 := Tryd.sizeOf166
  v233 := Tryd.zeroValue166
  g15 := by kernel_rfl
  g16 := by kernel_rfl
  g17 := by kernel_rfl
  g18 := by kernel_rfl
  g19 := by kernel_rfl
  t80 := Tryd.underlying99
  a80 := Tryd.isAgg99
  z80 := Tryd.sizeOf99
  v80 := Tryd.zeroValue99
  i0 := by kernel_rfl
  i2 := by kernel_rfl
  i3 := by kernel_rfl
  i4 := by kernel_rfl
  i5 := by kernel_rfl
  i9 := by kernel_rfl
  i20 := by kernel_rfl
  i21 := by kernel_rfl
  i37 := by kernel_rfl
  i46 := by kernel_rfl
  i51 := by kernel_rfl
  i53 := by kernel_rfl
  i75 := by kernel_rfl
  i76 := by kernel_rfl
  i80 := by kernel_rfl
  i85 := by kernel_rfl
  i127 := by kernel_rfl
  i143 := by kernel_rfl
  i145 := by kernel_rfl
  i167 := by kernel_rfl
  i168 := by kernel_rfl
  i171 := by kernel_rfl
  i173 := by kernel_rfl
  i175 := by kernel_rfl
  i210 := by kernel_rfl
  i212 := by kernel_rfl
  i232 := by kernel_rfl
  i233 := by kernel_rfl
  m15 := by kernel_rfl
  m16 := by kernel_rfl
  m17 := by kernel_rfl
  m18 := by kernel_rfl
  m19 := by kernel_rfl
  c0 := by kernel_rfl
  c2 := by kernel_rfl
  c3 := by kernel_rfl
  c4 := by kernel_rfl
  c5 := by kernel_rfl
  c9 := by kernel_rfl
  c20 := by kernel_rfl
  c21 := by kernel_rfl
  c37 := by kernel_rfl
  c46 := by kernel_rfl
  c51 := by kernel_rfl
  c53 := by kernel_rfl
  c75 := by kernel_rfl
  c76 := by kernel_rfl
  c80 := by kernel_rfl
  c85 := by kernel_rfl
  c127 := by kernel_rfl
  c143 := by kernel_rfl
  c145 := by kernel_rfl
  c167 := by kernel_rfl
  c168 := by kernel_rfl
  c171 := by kernel_rfl
  c173 := by kernel_rfl
  c175 := by kernel_rfl
  c210 := by kernel_rfl
  c212 := by kernel_rfl
  c213 := by kernel_rfl
  c232 := by kernel_rfl
  c233 := by kernel_rfl }
open Go.RowKit in
/-- strconv.Atoi, AT EVERY STRING THAT SPELLS AN int ('Lib.atoiAll .. = .ok v'; of whatever length: leading zeros count): v, AND NO ERROR. The world: as it was, or with the one new row that '[]byte(..)' lays. (LAID: no walk: one application.) -/
theorem Tryd.strconv_Atoi_ok (s : ByteArray) (hmax : s.size ≤ 9223372036854775806) (v : Int) (h : Lib.atoiAll s.data.toList = .ok v) (w : World) :
    Calls Tryd.prog 72 #[.string s] w fun e w' => e = .returned (.tuple #[.int .i64 v, .nilIface]) ∧ (w' = w ∨ ∃ t, w' = Lib.bytesWorld w 5 t) := Any.strconv_Atoi_ok Tryd.laysC172 s hmax v h w
open Go.RowKit in
/-- strconv.Atoi, AT EVERY NUMERAL THAT NO int HOLDS ('.range'): THE GREATEST OR THE LEAST int, BY THE SIGN ('Lib.atoiSat'), AND AN ERROR THAT IS NOT nil: a *NumError in a new block N: {Func: "Atoi", Num: s's bytes, Err: what the variable ErrRange holds}. Of what was there nothing has turned. (LAID: no walk: one application.) -/
theorem Tryd.strconv_Atoi_range (s : ByteArray) (hlim : s.size ≤ 281474976710656) (h : Lib.atoiAll s.data.toList = .range) (ev : Value) (w : World) (hv : w.cell? ⟨1, 0, none⟩ = some ev) (hev : ev = .nilIface ∨ ∃ te pe, ev = .iface te pe) :
    Calls Tryd.prog 72 #[.string s] w fun e w' => ∃ N, e = .returned (.tuple #[.int .i64 (Lib.atoiSat s.data.toList), .iface 134 (.pointer (some ⟨N, 0, none⟩))]) ∧ w.heap.size ≤ N ∧ w'.heap[N]? = some (.cells #[.string ⟨#[65, 116, 111, 105]⟩, .string s, ev] 143 (0, 0)) ∧ Below w.heap.size w w' := Any.strconv_Atoi_range Tryd.laysC172 s hlim h ev w hv hev
end Go.Proofs
end
section
namespace Go.Proofs.YthmdffgiockcbaaDoor
open Go.Fw
/-- the library's variable that a number too great is told by. -/
def Conv (I : Imm) : Prop := ∃ te pe c ty fr, I 1 = some (.cells c ty fr) ∧ c[0]? = some (.iface te pe)
theorem Conv.le {I I' : Imm} (h : Conv I) (m : Le I I') : Conv I' := by
  obtain ⟨te, pe, c, ty, fr, h1, h2⟩ := h
  exact ⟨te, pe, c, ty, fr, m _ _ h1, h2⟩
/-- what comes of digits. -/
abbrev ToNum (t : List UInt8) (I : Imm) : Value → Imm → List HItem → Prop := fun v I' H' => I = I' ∧ H' = [] ∧
  ((Sp.digits t ≤ 1000000000 ∧ v = .tuple #[nt (Sp.digits t), .nilIface]) ∨ (1000000000 < Sp.digits t ∧ ∃ (n : Int) (e : Value), v = .tuple #[.int .i64 n, e] ∧ ((e = .nilIface ∧ 1000000000 < n) ∨ ∃ te pe, e = .iface te pe)))
theorem p_atoi {I : Imm} (t : List UInt8) (hn : 1 ≤ t.length) (hl : t.length ≤ 1048576) (hd : ∀ c ∈ t, 48 ≤ c.toNat ∧ c.toNat ≤ 57) (hI : Conv I) :
    CalM Tryd.prog 72 #[str t] I [] (ToNum t I) := by
  refine ⟨fun w hm => ⟨?_⟩⟩
  have hsz : (⟨t.toArray⟩ : ByteArray).size = t.length := str_size t
  obtain ⟨h1, h2⟩ := Sp.atoi_digits t hn hd
  have okc : ∀ v : Int, Lib.atoiAll t = .ok v → Calls Tryd.prog 72 #[str t] w (Ret (fun u w' => u = .tuple #[.int .i64 v, .nilIface] ∧ Kept [] w w')) := fun v hv =>
    Calls.mono (Tryd.strconv_Atoi_ok ⟨t.toArray⟩ (by rw [hsz]; omega) v (by simpa using hv) w) (fun e w' ⟨he, hw⟩ => by
      subst he
      refine ⟨rfl, ?_⟩
      rcases hw with rfl | ⟨b, rfl⟩
      · exact Kept.refl _ _
      · exact bytes_kept _ _ _)
  rcases Nat.lt_or_ge 1000000000 (Sp.digits t) with hb | hb
  · rcases h2 hb with h3 | ⟨v, hv, h3⟩
    · obtain ⟨te, pe, c, ty, fr, e1, e2⟩ := hI
      have hc : w.cell? ⟨1, 0, none⟩ = some (.iface te pe) := cell_of (hm.inv _ _ e1) e2
      exact Calls.mono (Tryd.strconv_Atoi_range ⟨t.toArray⟩ (by rw [hsz]; omega) (by simpa using h3) _ w hc (.inr ⟨te, pe, rfl⟩)) (fun e w' ⟨n, he, _, _, hw⟩ => by
        subst he
        exact ⟨I, [], ⟨rfl, rfl, .inr ⟨hb, _, _, rfl, .inr ⟨_, _, rfl⟩⟩⟩, hm.kept0 (Kept.of_below hw)⟩)
    · exact Calls.mono (okc v h3) (fun e w' q => by
        cases e with
        | returned u => exact ⟨I, [], ⟨rfl, rfl, .inr ⟨hb, v, .nilIface, q.1, .inl ⟨rfl, hv⟩⟩⟩, hm.kept0 q.2⟩
        | panicked c => exact q.elim
        | outgrown => exact q.elim)
  · exact Calls.mono (okc _ (h1 hb)) (fun e w' q => by
      cases e with
      | returned u => exact ⟨I, [], ⟨rfl, rfl, .inl ⟨hb, q.1⟩⟩, hm.kept0 q.2⟩
      | panicked c => exact q.elim
      | outgrown => exact q.elim)
end Go.Proofs.YthmdffgiockcbaaDoor
end
section
namespace Go.Proofs.YthmdffgiockcbaaDoor
open Go.Fw
open Go.RowKit
theorem star_es : "*" ++ "errors.errorString" = "*errors.errorString" := by decide
theorem row_es (u : TypeId) (h : Tryd.prog.typeName? 3 u = some "*errors.errorString") : u = 148 :=
  typeName_ptr_named (nm := "errors.errorString") (by rw [star_es]; kernel_rfl) (by kernel_rfl) (by decide) u (by rw [star_es]; exact h)
theorem conv_of {l : List (String × DataW Unit)} {W : World} (h : laidMetH Tryd.prog l W) (hp : (l.all fun x => x.2.handleName?.isNone) = true)
    (he : l.filter (fun x => x.1 == "strconv.ErrRange") = [("strconv.ErrRange", Rows.laid_strconv_ErrRange)]) : Conv (immOf W) := by
  rw [MakeChecks.laidMetH_plain _ _ _ hp] at h
  have h1 := h.filter (fun x => x.1 == "strconv.ErrRange")
  rw [he] at h1
  obtain ⟨a, s, hv, _⟩ := laid_sentinel (g := 1) h1 (by kernel_rfl) (ti := 126) (by kernel_rfl) Tryd.underlying126 row_es Tryd.underlying148 Tryd.underlying150 rfl rfl Tryd.underlying9 (by kernel_rfl) (by kernel_rfl)
  have hg : Tryd.prog.globalNamed "strconv.ErrRange" = some 1 := by kernel_rfl
  simp only [World.var?, hg, Option.bind_some] at hv
  split at hv
  · rename_i cs ty fr hw
    obtain rfl := Option.some.inj hv
    exact ⟨_, _, _, _, _, hw, rfl⟩
  · cases hv
/-- a law's walk, at a world that holds the variable. -/
theorem run_kept {f : FuncId} {args : Array Value} {v : Value} {W : World} (h : CalM Tryd.prog f args (immOf W) [] (fun u _ H' => u = v ∧ H' = [])) : Cal Tryd.prog f args W (fun u W' => u = v ∧ Kept [] W W') :=
  (h.run W (Mem.start (immOf_inv W))).mono (fun _ _ ⟨_, _, ⟨h1, _⟩, h2⟩ => ⟨h1, h2.kept⟩)
end Go.Proofs.YthmdffgiockcbaaDoor
end
section
namespace Go.Fw
open Go
section
variable {P : Program} {N : Nat} {ds : List Deferred} {Q : Exit → Act → World → Prop} {l : Log} {w : World} {ops : Array Oper} {os : List Oper}
variable {d : Nat} {ty : TypeId} {pos : String} {af : Array Edge} {g : Option (Nat × Bool)} {t t' : TypeId} {x y : Operand}
theorem op_neq_held {te : TypeId} {pe : Value} {c : Value} (hw : want ops l ⟨some d, .binOp .neq t x (.const c) t', ty, pos, af, g⟩ = some true) (hN : Nat.blt d N = true)
    (hx : ev l x = some (.iface te pe)) (hc : c = .nilIface) (ht : P.underlying t = some (.interface (P.methodsAt t))) (k : WL P N ds ops Q os ((d, .bool true) :: l) w) :
    WL P N ds ops Q (⟨some d, .binOp .neq t x (.const c) t', ty, pos, af, g⟩ :: os) l w :=
  wl_value rfl hw hN (fun a ha => by
    subst hc
    have h := run_neq_held_nil (P := P) w t te pe ht
    have e2 : a.eval (.const .nilIface) = .nilIface := rfl
    simp [execOp, ha.ev hx, e2, eqGuard, h]) k
theorem op_neq_none {c : Value} (hw : want ops l ⟨some d, .binOp .neq t x (.const c) t', ty, pos, af, g⟩ = some true) (hN : Nat.blt d N = true)
    (hx : ev l x = some .nilIface) (hc : c = .nilIface) (ht : P.underlying t = some (.interface (P.methodsAt t))) (k : WL P N ds ops Q os ((d, .bool false) :: l) w) :
    WL P N ds ops Q (⟨some d, .binOp .neq t x (.const c) t', ty, pos, af, g⟩ :: os) l w :=
  wl_value rfl hw hN (fun a ha => by
    subst hc
    have h := run_equal_nil_nil (P := P) w t ht
    have e2 : a.eval (.const .nilIface) = .nilIface := rfl
    simp [execOp, ha.ev hx, e2, eqGuard, binOp, h]) k
end
end Go.Fw
namespace Go.Proofs.YthmdffgiockcbaaDoor
open Go.Fw
section
variable {I : Imm} {pb deep lc dc b1 : Nat} {la da : Option Addr} {T : Sp.Src} {E : Ent} {R : List HItem} {w : World} {s : Sp.St}
theorem p_decA (hdp : deep ≤ 12) (hm : Mem E I (.cell b1 [ptr pb] 94 :: qObj pb la lc T s (deep + 1) da dc :: R) w) :
    CalD Tryd.prog 71 #[ptr b1] w (fun w' => Mem E I (.cell b1 [ptr pb] 94 :: qObj pb la lc T s deep da dc :: R) w') := by
  refine enterD (N := 8) Tryd.func71 rfl [(0, ptr b1)] args1 rfl ?_
  have hsub : (((deep + 1 : Nat) : Int)) - 1 = (deep : Int) := by omega
  repeat' (first
  | (refine op_sub (k:=?_); rw [hsub])
  | refine m_load1 hm (k:=?_)
  | (refine m_store1 hm (k:=?_); clear hm; intro _ hm; try simp only [setn] at hm)
  | refine op_nilCheck (k:=?_)
  | refine op_fieldAddr (k:=?_)
  | refine wl_nil ?_
  | refine wc_region ?_
  | refine at_end0 (h:=?_))
  exact hm
theorem p_decB (hdp : deep ≤ 12) (hm : Mem E I (.cell b1 [ptr pb] 94 :: qObj pb la lc T s (deep + 1) da dc :: R) w) :
    CalD Tryd.prog 55 #[ptr b1] w (fun w' => Mem E I (.cell b1 [ptr pb] 94 :: qObj pb la lc T s deep da dc :: R) w') := by
  refine enterD (N := 8) Tryd.func55 rfl [(0, ptr b1)] args1 rfl ?_
  have hsub : (((deep + 1 : Nat) : Int)) - 1 = (deep : Int) := by omega
  repeat' (first
  | (refine op_sub (k:=?_); rw [hsub])
  | refine m_load1 hm (k:=?_)
  | (refine m_store1 hm (k:=?_); clear hm; intro _ hm; try simp only [setn] at hm)
  | refine op_nilCheck (k:=?_)
  | refine op_fieldAddr (k:=?_)
  | refine wl_nil ?_
  | refine wc_region ?_
  | refine at_end0 (h:=?_))
  exact hm
end
end Go.Proofs.YthmdffgiockcbaaDoor
end
section
namespace Go.Sp
theorem tight_le (t : List UInt8) : tight t ≤ 3 := by
  rw [tight]
  split
  · omega
  · split
    · omega
    · split <;> omega
end Go.Sp
namespace Go.Proofs.YthmdffgiockcbaaDoor
open Go.Fw
/-- an expression's cells, its arguments' slice seen. -/
abbrev exCells (e : Sp.Ex) (ea : Option Addr) (ec : Nat) : List Value := [nt e.kind, str e.name, nt e.n, .slice ea e.args.length ec, nt e.fr, nt e.to]
abbrev ex0 : List Value := [.int .i64 0, str [], .int .i64 0, .slice none 0 0, .int .i64 0, .int .i64 0]
theorem exAt_cells {I : Imm} {e : Sp.Ex} {ea : Option Addr} {ec : Nat} {xs : List Value} (h1 : RowI I 41 6 (.slice ea e.args.length ec) e.args.length xs) (h2 : ExsAt I e.args xs) : ExAt I e (exCells e ea ec) := by
  cases e with
  | mk k nm n args f t => exact .of h1 h2
theorem exs2 {I : Imm} {e1 e2 : Sp.Ex} {c1 c2 : List Value} (h1 : ExAt I e1 c1) (h2 : ExAt I e2 c2) : ExsAt I [e1, e2] (c1 ++ (c2 ++ [])) := by
  rw [ExsAt]; exact ⟨c1, _, rfl, h1, by rw [ExsAt]; exact ⟨c2, [], rfl, h2, .nil⟩⟩
theorem Ok.digs {T : Sp.Src} (h : Ok T) {i : Nat} (hk : (T.tok i).kind = 2) : ∀ c ∈ (T.tok i).text, 48 ≤ c.toNat ∧ c.toNat ≤ 57 := by
  rcases Nat.lt_or_ge i T.l.length with h1 | h1
  · rw [Sp.Src.tok, List.getD_eq_getElem?_getD, List.getElem?_eq_getElem h1] at hk ⊢
    exact h.dig _ (List.getElem_mem h1) hk
  · rw [Sp.tok_end h1] at hk; cases hk
theorem st_row0 (I : Imm) : RowI I 43 15 (.slice none ([] : List Sp.Stm).length 0) ([] : List Sp.Stm).length [] := rowI_nil _ _ _ _ _
theorem stAt_cells {I : Imm} {s : Sp.Stm} {ea a1 a2 : Option Addr} {ec c1 c2 : Nat} {ex xs1 xs2 : List Value}
    (h2 : RowI I 41 6 (.slice ea s.e.args.length ec) s.e.args.length ex) (h3 : ExsAt I s.e.args ex)
    (h4 : RowI I 43 15 (.slice a1 s.thn.length c1) s.thn.length xs1) (h5 : StsAt I s.thn xs1) (h6 : RowI I 43 15 (.slice a2 s.els.length c2) s.els.length xs2) (h7 : StsAt I s.els xs2) :
    StAt I s (stCells s.kind s.name s.at_ s.label s.opn s.e ea ec (.slice a1 s.thn.length c1) (.slice a2 s.els.length c2) s.fr s.to) := by
  cases s with
  | mk k nm a lb o e thn els f t => exact .of h2 h3 h4 h5 h6 h7
abbrev stRow (n : Nat) (a : Option Addr) (cp : Nat) (xs : List Value) : HItem := .row (.slice a n cp) 43 15 n xs
abbrev argRow (n : Nat) (a : Option Addr) (cp : Nat) (xs : List Value) : HItem := .row (.slice a n cp) 41 6 n xs
abbrev nil0 : Value := .slice none 0 0
abbrev parRow (l : List Sp.Par) (n : Nat) (a : Option Addr) (c : Nat) : HItem := .row (.slice a n c) 55 3 n (l.flatMap encPar)
abbrev sndRow (l : List Sp.Rf) (n : Nat) (a : Option Addr) (c : Nat) : HItem := .row (.slice a n c) 75 2 n (l.flatMap encRf)
/-- what comes of a text's file. -/
abbrev ToFile (err : Nat) (its : List Sp.Itm) : Value → Imm → List HItem → Prop := fun v I' H' => ∃ a cp xs, v = .tuple #[.agg [.slice a its.length cp].toArray, nt err] ∧ RowI I' 34 10 (.slice a its.length cp) its.length xs ∧ ItsAt I' its xs ∧ H' = []
abbrev itRow (k : Nat) (a : Option Addr) (cp : Nat) (xs : List Value) : HItem := .row (.slice a k cp) 34 10 k xs
structure ItX where
  I : Imm
  da : Option Addr
  dc : Nat
  ap : Option Addr
  cp : Nat
  as_ : Option Addr
  cs : Nat
  ab : Option Addr
  cb : Nat
  xb : List Value
abbrev itV (q : Sp.Itm) (x : ItX) : List Value := itCells q.kind q.name q.label (.slice x.ap q.params.length x.cp) (.slice x.as_ q.sends.length x.cs) (.slice x.ab q.body.length x.cb) q.at_ q.size q.mark nil0
/-- what comes of an item. -/
abbrev ToIt (it : Sp.Itm) : Value → Imm → List HItem → Prop := fun v I' H' => ∃ cs, v = .agg cs.toArray ∧ ItAt I' it cs ∧ H' = []
end Go.Proofs.YthmdffgiockcbaaDoor
end
section
namespace Go.Fw
open Go
section
variable {P : Program} {N : Nat} {ds : List Deferred} {Q : Exit → Act → World → Prop} {K : Act → World → Prop} {l : Log} {w : World} {ops : Array Oper} {os : List Oper}
variable {d : Nat} {ty : TypeId} {pos : String} {af : Array Edge} {g : Option (Nat × Bool)} {t t' : TypeId} {x y : Operand}
theorem op_max {ts : Array TypeId} {a b : Nat} (hw : want ops l ⟨some d, .call ⟨.builtin .max, #[x, y], ts⟩, ty, pos, af, g⟩ = some true) (hN : Nat.blt d N = true)
    (hx : ev l x = some (.int .i64 (a : Int))) (hy : ev l y = some (.int .i64 (b : Int))) (k : WL P N ds ops Q os ((d, .int .i64 ((max a b : Nat) : Int)) :: l) w) :
    WL P N ds ops Q (⟨some d, .call ⟨.builtin .max, #[x, y], ts⟩, ty, pos, af, g⟩ :: os) l w :=
  wl_value rfl hw hN (fun c hc => by
    have h := Lib.run_max_ints (P := P) w ts ty .i64 .i64 (a : Int) (b : Int)
    simp [execOp, resolve, invoke, builtin, hc.ev hx, hc.ev hy, h]
    omega) k
theorem q_max {ts : Array TypeId} {a b : Nat} (hw : want ops l ⟨some d, .call ⟨.builtin .max, #[x, y], ts⟩, ty, pos, af, g⟩ = some true) (hN : Nat.blt d N = true)
    (hx : ev l x = some (.int .i64 (a : Int))) (hy : ev l y = some (.int .i64 (b : Int))) (k : WQ P N ds ops w K os ((d, .int .i64 ((max a b : Nat) : Int)) :: l)) :
    WQ P N ds ops w K (⟨some d, .call ⟨.builtin .max, #[x, y], ts⟩, ty, pos, af, g⟩ :: os) l :=
  wq_value rfl hw hN (fun w' hkq c hc => by
    have h := Lib.run_max_ints (P := P) w' ts ty .i64 .i64 (a : Int) (b : Int)
    simp [execOp, resolve, invoke, builtin, hc.ev hx, hc.ev hy, h]
    omega) k
end
end Go.Fw
namespace Go.Proofs.YthmdffgiockcbaaDoor
open Go.Fw
def AtomQ (T : Sp.Src) (pb f : Nat) : Prop := ∀ (I : Imm) (la : Option Addr) (lc deep : Nat) (da : Option Addr) (dc : Nat) (s : Sp.St), Conv I → TokR I T la lc → s.i ≤ T.l.length → 3 * (T.l.length - s.i) + 2 ≤ f →
  s.ds.length + 2 * (T.l.length - s.i) + 4 ≤ 1099511627776 → deep ≤ 12 → CalM Tryd.prog 68 #[ptr pb] I (QSt pb la lc T s deep da dc) (ToQE pb la lc T deep (Sp.atom T f deep s))
def ExprQ (T : Sp.Src) (pb f : Nat) : Prop := ∀ (I : Imm) (la : Option Addr) (lc deep : Nat) (da : Option Addr) (dc : Nat) (s : Sp.St) (m : Nat), Conv I → TokR I T la lc → s.i ≤ T.l.length → 3 * (T.l.length - s.i) + 3 ≤ f →
  s.ds.length + 2 * (T.l.length - s.i) + 4 ≤ 1099511627776 → deep ≤ 12 → CalM Tryd.prog 63 #[ptr pb, nt m] I (QSt pb la lc T s deep da dc) (ToQE pb la lc T deep (Sp.expr T f deep m s))
structure QExp where
  f : Nat
  e : Sp.Ex
  s : Sp.St
  I : Imm
  ea : Option Addr
  ec : Nat
  xs : List Value
  da : Option Addr
  dc : Nat
set_option maxHeartbeats 4000000 in
theorem p_expr_step (T : Sp.Src) (pb : Nat) (hT : Ok T) (n : Nat) (ih : ∀ g, g < n → AtomQ T pb g ∧ ExprQ T pb g) : ExprQ T pb n := by
  intro I la lc deep da dc s m hC hr hi hf hd hdp
  obtain ⟨f, rfl⟩ : ∃ f, n = f + 1 := ⟨n - 1, by omega⟩
  have h2 := hT.size
  have h3 := hT.len
  have hat := (ih f (by omega)).1 I la lc deep da dc s hC hr hi (by omega) hd hdp
  have hg := (Sp.goes_expr T f).1 deep s
  rw [Sp.expr]
  generalize Sp.atom T f deep s = r0 at hat hg ⊢
  have hg1 := hg.le
  have hg2 := hg.top hi
  have hg3 := hg.ds
  refine CalM.of fun w E hm => enter (N := 47) Tryd.func63 rfl [(0, ptr pb), (1, nt m)] args2 rfl ?_
  repeat' (first
  | (refine m_call hm (hc:=hat) (k:=?_); clear hm; rintro _ I1 _ _ ⟨⟨ea, ec, xs, rfl, hrow, hexs⟩, da1, dc1, rfl⟩ hle hm; have hleI1 := hle; try simp only [setn] at hm)
  | (refine m_allocS (d:=4) hm (k:=?_); clear hm; intro b4 _ hm)
  | (refine m_varS (d:=5) hm (k:=?_); clear hm; intro b5 _ hm)
  | refine op_move (k:=?_)
  | refine wl_nil ?_
  | refine at_then_normal ?_
  | refine wc_seq ?_
  | refine wc_region ?_
  | refine wc_block ?_)
  refine wc_loop (fun x : QExp => [(0, ptr pb), (1, nt m), (4, ptr b4), (5, ptr b5)])
    (fun x w' => Mem E x.I [qObj pb la lc T x.s deep x.da x.dc, dgRow x.s.ds x.da x.dc, .cell b5 (exCells x.e x.ea x.ec) 41, .cell b4 ex0 41] w' ∧ Le I x.I ∧ RowI x.I 41 6 (.slice x.ea x.e.args.length x.ec) x.e.args.length x.xs ∧ ExsAt x.I x.e.args x.xs ∧
      Sp.opL T x.f deep m x.e x.s = Sp.opL T f deep m r0.1 r0.2 ∧ 3 * (T.l.length - x.s.i) + 1 ≤ x.f ∧ x.f ≤ f ∧ x.s.i ≤ T.l.length ∧ x.s.ds.length + 2 * (T.l.length - x.s.i) ≤ s.ds.length + 2 * (T.l.length - s.i) + 1)
    (fun x => T.l.length - x.s.i) ⟨f, r0.1, r0.2, I1, ea, ec, xs, da1, dc1⟩ (by exact ⟨rfl, rfl, rfl, rfl, trivial⟩) ⟨hm.perm pm2_1, hleI1, hrow, hexs, rfl, by dsimp only; omega, Nat.le_refl _, hg2, by dsimp only; omega⟩ ?_
  clear hm hrow hexs hleI1
  rintro ⟨f1, e1, s1, I2, ea1, ec1, xs1, da2, dc2⟩ w2 ⟨hm, hle0, hrow, hexs, hO, hf1, hff, hi1, hd1⟩
  dsimp only at hm hle0 hrow hexs hO hf1 hff hi1 hd1 ⊢
  obtain ⟨f1, rfl⟩ : ∃ f', f1 = f' + 1 := ⟨f1 - 1, by omega⟩
  rw [Sp.opL] at hO
  dsimp only at hO
  replace hr := hr.le hle0
  replace hC := hC.le hle0
  have h1 := hT.at_ s1.i
  have ht := p_tight (T.tok s1.i).text
  by_cases hc : Sp.tight (T.tok s1.i).text < m ∨ Sp.tight (T.tok s1.i).text = 0
  · rw [if_pos hc] at hO
    rw [← hO]
    repeat' (first
    | (refine m_readC hm (hc:=p_peek s1 hr) (k:=?_); clear hm; intro _ hm)
    | (refine op_call (hc:=by exact ht _) (k:=?_); rintro _ _ ⟨rfl, rfl⟩)
    | refine m_loadAll hm (k:=?_)
    | (refine m_storeAll hm (k:=?_); clear hm; intro _ hm; try simp only [setn] at hm)
    | refine m_ret_agg hm (h:=?_)
    | refine op_move (k:=?_)
    | refine op_assign (k:=?_)
    | refine op_pick_true (k:=?_)
    | refine op_pick_false (k:=?_)
    | refine op_lss (k:=?_)
    | refine op_eql (k:=?_)
    | refine wl_skip (k:=?_)
    | (refine wl_split_dec (h1:=fun _ => ?_) (h0:=fun _ => ?_)<;> (try first | contradiction | (exfalso; omega)))
    | refine wl_nil ?_
    | refine at_then_normal ?_
    | refine at_then_ret ?_
    | refine at_block_ret ?_
    | refine wc_seq ?_
    | refine wc_region ?_
    | refine wc_block ?_
    | refine wc_ret ?_
    | refine wc_cond_true (ht:=?_)
    | (refine wc_cond_dec (ht:=fun _ => ?_) (hf:=fun _ => ?_)<;> (try first | contradiction | (exfalso; omega))))
    all_goals first
      | exact ⟨I2, _, ⟨⟨ea1, ec1, xs1, rfl, hrow, hexs⟩, da2, dc2, rfl⟩, hm.left (H := [_, _])⟩
      | (exfalso; omega)
  · rw [if_neg hc] at hO
    have htl := Sp.tight_le (T.tok s1.i).text
    have hlt : s1.i < T.l.length := Sp.tok_lt (Sp.tight_ne (by omega))
    have hex := fun da dc => (ih f1 (by omega)).2 I2 la lc deep da dc s1.next (Sp.tight (T.tok s1.i).text + 1) hC hr (by rw [Sp.next_i]; omega) (by rw [Sp.next_i]; omega) (by rw [Sp.next_i, Sp.next_ds]; omega) hdp
    have hg := (Sp.goes_expr T f1).2.2.1 deep (Sp.tight (T.tok s1.i).text + 1) s1.next
    generalize Sp.expr T f1 deep (Sp.tight (T.tok s1.i).text + 1) s1.next = r at hO hex hg
    have hg1 := hg.le
    have hg2 := hg.top (by rw [Sp.next_i]; omega)
    have hg3 := hg.ds
    rw [Sp.next_i] at hg1 hg3
    rw [Sp.next_ds] at hg3
    repeat' (first
    | (refine m_readC hm (hc:=p_peek s1 hr) (k:=?_); clear hm; intro _ hm)
    | (refine op_call (hc:=by exact ht _) (k:=?_); rintro _ _ ⟨rfl, rfl⟩)
    | (refine m_call hm (hc:=hex _ _) (k:=?_); clear hm; rintro _ I3 _ _ ⟨⟨ea2, ec2, xs2, rfl, hrow2, hexs2⟩, da3, dc3, rfl⟩ hle hm; have hleI3 := hle; try simp only [setn] at hm)
    | (refine i_buildSlice hm (k:=?_); clear hm; intro I4 a4 _ hle4 hm hrow4)
    | (refine op_max (by rfl) (by rfl) (by rfl) (by rfl) ?_)
    | (refine m_varS (d:=8) hm (k:=?_); clear hm; intro b8 _ hm)
    | refine m_load1 hm (k:=?_)
    | refine m_loadAll hm (k:=?_)
    | (refine m_storeAll hm (k:=?_); clear hm; intro _ hm; try simp only [setn] at hm)
    | (refine m_store1 hm (k:=?_); clear hm; intro _ hm; try simp only [setn] at hm)
    | refine op_move (k:=?_)
    | refine op_assign (k:=?_)
    | refine op_pick_false (k:=?_)
    | refine op_lss (k:=?_)
    | refine op_eql (k:=?_)
    | refine op_nilCheck (k:=?_)
    | refine op_add (k:=?_)
    | refine op_fieldAddr (k:=?_)
    | refine op_struct (k:=?_)
    | (refine wl_split_dec (h1:=fun _ => ?_) (h0:=fun _ => ?_)<;> (try first | contradiction | (exfalso; omega)))
    | refine wl_nil ?_
    | refine at_then_normal ?_
    | refine at_block_normal ?_
    | refine wc_seq ?_
    | refine wc_region ?_
    | refine wc_block ?_
    | refine wc_skip ?_
    | (refine wc_cond_dec (ht:=fun _ => ?_) (hf:=fun _ => ?_)<;> (try first | contradiction | (exfalso; omega))))
    all_goals try (exfalso; omega)
    exact at_round (⟨f1, .mk 3 (T.tok s1.i).text 0 [e1, r.1] e1.fr (max r.1.to e1.to), r.2, I4, a4, 2, _, da3, dc3⟩ : QExp) (by exact ⟨rfl, rfl, rfl, rfl, trivial⟩)
      ⟨hm.tl, (hle0.trans hleI3).trans hle4, hrow4, exs2 (ExAt.le (hleI3.trans hle4) _ _ (exAt_cells hrow hexs)) (ExAt.le hle4 _ _ (exAt_cells hrow2 hexs2)), hO, by dsimp only; omega, by dsimp only; omega, hg2, by dsimp only; omega⟩ (by dsimp only; omega)
end Go.Proofs.YthmdffgiockcbaaDoor
end
section
namespace Go.Proofs.YthmdffgiockcbaaDoor
open Go.Fw
section
variable {T : Sp.Src} {pb f : Nat} {I : Imm} {la : Option Addr} {lc deep : Nat} {da : Option Addr} {dc : Nat} {s : Sp.St}
/-- the end of 'atom', its deferred step back. -/
theorem p_retA {E : Ent} {N i b1 b2 ec : Nat} {ea : Option Addr} {xs : List Value} {R : List HItem} {l : Log} {w : World} {e : Sp.Ex} {s' : Sp.St} (hdp : deep ≤ 12) (hx : lk l 2 = some (ptr b2))
    (hm : Mem E I (.cell b1 [ptr pb] 94 :: qObj pb la lc T s' (deep + 1) da dc :: dgRow s'.ds da dc :: R) w) (hb : R[i]? = some (.cell b2 (exCells e ea ec) 41))
    (hrow : RowI I 41 6 (.slice ea e.args.length ec) e.args.length xs) (hexs : ExsAt I e.args xs) :
    At N [⟨.fn (.func 71) #[ptr b1], #[]⟩] (bodyPostD Tryd.prog Tryd.f68 (Ret (fun v w' => ∃ I' H', ToQE pb la lc T deep (e, s') v I' H' ∧ Mem E I' H' w'))) .ret l w :=
  m_retD_cell (i := i + 3) (H' := .cell b1 [ptr pb] 94 :: qObj pb la lc T s' deep da dc :: dgRow s'.ds da dc :: R) rfl hx (p_decA hdp hm) hb rfl
    (fun _w' hm' => ⟨I, _, ⟨⟨ea, ec, xs, rfl, hrow, hexs⟩, da, dc, rfl⟩, hm'.tl.left (H := [_, _])⟩)
theorem ex0_row (I : Imm) : RowI I 41 6 (.slice none ([] : List Sp.Ex).length 0) ([] : List Sp.Ex).length [] := rowI_nil _ _ _ _ _
set_option maxHeartbeats 4000000 in
theorem pa_end (hT : Ok T) (hr : TokR I T la lc) (hi : s.i ≤ T.l.length) (hd : s.ds.length + 4 ≤ 1099511627776) (hend : T.l.length ≤ s.i) :
    CalM Tryd.prog 68 #[ptr pb] I (QSt pb la lc T s deep da dc) (ToQE pb la lc T deep (Sp.none_ T s 2)) := by
  refine CalM.of fun w E hm => enter_defers (N := 153) Tryd.func68 rfl [(0, ptr pb)] args1 rfl ?_
  repeat' (first
  | (refine m_readC hm (hc:=p_here s hr) (k:=?_); clear hm; intro _ hm)
  | (refine m_call hm (hc:=p_none s 2 hr hT hi (by omega)) (k:=?_); clear hm; rintro _ _ _ _ ⟨⟨ea, ec, xs, rfl, hrow, hexs⟩, da', dc', rfl⟩ hle hm; try simp only [setn] at hm)
  | (refine at_retD0_cell hm (h:=?_))
  | (refine m_box (d:=1) hm (k:=?_); clear hm; intro b1 _ hm)
  | (refine m_allocS (d:=2) hm (k:=?_); clear hm; intro b2 _ hm)
  | refine m_load1 hm (k:=?_)
  | refine mq_load1 hm (k:=?_)
  | (refine m_storeAll hm (k:=?_); clear hm; intro _ hm; try simp only [setn] at hm)
  | refine op_assign (k:=?_)
  | refine wl_nil ?_
  | refine at_then_normal ?_
  | refine at_then_ret ?_
  | refine wc_seq ?_
  | refine wc_region ?_
  | refine wc_ret ?_
  | refine wc_quiet (h:=?_)
  | (refine wq_nil ?_; intro _ hkq; replace hm := hm.kept0 hkq; clear hkq)
  | (refine wc_cond_dec (ht:=fun _ => ?_) (hf:=fun _ => ?_)<;> (try first | contradiction | (exfalso; omega)))
  | refine q_eql (k:=?_)
  | refine q_len_slice (k:=?_)
  | refine q_nilCheck (k:=?_)
  | refine q_fieldAddr (k:=?_))
  all_goals try (exfalso; omega)
  exact ⟨_, _, ⟨⟨ea, ec, xs, rfl, hrow, hexs⟩, da', dc', rfl⟩, hm.left (H := [_, _])⟩
set_option maxHeartbeats 4000000 in
theorem pa_deep (hT : Ok T) (hr : TokR I T la lc) (hi : s.i ≤ T.l.length) (hd : s.ds.length + 4 ≤ 1099511627776) (hend : s.i < T.l.length) (hdp : deep = 12) :
    CalM Tryd.prog 68 #[ptr pb] I (QSt pb la lc T s deep da dc) (ToQE pb la lc T deep (Sp.none_ T s 12)) := by
  refine CalM.of fun w E hm => enter_defers (N := 153) Tryd.func68 rfl [(0, ptr pb)] args1 rfl ?_
  repeat' (first
  | (refine m_readC hm (hc:=p_here s hr) (k:=?_); clear hm; intro _ hm)
  | (refine m_call hm (hc:=p_none s 12 hr hT hi (by omega)) (k:=?_); clear hm; rintro _ _ _ _ ⟨⟨ea, ec, xs, rfl, hrow, hexs⟩, da', dc', rfl⟩ hle hm; try simp only [setn] at hm)
  | (refine at_retD0_cell hm (h:=?_))
  | (refine m_box (d:=1) hm (k:=?_); clear hm; intro b1 _ hm)
  | (refine m_allocS (d:=2) hm (k:=?_); clear hm; intro b2 _ hm)
  | refine m_load1 hm (k:=?_)
  | refine mq_load1 hm (k:=?_)
  | (refine m_storeAll hm (k:=?_); clear hm; intro _ hm; try simp only [setn] at hm)
  | refine op_assign (k:=?_)
  | refine op_eql (k:=?_)
  | refine op_nilCheck (k:=?_)
  | refine op_fieldAddr (k:=?_)
  | refine wl_nil ?_
  | refine at_then_normal ?_
  | refine at_then_ret ?_
  | refine wc_seq ?_
  | refine wc_region ?_
  | refine wc_skip ?_
  | refine wc_ret ?_
  | refine wc_quiet (h:=?_)
  | (refine wq_nil ?_; intro _ hkq; replace hm := hm.kept0 hkq; clear hkq)
  | (refine wc_cond_dec (ht:=fun _ => ?_) (hf:=fun _ => ?_)<;> (try first | contradiction | (exfalso; omega)))
  | refine q_eql (k:=?_)
  | refine q_len_slice (k:=?_)
  | refine q_nilCheck (k:=?_)
  | refine q_fieldAddr (k:=?_))
  all_goals try (exfalso; omega)
  exact ⟨_, _, ⟨⟨ea, ec, xs, rfl, hrow, hexs⟩, da', dc', rfl⟩, hm.left (H := [_, _])⟩
set_option maxHeartbeats 4000000 in
theorem pa_none (hT : Ok T) (hr : TokR I T la lc) (hi : s.i ≤ T.l.length) (hd : s.ds.length + 4 ≤ 1099511627776) (hend : s.i < T.l.length) (hdp : deep < 12) (hk : (T.tok s.i).kind ≠ 2) (hp : (T.tok s.i).text ≠ [40]) (hname : Sp.name (T.tok s.i).text = false) :
    CalM Tryd.prog 68 #[ptr pb] I (QSt pb la lc T s deep da dc) (ToQE pb la lc T deep (Sp.none_ T s 2)) := by
  have h1 := hT.at_ s.i
  have h2 := hT.size
  have htk := tok_get hend
  have hn := c_name (T.tok s.i).text (by omega)
  rw [hname] at hn
  refine CalM.of fun w E hm => enter_defers (N := 153) Tryd.func68 rfl [(0, ptr pb)] args1 rfl ?_
  repeat' (first
  | (refine m_readC hm (hc:=p_here s hr) (k:=?_); clear hm; intro _ hm)
  | (refine wc_semi_mem (id:=8) (hm.perm pm0) 10 11 (h:=?_); clear hm; intro wd hR hm)
  | (refine iw_indexFlat (hr:=by exact hr) (he:=by intro _; rfl) (hz:=by exact htk) (k:=?_); intro b1' o1 hp1)
  | (refine op_call (hc:=by exact hn _) (k:=?_); rintro _ _ ⟨rfl, hk⟩; replace hm := hm.kept0 hk)
  | (refine m_call hm (hc:=p_none s 2 hr hT hi (by omega)) (k:=?_); clear hm; rintro _ _ _ _ ⟨⟨ea, ec, xs, rfl, hrow, hexs⟩, da', dc', rfl⟩ hle hm; try simp only [setn] at hm)
  | refine mw_load1 hR (k:=?_)
  | refine iw_loadN hR (k:=?_)
  | (refine mt_allocS (d:=4) hm (k:=?_); clear hm; intro b4 _ hm)
  | (refine ws_nil ?_; replace hm := hR.back hm; clear hR; try simp only [setn] at hm)
  | (refine m_box (d:=1) hm (k:=?_); clear hm; intro b1 _ hm)
  | (refine m_allocS (d:=2) hm (k:=?_); clear hm; intro b2 _ hm)
  | refine m_load1 hm (k:=?_)
  | refine mq_load1 hm (k:=?_)
  | (refine m_storeAll hm (k:=?_); clear hm; intro _ hm; try simp only [setn] at hm)
  | (refine m_store1 hm (k:=?_); clear hm; intro _ hm; try simp only [setn] at hm)
  | refine op_assign (k:=?_)
  | refine op_eql (k:=?_)
  | refine op_eql_str (k:=?_)
  | refine op_not (k:=?_)
  | refine op_nilCheck (k:=?_)
  | refine op_makeFunc (k:=?_)
  | refine op_add (k:=?_)
  | refine op_fieldAddr (k:=?_)
  | refine wl_nil ?_
  | refine at_then_normal ?_
  | refine at_then_ret ?_
  | refine at_block_ret ?_
  | refine wc_seq ?_
  | refine wc_region ?_
  | refine wc_block ?_
  | refine wc_skip ?_
  | refine wc_ret ?_
  | refine op_defer (k:=?_)
  | refine wc_quiet (h:=?_)
  | (refine wq_nil ?_; intro _ hkq; replace hm := hm.kept0 hkq; clear hkq)
  | refine wc_cond_true (ht:=?_)
  | (refine wc_cond_dec (ht:=fun _ => ?_) (hf:=fun _ => ?_)<;> (try first | contradiction | (exfalso; omega)))
  | refine q_eql (k:=?_)
  | refine q_len_slice (k:=?_)
  | refine q_nilCheck (k:=?_)
  | refine q_fieldAddr (k:=?_)
  | refine v_nilCheck (k:=?_)
  | refine v_fieldAddr (k:=?_)
  | refine wv_nil ?_)
  all_goals try (exfalso; first | omega | contradiction)
  exact p_retA (i := 1) (by omega) rfl (hm.front 4 rfl) rfl hrow hexs
set_option maxHeartbeats 4000000 in
theorem pa_num (hT : Ok T) (hC : Conv I) (hr : TokR I T la lc) (hi : s.i ≤ T.l.length) (hd : s.ds.length + 4 ≤ 1099511627776) (hend : s.i < T.l.length) (hdp : deep < 12) (hk : (T.tok s.i).kind = 2) :
    CalM Tryd.prog 68 #[ptr pb] I (QSt pb la lc T s deep da dc) (ToQE pb la lc T deep
      (if 1000000000 < Sp.digits (T.tok s.i).text then (.mk 1 [] 0 [] (T.tok s.i).pos ((T.tok s.i).pos + (T.tok s.i).text.length), (s.bad T 3).next) else (.mk 1 [] (Sp.digits (T.tok s.i).text) [] (T.tok s.i).pos ((T.tok s.i).pos + (T.tok s.i).text.length), s.next))) := by
  have h1 := hT.at_ s.i
  have h2 := hT.size
  have h3 := hT.len
  have htk := tok_get hend
  have hl1 : 1 ≤ (T.tok s.i).text.length := by
    rw [Sp.Src.tok, List.getD_eq_getElem?_getD, List.getElem?_eq_getElem hend]
    exact hT.len1 _ (List.getElem_mem hend)
  have hat := p_atoi (I := I) (T.tok s.i).text hl1 (by omega) (hT.digs hk) hC
  have hbi : (s.bad T 3).i = s.i := rfl
  have hen : T.endOf (s.i + 1) = (T.tok s.i).pos + (T.tok s.i).text.length := rfl
  have hls := p_last (pb := pb) (deep := deep + 1) (da := da) (dc := dc) s.next hr hT (by rw [Sp.next_i]; omega)
  have hlb := fun da dc => p_last (pb := pb) (deep := deep + 1) (da := da) (dc := dc) (s.bad T 3).next hr hT (by rw [Sp.next_i]; omega)
  rw [show T.endOf s.next.i = (T.tok s.i).pos + (T.tok s.i).text.length from hen] at hls
  rw [show T.endOf (s.bad T 3).next.i = (T.tok s.i).pos + (T.tok s.i).text.length from hen] at hlb
  refine CalM.of fun w E hm => enter_defers (N := 153) Tryd.func68 rfl [(0, ptr pb)] args1 rfl ?_
  by_cases hbig : 1000000000 < Sp.digits (T.tok s.i).text
  · rw [if_pos hbig]
    repeat' (first
    | (refine m_readC hm (hc:=p_here s hr) (k:=?_); clear hm; intro _ hm)
    | (refine wc_semi_mem (id:=8) (hm.perm pm0) 10 11 (h:=?_); clear hm; intro wd hR hm)
    | (refine iw_indexFlat (hr:=by exact hr) (he:=by intro _; rfl) (hz:=by exact htk) (k:=?_); intro b1' o1 hp1)
    | (refine m_call hm (hc:=hat) (k:=?_); clear hm; rintro _ _ _ _ ⟨rfl, rfl, (⟨hsm, rfl⟩ | ⟨_, nv, ev, rfl, (⟨rfl, hnv⟩ | ⟨te, pe, rfl⟩)⟩)⟩ hle hm; try simp only [setn] at hm)
    | (refine op_neq_held (by rfl) (by rfl) (by rfl) (by rfl) (by kernel_rfl) ?_)
    | (refine op_neq_none (by rfl) (by rfl) (by rfl) (by rfl) (by kernel_rfl) ?_)
    | (refine m_call hm (hc:=p_tell s 3 hr hT hi (by omega)) (k:=?_); clear hm; rintro _ _ _ _ ⟨rfl, rfl, da', dc', rfl⟩ hle hm; try simp only [setn] at hm)
    | (refine m_readC hm (hc:=hlb _ _) (k:=?_); clear hm; intro _ hm)
    | refine mw_load1 hR (k:=?_)
    | refine iw_loadN hR (k:=?_)
    | (refine mt_allocS (d:=4) hm (k:=?_); clear hm; intro b4 _ hm)
    | (refine ws_nil ?_; replace hm := hR.back hm; clear hR; try simp only [setn] at hm)
    | (refine m_box (d:=1) hm (k:=?_); clear hm; intro b1 _ hm)
    | (refine m_allocS (d:=2) hm (k:=?_); clear hm; intro b2 _ hm)
    | refine m_load1 hm (k:=?_)
    | refine mq_load1 hm (k:=?_)
    | (refine m_storeAll hm (k:=?_); clear hm; intro _ hm; try simp only [setn] at hm)
    | (refine m_store1 hm (k:=?_); clear hm; intro _ hm; try simp only [setn] at hm)
    | refine op_move (k:=?_)
    | refine op_assign (k:=?_)
    | refine op_pick_true (k:=?_)
    | refine op_pick_false (k:=?_)
    | refine op_gtr (k:=?_)
    | refine op_eql (k:=?_)
    | refine op_extract (k:=?_)
    | refine op_nilCheck (k:=?_)
    | refine op_makeFunc (k:=?_)
    | refine op_add (k:=?_)
    | refine op_fieldAddr (k:=?_)
    | refine op_struct (k:=?_)
    | refine wl_skip (k:=?_)
    | refine wl_nil ?_
    | refine at_then_normal ?_
    | refine at_then_ret ?_
    | refine at_block_ret ?_
    | refine wc_seq ?_
    | refine wc_region ?_
    | refine wc_block ?_
    | refine wc_skip ?_
    | refine wc_ret ?_
    | refine op_defer (k:=?_)
    | refine wc_quiet (h:=?_)
    | (refine wq_nil ?_; intro _ hkq; replace hm := hm.kept0 hkq; clear hkq)
    | refine wc_cond_true (ht:=?_)
    | (refine wc_cond_dec (ht:=fun _ => ?_) (hf:=fun _ => ?_)<;> (try first | contradiction | (exfalso; omega)))
    | refine q_eql (k:=?_)
    | refine q_len_slice (k:=?_)
    | refine q_nilCheck (k:=?_)
    | refine q_fieldAddr (k:=?_)
    | refine v_nilCheck (k:=?_)
    | refine v_fieldAddr (k:=?_)
    | refine wv_nil ?_)
    all_goals try (exfalso; first | omega | contradiction)
    all_goals exact p_retA (i := 1) (e := .mk 1 [] 0 [] (T.tok s.i).pos ((T.tok s.i).pos + (T.tok s.i).text.length)) (s' := (s.bad T 3).next) (by omega) rfl (hm.front 4 rfl) rfl (ex0_row _) .nil
  · rw [if_neg hbig]
    repeat' (first
    | (refine m_readC hm (hc:=p_here s hr) (k:=?_); clear hm; intro _ hm)
    | (refine wc_semi_mem (id:=8) (hm.perm pm0) 10 11 (h:=?_); clear hm; intro wd hR hm)
    | (refine iw_indexFlat (hr:=by exact hr) (he:=by intro _; rfl) (hz:=by exact htk) (k:=?_); intro b1' o1 hp1)
    | (refine m_call hm (hc:=hat) (k:=?_); clear hm; rintro _ _ _ _ ⟨rfl, rfl, (⟨hsm, rfl⟩ | ⟨hbg, nv, ev, rfl, _⟩)⟩ hle hm; try simp only [setn] at hm)
    | (refine op_neq_none (by rfl) (by rfl) (by rfl) (by rfl) (by kernel_rfl) ?_)
    | (refine m_readC hm (hc:=hls) (k:=?_); clear hm; intro _ hm)
    | refine mw_load1 hR (k:=?_)
    | refine iw_loadN hR (k:=?_)
    | (refine mt_allocS (d:=4) hm (k:=?_); clear hm; intro b4 _ hm)
    | (refine ws_nil ?_; replace hm := hR.back hm; clear hR; try simp only [setn] at hm)
    | (refine m_box (d:=1) hm (k:=?_); clear hm; intro b1 _ hm)
    | (refine m_allocS (d:=2) hm (k:=?_); clear hm; intro b2 _ hm)
    | refine m_load1 hm (k:=?_)
    | refine mq_load1 hm (k:=?_)
    | (refine m_storeAll hm (k:=?_); clear hm; intro _ hm; try simp only [setn] at hm)
    | (refine m_store1 hm (k:=?_); clear hm; intro _ hm; try simp only [setn] at hm)
    | refine op_move (k:=?_)
    | refine op_assign (k:=?_)
    | refine op_pick_false (k:=?_)
    | refine op_gtr (k:=?_)
    | refine op_eql (k:=?_)
    | refine op_extract (k:=?_)
    | refine op_nilCheck (k:=?_)
    | refine op_makeFunc (k:=?_)
    | refine op_add (k:=?_)
    | refine op_fieldAddr (k:=?_)
    | refine op_struct (k:=?_)
    | refine wl_nil ?_
    | refine at_then_normal ?_
    | refine at_then_ret ?_
    | refine at_block_ret ?_
    | refine wc_seq ?_
    | refine wc_region ?_
    | refine wc_block ?_
    | refine wc_skip ?_
    | refine wc_ret ?_
    | refine op_defer (k:=?_)
    | refine wc_quiet (h:=?_)
    | (refine wq_nil ?_; intro _ hkq; replace hm := hm.kept0 hkq; clear hkq)
    | (refine wc_cond_dec (ht:=fun _ => ?_) (hf:=fun _ => ?_)<;> (try first | contradiction | (exfalso; omega)))
    | refine q_eql (k:=?_)
    | refine q_len_slice (k:=?_)
    | refine q_nilCheck (k:=?_)
    | refine q_fieldAddr (k:=?_)
    | refine v_nilCheck (k:=?_)
    | refine v_fieldAddr (k:=?_)
    | refine wv_nil ?_)
    all_goals try (exfalso; first | omega | contradiction)
    exact p_retA (i := 1) (e := .mk 1 [] (Sp.digits (T.tok s.i).text) [] (T.tok s.i).pos ((T.tok s.i).pos + (T.tok s.i).text.length)) (s' := s.next) (by omega) rfl (((hm.front 4 rfl).front 4 rfl).front 4 rfl) rfl (ex0_row _) .nil
end
end Go.Proofs.YthmdffgiockcbaaDoor
end
