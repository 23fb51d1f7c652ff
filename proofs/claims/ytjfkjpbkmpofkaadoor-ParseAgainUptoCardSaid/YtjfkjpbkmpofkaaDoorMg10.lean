/- Own work: texts SpecAtoi, Shelf, PpAt, PostVar, PpD, ExM, PpE, one behind the other. -/
import Derived.Test.YtjfkjpbkmpofkaaDoorMg9
import Derived.Lib.AtoiAll
import Derived.Shelf.Strconv.Atoi
import Derived.Shelf.Strconv.AtoiErrFast
import Derived.Shelf.Strconv.ParseIntEmpty
import Derived.Shelf.Strconv.AtoiFail
import Derived.Shelf.LaysM
import Derived.Shelf.Strconv.Clone
import Derived.Shelf.Strconv.SyntaxError
import Derived.Shelf.LaysC
import Derived.Shelf.Strconv.ToError
import Derived.Shelf.Strconv.Lower
import Derived.Shelf.Strconv.ParseUint10
import Derived.Shelf.Strconv.ParseUint10Empty
import Derived.Shelf.Strconv.ParseUint10Any
import Derived.Shelf.Strconv.ParseInt10
import Derived.Shelf.Strconv.AtoiLong
import Derived.Shelf.Strconv.AtoiInnerAll
import Derived.Shelf.Strconv.RangeError
import Derived.Shelf.Strconv.ToErrorRange
import Derived.Shelf.Strconv.AtoiAll
import Derived.Shelf.Strconv.ErrVarAll
import Derived.Test.YtjfkjpbkmpofkaaDoorProg
import Derived.MakeChecks
import Derived.LaidSub
import Derived.Lay
import Derived.Stop.LaidErr
import Derived.WideLaws
import Derived.Lib.MinMax
section
namespace Go.Sp
def dstep (n : Nat) (c : UInt8) : Nat := if n ≤ 1000000000 then 10 * n + (c.toNat - 48) else n
theorem digits_eq (t : List UInt8) : digits t = t.foldl dstep 0 := rfl
theorem dfold_ge : ∀ (r : List UInt8) (a : Nat), a ≤ r.foldl dstep a
  | [], a => Nat.le_refl _
  | c :: r, a => by
    rw [List.foldl_cons]
    have := dfold_ge r (dstep a c)
    have : a ≤ dstep a c := by rw [dstep]; split <;> omega
    omega
theorem dfold_big : ∀ (r : List UInt8) (a : Nat), 1000000000 < a → r.foldl dstep a = a
  | [], a, _ => rfl
  | c :: r, a, h => by rw [List.foldl_cons, dstep, if_neg (by omega)]; exact dfold_big r a h
theorem uint_small : ∀ (r : List UInt8) (a : Nat), (∀ c ∈ r, 48 ≤ c.toNat ∧ c.toNat ≤ 57) → r.foldl dstep a ≤ 1000000000 → Lib.parseUint10 a r = .ok (r.foldl dstep a)
  | [], a, _, _ => rfl
  | c :: r, a, hd, h => by
    rw [List.foldl_cons] at h ⊢
    have hc := hd c List.mem_cons_self
    have ha : a ≤ 1000000000 := by
      have := dfold_ge r (dstep a c)
      have : a ≤ dstep a c := by rw [dstep]; split <;> omega
      omega
    have e : dstep a c = a * 10 + (c.toNat - 48) := by rw [dstep, if_pos ha]; omega
    rw [Lib.parseUint10, if_pos hc, if_neg (by omega), if_neg (by omega), ← e]
    exact uint_small r _ (fun c hc => hd c (List.mem_cons_of_mem _ hc)) h
theorem uint_big : ∀ (r : List UInt8) (a : Nat), (∀ c ∈ r, 48 ≤ c.toNat ∧ c.toNat ≤ 57) → 1000000000 < r.foldl dstep a → Lib.parseUint10 a r = .range ∨ ∃ u, 1000000000 < u ∧ Lib.parseUint10 a r = .ok u
  | [], a, _, h => .inr ⟨a, h, rfl⟩
  | c :: r, a, hd, h => by
    rw [List.foldl_cons] at h
    have hc := hd c List.mem_cons_self
    rw [Lib.parseUint10, if_pos hc]
    split
    · exact .inl rfl
    · split
      · exact .inl rfl
      · refine uint_big r _ (fun c hc => hd c (List.mem_cons_of_mem _ hc)) ?_
        by_cases ha : a ≤ 1000000000
        · have e : dstep a c = a * 10 + (c.toNat - 48) := by rw [dstep, if_pos ha]; omega
          rw [← e]; exact h
        · rw [dfold_big r _ (by omega)]; omega
theorem atoi_digits (t : List UInt8) (hn : 1 ≤ t.length) (hd : ∀ c ∈ t, 48 ≤ c.toNat ∧ c.toNat ≤ 57) :
    (digits t ≤ 1000000000 → Lib.atoiAll t = .ok (digits t : Int)) ∧ (1000000000 < digits t → Lib.atoiAll t = .range ∨ ∃ v : Int, 1000000000 < v ∧ Lib.atoiAll t = .ok v) := by
  rw [digits_eq]
  cases t with
  | nil => simp at hn
  | cons c r =>
    have hc := hd c List.mem_cons_self
    have hp : Lib.parseMag (if c.toNat = 43 ∨ c.toNat = 45 then r else c :: r) = Lib.parseUint10 0 (c :: r) := by
      rw [if_neg (by omega), Lib.parseMag, if_neg (by simp)]
    have hneg : ¬ c.toNat = 45 := by omega
    constructor
    · intro h
      have h1 := uint_small (c :: r) 0 hd h
      simp only [Lib.atoiAll]
      rw [hp, h1]
      generalize (c :: r).foldl dstep 0 = d at h ⊢
      simp only [hneg]
      simp
      omega
    · intro h
      simp only [Lib.atoiAll]
      rw [hp]
      rcases uint_big (c :: r) 0 hd h with h1 | ⟨u, hu, h1⟩
      · rw [h1]; exact .inl rfl
      · rw [h1]
        simp only [hneg]
        by_cases h2 : 9223372036854775808 ≤ u
        · exact .inl (by simp [h2])
        · exact .inr ⟨(u : Int), by omega, by simp [h2]⟩
end Go.Sp
end
section
namespace Go.Proofs
open Go.Shelf
def Tryd.laysC172_ren : Go.Shelf.Ren := ⟨fun | 172 => 58 | 244 => 59 | 245 => 60 | 247 => 61 | 279 => 62 | 280 => 63 | 281 => 64 | 282 => 65 | 287 => 66 | 316 => 67 | 171 => 69 | 205 => 68 | 321 => 70 | 322 => 71 | 243 => 72 | 246 => 73 | 283 => 74 | 284 => 75 | 285 => 76 | 286 => 77 | 129 => 79 | 317 => 78 | 318 => 80 | 319 => 81 | 320 => 82 | 337 => 83 | 338 => 84 | n => n, fun | 9 => 9 | 3 => 3 | 75 => 97 | 76 => 98 | 4 => 4 | 5 => 5 | 167 => 101 | 37 => 102 | 0 => 0 | 85 => 103 | 2 => 2 | 168 => 105 | 53 => 108 | 175 => 109 | 46 => 111 | 210 => 114 | 127 => 118 | 145 => 121 | 143 => 119 | 21 => 21 | 171 => 123 | 173 => 126 | 212 => 130 | 51 => 131 | 20 => 20 | 213 => 132 | 232 => 136 | 233 => 137 | 80 => 67 | n => n, fun | 15 => 0 | 16 => 1 | 17 => 2 | 18 => 3 | 19 => 4 | n => n⟩
theorem Tryd.laysC172 : Go.Proofs.LaysC.n172 Tryd.prog Tryd.laysC172_ren := {
  mixed := by kernel_rfl
  f129 := Tryd.func79.trans (congrArg some (by kernel_rfl))
  f171 := Tryd.func69.trans (congrArg some (by kernel_rfl))
  f172 := Tryd.func58.trans (congrArg some (by kernel_rfl))
  f205 := Tryd.func68.trans (congrArg some (by kernel_rfl))
  f243 := Tryd.func72.trans (congrArg some (by kernel_rfl))
  f244 := Tryd.func59.trans (congrArg some (by kernel_rfl))
  f245 := Tryd.func60.trans (congrArg some (by kernel_rfl))
  f246 := Tryd.func73.trans (congrArg some (by kernel_rfl))
  f247 := Tryd.func61.trans (congrArg some (by kernel_rfl))
  f279 := Tryd.func62.trans (congrArg some (by kernel_rfl))
  f280 := Tryd.func63.trans (congrArg some (by kernel_rfl))
  f281 := Tryd.func64.trans (congrArg some (by kernel_rfl))
  f282 := Tryd.func65.trans (congrArg some (by kernel_rfl))
  f283 := Tryd.func74.trans (congrArg some (by kernel_rfl))
  f284 := Tryd.func75.trans (congrArg some (by kernel_rfl))
  f285 := Tryd.func76.trans (congrArg some (by kernel_rfl))
  f286 := Tryd.func77.trans (congrArg some (by kernel_rfl))
  f287 := Tryd.func66.trans (congrArg some (by kernel_rfl))
  f316 := Tryd.func67.trans (congrArg some (by kernel_rfl))
  f317 := Tryd.func78.trans (congrArg some (by kernel_rfl))
  f318 := Tryd.func80.trans (congrArg some (by kernel_rfl))
  f319 := Tryd.func81.trans (congrArg some (by kernel_rfl))
  f320 := Tryd.func82.trans (congrArg some (by kernel_rfl))
  f321 := Tryd.func70.trans (congrArg some (by kernel_rfl))
  f322 := Tryd.func71.trans (congrArg some (by kernel_rfl))
  f337 := Tryd.func83.trans (congrArg some (by kernel_rfl))
  f338 := Tryd.func84.trans (congrArg some (by kernel_rfl))
  t0 := Tryd.underlying0
  a0 := Tryd.isAgg0
  z0 := Tryd.sizeOf0
  v0 := Tryd.zeroValue0
  t2 := Tryd.underlying2
  a2 := Tryd.isAgg2
  z2 := Tryd.sizeOf2
  v2 := Tryd.zeroValue2
  t3 := Tryd.underlying3
  a3 := Tryd.isAgg3
  z3 := Tryd.sizeOf3
  v3 := Tryd.zeroValue3
  t4 := Tryd.underlying4
  a4 := Tryd.isAgg4
  z4 := Tryd.sizeOf4
  v4 := Tryd.zeroValue4
  t5 := Tryd.underlying5
  a5 := Tryd.isAgg5
  z5 := Tryd.sizeOf5
  v5 := Tryd.zeroValue5
  t9 := Tryd.underlying9
  a9 := Tryd.isAgg9
  z9 := Tryd.sizeOf9
  v9 := Tryd.zeroValue9
  t20 := Tryd.underlying20
  a20 := Tryd.isAgg20
  z20 := Tryd.sizeOf20
  v20 := Tryd.zeroValue20
  t21 := Tryd.underlying21
  a21 := Tryd.isAgg21
  z21 := Tryd.sizeOf21
  v21 := Tryd.zeroValue21
  t37 := Tryd.underlying102
  a37 := Tryd.isAgg102
  z37 := Tryd.sizeOf102
  v37 := Tryd.zeroValue102
  t46 := Tryd.underlying111
  a46 := Tryd.isAgg111
  z46 := Tryd.sizeOf111
  v46 := Tryd.zeroValue111
  t51 := Tryd.underlying131
  a51 := Tryd.isAgg131
  z51 := Tryd.sizeOf131
  v51 := Tryd.zeroValue131
  t53 := Tryd.underlying108
  a53 := Tryd.isAgg108
  z53 := Tryd.sizeOf108
  v53 := Tryd.zeroValue108
  t75 := Tryd.underlying97
  a75 := Tryd.isAgg97
  z75 := Tryd.sizeOf97
  v75 := Tryd.zeroValue97
  t76 := Tryd.underlying98
  a76 := Tryd.isAgg98
  z76 := Tryd.sizeOf98
  v76 := Tryd.zeroValue98
  t85 := Tryd.underlying103
  a85 := Tryd.isAgg103
  z85 := Tryd.sizeOf103
  v85 := Tryd.zeroValue103
  t127 := Tryd.underlying118
  a127 := Tryd.isAgg118
  z127 := Tryd.sizeOf118
  v127 := Tryd.zeroValue118
  t143 := Tryd.underlying119
  a143 := Tryd.isAgg119
  z143 := Tryd.sizeOf119
  v143 := Tryd.zeroValue119
  t145 := Tryd.underlying121
  a145 := Tryd.isAgg121
  z145 := Tryd.sizeOf121
  v145 := Tryd.zeroValue121
  t167 := Tryd.underlying101
  a167 := Tryd.isAgg101
  z167 := Tryd.sizeOf101
  v167 := Tryd.zeroValue101
  t168 := Tryd.underlying105
  a168 := Tryd.isAgg105
  z168 := Tryd.sizeOf105
  v168 := Tryd.zeroValue105
  t171 := Tryd.underlying123
  a171 := Tryd.isAgg123
  z171 := Tryd.sizeOf123
  v171 := Tryd.zeroValue123
  t173 := Tryd.underlying126
  a173 := Tryd.isAgg126
  z173 := Tryd.sizeOf126
  v173 := Tryd.zeroValue126
  t175 := Tryd.underlying109
  a175 := Tryd.isAgg109
  z175 := Tryd.sizeOf109
  v175 := Tryd.zeroValue109
  t210 := Tryd.underlying114
  a210 := Tryd.isAgg114
  z210 := Tryd.sizeOf114
  v210 := Tryd.zeroValue114
  t212 := Tryd.underlying130
  a212 := Tryd.isAgg130
  z212 := Tryd.sizeOf130
  v212 := Tryd.zeroValue130
  t213 := Tryd.underlying132
  a213 := Tryd.isAgg132
  z213 := Tryd.sizeOf132
  t232 := Tryd.underlying136
  a232 := Tryd.isAgg136
  z232 := Tryd.sizeOf136
  v232 := Tryd.zeroValue136
  t233 := Tryd.underlying137
  a233 := Tryd.isAgg137
  z233 := Tryd.sizeOf137
  v233 := Tryd.zeroValue137
  g15 := by kernel_rfl
  g16 := by kernel_rfl
  g17 := by kernel_rfl
  g18 := by kernel_rfl
  g19 := by kernel_rfl
  t80 := Tryd.underlying67
  a80 := Tryd.isAgg67
  z80 := Tryd.sizeOf67
  v80 := Tryd.zeroValue67
  i0 := by kernel_rfl
  i2 := by kernel_rfl
  i3 := by kernel_rfl
  i4 := by kernel_rfl
  i5 := by kernel_rfl
  i9 := by kernel_rfl
  i20 := by kernel_rfl
  i21 := by kernel_rfl
  i37 := by kernel_rfl
  i46 := by kernel_rfl
  i51 := by kernel_rfl
  i53 := by kernel_rfl
  i75 := by kernel_rfl
  i76 := by kernel_rfl
  i80 := by kernel_rfl
  i85 := by kernel_rfl
  i127 := by kernel_rfl
  i143 := by kernel_rfl
  i145 := by kernel_rfl
  i167 := by kernel_rfl
  i168 := by kernel_rfl
  i171 := by kernel_rfl
  i173 := by kernel_rfl
  i175 := by kernel_rfl
  i210 := by kernel_rfl
  i212 := by kernel_rfl
  i232 := by kernel_rfl
  i233 := by kernel_rfl
  m15 := by kernel_rfl
  m16 := by kernel_rfl
  m17 := by kernel_rfl
  m18 := by kernel_rfl
  m19 := by kernel_rfl
  c0 := by kernel_rfl
  c2 := by kernel_rfl
  c3 := by kernel_rfl
  c4 := by kernel_rfl
  c5 := by kernel_rfl
  c9 := by kernel_rfl
  c20 := by kernel_rfl
  c21 := by kernel_rfl
  c37 := by kernel_rfl
  c46 := by kernel_rfl
  c51 := by kernel_rfl
  c53 := by kernel_rfl
  c75 := by kernel_rfl
  c76 := by kernel_rfl
  c80 := by kernel_rfl
  c85 := by kernel_rfl
  c127 := by kernel_rfl
  c143 := by kernel_rfl
  c145 := by kernel_rfl
  c167 := by kernel_rfl
  c168 := by kernel_rfl
  c171 := by kernel_rfl
  c173 := by kernel_rfl
  c175 := by kernel_rfl
  c210 := by kernel_rfl
  c212 := by kernel_rfl
  c213 := by kernel_rfl
  c232 := by kernel_rfl
  c233 := by kernel_rfl }
open Go.RowKit in
/-- strconv.Atoi, AT EVERY STRING THAT SPELLS AN int ('Lib.atoiAll .. = .ok v'; of whatever length: leading zeros count): v, AND NO ERROR. The world: as it was, or with the one new row that '[]byte(..)' lays. (LAID: no walk: one application.) -/
theorem Tryd.strconv_Atoi_ok (s : ByteArray) (hmax : s.size ≤ 9223372036854775806) (v : Int) (h : Lib.atoiAll s.data.toList = .ok v) (w : World) :
    Calls Tryd.prog 58 #[.string s] w fun e w' => e = .returned (.tuple #[.int .i64 v, .nilIface]) ∧ (w' = w ∨ ∃ t, w' = Lib.bytesWorld w 5 t) := Any.strconv_Atoi_ok Tryd.laysC172 s hmax v h w
open Go.RowKit in
/-- strconv.Atoi, AT EVERY NUMERAL THAT NO int HOLDS ('.range'): THE GREATEST OR THE LEAST int, BY THE SIGN ('Lib.atoiSat'), AND AN ERROR THAT IS NOT nil: a *NumError in a new block N: {Func: "Atoi", Num: s's bytes, Err: what the variable ErrRange holds}. Of what was there nothing has turned. (LAID: no walk: one application.) -/
theorem Tryd.strconv_Atoi_range (s : ByteArray) (hlim : s.size ≤ 281474976710656) (h : Lib.atoiAll s.data.toList = .range) (ev : Value) (w : World) (hv : w.cell? ⟨1, 0, none⟩ = some ev) (hev : ev = .nilIface ∨ ∃ te pe, ev = .iface te pe) :
    Calls Tryd.prog 58 #[.string s] w fun e w' => ∃ N, e = .returned (.tuple #[.int .i64 (Lib.atoiSat s.data.toList), .iface 105 (.pointer (some ⟨N, 0, none⟩))]) ∧ w.heap.size ≤ N ∧ w'.heap[N]? = some (.cells #[.string ⟨#[65, 116, 111, 105]⟩, .string s, ev] 114 (0, 0)) ∧ Below w.heap.size w w' := Any.strconv_Atoi_range Tryd.laysC172 s hlim h ev w hv hev
end Go.Proofs
end
section
namespace Go.Proofs.YtjfkjpbkmpofkaaDoor
open Go.Fw
/-- the library's variable that a number too great is told by. -/
def Conv (I : Imm) : Prop := ∃ te pe c ty fr, I 1 = some (.cells c ty fr) ∧ c[0]? = some (.iface te pe)
theorem Conv.le {I I' : Imm} (h : Conv I) (m : Le I I') : Conv I' := by
  obtain ⟨te, pe, c, ty, fr, h1, h2⟩ := h
  exact ⟨te, pe, c, ty, fr, m _ _ h1, h2⟩
/-- what comes of digits. -/
abbrev ToNum (t : List UInt8) (I : Imm) : Value → Imm → List HItem → Prop := fun v I' H' => I = I' ∧ H' = [] ∧
  ((Sp.digits t ≤ 1000000000 ∧ v = .tuple #[nt (Sp.digits t), .nilIface]) ∨ (1000000000 < Sp.digits t ∧ ∃ (n : Int) (e : Value), v = .tuple #[.int .i64 n, e] ∧ ((e = .nilIface ∧ 1000000000 < n) ∨ ∃ te pe, e = .iface te pe)))
theorem p_atoi {I : Imm} (t : List UInt8) (hn : 1 ≤ t.length) (hl : t.length ≤ 1048576) (hd : ∀ c ∈ t, 48 ≤ c.toNat ∧ c.toNat ≤ 57) (hI : Conv I) :
    CalM Tryd.prog 58 #[str t] I [] (ToNum t I) := by
  refine ⟨fun w hm => ⟨?_⟩⟩
  have hsz : (⟨t.toArray⟩ : ByteArray).size = t.length := str_size t
  obtain ⟨h1, h2⟩ := Sp.atoi_digits t hn hd
  have okc : ∀ v : Int, Lib.atoiAll t = .ok v → Calls Tryd.prog 58 #[str t] w (Ret (fun u w' => u = .tuple #[.int .i64 v, .nilIface] ∧ Kept [] w w')) := fun v hv =>
    Calls.mono (Tryd.strconv_Atoi_ok ⟨t.toArray⟩ (by rw [hsz]; omega) v (by simpa using hv) w) (fun e w' ⟨he, hw⟩ => by
      subst he
      refine ⟨rfl, ?_⟩
      rcases hw with rfl | ⟨b, rfl⟩
      · exact Kept.refl _ _
      · exact bytes_kept _ _ _)
  rcases Nat.lt_or_ge 1000000000 (Sp.digits t) with hb | hb
  · rcases h2 hb with h3 | ⟨v, hv, h3⟩
    · obtain ⟨te, pe, c, ty, fr, e1, e2⟩ := hI
      have hc : w.cell? ⟨1, 0, none⟩ = some (.iface te pe) := cell_of (hm.inv _ _ e1) e2
      exact Calls.mono (Tryd.strconv_Atoi_range ⟨t.toArray⟩ (by rw [hsz]; omega) (by simpa using h3) _ w hc (.inr ⟨te, pe, rfl⟩)) (fun e w' ⟨n, he, _, _, hw⟩ => by
        subst he
        exact ⟨I, [], ⟨rfl, rfl, .inr ⟨hb, _, _, rfl, .inr ⟨_, _, rfl⟩⟩⟩, hm.kept0 (Kept.of_below hw)⟩)
    · exact Calls.mono (okc v h3) (fun e w' q => by
        cases e with
        | returned u => exact ⟨I, [], ⟨rfl, rfl, .inr ⟨hb, v, .nilIface, q.1, .inl ⟨rfl, hv⟩⟩⟩, hm.kept0 q.2⟩
        | panicked c => exact q.elim
        | outgrown => exact q.elim)
  · exact Calls.mono (okc _ (h1 hb)) (fun e w' q => by
      cases e with
      | returned u => exact ⟨I, [], ⟨rfl, rfl, .inl ⟨hb, q.1⟩⟩, hm.kept0 q.2⟩
      | panicked c => exact q.elim
      | outgrown => exact q.elim)
end Go.Proofs.YtjfkjpbkmpofkaaDoor
end
section
namespace Go.Proofs.YtjfkjpbkmpofkaaDoor
open Go.Fw
open Go.RowKit
theorem star_es : "*" ++ "errors.errorString" = "*errors.errorString" := by decide
theorem row_es (u : TypeId) (h : Tryd.prog.typeName? 3 u = some "*errors.errorString") : u = 119 :=
  typeName_ptr_named (nm := "errors.errorString") (by rw [star_es]; kernel_rfl) (by kernel_rfl) (by decide) u (by rw [star_es]; exact h)
theorem conv_of {l : List (String × DataW Unit)} {W : World} (h : laidMetH Tryd.prog l W) (hp : (l.all fun x => x.2.handleName?.isNone) = true)
    (he : l.filter (fun x => x.1 == "strconv.ErrRange") = [("strconv.ErrRange", Rows.laid_strconv_ErrRange)]) : Conv (immOf W) := by
  rw [MakeChecks.laidMetH_plain _ _ _ hp] at h
  have h1 := h.filter (fun x => x.1 == "strconv.ErrRange")
  rw [he] at h1
  obtain ⟨a, s, hv, _⟩ := laid_sentinel (g := 1) h1 (by kernel_rfl) (ti := 97) (by kernel_rfl) Tryd.underlying97 row_es Tryd.underlying119 Tryd.underlying121 rfl rfl Tryd.underlying9 (by kernel_rfl) (by kernel_rfl)
  have hg : Tryd.prog.globalNamed "strconv.ErrRange" = some 1 := by kernel_rfl
  simp only [World.var?, hg, Option.bind_some] at hv
  split at hv
  · rename_i cs ty fr hw
    obtain rfl := Option.some.inj hv
    exact ⟨_, _, _, _, _, hw, rfl⟩
  · cases hv
theorem bulk_agg_str {H : Type} {l : List (DataW H)} (hk : Rows.uptoSmall H l = true) {parts : List (DataW H)} {s : List UInt8} (h : DataW.agg parts ∈ l) (h2 : DataW.lit (.string s) ∈ parts) : s.length ≤ 1048576 := by
  have h1 : Rows.uptoBulkAll l ≤ 1048576 := by simpa [Rows.uptoSmall] using hk
  have h3 := bulk_part h
  have h4 := bulk_part h2
  simp only [Rows.uptoBulk] at h3 h4
  omega
/-- a law's walk, at a world that holds the variable. -/
theorem run_kept {f : FuncId} {args : Array Value} {v : Value} {W : World} (h : CalM Tryd.prog f args (immOf W) [] (fun u _ H' => u = v ∧ H' = [])) : Cal Tryd.prog f args W (fun u W' => u = v ∧ Kept [] W W') :=
  (h.run W (Mem.start (immOf_inv W))).mono (fun _ _ ⟨_, _, ⟨h1, _⟩, h2⟩ => ⟨h1, h2.kept⟩)
end Go.Proofs.YtjfkjpbkmpofkaaDoor
end
section
namespace Go.Fw
open Go
section
variable {P : Program} {N : Nat} {ds : List Deferred} {Q : Exit → Act → World → Prop} {l : Log} {w : World} {ops : Array Oper} {os : List Oper}
variable {d : Nat} {ty : TypeId} {pos : String} {af : Array Edge} {g : Option (Nat × Bool)} {t t' : TypeId} {x y : Operand}
theorem op_neq_held {te : TypeId} {pe : Value} {c : Value} (hw : want ops l ⟨some d, .binOp .neq t x (.const c) t', ty, pos, af, g⟩ = some true) (hN : Nat.blt d N = true)
    (hx : ev l x = some (.iface te pe)) (hc : c = .nilIface) (ht : P.underlying t = some (.interface (P.methodsAt t))) (k : WL P N ds ops Q os ((d, .bool true) :: l) w) :
    WL P N ds ops Q (⟨some d, .binOp .neq t x (.const c) t', ty, pos, af, g⟩ :: os) l w :=
  wl_value rfl hw hN (fun a ha => by
    subst hc
    have h := run_neq_held_nil (P := P) w t te pe ht
    have e2 : a.eval (.const .nilIface) = .nilIface := rfl
    simp [execOp, ha.ev hx, e2, eqGuard, h]) k
theorem op_neq_none {c : Value} (hw : want ops l ⟨some d, .binOp .neq t x (.const c) t', ty, pos, af, g⟩ = some true) (hN : Nat.blt d N = true)
    (hx : ev l x = some .nilIface) (hc : c = .nilIface) (ht : P.underlying t = some (.interface (P.methodsAt t))) (k : WL P N ds ops Q os ((d, .bool false) :: l) w) :
    WL P N ds ops Q (⟨some d, .binOp .neq t x (.const c) t', ty, pos, af, g⟩ :: os) l w :=
  wl_value rfl hw hN (fun a ha => by
    subst hc
    have h := run_equal_nil_nil (P := P) w t ht
    have e2 : a.eval (.const .nilIface) = .nilIface := rfl
    simp [execOp, ha.ev hx, e2, eqGuard, binOp, h]) k
end
end Go.Fw
namespace Go.Proofs.YtjfkjpbkmpofkaaDoor
open Go.Fw
section
variable {I : Imm} {pb deep lc dc b1 : Nat} {la da : Option Addr} {T : Sp.Src} {E : Ent} {R : List HItem} {w : World} {s : Sp.St}
theorem p_decA (hdp : deep ≤ 12) (hm : Mem E I (.cell b1 [ptr pb] 61 :: qObj pb la lc T s (deep + 1) da dc :: R) w) :
    CalD Tryd.prog 57 #[ptr b1] w (fun w' => Mem E I (.cell b1 [ptr pb] 61 :: qObj pb la lc T s deep da dc :: R) w') := by
  refine enterD (N := 8) Tryd.func57 rfl [(0, ptr b1)] args1 rfl ?_
  have hsub : (((deep + 1 : Nat) : Int)) - 1 = (deep : Int) := by omega
  repeat' (first
    | (refine op_sub (by rfl) (by rfl) (by rfl) (by rfl) (by omega) ?_; rw [hsub])
    | refine m_load1 hm (by rfl) (by rfl) (by rfl) (by first | exact gt0 | exact gt1 | exact gt2 | exact gt3 | exact gt4 | exact gt5 | exact gt6) (by rfl) ?_
    | (refine m_store1 hm (by rfl) (by rfl) (by rfl) (by rfl) (by first | exact gt0 | exact gt1 | exact gt2 | exact gt3 | exact gt4 | exact gt5 | exact gt6) (by rfl) (by rfl) (by rfl) ?_; clear hm; intro _ hm; try simp only [setn] at hm)
    | refine op_nilCheck (by rfl) (by rfl) (by rfl) ?_
    | refine op_fieldAddr (by rfl) (by rfl) (by rfl) ?_
    | refine wl_nil ?_
    | refine wc_region ?_
    | refine at_end0 (by rfl) ?_)
  exact hm
theorem p_decB (hdp : deep ≤ 12) (hm : Mem E I (.cell b1 [ptr pb] 61 :: qObj pb la lc T s (deep + 1) da dc :: R) w) :
    CalD Tryd.prog 48 #[ptr b1] w (fun w' => Mem E I (.cell b1 [ptr pb] 61 :: qObj pb la lc T s deep da dc :: R) w') := by
  refine enterD (N := 8) Tryd.func48 rfl [(0, ptr b1)] args1 rfl ?_
  have hsub : (((deep + 1 : Nat) : Int)) - 1 = (deep : Int) := by omega
  repeat' (first
    | (refine op_sub (by rfl) (by rfl) (by rfl) (by rfl) (by omega) ?_; rw [hsub])
    | refine m_load1 hm (by rfl) (by rfl) (by rfl) (by first | exact gt0 | exact gt1 | exact gt2 | exact gt3 | exact gt4 | exact gt5 | exact gt6) (by rfl) ?_
    | (refine m_store1 hm (by rfl) (by rfl) (by rfl) (by rfl) (by first | exact gt0 | exact gt1 | exact gt2 | exact gt3 | exact gt4 | exact gt5 | exact gt6) (by rfl) (by rfl) (by rfl) ?_; clear hm; intro _ hm; try simp only [setn] at hm)
    | refine op_nilCheck (by rfl) (by rfl) (by rfl) ?_
    | refine op_fieldAddr (by rfl) (by rfl) (by rfl) ?_
    | refine wl_nil ?_
    | refine wc_region ?_
    | refine at_end0 (by rfl) ?_)
  exact hm
end
end Go.Proofs.YtjfkjpbkmpofkaaDoor
end
section
namespace Go.Sp
theorem tight_le (t : List UInt8) : tight t ≤ 3 := by
  rw [tight]
  split
  · omega
  · split
    · omega
    · split <;> omega
end Go.Sp
namespace Go.Proofs.YtjfkjpbkmpofkaaDoor
open Go.Fw
/-- an expression's cells, its arguments' slice seen. -/
abbrev exCells (e : Sp.Ex) (ea : Option Addr) (ec : Nat) : List Value := [nt e.kind, str e.name, nt e.n, .slice ea e.args.length ec, nt e.fr, nt e.to]
abbrev ex0 : List Value := [.int .i64 0, str [], .int .i64 0, .slice none 0 0, .int .i64 0, .int .i64 0]
theorem exAt_cells {I : Imm} {e : Sp.Ex} {ea : Option Addr} {ec : Nat} {xs : List Value} (h1 : RowI I 83 6 (.slice ea e.args.length ec) e.args.length xs) (h2 : ExsAt I e.args xs) : ExAt I e (exCells e ea ec) := by
  cases e with
  | mk k nm n args f t => exact .of h1 h2
theorem exs2 {I : Imm} {e1 e2 : Sp.Ex} {c1 c2 : List Value} (h1 : ExAt I e1 c1) (h2 : ExAt I e2 c2) : ExsAt I [e1, e2] (c1 ++ (c2 ++ [])) := by
  rw [ExsAt]; exact ⟨c1, _, rfl, h1, by rw [ExsAt]; exact ⟨c2, [], rfl, h2, .nil⟩⟩
theorem Ok.digs {T : Sp.Src} (h : Ok T) {i : Nat} (hk : (T.tok i).kind = 2) : ∀ c ∈ (T.tok i).text, 48 ≤ c.toNat ∧ c.toNat ≤ 57 := by
  rcases Nat.lt_or_ge i T.l.length with h1 | h1
  · rw [Sp.Src.tok, List.getD_eq_getElem?_getD, List.getElem?_eq_getElem h1] at hk ⊢
    exact h.dig _ (List.getElem_mem h1) hk
  · rw [Sp.tok_end h1] at hk; cases hk
theorem st_row0 (I : Imm) : RowI I 85 15 (.slice none ([] : List Sp.Stm).length 0) ([] : List Sp.Stm).length [] := rowI_nil _ _ _ _ _
theorem stAt_cells {I : Imm} {s : Sp.Stm} {ea a1 a2 : Option Addr} {ec c1 c2 : Nat} {ex xs1 xs2 : List Value}
    (h2 : RowI I 83 6 (.slice ea s.e.args.length ec) s.e.args.length ex) (h3 : ExsAt I s.e.args ex)
    (h4 : RowI I 85 15 (.slice a1 s.thn.length c1) s.thn.length xs1) (h5 : StsAt I s.thn xs1) (h6 : RowI I 85 15 (.slice a2 s.els.length c2) s.els.length xs2) (h7 : StsAt I s.els xs2) :
    StAt I s (stCells s.kind s.name s.at_ s.label s.opn s.e ea ec (.slice a1 s.thn.length c1) (.slice a2 s.els.length c2) s.fr s.to) := by
  cases s with
  | mk k nm a lb o e thn els f t => exact .of h2 h3 h4 h5 h6 h7
abbrev nil0 : Value := .slice none 0 0
abbrev parRow (l : List Sp.Par) (n : Nat) (a : Option Addr) (c : Nat) : HItem := .row (.slice a n c) 53 3 n (l.flatMap encPar)
abbrev sndRow (l : List Sp.Rf) (n : Nat) (a : Option Addr) (c : Nat) : HItem := .row (.slice a n c) 72 2 n (l.flatMap encRf)
/-- what comes of a text's file. -/
abbrev ToFile (err : Nat) (its : List Sp.Itm) : Value → Imm → List HItem → Prop := fun v I' H' => ∃ a cp xs, v = .tuple #[.agg [.slice a its.length cp].toArray, nt err] ∧ RowI I' 42 10 (.slice a its.length cp) its.length xs ∧ ItsAt I' its xs ∧ H' = []
abbrev itRow (k : Nat) (a : Option Addr) (cp : Nat) (xs : List Value) : HItem := .row (.slice a k cp) 42 10 k xs
structure ItX where
  I : Imm
  da : Option Addr
  dc : Nat
  ap : Option Addr
  cp : Nat
  as_ : Option Addr
  cs : Nat
  ab : Option Addr
  cb : Nat
  xb : List Value
abbrev itV (q : Sp.Itm) (x : ItX) : List Value := itCells q.kind q.name q.label (.slice x.ap q.params.length x.cp) (.slice x.as_ q.sends.length x.cs) (.slice x.ab q.body.length x.cb) q.at_ q.size q.mark nil0
/-- what comes of an item. -/
abbrev ToIt (it : Sp.Itm) : Value → Imm → List HItem → Prop := fun v I' H' => ∃ cs, v = .agg cs.toArray ∧ ItAt I' it cs ∧ H' = []
end Go.Proofs.YtjfkjpbkmpofkaaDoor
end
section
namespace Go.Fw
open Go
section
variable {P : Program} {N : Nat} {ds : List Deferred} {Q : Exit → Act → World → Prop} {K : Act → World → Prop} {l : Log} {w : World} {ops : Array Oper} {os : List Oper}
variable {d : Nat} {ty : TypeId} {pos : String} {af : Array Edge} {g : Option (Nat × Bool)} {t t' : TypeId} {x y : Operand}
theorem op_max {ts : Array TypeId} {a b : Nat} (hw : want ops l ⟨some d, .call ⟨.builtin .max, #[x, y], ts⟩, ty, pos, af, g⟩ = some true) (hN : Nat.blt d N = true)
    (hx : ev l x = some (.int .i64 (a : Int))) (hy : ev l y = some (.int .i64 (b : Int))) (k : WL P N ds ops Q os ((d, .int .i64 ((max a b : Nat) : Int)) :: l) w) :
    WL P N ds ops Q (⟨some d, .call ⟨.builtin .max, #[x, y], ts⟩, ty, pos, af, g⟩ :: os) l w :=
  wl_value rfl hw hN (fun c hc => by
    have h := Lib.run_max_ints (P := P) w ts ty .i64 .i64 (a : Int) (b : Int)
    simp [execOp, resolve, invoke, builtin, hc.ev hx, hc.ev hy, h]
    omega) k
theorem q_max {ts : Array TypeId} {a b : Nat} (hw : want ops l ⟨some d, .call ⟨.builtin .max, #[x, y], ts⟩, ty, pos, af, g⟩ = some true) (hN : Nat.blt d N = true)
    (hx : ev l x = some (.int .i64 (a : Int))) (hy : ev l y = some (.int .i64 (b : Int))) (k : WQ P N ds ops w K os ((d, .int .i64 ((max a b : Nat) : Int)) :: l)) :
    WQ P N ds ops w K (⟨some d, .call ⟨.builtin .max, #[x, y], ts⟩, ty, pos, af, g⟩ :: os) l :=
  wq_value rfl hw hN (fun w' hkq c hc => by
    have h := Lib.run_max_ints (P := P) w' ts ty .i64 .i64 (a : Int) (b : Int)
    simp [execOp, resolve, invoke, builtin, hc.ev hx, hc.ev hy, h]
    omega) k
end
end Go.Fw
namespace Go.Proofs.YtjfkjpbkmpofkaaDoor
open Go.Fw
def AtomQ (T : Sp.Src) (pb f : Nat) : Prop := ∀ (I : Imm) (la : Option Addr) (lc deep : Nat) (da : Option Addr) (dc : Nat) (s : Sp.St), Conv I → TokR I T la lc → s.i ≤ T.l.length → 3 * (T.l.length - s.i) + 2 ≤ f →
  s.ds.length + 2 * (T.l.length - s.i) + 4 ≤ 1099511627776 → deep ≤ 12 → CalM Tryd.prog 54 #[ptr pb] I (QSt pb la lc T s deep da dc) (ToQE pb la lc T deep (Sp.atom T f deep s))
def ExprQ (T : Sp.Src) (pb f : Nat) : Prop := ∀ (I : Imm) (la : Option Addr) (lc deep : Nat) (da : Option Addr) (dc : Nat) (s : Sp.St) (m : Nat), Conv I → TokR I T la lc → s.i ≤ T.l.length → 3 * (T.l.length - s.i) + 3 ≤ f →
  s.ds.length + 2 * (T.l.length - s.i) + 4 ≤ 1099511627776 → deep ≤ 12 → CalM Tryd.prog 52 #[ptr pb, nt m] I (QSt pb la lc T s deep da dc) (ToQE pb la lc T deep (Sp.expr T f deep m s))
structure QExp where
  f : Nat
  e : Sp.Ex
  s : Sp.St
  I : Imm
  ea : Option Addr
  ec : Nat
  xs : List Value
  da : Option Addr
  dc : Nat
set_option maxHeartbeats 4000000 in
theorem p_expr_step (T : Sp.Src) (pb : Nat) (hT : Ok T) (n : Nat) (ih : ∀ g, g < n → AtomQ T pb g ∧ ExprQ T pb g) : ExprQ T pb n := by
  intro I la lc deep da dc s m hC hr hi hf hd hdp
  obtain ⟨f, rfl⟩ : ∃ f, n = f + 1 := ⟨n - 1, by omega⟩
  have h2 := hT.size
  have h3 := hT.len
  have hat := (ih f (by omega)).1 I la lc deep da dc s hC hr hi (by omega) hd hdp
  have hg := (Sp.goes_expr T f).1 deep s
  rw [Sp.expr]
  generalize Sp.atom T f deep s = r0 at hat hg ⊢
  have hg1 := hg.le
  have hg2 := hg.top hi
  have hg3 := hg.ds
  refine CalM.of fun w E hm => enter (N := 47) Tryd.func52 rfl [(0, ptr pb), (1, nt m)] args2 rfl ?_
  repeat' (first
    | (refine m_call hm (by rfl) (by rfl) (by rfl) (by first | exact pm0 | exact pm1_0 | exact pm1_1 | exact pm1_2 | exact pm1_3 | exact pm2_0 | exact pm2_1 | exact pm2_2 | exact pm2_3 | exact pm2_4 | exact pm3_0 | exact pm3_1 | exact pm3_2) (hat) ?_; clear hm; rintro _ I1 _ _ ⟨⟨ea, ec, xs, rfl, hrow, hexs⟩, da1, dc1, rfl⟩ hle hm; have hleI1 := hle; try simp only [setn] at hm)
    | (refine m_allocS (d := 4) hm (by rfl) (by rfl) ?_; clear hm; intro b4 _ hm)
    | (refine m_varS (d := 5) hm (by rfl) (by rfl) (by rfl) (by rfl) (by rfl) ?_; clear hm; intro b5 _ hm)
    | refine op_move (by rfl) (by rfl) (by rfl) ?_
    | refine wl_nil ?_
    | refine at_then_normal ?_
    | refine wc_seq ?_
    | refine wc_region ?_
    | refine wc_block ?_)
  refine wc_loop (fun x : QExp => [(0, ptr pb), (1, nt m), (4, ptr b4), (5, ptr b5)])
    (fun x w' => Mem E x.I [qObj pb la lc T x.s deep x.da x.dc, dgRow x.s.ds x.da x.dc, .cell b5 (exCells x.e x.ea x.ec) 83, .cell b4 ex0 83] w' ∧ Le I x.I ∧ RowI x.I 83 6 (.slice x.ea x.e.args.length x.ec) x.e.args.length x.xs ∧ ExsAt x.I x.e.args x.xs ∧
      Sp.opL T x.f deep m x.e x.s = Sp.opL T f deep m r0.1 r0.2 ∧ 3 * (T.l.length - x.s.i) + 1 ≤ x.f ∧ x.f ≤ f ∧ x.s.i ≤ T.l.length ∧ x.s.ds.length + 2 * (T.l.length - x.s.i) ≤ s.ds.length + 2 * (T.l.length - s.i) + 1)
    (fun x => T.l.length - x.s.i) ⟨f, r0.1, r0.2, I1, ea, ec, xs, da1, dc1⟩ (by exact ⟨rfl, rfl, rfl, rfl, trivial⟩) ⟨hm.perm pm2_1, hleI1, hrow, hexs, rfl, by dsimp only; omega, Nat.le_refl _, hg2, by dsimp only; omega⟩ ?_
  clear hm hrow hexs hleI1
  rintro ⟨f1, e1, s1, I2, ea1, ec1, xs1, da2, dc2⟩ w2 ⟨hm, hle0, hrow, hexs, hO, hf1, hff, hi1, hd1⟩
  dsimp only at hm hle0 hrow hexs hO hf1 hff hi1 hd1 ⊢
  obtain ⟨f1, rfl⟩ : ∃ f', f1 = f' + 1 := ⟨f1 - 1, by omega⟩
  rw [Sp.opL] at hO
  dsimp only at hO
  replace hr := hr.le hle0
  replace hC := hC.le hle0
  have h1 := hT.at_ s1.i
  have ht := p_tight (T.tok s1.i).text
  by_cases hc : Sp.tight (T.tok s1.i).text < m ∨ Sp.tight (T.tok s1.i).text = 0
  · rw [if_pos hc] at hO
    rw [← hO]
    repeat' (first
      | (refine m_readC hm (by rfl) (by rfl) (by rfl) (by first | exact sub_nil | exact sub1_0 | exact sub1_1 | exact sub1_2 | exact sub1_3 | exact sub2_0 | exact sub2_1 | exact sub2_2 | exact sub2_3 | exact sub2_4) (p_peek s1 hr) ?_; clear hm; intro _ hm)
      | (refine op_call (by rfl) (by rfl) (by rfl) (by exact ht _) ?_; rintro _ _ ⟨rfl, rfl⟩)
      | refine m_loadAll hm (by rfl) (by rfl) (by rfl) (by first | exact gt0 | exact gt1 | exact gt2 | exact gt3 | exact gt4 | exact gt5 | exact gt6) (by rfl) ?_
      | (refine m_storeAll hm (by rfl) (by rfl) (by rfl) (by rfl) (by first | exact gt0 | exact gt1 | exact gt2 | exact gt3 | exact gt4 | exact gt5 | exact gt6) (by rfl) (by rfl) (by rfl) ?_; clear hm; intro _ hm; try simp only [setn] at hm)
      | refine m_ret_agg hm (by rfl) (by rfl) (by first | exact gt0 | exact gt1 | exact gt2 | exact gt3 | exact gt4 | exact gt5 | exact gt6) (by rfl) ?_
      | refine op_move (by rfl) (by rfl) (by rfl) ?_
      | refine op_assign (by rfl) (by rfl) (by rfl) ?_
      | refine op_pick_true (by rfl) (by rfl) (by rfl) (by rfl) ?_
      | refine op_pick_false (by rfl) (by rfl) (by rfl) (by rfl) ?_
      | refine op_lss (by rfl) (by rfl) (by rfl) (by rfl) ?_
      | refine op_eql (by rfl) (by rfl) (by rfl) (by rfl) ?_
      | refine wl_skip (by rfl) (by rfl) (by rfl) ?_
      | (refine wl_split_dec (by rfl) (by rfl) (by rfl) (fun _ => ?_) (fun _ => ?_) <;> (try first | contradiction | (exfalso; omega)))
      | refine wl_nil ?_
      | refine at_then_normal ?_
      | refine at_then_ret ?_
      | refine at_block_ret ?_
      | refine wc_seq ?_
      | refine wc_region ?_
      | refine wc_block ?_
      | refine wc_ret ?_
      | refine wc_cond_true (by rfl) ?_
      | (refine wc_cond_dec (by rfl) (fun _ => ?_) (fun _ => ?_) <;> (try first | contradiction | (exfalso; omega))))
    all_goals first
      | exact ⟨I2, _, ⟨⟨ea1, ec1, xs1, rfl, hrow, hexs⟩, da2, dc2, rfl⟩, hm.left (H := [_, _])⟩
      | (exfalso; omega)
  · rw [if_neg hc] at hO
    have htl := Sp.tight_le (T.tok s1.i).text
    have hlt : s1.i < T.l.length := Sp.tok_lt (Sp.tight_ne (by omega))
    have hex := fun da dc => (ih f1 (by omega)).2 I2 la lc deep da dc s1.next (Sp.tight (T.tok s1.i).text + 1) hC hr (by rw [Sp.next_i]; omega) (by rw [Sp.next_i]; omega) (by rw [Sp.next_i, Sp.next_ds]; omega) hdp
    have hg := (Sp.goes_expr T f1).2.2.1 deep (Sp.tight (T.tok s1.i).text + 1) s1.next
    generalize Sp.expr T f1 deep (Sp.tight (T.tok s1.i).text + 1) s1.next = r at hO hex hg
    have hg1 := hg.le
    have hg2 := hg.top (by rw [Sp.next_i]; omega)
    have hg3 := hg.ds
    rw [Sp.next_i] at hg1 hg3
    rw [Sp.next_ds] at hg3
    repeat' (first
      | (refine m_readC hm (by rfl) (by rfl) (by rfl) (by first | exact sub_nil | exact sub1_0 | exact sub1_1 | exact sub1_2 | exact sub1_3 | exact sub2_0 | exact sub2_1 | exact sub2_2 | exact sub2_3 | exact sub2_4) (p_peek s1 hr) ?_; clear hm; intro _ hm)
      | (refine op_call (by rfl) (by rfl) (by rfl) (by exact ht _) ?_; rintro _ _ ⟨rfl, rfl⟩)
      | (refine m_call hm (by rfl) (by rfl) (by rfl) (by first | exact pm0 | exact pm1_0 | exact pm1_1 | exact pm1_2 | exact pm1_3 | exact pm2_0 | exact pm2_1 | exact pm2_2 | exact pm2_3 | exact pm2_4 | exact pm3_0 | exact pm3_1 | exact pm3_2) (hex _ _) ?_; clear hm; rintro _ I3 _ _ ⟨⟨ea2, ec2, xs2, rfl, hrow2, hexs2⟩, da3, dc3, rfl⟩ hle hm; have hleI3 := hle; try simp only [setn] at hm)
      | (refine i_buildSlice hm (by rfl) (by rfl) (by rfl) (by rfl) (by rfl) (by rfl) (by rfl) ?_; clear hm; intro I4 a4 _ hle4 hm hrow4)
      | (refine op_max (by rfl) (by rfl) (by rfl) (by rfl) ?_)
      | (refine m_varS (d := 8) hm (by rfl) (by rfl) (by rfl) (by rfl) (by rfl) ?_; clear hm; intro b8 _ hm)
      | refine m_load1 hm (by rfl) (by rfl) (by rfl) (by first | exact gt0 | exact gt1 | exact gt2 | exact gt3 | exact gt4 | exact gt5 | exact gt6) (by rfl) ?_
      | refine m_loadAll hm (by rfl) (by rfl) (by rfl) (by first | exact gt0 | exact gt1 | exact gt2 | exact gt3 | exact gt4 | exact gt5 | exact gt6) (by rfl) ?_
      | (refine m_storeAll hm (by rfl) (by rfl) (by rfl) (by rfl) (by first | exact gt0 | exact gt1 | exact gt2 | exact gt3 | exact gt4 | exact gt5 | exact gt6) (by rfl) (by rfl) (by rfl) ?_; clear hm; intro _ hm; try simp only [setn] at hm)
      | (refine m_store1 hm (by rfl) (by rfl) (by rfl) (by rfl) (by first | exact gt0 | exact gt1 | exact gt2 | exact gt3 | exact gt4 | exact gt5 | exact gt6) (by rfl) (by rfl) (by rfl) ?_; clear hm; intro _ hm; try simp only [setn] at hm)
      | refine op_move (by rfl) (by rfl) (by rfl) ?_
      | refine op_assign (by rfl) (by rfl) (by rfl) ?_
      | refine op_pick_false (by rfl) (by rfl) (by rfl) (by rfl) ?_
      | refine op_lss (by rfl) (by rfl) (by rfl) (by rfl) ?_
      | refine op_eql (by rfl) (by rfl) (by rfl) (by rfl) ?_
      | refine op_nilCheck (by rfl) (by rfl) (by rfl) ?_
      | refine op_add (by rfl) (by rfl) (by rfl) (by rfl) (by omega) ?_
      | refine op_fieldAddr (by rfl) (by rfl) (by rfl) ?_
      | refine op_struct (by rfl) (by rfl) (by rfl) (by rfl) ?_
      | (refine wl_split_dec (by rfl) (by rfl) (by rfl) (fun _ => ?_) (fun _ => ?_) <;> (try first | contradiction | (exfalso; omega)))
      | refine wl_nil ?_
      | refine at_then_normal ?_
      | refine at_block_normal ?_
      | refine wc_seq ?_
      | refine wc_region ?_
      | refine wc_block ?_
      | refine wc_skip ?_
      | (refine wc_cond_dec (by rfl) (fun _ => ?_) (fun _ => ?_) <;> (try first | contradiction | (exfalso; omega))))
    all_goals try (exfalso; omega)
    exact at_round (⟨f1, .mk 3 (T.tok s1.i).text 0 [e1, r.1] e1.fr (max r.1.to e1.to), r.2, I4, a4, 2, _, da3, dc3⟩ : QExp) (by exact ⟨rfl, rfl, rfl, rfl, trivial⟩)
      ⟨hm.tl, (hle0.trans hleI3).trans hle4, hrow4, exs2 (ExAt.le (hleI3.trans hle4) _ _ (exAt_cells hrow hexs)) (ExAt.le hle4 _ _ (exAt_cells hrow2 hexs2)), hO, by dsimp only; omega, by dsimp only; omega, hg2, by dsimp only; omega⟩ (by dsimp only; omega)
end Go.Proofs.YtjfkjpbkmpofkaaDoor
end
